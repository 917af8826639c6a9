/- The lines of the example's text, one after the other: what the iterator of strings.Lines hands out. -/
import Derived.Test.YtaonkbfekadalaaGreatDoorM01
import Derived.Test.YtaonkbfekadalaaGreatDoorM16
import Derived.Test.YtaonkbfekadalaaGreatDoorM22
namespace Go.Proofs.YtaonkbfekadalaaGreatDoor
open Go.RowKit Go.Shelf
attribute [local go_sem] Oper.semAt_some
set_option linter.unusedVariables false

theorem RoundIn.any' {m m' : Nat} {P : Program} {l : Nat} {f : FuncId} {tmps : Array Value} {assign body : Code} {w : World} {R : Ending → World → Prop}
    (h : RoundIn Fence.wide m P l f tmps assign body w R) : RoundIn Fence.wide m' P l f tmps assign body w R := ⟨h.1, fun c cs _ => h.2 c cs (fun d h => by cases h)⟩
def txA : ByteArray := ⟨#[102, 105, 114, 115, 116, 10, 102, 105, 114, 115, 116, 10, 98, 101, 102, 111, 114, 101, 32, 50, 32, 49, 10]⟩
def txB : ByteArray := ⟨#[102, 105, 114, 115, 116, 10, 98, 101, 102, 111, 114, 101, 32, 50, 32, 49, 10]⟩
def txC : ByteArray := ⟨#[98, 101, 102, 111, 114, 101, 32, 50, 32, 49, 10]⟩
def txD : ByteArray := ⟨#[102, 105, 114, 115, 116, 10]⟩
/-- What is still to come, when k lines have come. -/
def restK : Nat → ByteArray
  | 0 => txA
  | 1 => txB
  | 2 => txC
  | _ => ⟨#[]⟩
/-- The k-th line. -/
def lineK : Nat → ByteArray
  | 0 => txD
  | 1 => txD
  | _ => txC
def leftW (bs : Nat) (W : World) : Nat := match W.cell? ⟨bs, 0, none⟩ with
  | some (.string s) => s.size
  | _ => 0
theorem rest_size {k : Nat} (hk : k < 3) : (restK (k + 1)).size < (restK k).size ∧ 0 < (restK k).size ∧ (restK k).size ≤ 23 := by
  rcases (by omega : k = 0 ∨ k = 1 ∨ k = 2) with rfl | rfl | rfl <;> decide
theorem rest_at {k : Nat} (hk : k < 3) : Lib.indexByte (restK k).data.toList 10 = ((lineK k).size : Int) - 1 ∧ 0 < (lineK k).size ∧ (lineK k).size ≤ (restK k).size := by
  rcases (by omega : k = 0 ∨ k = 1 ∨ k = 2) with rfl | rfl | rfl <;> decide
theorem rest_cut {k : Nat} (hk : k < 3) : (restK k).extract 0 (lineK k).size = lineK k ∧ (restK k).extract (lineK k).size (restK k).size = restK (k + 1) := by
  rcases (by omega : k = 0 ∨ k = 1 ∨ k = 2) with rfl | rfl | rfl <;> exact ⟨by decide +kernel, by decide +kernel⟩
set_option maxRecDepth 100000 in
set_option maxHeartbeats 4000000 in
theorem lines_seq (m : Nat) {w : World} {bs : Nat} (hbs : Blk w bs 9 #[.string txA]) : CellSeq m Tryz.prog 138 #[.pointer (some ⟨bs, 0, none⟩)] bs (fun k => .string (lineK k)) 3 w := by
  intro l J W hW hJ hY h0
  have b0 : Blk W bs 9 #[.string (restK 0)] := hbs.below hW hbs.lt
  refine callsIn_of_wp Tryz.func138 rfl trivial ?_ rfl
  simp only [Tryz.ntmps138, List.size_toArray, List.length_cons, List.length_nil, Nat.reduceAdd, Nat.reduceSub, Array.replicate_succ, Array.replicate_zero, List.push_toArray, List.append_toArray, List.nil_append, List.cons_append]
  gi_wp2_with fail
  gi_loopw [3] (fun i wr => ∃ k, k ≤ 3 ∧ J k wr ∧ Blk wr bs 9 #[.string (restK k)]) (fun _ wr => leftW bs wr)
  case atStart => exact ⟨0, by omega, h0, b0⟩
  case round =>
    obtain ⟨k, hk, hj, hb⟩ := hrel
    have c0 : wr.cell? ⟨bs, 0, none⟩ = some (.string (restK k)) := by rw [hb.cell]; rfl
    by_cases hk3 : k < 3
    · obtain ⟨s1, s2, s3⟩ := rest_size hk3
      obtain ⟨a1, a2, a3⟩ := rest_at hk3
      obtain ⟨x1, x2⟩ := rest_cut hk3
      have hix := Tryz.strings_IndexByte (restK k) 10 wr
      rw [show (10 : Int).toNat.toUInt8 = 10 from rfl, a1] at hix
      gi_wp2_with fail
      refine ⟨trivial, fun h => (by cases h), ?_⟩
      refine (callsIn_wide.2 hix).mono ?_
      rintro e w' ⟨rfl, rfl⟩
      have p1 : (0 : Int) ≤ ((lineK k).size : Int) - 1 := by omega
      have n1 : IntKind.i64.wrap (((lineK k).size : Int) - 1 + 1) = ((lineK k).size : Int) := by rw [IntWalk.i64_in _ (by omega)]; omega
      have f0 : w'.frozen? ⟨bs, 0, none⟩ = false := hb.frozen 0
      obtain ⟨W3, hW3⟩ : ∃ W3, W3 = (w'.setCell ⟨bs, 0, none⟩ (.string (restK (k + 1)))).drew := ⟨_, rfl⟩
      have hj3 : J k W3 := by rw [hW3]; exact hJ.grown k _ _ none (hJ.cell _ _ _ hj) ⟨rfl, rfl, rfl, Nat.le_refl _, fun _ _ _ => rfl⟩ (fun _ e => by cases e)
      have hb3 : Blk W3 bs 9 #[.string (restK (k + 1))] := by rw [hW3]; exact (hb.put 0 _).drew
      have hy := hY k W3 hj3 hk3
      gi_wp2_with fail
      gi_region
      rw [← hW3]
      clear hW3
      obtain ⟨fn, tmps, assign, body, hy1, hR⟩ := hy
      have hR' := RoundIn.any' (m' := m - 1) hR
      clear hR
      gi_wp2_with fail
      refine ⟨fun h => (by cases h), ?_⟩
      refine hR'.mono ?_
      rintro e W4 ⟨rfl, hj4, hb4⟩
      gi_wp2_with fail
      go_roundw
      case rel => exact ⟨k + 1, by omega, hj4, hb4.trans hb3⟩
      case measure =>
        have hb5 : Blk W4 bs 9 #[.string (restK (k + 1))] := hb4.trans hb3
        unfold leftW
        rw [hb5.cell, c0]
        exact s1
    · obtain rfl : k = 3 := by omega
      gi_wp2_with fail
      go_end0
      exact ⟨⟨_, rfl⟩, hj⟩
end Go.Proofs.YtaonkbfekadalaaGreatDoor
