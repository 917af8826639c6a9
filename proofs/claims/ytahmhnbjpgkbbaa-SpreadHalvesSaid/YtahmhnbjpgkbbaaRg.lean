/- The document's Shares and Places: lists built by append. -/
import Derived.Test.YtahmhnbjpgkbbaaRf
import Derived.Test.YtahmhnbjpgkbbaaRi
namespace Go.Proofs.Ytahmhnbjpgkbbaa
open Go.RowKit
set_option linter.unusedVariables false

/-- The slice v is a list of its own (its block is base or above), and holds the numbers xs. -/
def OL (w : World) (base : Nat) (v : Value) (xs : List Int) : Prop := w.ownsRow base 3 1 v xs.length (xs.map (Value.int .i64))
theorem OL.nil (w : World) (base : Nat) : OL w base (.slice none 0 0) [] := World.ownsRow_nil w base 3 1
theorem OL.form {w : World} {base : Nat} {v : Value} {xs : List Int} (h : OL w base v xs) : ∃ A cap, v = .slice A xs.length cap ∧ RI w A xs := by
  rcases h.2 with ⟨hv, hn⟩ | ⟨g, cap, cur, hv, _, _, _⟩
  · refine ⟨none, 0, by rw [hv, hn], ?_⟩
    have : xs = [] := List.length_eq_zero_iff.1 hn
    rw [this]; exact RI_nil _ _
  · subst hv
    exact ⟨_, cap, rfl, RI_of_own h rfl⟩
theorem OL.below {w w' : World} {base : Nat} {v : Value} {xs : List Int} (h : OL w base v xs) (hb : Below w.heap.size w w') : OL w' base v xs :=
  World.ownsRow.kept h (grown_of_below hb none) (by
    rcases h.2 with ⟨hv, hn⟩ | ⟨g, cap, cur, hv, _, _, _⟩
    · exact .inl (by rw [hv]; rfl)
    · exact .inr (by rw [hv]; simp [Value.ownBlock]))
theorem OL.grow {w : World} {base : Nat} {v : Value} {xs : List Int} {x : Int} (h : w.ownsRow base 3 1 v (xs.length + 1) (xs.map (Value.int .i64) ++ [.int .i64 x])) : OL w base v (xs ++ [x]) := by
  unfold OL
  simpa using h
theorem OL.base_le {w : World} {base : Nat} {v : Value} {xs : List Int} (h : OL w base v xs) : ∀ k, v.ownBlock = some k → base ≤ k := fun k hk => (World.ownsRow.lt h k hk).1

/-- The shares of the first k segments. -/
def shTo (n segs : Int) (k : Nat) : List Int := (List.range k).map fun (i : Nat) => sZ n segs i
theorem shTo_length (n segs : Int) (k : Nat) : (shTo n segs k).length = k := by simp [shTo]
theorem shTo_succ (n segs : Int) (k : Nat) : shTo n segs (k + 1) = shTo n segs k ++ [sZ n segs k] := by simp [shTo, List.range_succ]
theorem nth_shTo {n segs : Int} {k i : Nat} (h : i < k) : nth (shTo n segs k) i = sZ n segs i := by
  rw [nth_eq (by rw [shTo_length]; exact h)]
  simp [shTo]

set_option maxHeartbeats 800000 in
theorem RShares_ok (n : Int) (S : Nat) (w : World) (hok : okB n S = true) :
    Calls Try.prog 17 #[.int .i64 n, .int .i64 S] w fun e w' => (∃ A cap, e = .returned (.slice A S cap) ∧ RI w' A (shTo n S S)) ∧ Below w.heap.size w w' := by
  obtain ⟨p1, p2, p3, p4⟩ := okB_true hok
  obtain ⟨i0, hi, hz0, hz1, hz2⟩ := info_parts Try.infoI
  go_enter Try.func17, Try.ntmps17
  go_wp2
  go_loopw [5, 6] (fun v i wr => ∃ k : Nat, k ≤ S ∧ i = .int .i64 k ∧ OL wr w.heap.size v (shTo n S k) ∧ Below w.heap.size w wr) (fun _ i _ => S - (intOf i).toNat)
  case atStart => exact ⟨0, Nat.zero_le _, rfl, OL.nil _ _, Below.refl _ _⟩
  case round =>
    obtain ⟨k, hk, rfl, ho, hb⟩ := hrel
    by_cases hlt : k < S
    · have i1 : (0 : Int) ≤ (k : Int) := by omega
      have i2 : (k : Int) < (S : Int) := by omega
      have c0 := aZ_bound (a := (k : Int)) hok (by omega) (by omega)
      have c1 := aZ_bound (a := (k : Int) + 1) hok (by omega) (by omega)
      have hsz := hb.size
      go_wp2_with fail
      refine (RAhead_ok _ _ _ _ hok (by omega) (by omega)).mono ?_
      rintro e w1 ⟨rfl, rfl⟩
      go_wp2_with fail
      refine (RAhead_ok _ _ _ _ hok (by omega) (by omega)).mono ?_
      rintro e w1 ⟨rfl, rfl⟩
      go_wp2_with (at_builtin; refine wpList_append_own_at _ rfl _ _ 22 rfl w.heap.size 3 i0 (.int .i64 0) 1 8 Try.underlying22 hi hz0 hz1 hz2 rfl (by decide) _ k ((shTo n S k).map (Value.int .i64)) rfl ?c0 ⟨wr.heap.size, 0, none⟩ 1 1 [.int .i64 (sZ n S k)] rfl rfl ?c1 ?c2 ?c3 ?c4 ?c5 ?_)
      case c0 =>
        have := World.ownsRow.alloc ho (.cells #[.int .i64 (aZ n S (k + 1) - aZ n S k)] 3)
        rwa [shTo_length] at this
      case c1 => exact cell_one_new _ _ _
      case c2 => intro u hu; simp at hu; subst hu; rfl
      case c3 => unfold maxLen; omega
      case c4 => omega
      case c5 => simp; omega
      intro v' w3 hown hg3 _ hat
      go_wp2_with fail
      go_roundw
      case rel =>
        refine ⟨k + 1, by omega, by go_num, ?_, ?_⟩
        · rw [shTo_succ]
          refine OL.grow ?_
          rw [shTo_length]; exact hown
        · refine ((hb.alloc hsz _).grown hg3 (by simp; omega) (fun g hg => ho.base_le g hg))
      case measure => simp [intOf]; omega
    · obtain rfl : k = S := by omega
      go_wp2_with fail
      go_ret
      obtain ⟨A, cap, rfl, hr⟩ := ho.form
      rw [shTo_length]
      exact ⟨⟨A, cap, rfl, hr⟩, hb⟩
end Go.Proofs.Ytahmhnbjpgkbbaa
