/- What Add comes to. -/
import Derived.Test.YtfbjnpbmicbbnaaTe
import Derived.WalkMore
import Derived.ScopeJumps
namespace Go.Proofs.Ytfbjnpbmicbbnaa
open Go.RowKit
set_option linter.unusedVariables false

theorem may_true {n : Int} (h0 : 0 ≤ n) (h8 : n ≤ 8) (w : World) : Calls Try.prog 34 #[.int .i64 n] w fun e w' => e = .returned (.bool true) ∧ w = w' := by
  go_enter Try.func34, Try.ntmps34
  go_wp2
  go_ret
  exact ⟨rfl, rfl⟩
theorem may_false {n : Int} (h : ¬ (0 ≤ n ∧ n ≤ 8)) (w : World) : Calls Try.prog 34 #[.int .i64 n] w fun e w' => e = .returned (.bool false) ∧ w = w' := by
  by_cases h0 : n < 0
  · clear h
    go_enter Try.func34, Try.ntmps34
    go_wp2
    go_ret
    exact ⟨rfl, rfl⟩
  · have h8 : 8 < n := by omega
    have h0' : 0 ≤ n := by omega
    have t : decide (n ≤ 8) = false := by simp; omega
    clear h h0
    go_enter Try.func34, Try.ntmps34
    go_wp2
    go_ret
    exact ⟨rfl, rfl⟩

set_option maxRecDepth 1000000 in
set_option maxHeartbeats 800000 in
theorem TAdd_ok {w : World} {p g cap S L : Nat} {r t : List Int} (h : TM w p g cap S r t) (hr : Rt r L) (s : Nat) (n : Int) (hs : s < S) (hn : -8 ≤ n ∧ n ≤ 8) (hm : 0 ≤ nth r s + n ∧ nth r s + n ≤ 8) :
    Calls Try.prog 26 #[.pointer (some ⟨p, 0, none⟩), .int .i64 s, .int .i64 n] w fun e w' => e = .returned (.int .i64 0) ∧ (∃ t', TM w' p g cap S (r.set s (nth r s + n)) t') ∧ w.grownBy w' (some g) := by
  have hS := h.hS
  have hs1 := hr.len_pos
  have hs2 := hr.len_le
  rw [hS] at hs1 hs2
  have c0 := h.c0
  have c1 := h.c1
  have ca : w.cell? ⟨g, S + s, none⟩ = some (.int .i64 (nth r s)) := by
    have := h.ti.leaf s (by omega)
    rw [hS] at this
    rw [← this]; exact h.at_ (by omega)
  have f0 := h.hg.frozen (S + s)
  have i0 : (0 : Int) ≤ (s : Int) := by omega
  have i1 : (s : Int) < (S : Int) := by omega
  have i2 : (S : Int) ≤ 512 := by omega
  have n0 := hn.1
  have n1 := hn.2
  have m0 := hm.1
  have m1 := hm.2
  have bd := hr.small s (by omega)
  have b0 := bd.1
  have b1 := bd.2
  have HS := Lib.hid hS
  clear hn hm bd hS
  have hmay := fun W => may_true m0 m1 W
  have n7 : IntKind.i64.wrap (nth r s + n) = nth r s + n := IntWalk.i64_in _ (by omega)
  have n8 : IntKind.i64.wrap ((S : Int) + (s : Int)) = (S : Int) + (s : Int) := IntWalk.i64_in _ (by omega)
  have n9 : ((S : Int) + (s : Int)).toNat = S + s := by omega
  have t1 : decide ((s : Int) < 0) = false := by simp
  have t2 : decide ((S : Int) ≤ (s : Int)) = false := by simp; omega
  have t2' : decide (S ≤ s) = false := by simp; omega
  have t3 : decide (n < -8) = false := by simp; omega
  have t4 : decide (8 < n) = false := by simp; omega
  have hup := Up.start h.ti hr (by rw [HS.out]; exact hs : s < r.length) n
  have hup1 : Up (r.set s (nth r s + n)) (t.set (S + s) (nth r s + n)) ((S + s) / 2) n := by
    have h1 := h.ti.leaf s (by rw [HS.out]; exact hs)
    rw [h1, HS.out] at hup
    exact hup
  have HUP := Lib.hid hup1
  have hput := h.hg.put (S + s) (nth r s + n)
  have td := tdiv_two (S + s)
  have td' : ((S : Int) + (s : Int)).tdiv 2 = (((S + s) / 2 : Nat) : Int) := by rw [← td]; push_cast; rfl
  have hpne := h.ne
  clear hup hup1 td
  go_enter Try.func26, Try.ntmps26
  go_wp2
  refine wp_scope_jumps 0 (fun a' w' => ∃ (t1 : List Int) (q : Nat), (∃ u8 u9 u10 u11 u12 u13 u14 u15 u16 u17 u18 u19 u20 u21 u22 u23 u24 u25 u26 u27 u28 u29 u30 u31 u32 u33 u34 u35 u36 u37 u38 u39 u40 u41 u42 u43 u44 u45 u46 u47 u48 u49 u50 u51 u52 u53 u54 u55 u56 u57 u58 u59 u60 u61 u62 u63 u64 u65 u66 u67 : Value, a' = { tmps := #[.pointer (some ⟨p, 0, none⟩), .int .i64 s, .int .i64 n, undef, undef, undef, .int .i64 0, .int .i64 q, u8, u9, u10, u11, u12, u13, u14, u15, u16, u17, u18, u19, u20, u21, u22, u23, u24, u25, u26, u27, u28, u29, u30, u31, u32, u33, u34, u35, u36, u37, u38, u39, u40, u41, u42, u43, u44, u45, u46, u47, u48, u49, u50, u51, u52, u53, u54, u55, u56, u57, u58, u59, u60, u61, u62, u63, u64, u65, u66, u67], defers := [] }) ∧ 1 ≤ q ∧ Blk w' p 59 #[.int .i64 (S : Int), .slice (some ⟨g, 0, none⟩) (2 * S) cap] ∧ BI w' g t1 ∧ Up (r.set s (nth r s + n)) t1 q n ∧ w.grownBy w' (some g)) (fun a' _ => (intOf (a'.tmps.getD 7 undef)).toNat) rfl ?_ ?_
  · go_wp2
    go_quiet ((go_at_call 34; exact (hmay _).mono fun _ _ h => ⟨h.1, _, h.2.symm⟩))
    by_cases hz : 1 ≤ (S + s) / 2
    · have hz' : (0 : Int) < (((S + s) / 2 : Nat) : Int) := by omega
      go_wp2
      go_step3
      go_wp2
      go_step3
      rw [show ((S : Int) + (s : Int)) / 2 = (((S + s) / 2 : Nat) : Int) by omega]
      refine ⟨rfl, t.set (S + s) (nth r s + n), (S + s) / 2, ⟨_, _, _, _, _, _, _, _, _, _, _, _, _, _, _, _, _, _, _, _, _, _, _, _, _, _, _, _, _, _, _, _, _, _, _, _, _, _, _, _, _, _, _, _, _, _, _, _, _, _, _, _, _, _, _, _, _, _, _, _, rfl⟩, hz, (h.hp.drewN nq).far (fun e => hpne e.symm) _, (h.hg.drewN nq).put (S + s) _, HUP.out, grown_more (grown_drewN (World.grownBy.refl w _) nq) (.inl rfl) _⟩
    · have hz' : ¬ (0 : Int) < (((S + s) / 2 : Nat) : Int) := by omega
      go_wp2
      go_step3
      go_wp2
      simp only [Exit.jump]
      go_ret
      refine ⟨rfl, ⟨t.set (S + s) (nth r s + n), by rw [List.length_set, HS.out], (h.hp.drewN nq).far (fun e => hpne e.symm) _, (h.hg.drewN nq).put (S + s) _, ?_, h.cap⟩, grown_more (grown_drewN (World.grownBy.refl w _) nq) (.inl rfl) _⟩
      have := HUP.out
      rw [show (S + s) / 2 = 0 by omega] at this
      exact this.done
  · rintro a' w' ⟨t1, q, ⟨u8, u9, u10, u11, u12, u13, u14, u15, u16, u17, u18, u19, u20, u21, u22, u23, u24, u25, u26, u27, u28, u29, u30, u31, u32, u33, u34, u35, u36, u37, u38, u39, u40, u41, u42, u43, u44, u45, u46, u47, u48, u49, u50, u51, u52, u53, u54, u55, u56, u57, u58, u59, u60, u61, u62, u63, u64, u65, u66, u67, rfl⟩, hq1, hp1, hg1, hu1, hgr1⟩
    have hrl : (r.set s (nth r s + n)).length = S := by rw [List.length_set, HS.out]
    have hql := hu1.lt
    have htl := hu1.len
    rw [hrl] at hql htl
    have d1 : w'.cell? ⟨p, 1, none⟩ = some (.slice (some ⟨g, 0, none⟩) (2 * S) cap) := by rw [hp1.cell]; rfl
    have da := hg1.cell (k := q) (by omega)
    have df := hg1.frozen q
    have db := hu1.bd q hq1 (Nat.le_refl _)
    have db0 := db.1
    have db1 := db.2
    have hst := hu1.step hq1
    have j1 : (1 : Int) ≤ (q : Int) := by omega
    have j2 : (q : Int) < (S : Int) := by omega
    have hput2 := hg1.put q (nth t1 q + n)
    generalize nth t1 q = z at da db0 db1 hst hput2
    have HST := Lib.hid hst
    have HRL := Lib.hid hrl
    clear db hst hu1 htl hrl c0 c1 ca f0 n7 n8 n9 td' hmay HUP hput
    have n7 : IntKind.i64.wrap (z + n) = z + n := IntWalk.i64_in _ (by omega)
    by_cases hz : 1 ≤ q / 2
    · have hz' : (0 : Int) < ((q / 2 : Nat) : Int) := by omega
      go_wp2
      go_step3
      rw [show (q : Int) / 2 = ((q / 2 : Nat) : Int) by omega]
      refine ⟨rfl, ⟨t1.set q (z + n), q / 2, ⟨_, _, _, _, _, _, _, _, _, _, _, _, _, _, _, _, _, _, _, _, _, _, _, _, _, _, _, _, _, _, _, _, _, _, _, _, _, _, _, _, _, _, _, _, _, _, _, _, _, _, _, _, _, _, _, _, _, _, _, _, rfl⟩, hz, hp1.far (fun e => hpne e.symm) _, hput2, HST.out, grown_more hgr1 (.inl rfl) _⟩, ?_⟩
      simp [intOf]
      omega
    · have hz' : ¬ (0 : Int) < ((q / 2 : Nat) : Int) := by omega
      go_wp2
      simp only [Exit.jump]
      go_ret
      refine ⟨rfl, ⟨t1.set q (z + n), HRL.out, hp1.far (fun e => hpne e.symm) _, hput2, ?_, h.cap⟩, grown_more hgr1 (.inl rfl) _⟩
      have := HST.out
      rw [show q / 2 = 0 by omega] at this
      exact this.done
end Go.Proofs.Ytfbjnpbmicbbnaa
