/- Joined texts: Fa, Fb, Sc. -/
import Derived.Test.YtaonkbfekadalaaGreatDoorM30
/- How keys are looked for. -/
namespace Go.Proofs.YtaonkbfekadalaaGreatDoor
open Go.RowKit
set_option linter.unusedVariables false

/-- The keys rise along the slots. -/
def Sorted (r : List Bool) (xs : List Int) : Prop := ∀ i j, i < j → on r i = true → on r j = true → nth xs i < nth xs j
/-- The first slot whose key is no less. -/
def IsLower (r : List Bool) (xs : List Int) (key a : Int) : Prop :=
  (∃ j : Nat, a = j ∧ on r j = true ∧ key ≤ nth xs j ∧ ∀ q, q < j → on r q = true → nth xs q < key) ∨ (a = -1 ∧ ∀ q, on r q = true → nth xs q < key)
/-- What halving knows. -/
structure Halved (r : List Bool) (xs : List Int) (key : Int) (n lo hi : Nat) (f : Int) : Prop where
  le : lo ≤ hi
  hn : hi ≤ n
  low : ∀ q, q < lo → on r q = true → nth xs q < key
  high : (f = -1 ∧ ∀ q, hi ≤ q → on r q = false) ∨ ∃ j : Nat, f = j ∧ hi ≤ j ∧ on r j = true ∧ key ≤ nth xs j ∧ ∀ q, hi ≤ q → q < j → on r q = false
section
variable {w w' : World} {b : SB} {n : Nat} {r : List Bool} {xs : List Int} {key : Int}
theorem Halved.done {lo hi : Nat} {f : Int} (h : Halved r xs key n lo hi f) (hl : hi ≤ lo) : IsLower r xs key f := by
  rcases h.high with ⟨e, hh⟩ | ⟨j, e, h1, h2, h3, h4⟩
  · refine .inr ⟨e, fun q hq => h.low q ?_ hq⟩
    by_cases c : q < lo
    · exact c
    · rw [hh q (by omega)] at hq; cases hq
  · refine .inl ⟨j, e, h2, h3, fun q hq ho => h.low q ?_ ho⟩
    by_cases c : q < lo
    · exact c
    · rw [h4 q (by omega) hq] at ho; cases ho
/-- The half right of m has none. -/
theorem Halved.cut {lo hi m : Nat} {f s : Int} (h : Halved r xs key n lo hi f) (h1 : lo ≤ m) (h2 : m < hi) (hs : IsNext r (m : Int) s) (hc : s < 0 ∨ (hi : Int) ≤ s) : Halved r xs key n lo m f := by
  have hnone : ∀ q, m ≤ q → q < hi → on r q = false := by
    rcases hs with ⟨j, rfl, j1, j2, j3⟩ | ⟨rfl, j1⟩
    · exact fun q a b => j3 q (by omega) (by omega)
    · exact fun q a b => j1 q (by omega)
  refine ⟨h1, by have := h.hn; omega, h.low, ?_⟩
  rcases h.high with ⟨e, hh⟩ | ⟨j, e, q1, q2, q3, q4⟩
  · exact .inl ⟨e, fun q a => by
      by_cases c : q < hi
      · exact hnone q a c
      · exact hh q (by omega)⟩
  · exact .inr ⟨j, e, by omega, q2, q3, fun q a b => by
      by_cases c : q < hi
      · exact hnone q a c
      · exact q4 q (by omega) b⟩
theorem Halved.left {lo hi m j : Nat} {f : Int} (h : Halved r xs key n lo hi f) (h1 : lo ≤ m) (h2 : m < hi) (hj : m ≤ j) (hjh : j < hi) (ho : on r j = true) (hn : ∀ k : Nat, m ≤ k → k < j → on r k = false) (hk : key ≤ nth xs j) : Halved r xs key n lo m (j : Int) :=
  ⟨h1, by have := h.hn; omega, h.low, .inr ⟨j, rfl, hj, ho, hk, fun q a b => hn q a b⟩⟩
theorem Halved.right {lo hi j : Nat} {f : Int} (hS : Sorted r xs) (h : Halved r xs key n lo hi f) (hj : lo ≤ j) (hjh : j < hi) (ho : on r j = true) (hk : nth xs j < key) : Halved r xs key n (j + 1) hi f :=
  ⟨by omega, h.hn, fun q hq hqo => by
    by_cases e : q = j
    · rw [e]; exact hk
    · have := hS q j (by omega) hqo ho; omega, h.high⟩
theorem less_ok {bx : Nat} (hb : Blk w bx 3 #[.int .i64 key]) (x : Int) : Calls Tryz.prog 118 #[.int .i64 x, .pointer (some ⟨bx, 0, none⟩)] w fun e w' => e = .returned (.bool (decide (x < key))) ∧ w = w' := by
  have c0 : w.cell? ⟨bx, 0, none⟩ = some (.int .i64 key) := by rw [hb.cell]; rfl
  go_enter Tryz.func118, Tryz.ntmps118
  go_wp2_with fail
  go_ret
  exact ⟨rfl, rfl⟩
theorem jump_in {P : Program} {c : Code} {Q : Exit → Act → World → Prop} {a : Act} {J : Act → World → Prop} (hJ : J a w) (h : ∀ a w, J a w → c.wp P Q a w) : c.wp P Q a w := h _ _ hJ
set_option maxRecDepth 100000 in
set_option maxHeartbeats 2000000 in
theorem search_ok (h : SM w b n r xs) (hT : Tab w) (hS : Sorted r xs) {bx : Nat} (hb : Blk w bx 3 #[.int .i64 key]) :
    Calls Tryz.prog 117 #[.pointer (some ⟨b.s, 0, none⟩), .func (.func 118) #[] #[.pointer (some ⟨bx, 0, none⟩)]] w fun e w' => (∃ a c, e = .returned (.tuple #[.int .i64 a, .int .i64 c]) ∧ IsLower r xs key a) ∧ w = w' := by
  have hn := h.hn
  have hcap := SCap_ok h
  have hnx := fun i => SNext_any h hT i
  have hat := fun i => SAt_any h i
  have hls := fun x => less_ok hb x
  have HS := Lib.hid hS
  have h0 : Halved r xs key n 0 n (-1) := ⟨Nat.zero_le _, Nat.le_refl _, fun q hq => by omega, .inl ⟨rfl, fun q hq => on_end (by rw [h.lr]; exact hq)⟩⟩
  have H0 := Lib.hid h0
  clear h0 hS h hb
  go_enter Tryz.func117, Tryz.ntmps117
  go_wp2_with fail
  obtain ⟨J, hJ⟩ : ∃ J : Act → World → Prop, J = fun a' w' => w' = w ∧ ∃ (lo hi : Nat) (f c : Int), (∃ u10 u11 u12 u13 u14 u15 u16 u17 u18 u19 u20 u21 u22 u23 u24 u25 u26 u27 u28 u29 u30 u31 u32 u33 u34 u35 u36 u37 u38 u39 u40 u41 u42 u43 u44 u45 u46 u47 u48 u49 u50 u51 u52 : Value, a' = { tmps := #[.pointer (some ⟨b.s, 0, none⟩), .func (.func 118) #[] #[.pointer (some ⟨bx, 0, none⟩)], undef, undef, .int .i64 0, .int .i64 0, .int .i64 lo, .int .i64 hi, .int .i64 f, .int .i64 c, u10, u11, u12, u13, u14, u15, u16, u17, u18, u19, u20, u21, u22, u23, u24, u25, u26, u27, u28, u29, u30, u31, u32, u33, u34, u35, u36, u37, u38, u39, u40, u41, u42, u43, u44, u45, u46, u47, u48, u49, u50, u51, u52], defers := [] }) ∧ Halved r xs key n lo hi f := ⟨_, rfl⟩
  have HJ := Lib.hid hJ
  clear hJ
  refine wp_scope_jumps 0 J (fun a' _ => (intOf (a'.tmps.getD 7 undef)).toNat - (intOf (a'.tmps.getD 6 undef)).toNat) rfl ?_ ?_
  · go_wp2_with fail
    refine hcap.mono ?_
    rintro e w1 ⟨rfl, rfl⟩
    go_wp2_with fail
    go_step3
    rename_i hK
    apply hK
    refine jump_in (J := J) (by rw [HJ.out]; exact ⟨rfl, 0, n, -1, 0, ⟨_, _, _, _, _, _, _, _, _, _, _, _, _, _, _, _, _, _, _, _, _, _, _, _, _, _, _, _, _, _, _, _, _, _, _, _, _, _, _, _, _, _, _, rfl⟩, H0.out⟩) ?_
    rintro a' w' hJ'
    rw [HJ.out] at hJ'
    obtain ⟨rfl, lo, hi, f, c, ⟨u10, u11, u12, u13, u14, u15, u16, u17, u18, u19, u20, u21, u22, u23, u24, u25, u26, u27, u28, u29, u30, u31, u32, u33, u34, u35, u36, u37, u38, u39, u40, u41, u42, u43, u44, u45, u46, u47, u48, u49, u50, u51, u52, rfl⟩, hH⟩ := hJ'
    have hle := hH.le
    have hhn := hH.hn
    have z1 : (0 : Int) ≤ (lo : Int) := by omega
    have z2 : (hi : Int) ≤ 4096 := by omega
    by_cases hlt : lo < hi
    · have i1 : (lo : Int) < (hi : Int) := by omega
      have t1 : decide ((lo : Int) ≥ (hi : Int)) = false := by simp; omega
      obtain ⟨m, m1, m2, m3⟩ : ∃ m, lo ≤ m ∧ m < hi ∧ (lo : Int) + ((hi - lo : Nat) : Int) / 2 = (m : Int) := ⟨lo + (hi - lo) / 2, by omega, by omega, by omega⟩
      have n1 : IntKind.i64.wrap ((hi : Int) - (lo : Int)) = (hi : Int) - (lo : Int) := IntWalk.i64_in _ (by omega)
      have n2 : ((hi : Int) - (lo : Int)).tdiv 2 = ((hi : Int) - (lo : Int)) / 2 := Int.tdiv_eq_ediv_of_nonneg (by omega)
      have n3 : IntKind.i64.wrap (((hi : Int) - (lo : Int)) / 2) = ((hi : Int) - (lo : Int)) / 2 := IntWalk.i64_in _ (by omega)
      have n4 : (lo : Int) + ((hi : Int) - (lo : Int)) / 2 = (m : Int) := by omega
      have n5 : IntKind.i64.wrap (m : Int) = (m : Int) := IntWalk.i64_in _ (by omega)
      go_wp2_with fail
      try rw [m3]
      refine (hnx (m : Int)).mono ?_
      rintro e w1 ⟨⟨s, rfl, hs⟩, rfl⟩
      have HSN := Lib.hid hs
      clear hs
      by_cases hc : s < 0 ∨ (hi : Int) ≤ s
      · have hcut := hH.cut m1 m2 HSN.out hc
        have HCUT := Lib.hid hcut
        clear hcut hH
        rcases hc with hc | hc
        · go_wp2_with fail
          go_step3
          refine ⟨rfl, ?_⟩; rw [HJ.out]; exact ⟨rfl, lo, m, f, _, ⟨_, _, _, _, _, _, _, _, _, _, _, _, _, _, _, _, _, _, _, _, _, _, _, _, _, _, _, _, _, _, _, _, _, _, _, _, _, _, _, _, _, _, _, rfl⟩, HCUT.out⟩
        · by_cases hc0 : s < 0
          · go_wp2_with fail
            go_step3
            refine ⟨rfl, ?_⟩; rw [HJ.out]; exact ⟨rfl, lo, m, f, _, ⟨_, _, _, _, _, _, _, _, _, _, _, _, _, _, _, _, _, _, _, _, _, _, _, _, _, _, _, _, _, _, _, _, _, _, _, _, _, _, _, _, _, _, _, rfl⟩, HCUT.out⟩
          · go_wp2_with fail
            go_step3
            refine ⟨rfl, ?_⟩; rw [HJ.out]; exact ⟨rfl, lo, m, f, _, ⟨_, _, _, _, _, _, _, _, _, _, _, _, _, _, _, _, _, _, _, _, _, _, _, _, _, _, _, _, _, _, _, _, _, _, _, _, _, _, _, _, _, _, _, rfl⟩, HCUT.out⟩
      · have HH := Lib.hid hH
        obtain ⟨j, rfl, j1, j2, j3⟩ : ∃ j : Nat, s = j ∧ m ≤ j ∧ on r j = true ∧ ∀ k : Nat, m ≤ k → k < j → on r k = false := by
          rcases HSN.out with ⟨j, e, a, b2, d⟩ | ⟨e, _⟩
          · exact ⟨j, e, by omega, b2, fun k k1 k2 => d k (by omega) k2⟩
          · omega
        have hjh : j < hi := by omega
        have hc1 : ¬ ((j : Int) < 0) := by omega
        have hc2 : ¬ ((hi : Int) ≤ (j : Int)) := by omega
        have J2 := Lib.hid j2
        have J3 := Lib.hid j3
        have n6 : IntKind.i64.wrap ((j : Int) + 1) = (j : Int) + 1 := IntWalk.i64_in _ (by omega)
        clear hH hc j2 j3
        have hatj := hat (j : Int)
        rw [hasB_nat, J2.out, show atV r xs (j : Int) = nth xs j by unfold atV; rw [hasB_nat, J2.out, if_pos rfl]; rfl] at hatj
        have hlj := hls (nth xs j)
        go_wp2_with fail
        refine hatj.mono ?_
        rintro e w1 ⟨rfl, rfl⟩
        go_wp2_with fail
        refine hlj.mono ?_
        rintro e w1 ⟨rfl, rfl⟩
        by_cases hk : nth xs j < key
        · have hr := HH.out.right HS.out (by omega) hjh J2.out hk
          have HR := Lib.hid hr
          clear hr
          rw [decide_eq_true hk]
          go_wp2_with fail
          go_step3
          refine ⟨rfl, ?_⟩; rw [HJ.out]; exact ⟨rfl, j + 1, hi, f, _, ⟨_, _, _, _, _, _, _, _, _, _, _, _, _, _, _, _, _, _, _, _, _, _, _, _, _, _, _, _, _, _, _, _, _, _, _, _, _, _, _, _, _, _, _, rfl⟩, HR.out⟩
        · have hl := HH.out.left m1 m2 j1 hjh J2.out J3.out (by omega)
          have HL := Lib.hid hl
          clear hl
          rw [decide_eq_false hk]
          go_wp2_with fail
          go_step3
          refine ⟨rfl, ?_⟩; rw [HJ.out]; exact ⟨rfl, lo, m, (j : Int), _, ⟨_, _, _, _, _, _, _, _, _, _, _, _, _, _, _, _, _, _, _, _, _, _, _, _, _, _, _, _, _, _, _, _, _, _, _, _, _, _, _, _, _, _, _, rfl⟩, HL.out⟩
    · have hdone := hH.done (by omega)
      have HD := Lib.hid hdone
      clear hdone hH
      go_wp2_with fail
      simp only [Exit.jump]

      go_ret2
      exact ⟨⟨f, c, rfl, HD.out⟩, rfl⟩
  · rintro a' w' hJ'
    rw [HJ.out] at hJ'
    obtain ⟨rfl, lo, hi, f, c, ⟨u10, u11, u12, u13, u14, u15, u16, u17, u18, u19, u20, u21, u22, u23, u24, u25, u26, u27, u28, u29, u30, u31, u32, u33, u34, u35, u36, u37, u38, u39, u40, u41, u42, u43, u44, u45, u46, u47, u48, u49, u50, u51, u52, rfl⟩, hH⟩ := hJ'
    have hle := hH.le
    have hhn := hH.hn
    have z1 : (0 : Int) ≤ (lo : Int) := by omega
    have z2 : (hi : Int) ≤ 4096 := by omega
    by_cases hlt : lo < hi
    · have i1 : (lo : Int) < (hi : Int) := by omega
      have t1 : decide ((lo : Int) ≥ (hi : Int)) = false := by simp; omega
      obtain ⟨m, m1, m2, m3⟩ : ∃ m, lo ≤ m ∧ m < hi ∧ (lo : Int) + ((hi - lo : Nat) : Int) / 2 = (m : Int) := ⟨lo + (hi - lo) / 2, by omega, by omega, by omega⟩
      have n1 : IntKind.i64.wrap ((hi : Int) - (lo : Int)) = (hi : Int) - (lo : Int) := IntWalk.i64_in _ (by omega)
      have n2 : ((hi : Int) - (lo : Int)).tdiv 2 = ((hi : Int) - (lo : Int)) / 2 := Int.tdiv_eq_ediv_of_nonneg (by omega)
      have n3 : IntKind.i64.wrap (((hi : Int) - (lo : Int)) / 2) = ((hi : Int) - (lo : Int)) / 2 := IntWalk.i64_in _ (by omega)
      have n4 : (lo : Int) + ((hi : Int) - (lo : Int)) / 2 = (m : Int) := by omega
      have n5 : IntKind.i64.wrap (m : Int) = (m : Int) := IntWalk.i64_in _ (by omega)
      go_wp2_with fail
      try rw [m3]
      refine (hnx (m : Int)).mono ?_
      rintro e w1 ⟨⟨s, rfl, hs⟩, rfl⟩
      have HSN := Lib.hid hs
      clear hs
      by_cases hc : s < 0 ∨ (hi : Int) ≤ s
      · have hcut := hH.cut m1 m2 HSN.out hc
        have HCUT := Lib.hid hcut
        clear hcut hH
        rcases hc with hc | hc
        · go_wp2_with fail
          go_step3
          refine ⟨rfl, ?_, ?_⟩; (rw [HJ.out]; exact ⟨rfl, lo, m, f, _, ⟨_, _, _, _, _, _, _, _, _, _, _, _, _, _, _, _, _, _, _, _, _, _, _, _, _, _, _, _, _, _, _, _, _, _, _, _, _, _, _, _, _, _, _, rfl⟩, HCUT.out⟩); (simp [intOf]; omega)
        · by_cases hc0 : s < 0
          · go_wp2_with fail
            go_step3
            refine ⟨rfl, ?_, ?_⟩; (rw [HJ.out]; exact ⟨rfl, lo, m, f, _, ⟨_, _, _, _, _, _, _, _, _, _, _, _, _, _, _, _, _, _, _, _, _, _, _, _, _, _, _, _, _, _, _, _, _, _, _, _, _, _, _, _, _, _, _, rfl⟩, HCUT.out⟩); (simp [intOf]; omega)
          · go_wp2_with fail
            go_step3
            refine ⟨rfl, ?_, ?_⟩; (rw [HJ.out]; exact ⟨rfl, lo, m, f, _, ⟨_, _, _, _, _, _, _, _, _, _, _, _, _, _, _, _, _, _, _, _, _, _, _, _, _, _, _, _, _, _, _, _, _, _, _, _, _, _, _, _, _, _, _, rfl⟩, HCUT.out⟩); (simp [intOf]; omega)
      · have HH := Lib.hid hH
        obtain ⟨j, rfl, j1, j2, j3⟩ : ∃ j : Nat, s = j ∧ m ≤ j ∧ on r j = true ∧ ∀ k : Nat, m ≤ k → k < j → on r k = false := by
          rcases HSN.out with ⟨j, e, a, b2, d⟩ | ⟨e, _⟩
          · exact ⟨j, e, by omega, b2, fun k k1 k2 => d k (by omega) k2⟩
          · omega
        have hjh : j < hi := by omega
        have hc1 : ¬ ((j : Int) < 0) := by omega
        have hc2 : ¬ ((hi : Int) ≤ (j : Int)) := by omega
        have J2 := Lib.hid j2
        have J3 := Lib.hid j3
        have n6 : IntKind.i64.wrap ((j : Int) + 1) = (j : Int) + 1 := IntWalk.i64_in _ (by omega)
        clear hH hc j2 j3
        have hatj := hat (j : Int)
        rw [hasB_nat, J2.out, show atV r xs (j : Int) = nth xs j by unfold atV; rw [hasB_nat, J2.out, if_pos rfl]; rfl] at hatj
        have hlj := hls (nth xs j)
        go_wp2_with fail
        refine hatj.mono ?_
        rintro e w1 ⟨rfl, rfl⟩
        go_wp2_with fail
        refine hlj.mono ?_
        rintro e w1 ⟨rfl, rfl⟩
        by_cases hk : nth xs j < key
        · have hr := HH.out.right HS.out (by omega) hjh J2.out hk
          have HR := Lib.hid hr
          clear hr
          rw [decide_eq_true hk]
          go_wp2_with fail
          go_step3
          refine ⟨rfl, ?_, ?_⟩; (rw [HJ.out]; exact ⟨rfl, j + 1, hi, f, _, ⟨_, _, _, _, _, _, _, _, _, _, _, _, _, _, _, _, _, _, _, _, _, _, _, _, _, _, _, _, _, _, _, _, _, _, _, _, _, _, _, _, _, _, _, rfl⟩, HR.out⟩); (simp [intOf]; omega)
        · have hl := HH.out.left m1 m2 j1 hjh J2.out J3.out (by omega)
          have HL := Lib.hid hl
          clear hl
          rw [decide_eq_false hk]
          go_wp2_with fail
          go_step3
          refine ⟨rfl, ?_, ?_⟩; (rw [HJ.out]; exact ⟨rfl, lo, m, (j : Int), _, ⟨_, _, _, _, _, _, _, _, _, _, _, _, _, _, _, _, _, _, _, _, _, _, _, _, _, _, _, _, _, _, _, _, _, _, _, _, _, _, _, _, _, _, _, rfl⟩, HL.out⟩); (simp [intOf]; omega)
    · have hdone := hH.done (by omega)
      have HD := Lib.hid hdone
      clear hdone hH
      go_wp2_with fail
      simp only [Exit.jump]

      go_ret2
      exact ⟨⟨f, c, rfl, HD.out⟩, rfl⟩
end
end Go.Proofs.YtaonkbfekadalaaGreatDoor
/- Lower, Before, Exact; and a set's at. -/
namespace Go.Proofs.YtaonkbfekadalaaGreatDoor
open Go.RowKit
set_option linter.unusedVariables false

/-- The last slot whose key is less. -/
def IsBefore (r : List Bool) (xs : List Int) (key a : Int) : Prop :=
  (∃ j : Nat, a = j ∧ on r j = true ∧ nth xs j < key ∧ ∀ q, j < q → on r q = true → key ≤ nth xs q) ∨ (a = -1 ∧ ∀ q, on r q = true → key ≤ nth xs q)
/-- The slot of a key. -/
def IsExact (r : List Bool) (xs : List Int) (key a : Int) : Prop :=
  (∃ j : Nat, a = j ∧ on r j = true ∧ nth xs j = key) ∨ (a = -1 ∧ ∀ q, on r q = true → nth xs q ≠ key)
section
variable {w w' : World} {b : SB} {n : Nat} {r : List Bool} {xs : List Int} {key : Int}
theorem IsLower.before {a s : Int} (hS : Sorted r xs) (h : IsLower r xs key a) (hp : IsPrev r ((if a < 0 then (r.length : Int) else a) - 1) s) : IsBefore r xs key s := by
  rcases h with ⟨j, rfl, ho, hk, hl⟩ | ⟨rfl, hl⟩
  · rw [if_neg (by omega)] at hp
    have hge : ∀ q, j ≤ q → on r q = true → key ≤ nth xs q := fun q hq hqo => by
      by_cases e : q = j
      · rw [e]; exact hk
      · have := hS j q (by omega) ho hqo; omega
    rcases hp with ⟨i, rfl, i1, i2, i3⟩ | ⟨rfl, i1⟩
    · refine .inl ⟨i, rfl, i2, hl i (by omega) i2, fun q hq hqo => ?_⟩
      by_cases c : j ≤ q
      · exact hge q c hqo
      · rw [i3 q hq (by omega)] at hqo; cases hqo
    · refine .inr ⟨rfl, fun q hqo => ?_⟩
      by_cases c : j ≤ q
      · exact hge q c hqo
      · rw [i1 q (by omega)] at hqo; cases hqo
  · rw [if_pos (by decide)] at hp
    rcases hp with ⟨i, rfl, i1, i2, i3⟩ | ⟨rfl, i1⟩
    · refine .inl ⟨i, rfl, i2, hl i i2, fun q hq hqo => ?_⟩
      have := on_lt hqo
      rw [i3 q hq (by omega)] at hqo; cases hqo
    · refine .inr ⟨rfl, fun q hqo => ?_⟩
      have := on_lt hqo
      rw [i1 q (by omega)] at hqo; cases hqo
theorem IsLower.exact {a : Int} (hS : Sorted r xs) (h : IsLower r xs key a) : IsExact r xs key (if a < 0 then -1 else if hasB r a = true ∧ atV r xs a = key then a else -1) := by
  rcases h with ⟨j, rfl, ho, hk, hl⟩ | ⟨rfl, hl⟩
  · rw [if_neg (by omega), hasB_nat, ho]
    have e : atV r xs (j : Int) = nth xs j := by unfold atV; rw [hasB_nat, ho, if_pos rfl]; rfl
    rw [e]
    by_cases c : nth xs j = key
    · rw [if_pos ⟨rfl, c⟩]; exact .inl ⟨j, rfl, ho, c⟩
    · rw [if_neg fun q => c q.2]
      refine .inr ⟨rfl, fun q hqo hq => ?_⟩
      rcases Nat.lt_trichotomy q j with d | d | d
      · have := hl q d hqo; omega
      · subst d; exact c hq
      · have := hS j q d ho hqo; omega
  · rw [if_pos (by decide)]
    exact .inr ⟨rfl, fun q hqo hq => by have := hl q hqo; omega⟩
theorem IsLower.lt {a : Int} (h : IsLower r xs key a) : -1 ≤ a ∧ a < r.length := by
  rcases h with ⟨j, rfl, ho, _⟩ | ⟨rfl, _⟩
  · have := on_lt ho; omega
  · omega
set_option maxRecDepth 100000 in
theorem Lower_ok (h : SM w b n r xs) (hT : Tab w) (hS : Sorted r xs) (key : Int) :
    Calls Tryz.prog 69 #[.pointer (some ⟨b.s, 0, none⟩), .int .i64 key] w fun e w' => (∃ a c, e = .returned (.tuple #[.int .i64 a, .int .i64 c]) ∧ IsLower r xs key a) ∧ Below w.heap.size w w' := by
  have hB : Below w.heap.size w (w.alloc (.cells #[.int .i64 key] 3)) := (Below.refl _ w).alloc (Nat.le_refl _) _
  have hs := search_ok (h.alloc (.cells #[.int .i64 key] 3)) (hT.below hB) hS (Blk.made w 3 #[.int .i64 key])
  have hmf : ∀ (fn : Fn) (first cap : Array Value) (w : World), (Instr.makeFunc fn first cap).run Tryz.prog w = .ok (.func fn first cap) w := fun _ _ _ _ => rfl
  clear h
  go_enter Tryz.func69, Tryz.ntmps69
  go_wp2_with fail
  refine hs.mono ?_
  rintro e w1 ⟨⟨a, c, rfl, ha⟩, rfl⟩
  have HA := Lib.hid ha
  clear ha
  go_wp2_with fail
  go_ret2
  exact ⟨⟨a, c, rfl, HA.out⟩, hB⟩
set_option maxRecDepth 100000 in
theorem Before_ok (h : SM w b n r xs) (hT : Tab w) (hS : Sorted r xs) (key : Int) :
    Calls Tryz.prog 25 #[.pointer (some ⟨b.s, 0, none⟩), .int .i64 key] w fun e w' => (∃ a c, e = .returned (.tuple #[.int .i64 a, .int .i64 c]) ∧ IsBefore r xs key a) ∧ Below w.heap.size w w' := by
  have hl := Lower_ok h hT hS key
  have hn := h.hn
  have lr := h.lr
  have HS := Lib.hid hS
  have HM := Lib.hid h
  clear hS h
  go_enter Tryz.func25, Tryz.ntmps25
  go_wp2_with fail
  refine hl.mono ?_
  rintro e w1 ⟨⟨a, c, rfl, ha⟩, hB⟩
  have hlt := ha.lt
  have hcap := SCap_ok (HM.out.below hB)
  have hpv := fun i => SPrev_any (HM.out.below hB) i
  have HA := Lib.hid ha
  clear ha
  by_cases hc : a < 0
  · have n1 : IntKind.i64.wrap ((n : Int) - 1) = (n : Int) - 1 := IntWalk.i64_in _ (by omega)
    go_wp2_with fail
    refine hcap.mono ?_
    rintro e w2 ⟨rfl, rfl⟩
    go_wp2_with fail
    refine (hpv ((n : Int) - 1)).mono ?_
    rintro e w2 ⟨⟨s, rfl, hs⟩, rfl⟩
    have HP := Lib.hid hs
    clear hs
    go_wp2_with fail
    go_ret2
    exact ⟨⟨s, c, rfl, HA.out.before HS.out (by rw [if_pos hc, lr]; exact HP.out)⟩, hB⟩
  · have n1 : IntKind.i64.wrap (a - 1) = a - 1 := IntWalk.i64_in _ (by omega)
    go_wp2_with fail
    refine (hpv (a - 1)).mono ?_
    rintro e w2 ⟨⟨s, rfl, hs⟩, rfl⟩
    have HP := Lib.hid hs
    clear hs
    go_wp2_with fail
    go_ret2
    exact ⟨⟨s, c, rfl, HA.out.before HS.out (by rw [if_neg (by omega)]; exact HP.out)⟩, hB⟩
set_option maxRecDepth 100000 in
theorem Exact_ok (h : SM w b n r xs) (hT : Tab w) (hS : Sorted r xs) (key : Int) :
    Calls Tryz.prog 23 #[.pointer (some ⟨b.s, 0, none⟩), .int .i64 key] w fun e w' => (∃ a c, e = .returned (.tuple #[.int .i64 a, .int .i64 c]) ∧ IsExact r xs key a) ∧ Below w.heap.size w w' := by
  have hl := Lower_ok h hT hS key
  have HS := Lib.hid hS
  have HM := Lib.hid h
  clear hS h
  go_enter Tryz.func23, Tryz.ntmps23
  go_wp2_with fail
  refine hl.mono ?_
  rintro e w1 ⟨⟨a, c, rfl, ha⟩, hB⟩
  have hex := ha.exact HS.out
  have hat := SAt_any (HM.out.below hB) a
  by_cases hc : a < 0
  · rw [if_pos hc] at hex
    have HE := Lib.hid hex
    clear hex ha
    go_wp2_with fail
    go_ret2
    exact ⟨⟨-1, c, rfl, HE.out⟩, hB⟩
  · rw [if_neg hc] at hex
    clear ha
    cases hb : hasB r a
    · rw [hb] at hex hat
      rw [if_neg (fun q => by cases q.1)] at hex
      have HE := Lib.hid hex
      clear hex
      generalize atV r xs a = z at *
      go_wp2_with fail
      refine hat.mono ?_
      rintro e w2 ⟨rfl, rfl⟩
      go_wp2_with fail
      go_ret2
      exact ⟨⟨-1, _, rfl, HE.out⟩, hB⟩
    · rw [hb] at hex hat
      generalize atV r xs a = z at *
      by_cases hz : z = key
      · rw [if_pos ⟨rfl, hz⟩] at hex
        have HE := Lib.hid hex
        have t1 : (z != key) = false := by simp [hz]
        have t2 : (z == key) = true := by simp [hz]
        clear hex hz
        go_wp2_with fail
        refine hat.mono ?_
        rintro e w2 ⟨rfl, rfl⟩
        go_wp2_with fail
        go_ret2
        exact ⟨⟨a, _, rfl, HE.out⟩, hB⟩
      · rw [if_neg (fun q => hz q.2)] at hex
        have HE := Lib.hid hex
        have t1 : (z != key) = true := by simp [hz]
        clear hex
        go_wp2_with fail
        refine hat.mono ?_
        rintro e w2 ⟨rfl, rfl⟩
        go_wp2_with fail
        go_ret2
        exact ⟨⟨-1, _, rfl, HE.out⟩, hB⟩
end
section
variable {w w' : World} {P : PB} {h : Nat} {r : List Bool} {xs : List Int} {key : Int}
set_option maxRecDepth 100000 in
theorem view_ok (hp : PM w P none h r xs) :
    Calls Tryz.prog 68 #[.agg #[.pointer (some ⟨P.pp, 0, none⟩)]] w fun e w' => ∃ b' : SB, e = .returned (.pointer (some ⟨b'.s, 0, none⟩)) ∧ SM w' b' (capN h) r xs ∧ b'.from w.heap.size ∧ Below w.heap.size w w' := by
  have hB : Below w.heap.size w (w.alloc (.cells #[.pointer (some ⟨P.pp, 0, none⟩)] 67)) := (Below.refl _ w).alloc (Nat.le_refl _) _
  have hsl := PSlots_ok (hp.below hB)
  have hz : (w.alloc (.cells #[.pointer (some ⟨P.pp, 0, none⟩)] 67)).heap.size = w.heap.size + 1 := by simp
  have c0 : (w.alloc (.cells #[.pointer (some ⟨P.pp, 0, none⟩)] 67)).cell? ⟨w.heap.size, 0, none⟩ = some (.pointer (some ⟨P.pp, 0, none⟩)) := by rw [(Blk.made w 67 #[.pointer (some ⟨P.pp, 0, none⟩)]).cell]; rfl
  clear hp
  generalize hW : w.alloc (.cells #[.pointer (some ⟨P.pp, 0, none⟩)] 67) = W at *
  go_enter Tryz.func68, Tryz.ntmps68
  go_wp2_with fail
  refine hsl.mono ?_
  rintro e w1 ⟨b', rfl, q1, q2, q3⟩
  have HQ := Lib.hid (And.intro q1 q2)
  clear q1 q2
  go_wp2_with fail
  go_ret
  exact ⟨b', rfl, HQ.out.1, fun i hi => by have := HQ.out.2 i hi; omega, hB.trans (q3.mono (by omega))⟩
/-- A set lies there. -/
def ST (w : World) (s : Nat) (P : PB) : Prop := Blk w s 69 #[.pointer (some ⟨P.pp, 0, none⟩)]
set_option maxRecDepth 100000 in
theorem atExact_ok {s : Nat} (hst : ST w s P) (hp : PM w P none h r xs) (hT : Tab w) (hS : Sorted r xs) (key : Int) :
    Calls Tryz.prog 22 #[.pointer (some ⟨s, 0, none⟩), .func (.func 23) #[] #[], .int .i64 key] w fun e w' => (∃ a, e = .returned (.int .i64 a) ∧ IsExact r xs key a) ∧ Below w.heap.size w w' := by
  have c0 : w.cell? ⟨s, 0, none⟩ = some (.pointer (some ⟨P.pp, 0, none⟩)) := by rw [Blk.cell hst]; rfl
  have hv := view_ok hp
  have HS := Lib.hid hS
  clear hst hp hS
  go_enter Tryz.func22, Tryz.ntmps22
  go_wp2_with fail
  refine hv.mono ?_
  rintro e w1 ⟨b', rfl, q1, q2, q3⟩
  have hlk := Exact_ok q1 (hT.below q3) HS.out key
  clear q1 q2
  go_wp2_with fail
  refine hlk.mono ?_
  rintro e w2 ⟨⟨a, c, rfl, ha⟩, hB2⟩
  have HA := Lib.hid ha
  clear ha
  go_wp2_with fail
  go_ret
  exact ⟨⟨a, rfl, HA.out⟩, q3.trans (hB2.mono q3.size)⟩
set_option maxRecDepth 100000 in
theorem atBefore_ok {s : Nat} (hst : ST w s P) (hp : PM w P none h r xs) (hT : Tab w) (hS : Sorted r xs) (key : Int) :
    Calls Tryz.prog 22 #[.pointer (some ⟨s, 0, none⟩), .func (.func 25) #[] #[], .int .i64 key] w fun e w' => (∃ a, e = .returned (.int .i64 a) ∧ IsBefore r xs key a) ∧ Below w.heap.size w w' := by
  have c0 : w.cell? ⟨s, 0, none⟩ = some (.pointer (some ⟨P.pp, 0, none⟩)) := by rw [Blk.cell hst]; rfl
  have hv := view_ok hp
  have HS := Lib.hid hS
  clear hst hp hS
  go_enter Tryz.func22, Tryz.ntmps22
  go_wp2_with fail
  refine hv.mono ?_
  rintro e w1 ⟨b', rfl, q1, q2, q3⟩
  have hlk := Before_ok q1 (hT.below q3) HS.out key
  clear q1 q2
  go_wp2_with fail
  refine hlk.mono ?_
  rintro e w2 ⟨⟨a, c, rfl, ha⟩, hB2⟩
  have HA := Lib.hid ha
  clear ha
  go_wp2_with fail
  go_ret
  exact ⟨⟨a, rfl, HA.out⟩, q3.trans (hB2.mono q3.size)⟩
set_option maxRecDepth 100000 in
theorem atLower_ok {s : Nat} (hst : ST w s P) (hp : PM w P none h r xs) (hT : Tab w) (hS : Sorted r xs) (key : Int) :
    Calls Tryz.prog 22 #[.pointer (some ⟨s, 0, none⟩), .func (.func 69) #[] #[], .int .i64 key] w fun e w' => (∃ a, e = .returned (.int .i64 a) ∧ IsLower r xs key a) ∧ Below w.heap.size w w' := by
  have c0 : w.cell? ⟨s, 0, none⟩ = some (.pointer (some ⟨P.pp, 0, none⟩)) := by rw [Blk.cell hst]; rfl
  have hv := view_ok hp
  have HS := Lib.hid hS
  clear hst hp hS
  go_enter Tryz.func22, Tryz.ntmps22
  go_wp2_with fail
  refine hv.mono ?_
  rintro e w1 ⟨b', rfl, q1, q2, q3⟩
  have hlk := Lower_ok q1 (hT.below q3) HS.out key
  clear q1 q2
  go_wp2_with fail
  refine hlk.mono ?_
  rintro e w2 ⟨⟨a, c, rfl, ha⟩, hB2⟩
  have HA := Lib.hid ha
  clear ha
  go_wp2_with fail
  go_ret
  exact ⟨⟨a, rfl, HA.out⟩, q3.trans (hB2.mono q3.size)⟩
end
end Go.Proofs.YtaonkbfekadalaaGreatDoor
/- Clones of a tree and of a row; a set in memory; what New, Insert, Delete, Has, Len, Cap, Keys, key, Floor, Ceil, Row of a set come to. -/
namespace Go.Proofs.YtaonkbfekadalaaGreatDoor
open Go.RowKit
set_option linter.unusedVariables false

set_option maxRecDepth 1000000 in
set_option maxHeartbeats 400000 in
theorem TClone_ok {w : World} {p g cap S L : Nat} {r t : List Int} (h : TM w p g cap S r t) (hr : Rt r L) :
    Calls Tryz.prog 152 #[.pointer (some ⟨p, 0, none⟩)] w fun e w' => (∃ p' g' cap', e = .returned (.pointer (some ⟨p', 0, none⟩)) ∧ w.heap.size ≤ p' ∧ w.heap.size ≤ g' ∧ TM w' p' g' cap' S r t) ∧ Below w.heap.size w w' := by
  have hS := h.hS
  have hs1 := hr.len_pos
  have hs2 := hr.len_le
  rw [hS] at hs1 hs2
  have c0 := h.c0
  have c1 := h.c1
  have htl := h.tlen
  have hcl : Calls Tryz.prog 180 #[.slice (some ⟨g, 0, none⟩) (2 * S) cap] w.drew _ := SClone_ok (w := w.drew) (c := cap) htl (RI_of_BI (h.hg.drewN 1)) (by omega) (by omega)
  have hp0 := h.hp.drew
  have hplt := h.hp.drew.lt
  have hbd : Below w.heap.size w w.drew := below_drewN (Below.refl _ _) 1
  have hzd : w.drew.heap.size = w.heap.size := rfl
  have HZD := Lib.hid hzd
  have HTI := Lib.hid h.ti
  have HS := Lib.hid hS
  clear hS hzd
  go_enter Tryz.func152, Tryz.ntmps152
  go_wp2_with fail
  go_region_held3 (fun W => W.cell? ⟨p, 0, none⟩ = some (.int .i64 (S : Int)) ∧ W.cell? ⟨p, 1, none⟩ = some (.slice (some ⟨g, 0, none⟩) (2 * S) cap))
    (first | exact ⟨c0, c1⟩ | exact ⟨d0, d1⟩ | exact ⟨(hp3.alloc _).cell 0, (hp3.alloc _).cell 1⟩)
    ((go_at_call 180; refine hcl.mono ?_; rintro e w3 ⟨⟨g', cap', rfl, hg, hc1, hc2, hB⟩, hb3⟩; have hp3 := hp0.below hb3 hplt; have d0 : w3.cell? ⟨p, 0, none⟩ = some (.int .i64 (S : Int)) := (by rw [hp3.cell]; rfl); have d1 : w3.cell? ⟨p, 1, none⟩ = some (.slice (some ⟨g, 0, none⟩) (2 * S) cap) := (by rw [hp3.cell]; rfl)))
  all_goals go_wp2_with fail
  all_goals go_ret
  all_goals
    have hbl := below_ge hbd hb3 (Nat.le_refl _)
    have hsz := hbl.size
    rw [HZD.out] at hg
    refine ⟨⟨_, g', cap', rfl, hsz, hg, ⟨HS.out, Blk.made _ _ _, hB.alloc _, HTI.out, hc1, hc2⟩⟩, hbl.alloc hsz _⟩

section
variable {w w' : World} {P : PB} {k : Option TB} {h : Nat} {r : List Bool} {xs : List Int}
set_option maxRecDepth 100000 in
theorem PClone_ok (hp : PM w P k h r xs) :
    Calls Tryz.prog 92 #[.pointer (some ⟨P.pp, 0, none⟩)] w fun e w' => ∃ P' : PB, e = .returned (.pointer (some ⟨P'.pp, 0, none⟩)) ∧ PM w' P' none h r xs ∧ (∀ i, P'.has i → w.heap.size ≤ i) ∧ Below w.heap.size w w' := by
  have c0 := hp.pw.c0
  have c1 := hp.pw.c1
  obtain ⟨t, hTM⟩ := hp.tm
  have hrt := csV_rt r (h := h) hp.hh.2
  have hcl : Calls Tryz.prog 147 #[.pointer (some ⟨P.sb.s, 0, none⟩)] w.drew _ := SClone_any (hp.sm.drewN 1)
  have hpw : PW w.drew P.pp P.sb.s P.tt k := hp.pw
  have hplt : P.pp < w.drew.heap.size := Blk.lt hp.pw
  have htm : TM w.drew P.tt P.tg P.tc (2 ^ h) (csV r 0 (2 ^ h)) t := hTM.drewN 1
  have HH := Lib.hid (And.intro hp.hh hp.hI)
  have hbd : Below w.heap.size w w.drew := below_drewN (Below.refl _ _) 1
  have hzd : w.drew.heap.size = w.heap.size := rfl
  have HZ := Lib.hid hzd
  clear hzd hp hTM
  go_enter Tryz.func92, Tryz.ntmps92
  go_wp2_with fail
  go_region_held3 (fun W => W.cell? ⟨P.pp, 0, none⟩ = some (.pointer (some ⟨P.sb.s, 0, none⟩)) ∧ W.cell? ⟨P.pp, 1, none⟩ = some (.pointer (some ⟨P.tt, 0, none⟩)))
    (first | exact ⟨c0, c1⟩ | exact ⟨d0, d1⟩ | exact ⟨e0, e1⟩ | exact ⟨f0, f1⟩)
    ((first | (go_at_call 147; refine hcl.mono ?_; rintro e w3 ⟨b', rfl, q1, q2, q3⟩; have p3 : PW w3 P.pp P.sb.s P.tt k := Blk.below hpw q3 hplt; have d0 := p3.c0; have d1 := p3.c1; have htm3 := htm.below' q3; have hct := TClone_ok htm3 hrt) | (go_at_call 152; refine hct.mono ?_; rintro e w4 ⟨⟨p', g', cap', rfl, z1, z2, z3⟩, hB4⟩; have p4 : PW w4 P.pp P.sb.s P.tt k := Blk.below p3 hB4 (Blk.lt p3); have e0 := p4.c0; have e1 := p4.c1; have f0 := PW.c0 (Blk.alloc p4 (.cells #[.pointer (some ⟨b'.s, 0, none⟩), .pointer (some ⟨p', 0, none⟩), .nilFunc] 108)); have f1 := PW.c1 (Blk.alloc p4 (.cells #[.pointer (some ⟨b'.s, 0, none⟩), .pointer (some ⟨p', 0, none⟩), .nilFunc] 108)))))
  all_goals go_wp2_with fail
  all_goals go_ret
  all_goals
    have y1 := q3.size
    have y2 := hB4.size
    have y3 := HZ.out
    have s4 := q1.below hB4
    have hgl := q1.lt (i := b'.g) (.inr (.inl rfl))
    refine ⟨⟨b', w4.heap.size, p', g', cap'⟩, rfl, ⟨s4.alloc _, Blk.made _ _ _, ⟨t, z3.below' ((Below.refl _ w4).alloc (Nat.le_refl _) _)⟩, HH.out.1, HH.out.2, by show b'.g ≠ g'; omega⟩, ?_, ?_⟩
    · rintro i (hi | hi | hi | hi)
      · have := q2 i hi; omega
      · have hi' : i = w4.heap.size := hi; omega
      · have hi' : i = p' := hi; omega
      · have hi' : i = g' := hi; omega
    · exact ((hbd.trans (q3.mono (by omega))).trans (hB4.mono (by omega))).alloc (by omega) _
end
end Go.Proofs.YtaonkbfekadalaaGreatDoor
