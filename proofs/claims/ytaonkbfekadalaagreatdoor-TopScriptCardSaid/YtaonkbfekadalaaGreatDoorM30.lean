/- Joined texts: Cv, Cw, Cx, Cy. -/
import Derived.Test.YtaonkbfekadalaaGreatDoorM29
/- Plain laws: where Open leaves a free slot; that each segment of a row has one. No program in sight. -/
namespace Go.Proofs.YtaonkbfekadalaaGreatDoor
open Go.RowKit
set_option linter.unusedVariables false

theorem upF_spec {r : List Bool} : ∀ {k i : Nat}, (∀ j, upF r k i = some j → (i ≤ j ∧ (j = i ∨ on r i = true)) ∧ j < i + k ∧ on r j = false) ∧ (upF r k i = none → ∀ q, i ≤ q → q < i + k → on r q = true)
  | 0, i => ⟨fun j h => by simp [upF] at h, fun _ q a b => by omega⟩
  | k + 1, i => by
    unfold upF
    cases e : on r i
    · exact ⟨fun j h => by
        have : i = j := by simpa using h
        subst this; exact ⟨⟨Nat.le_refl _, .inl rfl⟩, by omega, e⟩, fun h => by simp at h⟩
    · rw [if_pos rfl]
      obtain ⟨a, b⟩ := upF_spec (r := r) (k := k) (i := i + 1)
      refine ⟨fun j h => ?_, fun h q c d => ?_⟩
      · have := a j h; exact ⟨⟨by omega, .inr rfl⟩, by omega, this.2.2⟩
      · by_cases e2 : q = i
        · rw [e2]; exact e
        · exact b h q (by omega) (by omega)
theorem dnF_spec {r : List Bool} {base : Nat} : ∀ {k : Nat}, (∀ j, dnF r base k = some j → base ≤ j ∧ j < base + k ∧ on r j = false) ∧ (dnF r base k = none → ∀ q, base ≤ q → q < base + k → on r q = true)
  | 0 => ⟨fun j h => by simp [dnF] at h, fun _ q a b => by omega⟩
  | k + 1 => by
    unfold dnF
    cases e : on r (base + k)
    · exact ⟨fun j h => by
        have : base + k = j := by simpa using h
        subst this; exact ⟨by omega, by omega, e⟩, fun h => by simp at h⟩
    · rw [if_pos rfl]
      obtain ⟨a, b⟩ := dnF_spec (r := r) (base := base) (k := k)
      refine ⟨fun j h => ?_, fun h q c d => ?_⟩
      · have := a j h; exact ⟨by omega, by omega, this.2.2⟩
      · by_cases e2 : q = base + k
        · rw [e2]; exact e
        · exact b h q (by omega) (by omega)
theorem cnt_congr {r r' : List Bool} : ∀ {m : Nat}, (∀ j, j < m → on r j = on r' j) → cnt r m = cnt r' m
  | 0, _ => rfl
  | m + 1, h => by rw [cnt_succ, cnt_succ, cnt_congr fun j hj => h j (by omega), h m (by omega)]
theorem cnt_mid {r : List Bool} {i q m : Nat} (hi : i < r.length) (ho : on r i = false) (hq : on (r.set i true) q = true) (h1 : i < m) (h2 : q < m) : cnt (mid r i q) m = cnt r m := by
  unfold mid
  have a := cnt_off hq m
  rw [if_pos h2, cnt_on hi ho, if_pos h1] at a
  omega
/-- What an Open leaves. -/
theorem open_spec {r : List Bool} {sg nx : Nat} (hE : 8 * sg + 8 ≤ r.length) (h1 : 8 * sg ≤ nx) (h2 : nx ≤ 8 * sg + 8) (hp : nx = 8 * sg ∨ on r (nx - 1) = true) (hfree : ∃ j, 8 * sg ≤ j ∧ j < 8 * sg + 8 ∧ on r j = false) :
    (openV r (8 * sg) nx).1.length = r.length ∧ (8 * sg ≤ (openV r (8 * sg) nx).2 ∧ (openV r (8 * sg) nx).2 < 8 * sg + 8) ∧ on (openV r (8 * sg) nx).1 (openV r (8 * sg) nx).2 = false ∧
    (∀ j, j < 8 * sg ∨ 8 * sg + 8 ≤ j → on (openV r (8 * sg) nx).1 j = on r j) ∧ cnt (openV r (8 * sg) nx).1 (openV r (8 * sg) nx).2 = cnt r nx ∧ cnt (openV r (8 * sg) nx).1 (8 * sg + 8) = cnt r (8 * sg + 8) := by
  unfold openV
  cases e : upF r (8 * sg + 8 - nx) nx with
  | some i =>
    obtain ⟨⟨a, a2⟩, b, c⟩ := (upF_spec (r := r) (k := 8 * sg + 8 - nx) (i := nx)).1 i e
    have hi : i < r.length := by omega
    have hn : nx < r.length := by omega
    dsimp only
    refine ⟨mid_len _ _ _, ⟨h1, by omega⟩, by rw [on_mid hi hn, if_pos rfl], fun j hj => by rw [on_mid hi hn, if_neg (by omega), if_neg (by omega)], cnt_congr fun j hj => by rw [on_mid hi hn, if_neg (by omega), if_neg (by omega)], ?_⟩
    exact cnt_mid hi c (by
      rw [on_set hi]
      by_cases e3 : nx = i
      · rw [if_pos e3]
      · rw [if_neg e3]; exact a2.resolve_left fun q => e3 q.symm) (by omega) (by omega)
  | none =>
    have hall := (upF_spec (r := r) (k := 8 * sg + 8 - nx) (i := nx)).2 e
    dsimp only
    cases e2 : dnF r (8 * sg) (nx - 8 * sg) with
    | some i =>
      obtain ⟨a, b, c⟩ := (dnF_spec (r := r) (base := 8 * sg) (k := nx - 8 * sg)).1 i e2
      have ho : on r (nx - 1) = true := hp.resolve_left (by omega)
      have hne : i ≠ nx - 1 := by rintro rfl; rw [c] at ho; cases ho
      have hi : i < r.length := by omega
      have hn : nx - 1 < r.length := by omega
      dsimp only
      refine ⟨mid_len _ _ _, ⟨by omega, by omega⟩, by rw [on_mid hi hn, if_pos rfl], fun j hj => by rw [on_mid hi hn, if_neg (by omega), if_neg (by omega)], ?_, cnt_mid hi c (by rw [on_set hi, if_neg (by omega)]; exact ho) (by omega) (by omega)⟩
      unfold mid
      have q1 := cnt_off (r := r.set i true) (i := nx - 1) (by rw [on_set hi, if_neg (by omega)]; exact ho) (nx - 1)
      rw [if_neg (Nat.lt_irrefl _), cnt_on hi c, if_pos (by omega)] at q1
      have q2 := cnt_succ r (nx - 1)
      rw [show nx - 1 + 1 = nx by omega, if_pos ho] at q2
      omega
    | none =>
      have hall2 := (dnF_spec (r := r) (base := 8 * sg) (k := nx - 8 * sg)).2 e2
      obtain ⟨j, j1, j2, j3⟩ := hfree
      by_cases hj : nx ≤ j
      · rw [hall j hj (by omega)] at j3; cases j3
      · rw [hall2 j j1 (by omega)] at j3; cases j3

/-- Each segment has a free slot. -/
def Dense (r : List Bool) (h : Nat) : Prop := ∀ q, q < 2 ^ h → ∃ j, 8 * q ≤ j ∧ j < 8 * q + 8 ∧ on r j = false
/-- A share of no more than 7 leaves a slot free. -/
theorem share_free : ∀ n : Fin 8, ∃ o : Fin 8, ((o.1 : Nat) : Int) ∉ offsP n.1 := by decide
theorem sZ_le7 {n segs : Int} (hok : okB n segs = true) (h7 : n ≤ 7 * segs) (k : Int) : sZ n segs k ≤ 7 := by
  obtain ⟨p1, p2, p3, p4⟩ := okB_true hok
  unfold sZ aZ
  have e : (k + 1) * n = k * n + n := by rw [Int.add_mul, Int.one_mul]
  have h8 : (k * n + n) / segs ≤ (k * n + 7 * segs) / segs := Int.ediv_le_ediv (by omega) (by omega)
  have h9 : (k * n + 7 * segs) / segs = k * n / segs + 7 := by rw [Int.mul_comm 7 segs, Int.add_mul_ediv_left _ _ (by omega)]
  rw [e]; omega
theorem pl_free {m F M q : Nat} (hok : okB (m : Int) (M : Nat) = true) (h7 : m ≤ 7 * M) (h1 : F ≤ q) (h2 : q < F + M) : ∃ j, 8 * q ≤ j ∧ j < 8 * q + 8 ∧ ((j : Nat) : Int) ∉ pl (m : Int) (F : Nat) (M : Nat) := by
  have hs := sN_eq hok (q - F)
  have hs7 := sZ_le7 hok (by omega) ((q - F : Nat) : Int)
  obtain ⟨o, ho⟩ := share_free ⟨sN (m : Int) (M : Nat) (q - F), by omega⟩
  refine ⟨8 * q + o.1, by omega, by omega, fun hm => ho ?_⟩
  unfold pl plTo at hm
  obtain ⟨k, hk, hk2⟩ := List.mem_flatMap.1 hm
  unfold seg at hk2
  obtain ⟨o', ho', e⟩ := List.mem_map.1 hk2
  have hb : 0 ≤ o' ∧ o' < 8 := by
    unfold offsP at ho'
    obtain ⟨j, hj, rfl⟩ := List.mem_map.1 ho'
    rw [List.mem_range] at hj
    have : j * 8 / sN (m : Int) (M : Nat) k < 8 := (Nat.div_lt_iff_lt_mul (by omega)).2 (by omega)
    exact ⟨Int.natCast_nonneg _, Int.ofNat_lt.2 this⟩
  have e' : 8 * ((F : Int) + (k : Int)) + o' = ((8 * q + o.1 : Nat) : Int) := e
  have hok' : k = q - F := by omega
  subst hok'
  have : o' = (o.1 : Int) := by omega
  rw [← this]; exact ho'
theorem okB_nat {m M : Nat} (h1 : 1 ≤ M) (h2 : M ≤ 512) (h3 : m ≤ 8 * M) : okB (m : Int) (M : Nat) = true := okB_mk ⟨by omega, by omega, by omega, by omega⟩
theorem dense_size {h N : Nat} (h1 : 2 ≤ h) (h2 : h ≤ 9) (hN : N ≤ 7 * 2 ^ h) : Dense (sizeB h N) h := fun q hq => by
  have hcap : 8 * 2 ^ h = capN h := rfl
  have hM := Nat.pow_le_pow_right (n := 2) (by decide) h2
  obtain ⟨j, j1, j2, j3⟩ := pl_free (F := 0) (M := 2 ^ h) (m := N) (okB_nat Nat.one_le_two_pow hM (by omega)) hN (Nat.zero_le q) (by omega)
  refine ⟨j, j1, j2, ?_⟩
  obtain ⟨hR, hl⟩ := rising_pl h1 h2 (N := N) (by omega)
  unfold sizeB
  rw [on_putB hR (by omega), decide_eq_false]
  rintro ⟨p, p1, p2⟩
  have j3' : ((j : Nat) : Int) ∉ pl (N : Int) 0 ((2 ^ h : Nat) : Int) := j3
  refine j3' ?_
  rw [← p2]
  exact nth_mem (by omega)
theorem dense_even {r : List Bool} {F M h : Nat} (hr : Dense r h ∨ ∃ sg, F ≤ sg ∧ sg < F + M ∧ ∀ q, q < 2 ^ h → q ≠ sg → ∃ j, 8 * q ≤ j ∧ j < 8 * q + 8 ∧ on r j = false) (hM1 : 1 ≤ M) (hM : M ≤ 512) (h7 : cnt r (8 * (F + M)) - cnt r (8 * F) ≤ 7 * M) : Dense (evenB r F M) h := fun q hq => by
  by_cases hw : F ≤ q ∧ q < F + M
  · obtain ⟨j, j1, j2, j3⟩ := pl_free (F := F) (M := M) (okB_nat hM1 hM (by omega)) h7 hw.1 hw.2
    refine ⟨j, j1, j2, ?_⟩
    rw [on_evenB]
    split
    · exact decide_eq_false j3
    · exact on_end (by omega)
  · have : ∃ j, 8 * q ≤ j ∧ j < 8 * q + 8 ∧ on r j = false := by
      rcases hr with hr | ⟨sg, s1, s2, hr⟩
      · exact hr q hq
      · exact hr q hq (by omega)
    obtain ⟨j, j1, j2, j3⟩ := this
    exact ⟨j, j1, j2, by rw [on_evenB, if_neg (by omega)]; exact j3⟩
theorem within_many {n k h : Nat} (h1 : 2 ≤ h) (hw : withinV n k h = 0) : n ≤ 7 * 2 ^ k := by
  unfold withinV at hw
  split at hw
  · omega
  · rename_i h3
    have h4 : h * n ≤ manyV k h := by omega
    unfold manyV at h4
    have h5 : (7 * h - 2 * k) * 2 ^ k ≤ (7 * h) * 2 ^ k := Nat.mul_le_mul_right _ (by omega)
    have h6 : h * n ≤ h * (7 * 2 ^ k) := by
      rw [show h * (7 * 2 ^ k) = 7 * h * 2 ^ k by rw [← Nat.mul_assoc, Nat.mul_comm h 7]]; omega
    exact Nat.le_of_mul_le_mul_left h6 (by omega)
/-- Behind a step each segment has a free slot again. -/
theorem dense_step {r : List Bool} {sg h : Nat} (hl : r.length = capN h) (h1 : 2 ≤ h) (h2 : h ≤ 9) (hs : sg < 2 ^ h) (hr : ∀ q, q < 2 ^ h → q ≠ sg → ∃ j, 8 * q ≤ j ∧ j < 8 * q + 8 ∧ on r j = false) (hroom : Room r sg h) : Dense (stepB r sg h).1 (stepB r sg h).2 := by
  have hcl := cnt_le r (capN h)
  have hall := sum_all hl
  have hM := Nat.pow_le_pow_right (n := 2) (by decide) h2
  unfold stepB
  by_cases hk : pickL (csV r 0 (2 ^ h)) sg h ≤ h
  · rw [if_pos hk]
    have hw := pickL_yes hk
    have hf := winF_le hs hk
    have hle : winF sg (pickL (csV r 0 (2 ^ h)) sg h) ≤ sg ∧ sg < winF sg (pickL (csV r 0 (2 ^ h)) sg h) + 2 ^ pickL (csV r 0 (2 ^ h)) sg h := by
      unfold winF
      have hp : 0 < 2 ^ pickL (csV r 0 (2 ^ h)) sg h := Nat.two_pow_pos _
      have a := Nat.div_mul_le_self sg (2 ^ pickL (csV r 0 (2 ^ h)) sg h)
      have b := Nat.div_add_mod sg (2 ^ pickL (csV r 0 (2 ^ h)) sg h)
      have c := Nat.mod_lt sg hp
      rw [Nat.mul_comm] at b
      exact ⟨a, by omega⟩
    have hsum := sum_csV r (2 ^ h) (winF sg (pickL (csV r 0 (2 ^ h)) sg h)) (2 ^ pickL (csV r 0 (2 ^ h)) sg h) hf
    refine dense_even (.inr ⟨sg, hle.1, hle.2, hr⟩) Nat.one_le_two_pow (Nat.le_trans (Nat.le_trans (Nat.le_add_left _ _) hf) hM) ?_
    have h7 := within_many h1 hw
    omega
  · rw [if_neg hk]
    by_cases hf : withinV (sumR (csV r 0 (2 ^ h)) 0 (2 ^ h)).toNat h h < 0
    · rw [if_pos hf]
      obtain ⟨h3, h4⟩ := few_half h1 hf
      rw [hall, hl] at h4 hf
      refine dense_size (by omega) (by omega) ?_
      unfold withinV at hf
      split at hf
      · omega
      · split at hf
        · rename_i h5 h6
          unfold fewV at h6
          rw [if_neg (by omega), show (h + h) * 2 ^ h = h * (2 * 2 ^ h) by rw [← Nat.mul_assoc, Nat.mul_comm h 2, Nat.two_mul]] at h6
          have h7 := Nat.lt_of_mul_lt_mul_left h6
          have h8 : 2 ^ h = 2 * 2 ^ (h - 1) := by
            obtain ⟨m, rfl⟩ : ∃ m, h = m + 1 := ⟨h - 1, by omega⟩
            rw [Nat.add_sub_cancel, Nat.pow_succ, Nat.mul_comm]
          omega
        · omega
    · rw [if_neg hf]
      have h9 : h < 9 := (hroom (by omega)).resolve_left hf
      have hcap : capN h = 8 * 2 ^ h := rfl
      exact dense_size (by omega) (by omega) (by rw [Nat.pow_succ]; omega)
/-- With no more than 2560 elements there is room. -/
theorem room_of {r : List Bool} {sg h : Nat} (hl : r.length = capN h) (hs : sg < 2 ^ h) (h2 : h ≤ 9) (hN : cnt r (capN h) ≤ 2560) : Room r sg h := fun hk => by
  by_cases h9 : h < 9
  · exact .inr h9
  · obtain rfl : h = 9 := by omega
    have hno := pickL_no hk
    have hw : winF sg 9 = 0 := by unfold winF; rw [Nat.div_eq_of_lt hs, Nat.zero_mul]
    rw [hw] at hno
    have hall := sum_all hl
    rw [hl] at hall
    rw [hall] at hno ⊢
    left
    unfold withinV at hno ⊢
    have e : manyV 9 9 = 45 * 512 := by decide
    rw [e] at hno ⊢
    rw [Int.toNat_natCast] at hno ⊢
    split at hno
    · omega
    · split at hno
      · rename_i a b
        rw [if_neg a, if_pos b]; decide
      · exact absurd rfl hno
end Go.Proofs.YtaonkbfekadalaaGreatDoor
/- Insert and Delete of a row. -/
namespace Go.Proofs.YtaonkbfekadalaaGreatDoor
open Go.RowKit
set_option linter.unusedVariables false

/-- The memory of a row, with any counts in the tree. -/
structure QM (w : World) (P : PB) (k : Option TB) (h : Nat) (r : List Bool) (xs cs t : List Int) : Prop where
  sm : SM w P.sb (capN h) r xs
  pw : PW w P.pp P.sb.s P.tt k
  tm : ∃ u, TM w P.tt P.tg P.tc (2 ^ h) cs u
  tk : TK w k t
  hT : Tab w
  hI : ∀ j, inH (nth xs j)
  ne : P.sb.g ≠ P.tg
section
variable {w w' : World} {P : PB} {k : Option TB} {h T : Nat} {r r' : List Bool} {xs xs' cs cs' t t' L : List Int} {pd : Option Int}
theorem RP.q (hp : RP w P k h r xs t L pd T) : QM w P k h r xs (csV r 0 (2 ^ h)) t := ⟨hp.pm.sm, hp.pm.pw, hp.pm.tm, hp.tk, hp.hT, hp.pm.hI, hp.pm.ne⟩
theorem QM.rp (q : QM w P k h r xs (csV r 0 (2 ^ h)) t) (hh : 2 ≤ h ∧ h ≤ 9) (hi : its r xs = L) (ha : ∀ b, k = some b → Agree t L (pos r) pd) (hl : t.length = T) : RP w P k h r xs t L pd T := ⟨⟨q.sm, q.pw, q.tm, hh, q.hI, q.ne⟩, q.tk, q.hT, hi, ha, hl⟩
theorem QM.below (q : QM w P k h r xs cs t) (hb : Below w.heap.size w w') : QM w' P k h r xs cs t :=
  ⟨q.sm.below hb, Blk.below q.pw hb (Blk.lt q.pw), q.tm.imp fun u hu => hu.below' hb, q.tk.below hb, q.hT.below hb, q.hI, q.ne⟩
theorem TK.onlyX {X : Nat → Prop} (h : TK w k t) (ho : Only X w w') (hX : ∀ i, X i → ∃ ty cs, Blk w i ty cs ∧ ty ≠ 55 ∧ ty ≠ 101 ∧ ty ≠ 133) : TK w' k t := h.only ho (by
  rintro b rfl
  obtain ⟨⟨e1, e2, e3⟩, _⟩ := h
  refine ⟨fun q => ?_, fun q => ?_, fun q => ?_, fun q => ?_⟩
  · obtain ⟨ty, cs, hb, n1, n2, n3⟩ := hX _ q; exact hb.ne_ e1 n1 rfl
  · obtain ⟨ty, cs, hb, n1, n2, n3⟩ := hX _ q; exact hb.ne_ e2 n2 rfl
  · obtain ⟨ty, cs, hb, n1, n2, n3⟩ := hX _ q; exact hb.ne_ e3.hp n3 rfl
  · obtain ⟨ty, cs, hb, n1, n2, n3⟩ := hX _ q; exact e3.hm.not_cells hb rfl)
/-- What kinds of blocks the slots' are. -/
theorem SM.kinds {b : SB} {n : Nat} (h : SM w b n r xs) : (∃ cs, Blk w b.s 149 cs) ∧ (∃ cs, Blk w b.g 3 cs) ∧ (∃ cs, Blk w b.p 189 cs) ∧ ∃ cs, Blk w b.k 191 cs := by
  obtain ⟨cs, hh, _⟩ := h.hb.hg
  obtain ⟨c2, h2, _⟩ := h.hx
  exact ⟨⟨_, h.hs⟩, ⟨_, h2⟩, ⟨_, h.hb.hp⟩, ⟨_, hh⟩⟩
theorem QM.tgk (q : QM w P k h r xs cs t) : (∃ c, Blk w P.tt 161 c) ∧ ∃ c, Blk w P.tg 3 c := by
  obtain ⟨u, hu⟩ := q.tm
  obtain ⟨c, hc, _⟩ := hu.hg
  exact ⟨⟨_, hu.hp⟩, ⟨_, hc⟩⟩
theorem QM.put (q : QM w P k h r xs cs t) (hs : SM w' P.sb (capN h) r' xs') (ho : Only P.sb.mv w w') (hI : ∀ j, inH (nth xs' j)) : QM w' P k h r' xs' cs t ∧ Only (P.mv k) w w' := by
  obtain ⟨⟨c1, k1⟩, ⟨c2, k2⟩, ⟨c3, k3⟩, ⟨c4, k4⟩⟩ := q.sm.kinds
  obtain ⟨⟨d1, l1⟩, ⟨d2, l2⟩⟩ := q.tgk
  have e1 : ¬ P.sb.mv P.pp := by
    rintro (e | e)
    · exact Blk.ne_ q.pw k2 (by decide) e
    · exact Blk.ne_ q.pw k4 (by decide) e
  have e2 : ¬ P.sb.mv P.tt := by
    rintro (e | e)
    · exact l1.ne_ k2 (by decide) e
    · exact l1.ne_ k4 (by decide) e
  have e3 : ¬ P.sb.mv P.tg := by
    rintro (e | e)
    · exact q.ne e.symm
    · exact l2.ne_ k4 (by decide) e
  have e4 : ∀ i, P.sb.mv i → ∃ ty cs, Blk w i ty cs ∧ ty ≠ 55 ∧ ty ≠ 101 ∧ ty ≠ 133 := by
    rintro i (rfl | rfl)
    · exact ⟨_, _, k2, by decide, by decide, by decide⟩
    · exact ⟨_, _, k4, by decide, by decide, by decide⟩
  have e5 : Only (P.mv k) w w' := ho.mono fun i _ hi => .inl (.inl (by
    rcases hi with e | e
    · exact .inr (.inl e)
    · exact .inr (.inr (.inr e))))
  exact ⟨⟨hs, Blk.only q.pw ho e1, q.tm.imp fun u hu => hu.only ho e2 e3, q.tk.onlyX ho e4, q.hT.only ho (q.sm.ne2 q.hT), hI, q.ne⟩, e5⟩
theorem QM.tell (q : QM w P k h r xs cs t) (ht : TK w' k t') (ho : Only (mvK k) w w') : QM w' P k h r xs cs t' ∧ Only (P.mv k) w w' := by
  obtain ⟨⟨c1, k1⟩, ⟨c2, k2⟩, ⟨c3, k3⟩, ⟨c4, k4⟩⟩ := q.sm.kinds
  obtain ⟨⟨d1, l1⟩, ⟨d2, l2⟩⟩ := q.tgk
  refine ⟨⟨q.sm.only ho ?_, Blk.only q.pw ho (q.tk.far q.pw (by decide)), q.tm.imp fun u hu => hu.only ho (q.tk.far l1 (by decide)) (q.tk.far l2 (by decide)), ht, q.hT.only ho (q.tk.ne2 q.hT), q.hI, q.ne⟩, ho.mono fun i _ hi => .inr hi⟩
  rintro i (rfl | rfl | rfl | rfl)
  · exact q.tk.far k1 (by decide)
  · exact q.tk.far k2 (by decide)
  · exact q.tk.far k3 (by decide)
  · exact q.tk.far k4 (by decide)
theorem QM.tg2 (q : QM w P k h r xs cs t) (hl : cs.length = 2 ^ h) : P.tg ≠ 2 := by
  obtain ⟨u, tm0⟩ := q.tm
  obtain ⟨csg, hg0, hv⟩ := tm0.hg
  refine hg0.ne2 q.hT ?_
  intro v hu
  have hz : 0 < u.length := by rw [tm0.ti.1, tm0.hS]; have := Nat.one_le_two_pow (n := h); omega
  rw [hv 0 hz] at hu
  cases hu
theorem QM.add (q : QM w P k h r xs cs t) (hl : cs.length = 2 ^ h) (hm : ∃ u, TM w' P.tt P.tg P.tc (2 ^ h) cs' u) (hg : w.grownBy w' (some P.tg)) : QM w' P k h r xs cs' t ∧ Only (P.mv k) w w' := by
  have ho : Only (fun i => i = P.tg) w w' := Only.of_grown hg (fun r e => by injection e with e; exact e.symm)
  obtain ⟨⟨c1, k1⟩, ⟨c2, k2⟩, ⟨c3, k3⟩, ⟨c4, k4⟩⟩ := q.sm.kinds
  obtain ⟨⟨d1, l1⟩, ⟨d2, l2⟩⟩ := q.tgk
  refine ⟨⟨q.sm.only ho ?_, Blk.only q.pw ho (Blk.ne_ q.pw l2 (by decide)), hm, q.tk.onlyX ho (by rintro i rfl; exact ⟨_, _, l2, by decide, by decide, by decide⟩), q.hT.only ho (by rintro i rfl; exact q.tg2 hl), q.hI, q.ne⟩, ho.mono fun i _ hi => .inl (.inr (.inr (.inr hi)))⟩
  rintro i (rfl | rfl | rfl | rfl)
  · exact k1.ne_ l2 (by decide)
  · exact q.ne
  · exact k3.ne_ l2 (by decide)
  · exact k4.ne_ l2 (by decide)
/-- The row as its moves see it. -/
def PB.rg (P : PB) (k : Option TB) : RGB := ⟨P.sb, P.pp, P.tt, k, .dir, 0, 0, 0⟩
theorem RP.rb (hp : RP w P k h r xs t L pd T) : RB w (P.rg k) (capN h) r xs t L pd T :=
  ⟨hp.pm.sm, hp.tk, hp.pm.pw, trivial, hp.hT, hp.pm.hI, fun a b e => (by cases e), hp.its, hp.ag, hp.tl⟩
theorem QM.opened (q : QM w P k h r xs cs t) (hb : RB w' (P.rg k) (capN h) r' xs' t' L pd T) (ho : Only (P.rg k).mb w w') : QM w' P k h r' xs' cs t' ∧ Only (P.mv k) w w' := by
  obtain ⟨⟨c1, k1⟩, ⟨c2, k2⟩, ⟨c3, k3⟩, ⟨c4, k4⟩⟩ := q.sm.kinds
  obtain ⟨⟨d1, l1⟩, ⟨d2, l2⟩⟩ := q.tgk
  have e2 : ¬ (P.rg k).mb P.tt := by
    rintro ((e | e) | e | e)
    · exact l1.ne_ k2 (by decide) e
    · exact l1.ne_ k4 (by decide) e
    · exact q.tk.far l1 (by decide) e
    · exact e
  have e3 : ¬ (P.rg k).mb P.tg := by
    rintro ((e | e) | e | e)
    · exact q.ne e.symm
    · exact l2.ne_ k4 (by decide) e
    · exact q.tk.far l2 (by decide) e
    · exact e
  have e5 : Only (P.mv k) w w' := ho.mono fun i _ hi => by
    rcases hi with (e | e) | e | e
    · exact .inl (.inl (.inr (.inl e)))
    · exact .inl (.inl (.inr (.inr (.inr e))))
    · exact .inr e
    · exact e.elim
  exact ⟨⟨hb.sm, hb.pw, q.tm.imp fun u hu => hu.only ho e2 e3, hb.tk, hb.hT, hb.hI, q.ne⟩, e5⟩
end
end Go.Proofs.YtaonkbfekadalaaGreatDoor
/- Insert and Delete of a row: the walks. -/
namespace Go.Proofs.YtaonkbfekadalaaGreatDoor
open Go.RowKit
set_option linter.unusedVariables false

section
variable {w w' : World} {P : PB} {k : Option TB} {h T : Nat} {r r' : List Bool} {xs xs' cs cs' t t' L : List Int} {pd : Option Int}
set_option maxRecDepth 100000 in
theorem PCheck_ok (hp : PM w P k h r xs) {s : Nat} (hs : on r s = true) :
    Calls Tryz.prog 71 #[.pointer (some ⟨P.pp, 0, none⟩), .int .i64 (s : Nat)] w fun e w' => e = .returned (.int .i64 0) ∧ w = w' := by
  have c0 := hp.pw.c0
  have hc := SCap_ok hp.sm
  have hat := SAt_any hp.sm (s : Int)
  rw [hasB_nat, hs] at hat
  have hn := hp.sm.hn
  have hlt := on_lt hs
  rw [hp.lr] at hlt
  have t1 : decide ((s : Int) < 0) = false := by simp
  have t2 : decide ((s : Int) ≥ (capN h : Nat)) = false := by simp; omega
  generalize atV r xs (s : Int) = z at *
  generalize capN h = c at *
  go_enter Tryz.func71, Tryz.ntmps71
  go_wp2_with fail
  refine hc.mono ?_
  rintro e w1 ⟨rfl, rfl⟩
  go_wp2_with fail
  refine hat.mono ?_
  rintro e w1 ⟨rfl, rfl⟩
  go_wp2_with fail
  go_ret
  exact ⟨rfl, rfl⟩
set_option maxRecDepth 100000 in
theorem PAt_any (hp : PM w P k h r xs) (i : Int) :
    Calls Tryz.prog 201 #[.pointer (some ⟨P.pp, 0, none⟩), .int .i64 i] w fun e w' => e = .returned (.tuple #[.int .i64 (atV r xs i), .bool (hasB r i)]) ∧ w = w' := by
  have c0 := hp.pw.c0
  have hat := SAt_any hp.sm i
  generalize atV r xs i = z at *
  generalize hasB r i = y at *
  go_enter Tryz.func201, Tryz.ntmps201
  go_wp2_with fail
  refine hat.mono ?_
  rintro e w1 ⟨rfl, rfl⟩
  go_wp2_with fail
  go_ret2
  exact ⟨rfl, rfl⟩
set_option maxRecDepth 100000 in
theorem PCounts_ok (hp : PM w P k h r xs) :
    Calls Tryz.prog 91 #[.pointer (some ⟨P.pp, 0, none⟩)] w fun e w' => (∃ g' cap', e = .returned (.slice (some ⟨g', 0, none⟩) (2 ^ h) cap') ∧ w.heap.size ≤ g' ∧ 2 ^ h ≤ cap' ∧ BI w' g' (csV r 0 (2 ^ h))) ∧ Below w.heap.size w w' := by
  have c1 := hp.pw.c1
  obtain ⟨u, hu⟩ := hp.tm
  have hc := TCountsC_ok hu (csV_rt r (h := h) hp.hh.2)
  generalize csV r 0 (2 ^ h) = cs at *
  generalize 2 ^ h = d at *
  go_enter Tryz.func91, Tryz.ntmps91
  go_wp2_with fail
  refine hc.mono ?_
  rintro e w1 ⟨⟨g', cap', rfl, h1, h2, h3⟩, hB⟩
  go_wp2_with fail
  go_ret
  exact ⟨⟨g', cap', rfl, h1, h2, h3⟩, hB⟩
/-- A row is told of moves from now on. -/
theorem PTell_ok {f : Value} (hp : PM w P none h r xs) {b : TB} (hf : f = toldV (some b)) :
    Calls Tryz.prog 94 #[.pointer (some ⟨P.pp, 0, none⟩), f] w fun e w' => (∃ v, e = .returned v) ∧ PW w' P.pp P.sb.s P.tt (some b) ∧ Only (fun i => i = P.pp) w w' := by
  have hb : Blk w P.pp 108 #[.pointer (some ⟨P.sb.s, 0, none⟩), .pointer (some ⟨P.tt, 0, none⟩), .nilFunc] := hp.pw
  obtain ⟨c0, c1, c2⟩ := hb.three
  have f2 := hb.frozen 2
  have hput : PW (w.setCell ⟨P.pp, 2, none⟩ f) P.pp P.sb.s P.tt (some b) := by
    have := hb.put 2 f
    unfold PW
    rw [← hf]
    simpa using this
  have hO : Only (fun i => i = P.pp) w (w.setCell ⟨P.pp, 2, none⟩ f) := (Only.refl (fun i => i = P.pp) w).put (p := ⟨P.pp, 2, none⟩) (.inl rfl) _
  clear hp
  unfold toldV at hf
  dsimp only at hf
  subst hf
  have hst := fun (w : World) => run_store Tryz.prog w ⟨P.pp, 2, none⟩ (.func (.func 95) #[] #[.pointer (some ⟨b.bx, 0, none⟩)]) .plain rfl
  go_enter Tryz.func94, Tryz.ntmps94
  go_wp2_with fail
  go_end0
  exact ⟨⟨_, rfl⟩, hput, hO⟩
/-- What an Insert makes of the slots, ahead of its step. -/
def insB (r : List Bool) (sg nx : Nat) : List Bool := (openV r (8 * sg) nx).1.set (openV r (8 * sg) nx).2 true
theorem segC_on {r : List Bool} {sg s : Nat} (hs : s < r.length) (h1 : 8 * sg ≤ s) (h2 : s < 8 * sg + 8) (ho : on r s = false) : segC (r.set s true) sg = segC r sg + 1 := by
  have a := cnt_on hs ho (8 * sg + 8)
  have b := cnt_on hs ho (8 * sg)
  have c := cnt_mono r (show 8 * sg ≤ 8 * sg + 8 by omega)
  rw [if_pos h2] at a
  rw [if_neg (by omega)] at b
  unfold segC
  omega
theorem segC_off {r : List Bool} {sg s : Nat} (h1 : 8 * sg ≤ s) (h2 : s < 8 * sg + 8) (ho : on r s = true) : segC (r.set s false) sg + 1 = segC r sg := by
  have a := cnt_off ho (8 * sg + 8)
  have b := cnt_off ho (8 * sg)
  have c := cnt_mono (r.set s false) (show 8 * sg ≤ 8 * sg + 8 by omega)
  rw [if_pos h2] at a
  rw [if_neg (by omega)] at b
  unfold segC
  omega
theorem csV_set {r r' : List Bool} {n sg : Nat} (hs : sg < n) (hl : ∀ q, q ≠ sg → segC r' q = segC r q) {v : Int} (hv : ((segC r' sg : Nat) : Int) = v) : csV r' 0 n = (csV r 0 n).set sg v := by
  apply nth_ext (by rw [List.length_set, csV_len, csV_len])
  intro q hq
  rw [csV_len] at hq
  rw [nth_set (by rw [csV_len]; exact hs), nth_csV hq, nth_csV hq, Nat.zero_add]
  by_cases e : q = sg
  · rw [if_pos e, e, hv]
  · rw [if_neg e, hl q e]
theorem open_seg {r : List Bool} {sg nx : Nat} (hE : 8 * sg + 8 ≤ r.length) (h1 : 8 * sg ≤ nx) (h2 : nx ≤ 8 * sg + 8) (hp : nx = 8 * sg ∨ on r (nx - 1) = true) (hfree : ∃ j, 8 * sg ≤ j ∧ j < 8 * sg + 8 ∧ on r j = false) :
    (∀ q, q ≠ sg → segC (insB r sg nx) q = segC r q) ∧ segC (insB r sg nx) sg = segC r sg + 1 := by
  obtain ⟨a, ⟨b1, b2⟩, c, d, e, hcnt⟩ := open_spec hE h1 h2 hp hfree
  have hlow : cnt (openV r (8 * sg) nx).1 (8 * sg) = cnt r (8 * sg) := cnt_congr fun j hj => d j (.inl hj)
  refine ⟨fun q hq => ?_, ?_⟩
  · unfold insB
    refine segC_congr fun j q1 q2 => ?_
    rw [on_set (by omega), if_neg (by omega)]
    exact d j (by omega)
  · unfold insB
    rw [segC_on (by omega) b1 b2 c]
    unfold segC
    omega
theorem cnt_split {r r' : List Bool} {a : Nat} : ∀ {b : Nat}, a ≤ b → (∀ j, a ≤ j → j < b → on r j = on r' j) → cnt r b + cnt r' a = cnt r' b + cnt r a
  | 0, h, _ => by obtain rfl : a = 0 := by omega
                  omega
  | b + 1, h, hh => by
    by_cases e : a = b + 1
    · subst e; omega
    · have ih := cnt_split (r := r) (r' := r') (a := a) (b := b) (by omega) fun j q1 q2 => hh j q1 (by omega)
      rw [cnt_succ, cnt_succ, hh b (by omega) (by omega)]
      omega
theorem ins_rp {w1 w4 : World} {G : RGB} {r1 : List Bool} {xs1 t1 : List Int} {s1 i : Nat} {x : Int} (hh : 2 ≤ h ∧ h ≤ 9) (hR : RB w1 G (capN h) r1 xs1 t1 L pd T) (q4 : QM w4 P G.k h (r1.set s1 true) (xs1.set s1 x) (csV (r1.set s1 true) 0 (2 ^ h)) (tellV t1 x (s1 : Int)))
    (ho : on r1 s1 = false) (hs : s1 < r1.length) (hpos : cnt r1 s1 = i) (hpd : ∀ b, G.k = some b → pd = some x) (h4 : s1 < 4096) : RP w4 P G.k h (r1.set s1 true) (xs1.set s1 x) (tellV t1 x (s1 : Int)) (insI L i x) none T := by
  have hl : xs1.length = r1.length := by rw [hR.sm.hl, hR.sm.lr]
  refine q4.rp hh ?_ ?_ (by rw [tellV_len, hR.tl])
  · rw [its_put hl hs ho, hR.its, hpos]; rfl
  · intro b hb
    have ha := hR.ag b hb
    rw [hpd b hb] at ha
    have hi : i ≤ L.length := by
      rw [← hR.its, its_len, ← hpos]
      exact cnt_mono _ (by omega)
    rw [pos_put hs ho, hpos]
    have := ha.put hi (x := (s1 : Int)) ⟨by omega, by omega⟩
    unfold tellV
    rw [if_pos (by omega)]
    exact this.2.2
set_option maxRecDepth 100000 in
set_option maxHeartbeats 4000000 in
theorem PInsert_ok (hp : RP w P k h r xs t L pd T) (hd : Dense r h) (hN : cnt r (capN h) < 2560) {sg nx : Nat} {bh x : Int} (hsg : sg < 2 ^ h) (hb : (bh = -1 ∧ sg = 0 ∧ nx = 0) ∨ (∃ b : Nat, bh = b ∧ sg = b / 8 ∧ on r b = true ∧ nx = b + 1)) (hx : inH x) (hpd : ∀ b, k = some b → pd = some x) :
    Calls Tryz.prog 24 #[.pointer (some ⟨P.pp, 0, none⟩), .int .i64 bh, .int .i64 x] w fun e w' =>
      (∃ sl, e = .returned (.tuple #[.int .i64 sl, stepE (pickV (csV (insB r sg nx) 0 (2 ^ h)) sg h), .int .i64 0])) ∧
      (∃ (P' : PB) (xs' t' : List Int), RP w' P' k (stepB (insB r sg nx) sg h).2 (stepB (insB r sg nx) sg h).1 xs' t' (insI L (cnt r nx) x) none T ∧ P'.pp = P.pp ∧ ∀ i, P'.has i → P.has i ∨ w.heap.size ≤ i) ∧
      Only (P.mv k) w w' ∧ Dense (stepB (insB r sg nx) sg h).1 (stepB (insB r sg nx) sg h).2 := by
  obtain ⟨h1, h2⟩ := hp.pm.hh
  have lr := hp.pm.lr
  have hn := hp.pm.sm.hn
  have hcap : 8 * 2 ^ h = capN h := rfl
  have hE : 8 * sg + 8 ≤ r.length := by omega
  have hnx : 8 * sg ≤ nx ∧ nx ≤ 8 * sg + 8 ∧ (nx = 8 * sg ∨ on r (nx - 1) = true) := by
    rcases hb with ⟨_, rfl, rfl⟩ | ⟨b, _, rfl, ho, rfl⟩
    · exact ⟨by omega, by omega, .inl rfl⟩
    · exact ⟨by omega, by omega, .inr (by rw [Nat.add_sub_cancel]; exact ho)⟩
  have hfree := hd sg hsg
  obtain ⟨g1, g2⟩ := open_seg hE hnx.1 hnx.2.1 hnx.2.2 hfree
  obtain ⟨o1, ⟨o2, o3⟩, o4, o5, o6, o7⟩ := open_spec hE hnx.1 hnx.2.1 hnx.2.2 hfree
  have hob : (bh = -1 ∧ nx = 8 * sg) ∨ (∃ k : Nat, bh = k ∧ 8 * sg ≤ k ∧ k < 8 * sg + 8 ∧ on r k = true ∧ nx = k + 1) := by
    rcases hb with ⟨e1, rfl, rfl⟩ | ⟨b, e1, rfl, ho, rfl⟩
    · exact .inl ⟨e1, rfl⟩
    · exact .inr ⟨b, e1, by omega, by omega, ho, rfl⟩
  have b0 := Blk.made w 30 #[.int .i64 0, .int .i64 0, .int .i64 0, .int .i64 0]
  have hB0 : Below w.heap.size w (w.alloc (.cells #[.int .i64 0, .int .i64 0, .int .i64 0, .int .i64 0] 30)) := (Below.refl _ w).alloc (Nat.le_refl _) _
  have hz0 : (w.alloc (.cells #[.int .i64 0, .int .i64 0, .int .i64 0, .int .i64 0] 30)).heap.size = w.heap.size + 1 := by simp
  have hp0 := hp.below hB0
  generalize hW0 : w.alloc (.cells #[.int .i64 0, .int .i64 0, .int .i64 0, .int .i64 0] 30) = W0 at *
  have hop := Open_ok (hp0.rb) (by rw [← lr]; exact hE) hob hfree
  have hins : insB r sg nx = (openV r (8 * sg) nx).1.set (openV r (8 * sg) nx).2 true := rfl
  rw [hins] at g1 g2 ⊢
  clear hins
  generalize hV : openV r (8 * sg) nx = V at *
  obtain ⟨r1, s1⟩ := V
  dsimp only at hop o1 o2 o3 o4 o5 o6 o7 g1 g2 ⊢
  have hs1 : s1 < r1.length := by omega
  have hdense : Dense (stepB (r1.set s1 true) sg h).1 (stepB (r1.set s1 true) sg h).2 ∧ Room (r1.set s1 true) sg h := by
    have hl : (r1.set s1 true).length = capN h := by rw [List.length_set, o1, lr]
    have hroom : Room (r1.set s1 true) sg h := room_of hl hsg h2 (by
      have a := cnt_on hs1 o4 (capN h)
      rw [if_pos (by omega)] at a
      have b : cnt r1 (capN h) = cnt r (capN h) := by
        have e1 := cnt_split (r := r1) (r' := r) (a := 8 * sg + 8) (b := capN h) (by omega) (fun j q1 q2 => o5 j (.inr q1))
        omega
      omega)
    refine ⟨dense_step hl h1 h2 hsg (fun q hq hne => ?_) hroom, hroom⟩
    obtain ⟨j, j1, j2, j3⟩ := hd q hq
    exact ⟨j, j1, j2, by rw [on_set hs1, if_neg (by omega), o5 j (by omega)]; exact j3⟩
  obtain ⟨hden, hroom⟩ := hdense
  have hcs : csV (r1.set s1 true) 0 (2 ^ h) = (csV r 0 (2 ^ h)).set sg (nth (csV r 0 (2 ^ h)) sg + 1) := csV_set hsg g1 (by rw [nth_csV hsg, Nat.zero_add, g2]; push_cast; rfl)
  have hle8 : nth (csV r 0 (2 ^ h)) sg + 1 ≤ 8 := by
    have := segC_le (r1.set s1 true) sg
    rw [nth_csV hsg, Nat.zero_add]; omega
  have hge0 : 0 ≤ nth (csV r 0 (2 ^ h)) sg := by rw [nth_csV hsg]; omega
  have hrt := csV_rt r (h := h) h2
  have hslen := SLen_ok hp0.pm.sm
  have d0 := hp0.pm.pw.c0
  have t2560 : decide ((cnt r (capN h) : Int) ≥ 2560) = false := by simp; omega
  have hnot : ¬ P.mv k w.heap.size := by
    rintro (q | q)
    · have := hp.pm.lt q; omega
    · cases k with
      | none => exact q
      | some b =>
        obtain ⟨l1, l2, l3, l4⟩ := hp.tk.lt b rfl
        rcases q with q | q <;> omega
  unfold tellF PB.rg at hop
  dsimp only at hop
  have hend : ∀ (w5 W : World) (P' : PB) (xs' t' : List Int) (h' : Nat) (r5 : List Bool), RP w5 P' k h' r5 xs' t' (insI L (cnt r nx) x) none T → Only (P.mv k) w w5 → (∀ i, P'.has i → P.has i ∨ w.heap.size + 1 ≤ i) → Only (fun i => i = w.heap.size) w5 W →
      RP W P' k h' r5 xs' t' (insI L (cnt r nx) x) none T ∧ Only (P.mv k) w W := by
    intro w5 W P' xs' t' h' r5 hp5 hO5 hf hW
    refine ⟨⟨hp5.pm.only hW ?_, hp5.tk.only hW ?_, hp5.hT.only hW ?_, hp5.its, hp5.ag, hp5.tl⟩, hO5.trans' hW fun i hi q => absurd q (by omega)⟩
    · rintro i hi rfl
      rcases hf _ hi with q | q
      · have := hp.pm.lt q; omega
      · omega
    · rintro b rfl
      obtain ⟨l1, l2, l3, l4⟩ := hp.tk.lt b rfl
      refine ⟨?_, ?_, ?_, ?_⟩ <;> omega
    · rintro i rfl
      have := hp.hT.pos; omega
  have HEND := Lib.hid hend
  clear hend
  have HX := Lib.hid hx
  have HPD := Lib.hid hpd
  have HP0 := Lib.hid hp0
  have HCS := Lib.hid hcs
  have HRT := Lib.hid hrt
  have HPOS := Lib.hid o6
  have HBD := Lib.hid (And.intro hle8 hge0)
  have HSEG := Lib.hid (show sg < 2 ^ h from hsg)
  have HROOM := Lib.hid hroom
  have HDEN := Lib.hid hden
  have HOFF := Lib.hid o4
  have hs4 : s1 < 4096 := by omega
  have O1 := Lib.hid o1
  have HS1 := Lib.hid hs1
  clear hcs hrt o6 hle8 hge0 hroom hden o4 o5 o7 o1 o2 o3 g1 g2 hob hfree hnx hx hpd
  have hchk : ∀ b : Nat, on r b = true → Calls Tryz.prog 71 #[.pointer (some ⟨P.pp, 0, none⟩), .int .i64 (b : Nat)] W0 fun e w' => e = .returned (.int .i64 0) ∧ W0 = w' := fun b hb => PCheck_ok hp0.pm hb
  obtain ⟨S, hS⟩ : ∃ S : Int, S = (sg : Nat) := ⟨_, rfl⟩
  have hadd : ∀ (W : World) (u : List Int), TM W P.tt P.tg P.tc (2 ^ h) (csV r 0 (2 ^ h)) u → Calls Tryz.prog 76 #[.pointer (some ⟨P.tt, 0, none⟩), .int .i64 S, .int .i64 1] W _ := fun W u hu => by rw [hS]; exact TAdd_ok hu HRT.out sg 1 HSEG.out (by decide) ⟨by have := HBD.out.2; omega, HBD.out.1⟩
  have hstp : ∀ (W : World) (P' : PB) (x1 t1 : List Int), RP W P k h (r1.set s1 true) x1 t1 (insI L (cnt r nx) x) none T → Calls Tryz.prog 77 #[.pointer (some ⟨P.pp, 0, none⟩), .int .i64 S, .int .i64 (s1 : Nat)] W _ := fun W P' x1 t1 hpW => by rw [hS]; exact step_any hpW HSEG.out (s1 : Int) (by omega) (by have := HS1.out; have := O1.out; omega) HROOM.out
  rw [← hS] at hop
  have HADD := Lib.hid hadd
  have HSTP := Lib.hid hstp
  clear hadd hstp
  rcases hb with ⟨rfl, e0, e1⟩ | ⟨b, rfl, e0, ho, e1⟩
  · obtain rfl : S = 0 := by rw [hS, e0]; rfl
    clear hS e0 e1
    go_enter Tryz.func24, Tryz.ntmps24
    go_wp2_with fail
    refine hslen.mono ?_
    rintro e w1 ⟨rfl, rfl⟩
    go_wp2_with fail
    refine hop.mono ?_
    rintro e w1 ⟨rfl, ⟨xs1, t1, hR1⟩, hO1⟩
    obtain ⟨q1, hP1⟩ := HP0.out.q.opened hR1 hO1
    have hput := SPut_ok q1.sm s1 (by have := HS1.out; have := O1.out; omega) HOFF.out x
    have d1 := q1.pw.c0
    go_wp2_with fail
    refine hput.mono ?_
    rintro e w2 ⟨rfl, hSM2, hO2⟩
    obtain ⟨q2, hP2⟩ := q1.put hSM2 hO2 (hI_set q1.hI HX.out _)
    have d2 := q2.pw.c1
    go_wp2_with fail
    refine (tell_any q2.pw q2.tk HX.out (-1) (s1 : Int)).mono ?_
    rintro e w3 ⟨⟨v, rfl⟩, hTK3, hO3⟩
    obtain ⟨q3, hP3⟩ := q2.tell hTK3 hO3
    have d3 := q3.pw.c1
    obtain ⟨u3, hu3⟩ := q3.tm
    go_wp2_with fail
    refine (HADD.out w3 u3 hu3).mono ?_
    rintro e w4 ⟨rfl, hu4, hg4⟩
    obtain ⟨q4, hP4⟩ := q3.add (by rw [csV_len]) hu4 hg4
    rw [← HCS.out] at q4
    have hO4 : Only (P.mv k) W0 w4 := hP1.trans (hP2.trans (hP3.trans hP4))
    have hp4 := ins_rp HP0.out.pm.hh hR1 q4 HOFF.out HS1.out HPOS.out HPD.out hs4
    go_wp2_with fail
    refine (HSTP.out w4 P _ _ hp4).mono ?_
    rintro e w5 ⟨⟨sl, rfl⟩, ⟨P', xs5, t5, hp5, hpp, hf5⟩, hO5⟩
    have b5 := b0.only (hO4.trans hO5) hnot
    have f5 := b5.frozens
    obtain ⟨f0, f1, f2, f3⟩ := f5
    obtain ⟨c0, c1, c2, c3⟩ := b5.four
    have HPP := Lib.hid hpp
    have HB := Lib.hid ((Only.of_below hB0).trans (hO4.trans hO5))
    have hf6 : ∀ i, P'.has i → P.has i ∨ w.heap.size + 1 ≤ i := fun i hi => (hf5 i hi).imp id fun q => by have := hO4.size; omega
    have HF := Lib.hid hf6
    clear hf6
    clear hpp hf5 hO4 hO5 hp4 q4 q3 q2 q1 hO1 hO2 hO3 hP1 hP2 hP3 hP4 hR1 hSM2 hTK3 hput hu3 hu4 hg4
    rw [show stepE (pickV (csV (r1.set s1 true) 0 (2 ^ h)) sg h) = .agg #[.int .i64 (pickV (csV (r1.set s1 true) 0 (2 ^ h)) sg h).1, .int .i64 (pickV (csV (r1.set s1 true) 0 (2 ^ h)) sg h).2.1, .int .i64 (pickV (csV (r1.set s1 true) 0 (2 ^ h)) sg h).2.2.1, .int .i64 (pickV (csV (r1.set s1 true) 0 (2 ^ h)) sg h).2.2.2] from rfl]
    go_wp2_with fail
    refine bodyPost_ret (results_t_c_t rfl _ rfl (b5.put4 _ _ _ _) Tryz.underlying30 (by kernel_rfl)) rfl ?_
    have hput5 := ((((Only.refl (fun i => i = w.heap.size) w5).put (p := ⟨w.heap.size, 0, none⟩) (.inl rfl) (.int .i64 (pickV (csV (r1.set s1 true) 0 (2 ^ h)) sg h).1)).put (p := ⟨w.heap.size, 1, none⟩) (.inl rfl) (.int .i64 (pickV (csV (r1.set s1 true) 0 (2 ^ h)) sg h).2.1)).put (p := ⟨w.heap.size, 2, none⟩) (.inl rfl) (.int .i64 (pickV (csV (r1.set s1 true) 0 (2 ^ h)) sg h).2.2.1)).put (p := ⟨w.heap.size, 3, none⟩) (.inl rfl) (.int .i64 (pickV (csV (r1.set s1 true) 0 (2 ^ h)) sg h).2.2.2)
    obtain ⟨hpW, hOW⟩ := HEND.out w5 _ P' xs5 t5 _ _ hp5 HB.out HF.out hput5
    exact ⟨⟨sl, rfl⟩, ⟨P', xs5, t5, hpW, HPP.out, fun i hi => (HF.out i hi).imp id fun q => by omega⟩, hOW, HDEN.out⟩
  · have hck := hchk b ho
    have n1 : ((b : Nat) : Int).tdiv 8 = S := by rw [hS, Int.tdiv_eq_ediv_of_nonneg (by omega)]; omega
    have t1 : ((b : Int) != -1) = true := by simp
    have sb : S ≤ 512 := by have := pow_le h2; omega
    have n2 : IntKind.i64.wrap S = S := IntWalk.i64_in _ (by omega)
    clear hS e0 e1
    go_enter Tryz.func24, Tryz.ntmps24
    go_wp2_with fail
    refine hck.mono ?_
    rintro e w1 ⟨rfl, rfl⟩
    go_wp2_with fail
    refine hslen.mono ?_
    rintro e w1 ⟨rfl, rfl⟩
    go_wp2_with fail
    refine hop.mono ?_
    rintro e w1 ⟨rfl, ⟨xs1, t1, hR1⟩, hO1⟩
    obtain ⟨q1, hP1⟩ := HP0.out.q.opened hR1 hO1
    have hput := SPut_ok q1.sm s1 (by have := HS1.out; have := O1.out; omega) HOFF.out x
    have d1 := q1.pw.c0
    go_wp2_with fail
    refine hput.mono ?_
    rintro e w2 ⟨rfl, hSM2, hO2⟩
    obtain ⟨q2, hP2⟩ := q1.put hSM2 hO2 (hI_set q1.hI HX.out _)
    have d2 := q2.pw.c1
    go_wp2_with fail
    refine (tell_any q2.pw q2.tk HX.out (-1) (s1 : Int)).mono ?_
    rintro e w3 ⟨⟨v, rfl⟩, hTK3, hO3⟩
    obtain ⟨q3, hP3⟩ := q2.tell hTK3 hO3
    have d3 := q3.pw.c1
    obtain ⟨u3, hu3⟩ := q3.tm
    go_wp2_with fail
    refine (HADD.out w3 u3 hu3).mono ?_
    rintro e w4 ⟨rfl, hu4, hg4⟩
    obtain ⟨q4, hP4⟩ := q3.add (by rw [csV_len]) hu4 hg4
    rw [← HCS.out] at q4
    have hO4 : Only (P.mv k) W0 w4 := hP1.trans (hP2.trans (hP3.trans hP4))
    have hp4 := ins_rp HP0.out.pm.hh hR1 q4 HOFF.out HS1.out HPOS.out HPD.out hs4
    go_wp2_with fail
    refine (HSTP.out w4 P _ _ hp4).mono ?_
    rintro e w5 ⟨⟨sl, rfl⟩, ⟨P', xs5, t5, hp5, hpp, hf5⟩, hO5⟩
    have b5 := b0.only (hO4.trans hO5) hnot
    have f5 := b5.frozens
    obtain ⟨f0, f1, f2, f3⟩ := f5
    obtain ⟨c0, c1, c2, c3⟩ := b5.four
    have HPP := Lib.hid hpp
    have HB := Lib.hid ((Only.of_below hB0).trans (hO4.trans hO5))
    have hf6 : ∀ i, P'.has i → P.has i ∨ w.heap.size + 1 ≤ i := fun i hi => (hf5 i hi).imp id fun q => by have := hO4.size; omega
    have HF := Lib.hid hf6
    clear hf6
    clear hpp hf5 hO4 hO5 hp4 q4 q3 q2 q1 hO1 hO2 hO3 hP1 hP2 hP3 hP4 hR1 hSM2 hTK3 hput hu3 hu4 hg4
    rw [show stepE (pickV (csV (r1.set s1 true) 0 (2 ^ h)) sg h) = .agg #[.int .i64 (pickV (csV (r1.set s1 true) 0 (2 ^ h)) sg h).1, .int .i64 (pickV (csV (r1.set s1 true) 0 (2 ^ h)) sg h).2.1, .int .i64 (pickV (csV (r1.set s1 true) 0 (2 ^ h)) sg h).2.2.1, .int .i64 (pickV (csV (r1.set s1 true) 0 (2 ^ h)) sg h).2.2.2] from rfl]
    go_wp2_with fail
    refine bodyPost_ret (results_t_c_t rfl _ rfl (b5.put4 _ _ _ _) Tryz.underlying30 (by kernel_rfl)) rfl ?_
    have hput5 := ((((Only.refl (fun i => i = w.heap.size) w5).put (p := ⟨w.heap.size, 0, none⟩) (.inl rfl) (.int .i64 (pickV (csV (r1.set s1 true) 0 (2 ^ h)) sg h).1)).put (p := ⟨w.heap.size, 1, none⟩) (.inl rfl) (.int .i64 (pickV (csV (r1.set s1 true) 0 (2 ^ h)) sg h).2.1)).put (p := ⟨w.heap.size, 2, none⟩) (.inl rfl) (.int .i64 (pickV (csV (r1.set s1 true) 0 (2 ^ h)) sg h).2.2.1)).put (p := ⟨w.heap.size, 3, none⟩) (.inl rfl) (.int .i64 (pickV (csV (r1.set s1 true) 0 (2 ^ h)) sg h).2.2.2)
    obtain ⟨hpW, hOW⟩ := HEND.out w5 _ P' xs5 t5 _ _ hp5 HB.out HF.out hput5
    exact ⟨⟨sl, rfl⟩, ⟨P', xs5, t5, hpW, HPP.out, fun i hi => (HF.out i hi).imp id fun q => by omega⟩, hOW, HDEN.out⟩
end
end Go.Proofs.YtaonkbfekadalaaGreatDoor
/- Delete of a row. -/
namespace Go.Proofs.YtaonkbfekadalaaGreatDoor
open Go.RowKit
set_option linter.unusedVariables false

section
variable {w w' : World} {P : PB} {k : Option TB} {h T : Nat} {r r' : List Bool} {xs xs' cs cs' t t' L : List Int} {pd : Option Int}
set_option maxRecDepth 100000 in
set_option maxHeartbeats 4000000 in
/-- DELETE of an occupied slot. The table is ahead: it says already of the elements without that one. -/
theorem PDelete_ok (hp : PM w P k h r xs) (htk : TK w k t) (hT : Tab w) (hd : Dense r h) (hN : cnt r (capN h) ≤ 2560) {s : Nat} (hs : on r s = true) (hL : its r xs = L) (hag : ∀ b, k = some b → Agree t (L.eraseIdx (cnt r s)) ((pos r).eraseIdx (cnt r s)) none) (htl : t.length = T) :
    Calls Tryz.prog 156 #[.pointer (some ⟨P.pp, 0, none⟩), .int .i64 (s : Nat)] w fun e w' =>
      e = .returned (.tuple #[.int .i64 (nth xs s), stepE (pickV (csV (r.set s false) 0 (2 ^ h)) (s / 8) h), .int .i64 0]) ∧
      (∃ (P' : PB) (xs' t' : List Int), RP w' P' k (stepB (r.set s false) (s / 8) h).2 (stepB (r.set s false) (s / 8) h).1 xs' t' (L.eraseIdx (cnt r s)) none T ∧ P'.pp = P.pp ∧ ∀ i, P'.has i → P.has i ∨ w.heap.size ≤ i) ∧
      Only (P.mv k) w w' ∧ Dense (stepB (r.set s false) (s / 8) h).1 (stepB (r.set s false) (s / 8) h).2 := by
  obtain ⟨h1, h2⟩ := hp.hh
  have lr := hp.lr
  have hn := hp.sm.hn
  have hlt := on_lt hs
  have hcap : 8 * 2 ^ h = capN h := rfl
  obtain ⟨sg, hsg⟩ : ∃ sg, sg = s / 8 := ⟨_, rfl⟩
  rw [← hsg]
  have hsgl : sg < 2 ^ h := by omega
  have b1 : 8 * sg ≤ s := by omega
  have b2 : s < 8 * sg + 8 := by omega
  have g2 := segC_off b1 b2 hs
  have g1 : ∀ q, q ≠ sg → segC (r.set s false) q = segC r q := fun q hq => segC_congr fun j q1 q2 => by rw [on_set hlt, if_neg (by omega)]
  have hcs : csV (r.set s false) 0 (2 ^ h) = (csV r 0 (2 ^ h)).set sg (nth (csV r 0 (2 ^ h)) sg + -1) := csV_set hsgl g1 (by rw [nth_csV hsgl, Nat.zero_add]; omega)
  have hle8 : nth (csV r 0 (2 ^ h)) sg + -1 ≤ 8 ∧ 0 ≤ nth (csV r 0 (2 ^ h)) sg + -1 := by
    have := segC_le r sg
    rw [nth_csV hsgl, Nat.zero_add]; omega
  have hl2 : (r.set s false).length = capN h := by rw [List.length_set, lr]
  have hroom : Room (r.set s false) sg h := room_of hl2 hsgl h2 (by
    have := cnt_off hs (capN h)
    omega)
  have hden : Dense (stepB (r.set s false) sg h).1 (stepB (r.set s false) sg h).2 := dense_step hl2 h1 h2 hsgl (fun q hq hne => by
    obtain ⟨j, j1, j2, j3⟩ := hd q hq
    refine ⟨j, j1, j2, ?_⟩
    rw [on_set hlt]
    split
    · rfl
    · exact j3) hroom
  have hrt := csV_rt r (h := h) h2
  have b0 := Blk.made w 30 #[.int .i64 0, .int .i64 0, .int .i64 0, .int .i64 0]
  have hB0 : Below w.heap.size w (w.alloc (.cells #[.int .i64 0, .int .i64 0, .int .i64 0, .int .i64 0] 30)) := (Below.refl _ w).alloc (Nat.le_refl _) _
  have hz0 : (w.alloc (.cells #[.int .i64 0, .int .i64 0, .int .i64 0, .int .i64 0] 30)).heap.size = w.heap.size + 1 := by simp
  have q0 : QM (w.alloc (.cells #[.int .i64 0, .int .i64 0, .int .i64 0, .int .i64 0] 30)) P k h r xs (csV r 0 (2 ^ h)) t := QM.below ⟨hp.sm, hp.pw, hp.tm, htk, hT, hp.hI, hp.ne⟩ hB0
  have hp0 := hp.below hB0
  have hT2 := hT.pos
  have hnot : ∀ i, w.heap.size ≤ i → ¬ P.mv k i := by
    rintro i hi (q | q)
    · have := hp.lt q; omega
    · cases k with
      | none => exact q
      | some b =>
        obtain ⟨l1, l2, l3, l4⟩ := htk.lt b rfl
        rcases q with q | q <;> omega
  generalize hW0 : w.alloc (.cells #[.int .i64 0, .int .i64 0, .int .i64 0, .int .i64 0] 30) = W0 at *
  have hck := PCheck_ok hp0 hs
  have htake := STake_ok q0.sm s hs
  have d0 := q0.pw.c0
  have hend : ∀ (w5 W : World) (P' : PB) (xs' t' : List Int) (h' : Nat) (r5 : List Bool), RP w5 P' k h' r5 xs' t' (L.eraseIdx (cnt r s)) none T → Only (P.mv k) w w5 → (∀ i, P'.has i → P.has i ∨ w.heap.size + 1 ≤ i) → Only (fun i => i = w.heap.size) w5 W →
      RP W P' k h' r5 xs' t' (L.eraseIdx (cnt r s)) none T ∧ Only (P.mv k) w W := by
    intro w5 W P' xs' t' h' r5 hp5 hO5 hf hW
    refine ⟨⟨hp5.pm.only hW ?_, hp5.tk.only hW ?_, hp5.hT.only hW ?_, hp5.its, hp5.ag, hp5.tl⟩, hO5.trans' hW fun i hi q => absurd q (by omega)⟩
    · rintro i hi rfl
      rcases hf _ hi with q | q
      · have := hp.lt q; omega
      · omega
    · rintro b rfl
      obtain ⟨l1, l2, l3, l4⟩ := htk.lt b rfl
      refine ⟨?_, ?_, ?_, ?_⟩ <;> omega
    · rintro i rfl
      omega
  have HEND := Lib.hid hend
  clear hend
  obtain ⟨S, hS⟩ : ∃ S : Int, S = (sg : Nat) := ⟨_, rfl⟩
  have hadd : ∀ (W : World) (u : List Int), TM W P.tt P.tg P.tc (2 ^ h) (csV r 0 (2 ^ h)) u → Calls Tryz.prog 76 #[.pointer (some ⟨P.tt, 0, none⟩), .int .i64 S, .int .i64 (-1)] W _ := fun W u hu => by rw [hS]; exact TAdd_ok hu hrt sg (-1) hsgl (by decide) ⟨hle8.2, hle8.1⟩
  have hstp : ∀ (W : World) (x1 t1 : List Int), RP W P k h (r.set s false) x1 t1 (L.eraseIdx (cnt r s)) none T → Calls Tryz.prog 77 #[.pointer (some ⟨P.pp, 0, none⟩), .int .i64 S, .int .i64 (-1)] W _ := fun W x1 t1 hpW => by rw [hS]; exact step_any hpW hsgl (-1) (by decide) (by omega) hroom
  have hrp : ∀ (w4 : World) (t4 : List Int), QM w4 P k h (r.set s false) (xs.set s 0) (csV (r.set s false) 0 (2 ^ h)) t4 → t4 = t → RP w4 P k h (r.set s false) (xs.set s 0) t4 (L.eraseIdx (cnt r s)) none T := by
    rintro w4 t4 q rfl
    refine q.rp ⟨h1, h2⟩ ?_ ?_ htl
    · rw [its_takeOut (by rw [hp.sm.hl, lr]) hs, hL]
    · intro b hb
      rw [pos_take hs]
      exact hag b hb
  have HADD := Lib.hid hadd
  have HSTP := Lib.hid hstp
  have HRP := Lib.hid hrp
  have HCS := Lib.hid hcs
  have HDEN := Lib.hid hden
  have HI := Lib.hid hp.hI
  have n1 : ((s : Nat) : Int).tdiv 8 = S := by rw [hS, Int.tdiv_eq_ediv_of_nonneg (by omega)]; omega
  have sb : S ≤ 512 := by have := pow_le h2; omega
  have sb0 : 0 ≤ S := by omega
  have n2 : IntKind.i64.wrap S = S := IntWalk.i64_in _ (by omega)
  have HN := Lib.hid hnot
  clear hadd hstp hrp hcs hden hle8 hrt hS hsg b1 b2 g1 g2 hroom hnot
  go_enter Tryz.func156, Tryz.ntmps156
  go_wp2_with fail
  refine hck.mono ?_
  rintro e w1 ⟨rfl, rfl⟩
  go_wp2_with fail
  refine htake.mono ?_
  rintro e w2 ⟨rfl, hSM2, hO2⟩
  obtain ⟨q2, hP2⟩ := q0.put hSM2 hO2 (hI_set q0.hI inH_zero _)
  have d2 := q2.pw.c1
  go_wp2_with fail
  refine (tell_any q2.pw q2.tk (HI.out s) (s : Int) (-1)).mono ?_
  rintro e w3 ⟨⟨v, rfl⟩, hTK3, hO3⟩
  obtain ⟨q3, hP3⟩ := q2.tell hTK3 hO3
  have d3 := q3.pw.c1
  obtain ⟨u3, hu3⟩ := q3.tm
  go_wp2_with fail
  refine (HADD.out w3 u3 hu3).mono ?_
  rintro e w4 ⟨rfl, hu4, hg4⟩
  obtain ⟨q4, hP4⟩ := q3.add (by rw [csV_len]) hu4 hg4
  rw [← HCS.out] at q4
  have hO4 : Only (P.mv k) W0 w4 := hP2.trans (hP3.trans hP4)
  have hp4 := HRP.out w4 _ q4 (by unfold tellV; rw [if_neg (by decide)])
  go_wp2_with fail
  refine (HSTP.out w4 _ _ hp4).mono ?_
  rintro e w5 ⟨⟨sl, rfl⟩, ⟨P', xs5, t5, hp5, hpp, hf5⟩, hO5⟩
  have b5 := b0.only (hO4.trans hO5) (HN.out _ (Nat.le_refl _))
  have hz5 : w.heap.size + 1 ≤ w5.heap.size := by have a := hO4.size; have b := hO5.size; omega
  have b6 := b5.alloc (.cells #[.int .i64 (pickV (csV (r.set s false) 0 (2 ^ h)) sg h).1, .int .i64 (pickV (csV (r.set s false) 0 (2 ^ h)) sg h).2.1, .int .i64 (pickV (csV (r.set s false) 0 (2 ^ h)) sg h).2.2.1, .int .i64 (pickV (csV (r.set s false) 0 (2 ^ h)) sg h).2.2.2] 30)
  have k6 := Blk.made w5 30 #[.int .i64 (pickV (csV (r.set s false) 0 (2 ^ h)) sg h).1, .int .i64 (pickV (csV (r.set s false) 0 (2 ^ h)) sg h).2.1, .int .i64 (pickV (csV (r.set s false) 0 (2 ^ h)) sg h).2.2.1, .int .i64 (pickV (csV (r.set s false) 0 (2 ^ h)) sg h).2.2.2]
  obtain ⟨f0, f1, f2, f3⟩ := b6.frozens
  obtain ⟨c0, c1, c2, c3⟩ := b6.four
  obtain ⟨y0, y1, y2, y3⟩ := k6.four
  have HPP := Lib.hid hpp
  have hf6 : ∀ i, P'.has i → P.has i ∨ w.heap.size + 1 ≤ i := fun i hi => (hf5 i hi).imp id fun q => by have := hO4.size; omega
  have HF := Lib.hid hf6
  have HB := Lib.hid ((Only.of_below hB0).trans (hO4.trans hO5))
  have HO6 := Lib.hid (Only.alloc (Only.refl (fun i => i = w.heap.size) w5) (.cells #[.int .i64 (pickV (csV (r.set s false) 0 (2 ^ h)) sg h).1, .int .i64 (pickV (csV (r.set s false) 0 (2 ^ h)) sg h).2.1, .int .i64 (pickV (csV (r.set s false) 0 (2 ^ h)) sg h).2.2.1, .int .i64 (pickV (csV (r.set s false) 0 (2 ^ h)) sg h).2.2.2] 30))
  clear hf6 hpp hf5 hO4 hO5 hp4 q4 q3 q2 hO2 hO3 hP2 hP3 hP4 hSM2 hTK3 hu3 hu4 hg4
  rw [show stepE (pickV (csV (r.set s false) 0 (2 ^ h)) sg h) = .agg #[.int .i64 (pickV (csV (r.set s false) 0 (2 ^ h)) sg h).1, .int .i64 (pickV (csV (r.set s false) 0 (2 ^ h)) sg h).2.1, .int .i64 (pickV (csV (r.set s false) 0 (2 ^ h)) sg h).2.2.1, .int .i64 (pickV (csV (r.set s false) 0 (2 ^ h)) sg h).2.2.2] from rfl]
  go_wp2_with fail
  go_region
  all_goals go_wp2_with fail
  all_goals refine bodyPost_ret (results_t_c_t rfl _ rfl (b6.put4 _ _ _ _) Tryz.underlying30 (by kernel_rfl)) rfl ?_
  all_goals (
    have hput5 := ((((HO6.out.put (p := ⟨w.heap.size, 0, none⟩) (.inl rfl) (.int .i64 (pickV (csV (r.set s false) 0 (2 ^ h)) sg h).1)).put (p := ⟨w.heap.size, 1, none⟩) (.inl rfl) (.int .i64 (pickV (csV (r.set s false) 0 (2 ^ h)) sg h).2.1)).put (p := ⟨w.heap.size, 2, none⟩) (.inl rfl) (.int .i64 (pickV (csV (r.set s false) 0 (2 ^ h)) sg h).2.2.1)).put (p := ⟨w.heap.size, 3, none⟩) (.inl rfl) (.int .i64 (pickV (csV (r.set s false) 0 (2 ^ h)) sg h).2.2.2)).drew
    obtain ⟨hpW, hOW⟩ := HEND.out w5 _ P' xs5 t5 _ _ hp5 HB.out HF.out hput5
    exact ⟨rfl, ⟨P', xs5, t5, hpW, HPP.out, fun i hi => (HF.out i hi).imp id fun q => by omega⟩, hOW, HDEN.out⟩)
end
end Go.Proofs.YtaonkbfekadalaaGreatDoor
