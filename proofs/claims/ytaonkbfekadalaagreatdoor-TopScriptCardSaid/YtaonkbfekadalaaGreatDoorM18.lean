/- Joined texts: Pj, Rs, Rc, Rd, Rp. -/
import Derived.Test.YtaonkbfekadalaaGreatDoorM15
import Derived.Test.YtaonkbfekadalaaGreatDoorM17
/- The iterator that goes through the windows of a segment: its contract, for every body that leaves the two captured variables alone. -/
namespace Go.Proofs.YtaonkbfekadalaaGreatDoor
open Go.RowKit Go.Shelf
attribute [local go_sem] Oper.semAt_some
set_option linter.unusedVariables false

/-- The windows of a segment, by their levels. -/
def encW (s : Nat) {h : Nat} (k : Fin (h + 1)) : Array Value := #[winV k.1 (winF s k.1) (2 ^ k.1)]
/-- The levels up to h. -/
def lvls (h : Nat) : List (Fin (h + 1)) := List.finRange (h + 1)
theorem lvls_len (h : Nat) : (lvls h).length = h + 1 := List.length_finRange
theorem lvls_get {h k : Nat} (hk : k < h + 1) : (lvls h)[k]'(by rw [lvls_len]; exact hk) = ⟨k, hk⟩ := by
  unfold lvls
  simp
theorem lvls_step {h k : Nat} (hk : k < h + 1) : (lvls h).take k ++ [⟨k, hk⟩] = (lvls h).take (k + 1) := by
  rw [List.take_succ_eq_append_getElem (by rw [lvls_len]; exact hk), lvls_get hk]
set_option maxRecDepth 100000 in
set_option maxHeartbeats 2000000 in
theorem windows1_in {s h : Nat} (hs : s < 512) (hh : h ≤ 9) (m : Nat) (l bs bh : Nat) (X : Nat → Prop) (W : World)
    (hbs : Blk W bs 3 #[.int .i64 (s : Nat)]) (hbh : Blk W bh 3 #[.int .i64 (h : Nat)]) (x1 : ¬ X bs) (x2 : ¬ X bh)
    (J Jx : List (Fin (h + 1)) → World → Prop) (hJ : AbidesFrom W.heap.size J) (hJx : AbidesFrom W.heap.size Jx)
    (hY : ∀ pre x W1, J pre W1 → pre.length < h + 1 → YieldAt Fence.wide (m - 1) Tryz.prog l (encW s x) W1 fun e W' =>
      (e = .returned (.bool true) ∧ J (pre ++ [x]) W' ∧ Kx X W1 W') ∨ (e = .returned (.bool false) ∧ Jx (pre ++ [x]) W'))
    (h0 : J [] W) :
    CallsIn Fence.wide m Tryz.prog 247 #[.func (.yield l) #[] #[], .pointer (some ⟨bh, 0, none⟩), .pointer (some ⟨bs, 0, none⟩)] W fun e W' => (∃ v, e = .returned v) ∧
      ((∃ ys, ys = lvls h ∧ J ys W') ∨ (∃ pre, pre <+: lvls h ∧ Jx pre W')) := by
  have e1 : W.cell? ⟨bs, 0, none⟩ = some (.int .i64 (s : Nat)) := by rw [hbs.cell]; rfl
  have e2 : W.cell? ⟨bh, 0, none⟩ = some (.int .i64 (h : Nat)) := by rw [hbh.cell]; rfl
  have i1 : (h : Int) ≤ 9 := by omega
  have n1 : IntKind.i64.wrap ((h : Int) + 1) = (h : Int) + 1 := IntWalk.i64_in _ (by omega)
  have HS := Lib.hid hs
  clear hs
  refine callsIn_of_wp Tryz.func247 rfl trivial ?_ rfl
  simp only [Tryz.ntmps247, List.size_toArray, List.length_cons, List.length_nil, Nat.reduceAdd, Nat.reduceSub, Array.replicate_succ, Array.replicate_zero, List.push_toArray, List.append_toArray, List.nil_append, List.cons_append]
  gi_wp2_with fail
  gi_loopw [10] (fun i wr => Kx X W wr ∧ ∃ k : Nat, k ≤ h + 1 ∧ i = .int .i64 k ∧ J ((lvls h).take k) wr) (fun i _ => h + 1 - (intOf i).toNat)
  case atStart => exact ⟨Kx.refl X W, 0, by omega, rfl, h0⟩
  case round =>
    obtain ⟨hK, k, hk, rfl, hj⟩ := hrel
    by_cases hlt : k < h + 1
    · have b1 := hK.blk x1 hbs
      have k1 : wr.cell? ⟨bs, 0, none⟩ = some (.int .i64 (s : Nat)) := by rw [b1.cell]; rfl
      obtain ⟨fn, tmps, assign, body, hy, hR⟩ := hY _ ⟨k, hlt⟩ wr hj (by rw [List.length_take, lvls_len]; omega)
      rw [lvls_step] at hR
      simp only [encW] at hy
      have hR' := hR.mono (fun e W' => round_one (K := fun W' => J ((lvls h).take (k + 1)) W' ∧ Kx X wr W') (L := fun W' => Jx ((lvls h).take (k + 1)) W') (fun W' h1 h2 => ⟨h1, h2⟩) (fun W' h1 => h1))
      clear hR hj
      unfold winV at hy
      have hwin := Window_ok HS.out (show k ≤ 9 by omega) wr
      generalize 2 ^ k = M at hwin hy
      generalize winF s k = F at hwin hy
      have j1 : (k : Int) < (h : Int) + 1 := by omega
      have j0 : (0 : Int) ≤ (k : Int) := by omega
      gi_wp2_with fail
      refine ⟨trivial, fun h => (by cases h), ?_⟩
      refine (callsIn_wide.2 hwin).mono ?_
      rintro e w' ⟨rfl, rfl⟩
      gi_wp2_with fail
      refine ⟨fun h => (by cases h), ?_⟩
      refine hR'.mono ?_
      rintro e W3 ⟨bb, rfl, hq⟩
      cases bb
      · have hq' := hq.2 rfl
        gi_wp2_with fail
        refine bodyPost_ret (results_none rfl _ _ _) rfl ?_
        exact ⟨⟨_, rfl⟩, .inr ⟨_, List.take_prefix _ _, hq'⟩⟩
      · have hq' := hq.1 rfl
        gi_wp2_with fail
        go_roundw
        case rel => exact ⟨hK.trans hq'.2, k + 1, by omega, by go_num, hq'.1⟩
        case measure => (simp [intOf]; omega)
    · obtain rfl : k = h + 1 := by omega
      gi_wp2_with fail
      go_end0
      rw [List.take_of_length_le (by rw [lvls_len]; omega)] at hj
      exact ⟨⟨_, rfl⟩, .inl ⟨_, rfl, hj⟩⟩
theorem windows_stops {s h : Nat} (hs : s < 512) (hh : h ≤ 9) (m : Nat) (bs bh : Nat) (X : Nat → Prop) (w : World)
    (hbs : Blk w bs 3 #[.int .i64 (s : Nat)]) (hbh : Blk w bh 3 #[.int .i64 (h : Nat)]) (x1 : ¬ X bs) (x2 : ¬ X bh) :
    SeqStopsK Fence.wide m Tryz.prog 247 #[.pointer (some ⟨bh, 0, none⟩), .pointer (some ⟨bs, 0, none⟩)] (encW s (h := h)) (Kx X) (fun ys => ys = lvls h) (fun pre => pre <+: lvls h) (h + 1) w :=
  fun l J Jx W hW hJ hJx hY h0 =>
    windows1_in hs hh m l bs bh X W (hbs.below hW hbs.lt) (hbh.below hW hbh.lt) x1 x2 J Jx hJ hJx hY h0

/-- The first level from k on whose window may have as many elements as it has; none: h + 1. -/
def lvlF (r : List Int) (s h : Nat) : Nat → Nat → Nat
  | k, 0 => k
  | k, n + 1 => if withinV (sumR r (winF s k) (2 ^ k)).toNat k h = 0 then k else lvlF r s h (k + 1) n
/-- The level of the window that is spread; h + 1: none. -/
def pickL (r : List Int) (s h : Nat) : Nat := lvlF r s h 0 (h + 1)
theorem lvlF_spec (r : List Int) (s h : Nat) : ∀ n k, (lvlF r s h k n ≤ k + n ∧ k ≤ lvlF r s h k n) ∧ (∀ j, k ≤ j → j < lvlF r s h k n → withinV (sumR r (winF s j) (2 ^ j)).toNat j h ≠ 0) ∧ (lvlF r s h k n < k + n → withinV (sumR r (winF s (lvlF r s h k n)) (2 ^ (lvlF r s h k n))).toNat (lvlF r s h k n) h = 0)
  | 0, k => ⟨⟨Nat.le_refl _, Nat.le_refl _⟩, fun j h1 h2 => absurd h2 (by simp only [lvlF]; omega), fun h => absurd h (by simp only [lvlF]; omega)⟩
  | n + 1, k => by
    simp only [lvlF]
    split
    · rename_i hw
      exact ⟨⟨by omega, Nat.le_refl _⟩, fun j h1 h2 => by omega, fun _ => hw⟩
    · rename_i hw
      obtain ⟨⟨a, a'⟩, b, c⟩ := lvlF_spec r s h n (k + 1)
      refine ⟨⟨by omega, by omega⟩, fun j h1 h2 => ?_, fun h => c (by omega)⟩
      by_cases e : j = k
      · subst e; exact hw
      · exact b j (by omega) h2
theorem pickL_le (r : List Int) (s h : Nat) : pickL r s h ≤ h + 1 := by
  have := (lvlF_spec r s h (h + 1) 0).1.1
  unfold pickL; omega
theorem pickL_no {r : List Int} {s h j : Nat} (hj : j < pickL r s h) : withinV (sumR r (winF s j) (2 ^ j)).toNat j h ≠ 0 := (lvlF_spec r s h (h + 1) 0).2.1 j (Nat.zero_le _) hj
theorem pickL_yes {r : List Int} {s h : Nat} (h1 : pickL r s h ≤ h) : withinV (sumR r (winF s (pickL r s h)) (2 ^ (pickL r s h))).toNat (pickL r s h) h = 0 := (lvlF_spec r s h (h + 1) 0).2.2 (by unfold pickL at h1; omega)
theorem pickL_eq {r : List Int} {s h k : Nat} (hk : k ≤ h) (h1 : ∀ j, j < k → withinV (sumR r (winF s j) (2 ^ j)).toNat j h ≠ 0) (h2 : withinV (sumR r (winF s k) (2 ^ k)).toNat k h = 0) : pickL r s h = k := by
  rcases Nat.lt_trichotomy (pickL r s h) k with c | c | c
  · exact absurd (pickL_yes (by omega)) (h1 _ c)
  · exact c
  · exact absurd h2 (pickL_no c)
theorem pickL_none {r : List Int} {s h : Nat} (h1 : ∀ j, j < h + 1 → withinV (sumR r (winF s j) (2 ^ j)).toNat j h ≠ 0) : pickL r s h = h + 1 := by
  have := pickL_le r s h
  by_cases e : pickL r s h ≤ h
  · exact absurd (pickL_yes e) (h1 _ (by omega))
  · omega
theorem winF_le {s k h : Nat} (hs : s < 2 ^ h) (hk : k ≤ h) : winF s k + 2 ^ k ≤ 2 ^ h := by
  unfold winF
  obtain ⟨d, rfl⟩ : ∃ d, h = k + d := ⟨h - k, by omega⟩
  rw [Nat.pow_add] at hs ⊢
  have h1 : s / 2 ^ k < 2 ^ d := Nat.div_lt_of_lt_mul hs
  calc s / 2 ^ k * 2 ^ k + 2 ^ k = (s / 2 ^ k + 1) * 2 ^ k := by rw [Nat.add_mul, Nat.one_mul]
    _ ≤ 2 ^ d * 2 ^ k := Nat.mul_le_mul_right _ (by omega)
    _ = 2 ^ k * 2 ^ d := Nat.mul_comm _ _
end Go.Proofs.YtaonkbfekadalaaGreatDoor
/- Results of a function of which some lie in cells. -/
namespace Go.Proofs.YtaonkbfekadalaaGreatDoor
open Go.RowKit
set_option linter.unusedVariables false

section
variable {fn : Func} {p a b c : Tmp} {ty : TypeId} {w : World} {g : Nat} {t : TypeId} {cs : Array Value} {P : Program}
theorem results_c_t (h : fn.results = #[.cell p ty, .tmp a]) (tmps : Array Value) (hp : tmps.getD p undef = .pointer (some ⟨g, 0, none⟩)) (hg : Blk w g t cs)
    {fs : Array Field} (hu : P.underlying ty = some (.struct fs)) (hi : (P.info? ty).map (·.size) = some cs.size) :
    (results fn tmps).run P w = .ok (.tuple #[.agg cs, tmps.getD a undef]) w := by
  have hp' : tmps[p]?.getD undef = .pointer (some ⟨g, 0, none⟩) := by simpa using hp
  simp [results, h, hp', asAddr, run_loadVar_row w g t ty cs (0, 0) (.struct fs) hg hu rfl hi]
theorem results_c_ttt (h : fn.results = #[.cell p ty, .tmp a, .tmp b, .tmp c]) (tmps : Array Value) (hp : tmps.getD p undef = .pointer (some ⟨g, 0, none⟩)) (hg : Blk w g t cs)
    {fs : Array Field} (hu : P.underlying ty = some (.struct fs)) (hi : (P.info? ty).map (·.size) = some cs.size) :
    (results fn tmps).run P w = .ok (.tuple #[.agg cs, tmps.getD a undef, tmps.getD b undef, tmps.getD c undef]) w := by
  have hp' : tmps[p]?.getD undef = .pointer (some ⟨g, 0, none⟩) := by simpa using hp
  simp [results, h, hp', asAddr, run_loadVar_row w g t ty cs (0, 0) (.struct fs) hg hu rfl hi]
theorem results_t_c_t (h : fn.results = #[.tmp a, .cell p ty, .tmp b]) (tmps : Array Value) (hp : tmps.getD p undef = .pointer (some ⟨g, 0, none⟩)) (hg : Blk w g t cs)
    {fs : Array Field} (hu : P.underlying ty = some (.struct fs)) (hi : (P.info? ty).map (·.size) = some cs.size) :
    (results fn tmps).run P w = .ok (.tuple #[tmps.getD a undef, .agg cs, tmps.getD b undef]) w := by
  have hp' : tmps[p]?.getD undef = .pointer (some ⟨g, 0, none⟩) := by simpa using hp
  simp [results, h, hp', asAddr, run_loadVar_row w g t ty cs (0, 0) (.struct fs) hg hu rfl hi]
end
section
variable {w : World} {g : Nat} {t : TypeId} {a b c d : Value}
theorem Blk.three (h : Blk w g t #[a, b, c]) : w.cell? ⟨g, 0, none⟩ = some a ∧ w.cell? ⟨g, 1, none⟩ = some b ∧ w.cell? ⟨g, 2, none⟩ = some c := ⟨h.cell 0, h.cell 1, h.cell 2⟩
theorem Blk.four (h : Blk w g t #[a, b, c, d]) : w.cell? ⟨g, 0, none⟩ = some a ∧ w.cell? ⟨g, 1, none⟩ = some b ∧ w.cell? ⟨g, 2, none⟩ = some c ∧ w.cell? ⟨g, 3, none⟩ = some d := ⟨h.cell 0, h.cell 1, h.cell 2, h.cell 3⟩
theorem Blk.frozens (h : Blk w g t #[a, b, c, d]) : w.frozen? ⟨g, 0, none⟩ = false ∧ w.frozen? ⟨g, 1, none⟩ = false ∧ w.frozen? ⟨g, 2, none⟩ = false ∧ w.frozen? ⟨g, 3, none⟩ = false := ⟨h.frozen 0, h.frozen 1, h.frozen 2, h.frozen 3⟩
/-- Four cells of a block written. -/
def put4 (w : World) (g : Nat) (a b c d : Value) : World := (((w.setCell ⟨g, 0, none⟩ a).setCell ⟨g, 1, none⟩ b).setCell ⟨g, 2, none⟩ c).setCell ⟨g, 3, none⟩ d
theorem Blk.put4 {x y z u : Value} (h : Blk w g t #[x, y, z, u]) (a b c d : Value) : Blk ((((w.setCell ⟨g, 0, none⟩ a).setCell ⟨g, 1, none⟩ b).setCell ⟨g, 2, none⟩ c).setCell ⟨g, 3, none⟩ d) g t #[a, b, c, d] := by
  have := (((h.put 0 a).put 1 b).put 2 c).put 3 d
  simpa using this
theorem below_put4 {B : Nat} {w0 : World} (h : Below B w0 w) (hg : B ≤ g) (a b c d : Value) : Below B w0 ((((w.setCell ⟨g, 0, none⟩ a).setCell ⟨g, 1, none⟩ b).setCell ⟨g, 2, none⟩ c).setCell ⟨g, 3, none⟩ d) :=
  (((h.setCell (p := ⟨g, 0, none⟩) hg _).setCell (p := ⟨g, 1, none⟩) hg _).setCell (p := ⟨g, 2, none⟩) hg _).setCell (p := ⟨g, 3, none⟩) hg _
end
end Go.Proofs.YtaonkbfekadalaaGreatDoor
/- Tellers: what a row tells of a move to its list's table, or to nobody. -/
namespace Go.Proofs.YtaonkbfekadalaaGreatDoor
open Go.RowKit
set_option linter.unusedVariables false

/-- The blocks of a list that is told: the box of its pointer, its struct, its row, its table, the table's map. -/
structure TB where
  bx : Nat
  lb : Nat
  pp : Nat
  t : Nat
  mb : Nat
/-- The function that a row tells. -/
def toldV : Option TB → Value
  | none => .nilFunc
  | some b => .func (.func 95) #[] #[.pointer (some ⟨b.bx, 0, none⟩)]
/-- The table that is told lies there. -/
def TK (w : World) : Option TB → List Int → Prop
  | none, _ => True
  | some b, t => (Blk w b.bx 55 #[.pointer (some ⟨b.lb, 0, none⟩)] ∧ Blk w b.lb 101 #[.pointer (some ⟨b.pp, 0, none⟩), .pointer (some ⟨b.t, 0, none⟩)] ∧ HM w b.t b.mb t) ∧ t.length ≤ 1000000
/-- The blocks that a telling turns. -/
def mvK : Option TB → Nat → Prop
  | none, _ => False
  | some b, i => i = b.t ∨ i = b.mb
/-- What a telling does to the table. -/
def tellV (t : List Int) (x y : Int) : List Int := if 0 ≤ y then (moveV t x y).1 else t
theorem tellV_len (t : List Int) (x y : Int) : (tellV t x y).length = t.length := by
  unfold tellV moveV
  split
  · split
    · split <;> simp
    · rfl
  · rfl
section
variable {w w' : World} {k : Option TB} {t : List Int}
theorem MM.not_cells {b : Nat} {r : List Int} (h : MM w b r) {g : Nat} {ty : TypeId} {cs : Array Value} (hb : Blk w g ty cs) : g ≠ b := fun e => h.ne_blk (e ▸ hb) rfl
/-- The blocks of a teller that it reads only. -/
theorem TK.only {X : Nat → Prop} (h : TK w k t) (ho : Only X w w') (hX : ∀ b, k = some b → ¬ X b.bx ∧ ¬ X b.lb ∧ ¬ X b.t ∧ ¬ X b.mb) : TK w' k t := by
  cases k with
  | none => trivial
  | some b =>
    obtain ⟨x1, x2, x3, x4⟩ := hX b rfl
    exact ⟨⟨h.1.1.only ho x1, h.1.2.1.only ho x2, h.1.2.2.only ho x3 x4⟩, h.2⟩
theorem TK.below (h : TK w k t) (hb : Below w.heap.size w w') : TK w' k t := h.only (Only.of_below (X := fun _ => False) hb) fun _ _ => ⟨id, id, id, id⟩
theorem TK.drewN (h : TK w k t) (n : Nat) : TK (w.drewN n) k t := h.below (below_drewN (Below.refl _ _) n)
theorem TK.lt (h : TK w k t) : ∀ b, k = some b → b.bx < w.heap.size ∧ b.lb < w.heap.size ∧ b.t < w.heap.size ∧ b.mb < w.heap.size := by
  rintro b rfl
  exact ⟨h.1.1.lt, h.1.2.1.lt, h.1.2.2.hp.lt, h.1.2.2.hm.lt⟩
/-- A block of cells that is no table is turned by no telling. -/
theorem TK.far (h : TK w k t) {g : Nat} {ty : TypeId} {cs : Array Value} (hb : Blk w g ty cs) (hty : ty ≠ 133) : ¬ mvK k g := by
  cases k with
  | none => exact id
  | some b =>
    rintro (rfl | rfl)
    · exact hb.ne_ h.1.2.2.hp hty rfl
    · exact h.1.2.2.hm.not_cells hb rfl

theorem follow1_any {b : TB} (h : TK w (some b) t) {x : Int} (hx : inH x) (f y : Int) :
    Calls Tryz.prog 95 #[.int .i64 x, .int .i64 f, .int .i64 y, .pointer (some ⟨b.bx, 0, none⟩)] w fun e w' => (∃ v, e = .returned v) ∧ TK w' (some b) (tellV t x y) ∧ Only (mvK (some b)) w w' := by
  obtain ⟨⟨h1, h2, h3⟩, h4⟩ := h
  have c1 : w.cell? ⟨b.bx, 0, none⟩ = some (.pointer (some ⟨b.lb, 0, none⟩)) := by rw [h1.cell]; rfl
  have c2 : w.cell? ⟨b.lb, 1, none⟩ = some (.pointer (some ⟨b.t, 0, none⟩)) := by rw [h2.cell]; rfl
  have hm := HMove_any h3 h4 hx y
  have e1 : b.bx ≠ b.t := h1.ne_ h3.hp (by decide)
  have e2 : b.lb ≠ b.t := h2.ne_ h3.hp (by decide)
  have e3 : b.bx ≠ b.mb := h3.hm.not_cells h1
  have e4 : b.lb ≠ b.mb := h3.hm.not_cells h2
  by_cases hy : 0 ≤ y
  · have e : tellV t x y = (moveV t x y).1 := by unfold tellV; rw [if_pos hy]
    rw [e]
    go_enter Tryz.func95, Tryz.ntmps95
    go_wp2_with fail
    refine hm.mono ?_
    rintro e w1 ⟨rfl, hM, hT⟩
    go_wp2_with fail
    go_end0
    have hl : (moveV t x y).1.length = t.length := by rw [← e]; exact tellV_len _ _ _
    exact ⟨⟨_, rfl⟩, ⟨⟨h1.turn hT e1 e3, h2.turn hT e2 e4, hM⟩, by rw [hl]; exact h4⟩, Only.of_turn hT (.inl rfl) (.inr rfl)⟩
  · have e : tellV t x y = t := by unfold tellV; rw [if_neg hy]
    have ty : decide (0 ≤ y) = false := by simp; omega
    rw [e]
    clear hm hy
    go_enter Tryz.func95, Tryz.ntmps95
    go_wp2_with fail
    go_end0
    exact ⟨⟨_, rfl⟩, ⟨⟨h1, h2, h3⟩, h4⟩, Only.refl _ _⟩

/-- A row's struct: its array, its tree, whom it tells. -/
def PW (w : World) (p s t : Nat) (k : Option TB) : Prop := Blk w p 108 #[.pointer (some ⟨s, 0, none⟩), .pointer (some ⟨t, 0, none⟩), toldV k]
theorem PW.c0 {p s tt : Nat} (h : PW w p s tt k) : w.cell? ⟨p, 0, none⟩ = some (.pointer (some ⟨s, 0, none⟩)) := by rw [Blk.cell h]; rfl
theorem PW.c1 {p s tt : Nat} (h : PW w p s tt k) : w.cell? ⟨p, 1, none⟩ = some (.pointer (some ⟨tt, 0, none⟩)) := by rw [Blk.cell h]; rfl
theorem PW.c2 {p s tt : Nat} (h : PW w p s tt k) : w.cell? ⟨p, 2, none⟩ = some (toldV k) := by rw [Blk.cell h]; rfl
theorem run_eqIn_func (fn : Fn) (a b : Array Value) (w : World) (d : Nat) : (Op.equalIn (d + 1) 104 (.func fn a b) .nilFunc).run Tryz.prog w = .ok false w := by
  simp [Op.equalIn, run_underlying Tryz.underlying104]
theorem run_eqIn_nil (w : World) (d : Nat) : (Op.equalIn (d + 1) 104 .nilFunc .nilFunc).run Tryz.prog w = .ok true w := by
  simp [Op.equalIn, run_underlying Tryz.underlying104]
theorem run_func_ne (fn : Fn) (a b : Array Value) (w : World) : (binOp .neq 104 (.func fn a b) .nilFunc).run Tryz.prog w = .ok (.bool true) w := by
  simp only [binOp]
  simp [Op.equal, Op.maxDepth, run_eqIn_func fn a b w 9999]
theorem run_func_eq (fn : Fn) (a b : Array Value) (w : World) : (binOp .eql 104 (.func fn a b) .nilFunc).run Tryz.prog w = .ok (.bool false) w := by
  simp only [binOp]
  simp [Op.equal, Op.maxDepth, run_eqIn_func fn a b w 9999]
theorem run_nil_ne (w : World) : (binOp .neq 104 .nilFunc .nilFunc).run Tryz.prog w = .ok (.bool false) w := by
  simp only [binOp]
  simp [Op.equal, Op.maxDepth, run_eqIn_nil w 9999]
set_option maxRecDepth 100000 in
theorem tell_any {p s tt : Nat} (hp : PW w p s tt k) (h : TK w k t) {x : Int} (hx : inH x) (f y : Int) :
    Calls Tryz.prog 74 #[.pointer (some ⟨p, 0, none⟩), .int .i64 x, .int .i64 f, .int .i64 y] w fun e w' => (∃ v, e = .returned v) ∧ TK w' k (tellV t x y) ∧ Only (mvK k) w w' := by
  have c2 := hp.c2
  cases k with
  | none =>
    unfold toldV at c2
    have hne := run_nil_ne
    go_enter Tryz.func74, Tryz.ntmps74
    go_wp2_with fail
    go_end0
    exact ⟨⟨_, rfl⟩, trivial, Only.refl _ _⟩
  | some b =>
    have hm := follow1_any h hx f y
    unfold toldV at c2
    have hne := run_func_ne (.func 95) #[] #[.pointer (some ⟨b.bx, 0, none⟩)]
    go_enter Tryz.func74, Tryz.ntmps74
    go_wp2_with fail
    refine hm.mono ?_
    rintro e w1 ⟨⟨v, rfl⟩, hM, hT⟩
    go_wp2_with fail
    go_end0
    exact ⟨⟨_, rfl⟩, hM, hT⟩
end
end Go.Proofs.YtaonkbfekadalaaGreatDoor
/- A move of an element, that is counted and told: mover's closure. -/
namespace Go.Proofs.YtaonkbfekadalaaGreatDoor
open Go.RowKit
set_option linter.unusedVariables false

/-- Who is told by a mover: the row itself, or the follower of a step (the box of its slot, the box of the row). -/
inductive TFK where
  | dir
  | stp (a b : Nat)
def tellF (p : Nat) : TFK → Value
  | .dir => .func (.func 74) #[.pointer (some ⟨p, 0, none⟩)] #[]
  | .stp a b => .func (.func 129) #[] #[.pointer (some ⟨a, 0, none⟩), .pointer (some ⟨b, 0, none⟩)]
def TFm (w : World) (p : Nat) : TFK → Prop
  | .dir => True
  | .stp a b => (∃ s, Blk w a 3 #[.int .i64 s]) ∧ Blk w b 64 #[.pointer (some ⟨p, 0, none⟩)]
def mvF : TFK → Nat → Prop
  | .dir, _ => False
  | .stp a _, i => i = a
/-- The blocks that a mover works on. -/
structure RGB where
  b : SB
  pp : Nat
  tt : Nat
  k : Option TB
  f : TFK
  bs : Nat
  bn : Nat
  bf : Nat
def RGB.mv (G : RGB) (i : Nat) : Prop := G.b.mv i ∨ i = G.bn ∨ mvK G.k i ∨ mvF G.f i
/-- What a mover works on lies there. -/
structure RG (w : World) (G : RGB) (n : Nat) (r : List Bool) (xs t : List Int) : Prop where
  sm : SM w G.b n r xs
  tk : TK w G.k t
  pw : PW w G.pp G.b.s G.tt G.k
  m1 : Blk w G.bs 105 #[.pointer (some ⟨G.b.s, 0, none⟩)]
  m2 : ∃ c, Blk w G.bn 3 #[.int .i64 c]
  m3 : Blk w G.bf 104 #[tellF G.pp G.f]
  tf : TFm w G.pp G.f
  hT : Tab w
  hI : ∀ j, inH (nth xs j)
  n1 : G.b.g ≠ G.bn
  n2 : ∀ a b, G.f = .stp a b → a ≠ G.b.g ∧ a ≠ G.bn
theorem Blk.ne2 {w : World} {g : Nat} {ty : TypeId} {cs : Array Value} (h : Blk w g ty cs) (hT : Tab w) (h0 : ∀ u, cs[0]? ≠ some (.int .u8 u)) : g ≠ 2 := fun e => by
  subst e
  have t := hT 0 (by decide)
  rw [h.cell] at t
  exact h0 _ t
section
variable {w w' : World} {G : RGB} {n : Nat} {r : List Bool} {xs t : List Int}
theorem TFm.only {X : Nat → Prop} {p : Nat} {f : TFK} (h : TFm w p f) (ho : Only X w w') (hX : ∀ a b, f = .stp a b → ¬ X a ∧ ¬ X b) : TFm w' p f := by
  cases f with
  | dir => trivial
  | stp a b => exact ⟨h.1.imp fun s hs => hs.only ho (hX a b rfl).1, h.2.only ho (hX a b rfl).2⟩
theorem RG.ne2 (h : RG w G n r xs t) : ∀ i, G.mv i → i ≠ 2 := by
  rintro i (hi | rfl | hi | hi)
  · exact h.sm.ne2 h.hT i hi
  · obtain ⟨c, hc⟩ := h.m2
    exact hc.ne2 h.hT (by simp)
  · have tk := h.tk
    cases hk : G.k with
    | none => rw [hk] at hi; exact hi.elim
    | some b =>
      rw [hk] at hi tk
      rcases hi with rfl | rfl
      · exact tk.1.2.2.hp.ne2 h.hT (by simp)
      · intro e
        have t0 := h.hT 0 (by decide)
        obtain ⟨o, ho, hc⟩ := cells_of_cell t0
        cases o with
        | cells cs ty fr =>
          obtain ⟨D, ⟨es, clock, e1, _⟩, _⟩ := tk.1.2.2.hm
          rw [e] at e1
          rw [e1] at ho
          cases ho
        | _ => cases hc
  · have tf := h.tf
    cases hf : G.f with
    | dir => rw [hf] at hi; exact hi.elim
    | stp a b =>
      rw [hf] at hi tf
      obtain rfl : i = a := hi
      obtain ⟨s, hs⟩ := tf.1
      exact hs.ne2 h.hT (by simp)

set_option maxRecDepth 100000 in
theorem step1_any {p s tt a c : Nat} {k : Option TB} (hp : PW w p s tt k) (hk : TK w k t) {sl : Int} (ha : Blk w a 3 #[.int .i64 sl]) (hc : Blk w c 64 #[.pointer (some ⟨p, 0, none⟩)]) {x : Int} (hx : inH x) (f y : Int) :
    Calls Tryz.prog 129 #[.int .i64 x, .int .i64 f, .int .i64 y, .pointer (some ⟨a, 0, none⟩), .pointer (some ⟨c, 0, none⟩)] w fun e w' => (∃ v, e = .returned v) ∧ TK w' k (tellV t x y) ∧ (∃ sl', Blk w' a 3 #[.int .i64 sl']) ∧ Only (fun i => i = a ∨ mvK k i) w w' := by
  have ca : w.cell? ⟨a, 0, none⟩ = some (.int .i64 sl) := by rw [ha.cell]; rfl
  have cc : w.cell? ⟨c, 0, none⟩ = some (.pointer (some ⟨p, 0, none⟩)) := by rw [hc.cell]; rfl
  have fa := ha.frozen 0
  have nac : c ≠ a := hc.ne_ ha (by decide)
  by_cases hs : f = sl
  · subst hs
    have t1 : (f == f) = true := by simp
    have hO : Only (fun i => i = a ∨ mvK k i) w (w.setCell ⟨a, 0, none⟩ (.int .i64 y)) := (Only.refl _ w).put (.inl (.inl rfl)) _
    have hp2 : PW (w.setCell ⟨a, 0, none⟩ (.int .i64 y)) p s tt k := Blk.far hp (p := ⟨a, 0, none⟩) (Blk.ne_ hp ha (by decide)) _
    have hk2 : TK (w.setCell ⟨a, 0, none⟩ (.int .i64 y)) k t := by
      refine hk.only (X := fun i => i = a) ((Only.refl (fun i => i = a) w).put (p := ⟨a, 0, none⟩) (.inl rfl) _) ?_
      rintro b rfl
      exact ⟨hk.1.1.ne_ ha (by decide), hk.1.2.1.ne_ ha (by decide), hk.1.2.2.hp.ne_ ha (by decide), fun e => hk.1.2.2.hm.not_cells ha e.symm⟩
    have ha2 : Blk (w.setCell ⟨a, 0, none⟩ (.int .i64 y)) a 3 #[.int .i64 y] := ha.put 0 _
    have cc2 : (w.setCell ⟨a, 0, none⟩ (.int .i64 y)).cell? ⟨c, 0, none⟩ = some (.pointer (some ⟨p, 0, none⟩)) := by rw [(hc.far (p := ⟨a, 0, none⟩) nac _).cell]; rfl
    have ht := tell_any hp2 hk2 hx f y
    go_enter Tryz.func129, Tryz.ntmps129
    go_wp2_with fail
    refine ht.mono ?_
    rintro e w1 ⟨⟨v, rfl⟩, hM, hT⟩
    go_wp2_with fail
    go_end0
    exact ⟨⟨_, rfl⟩, hM, ⟨y, ha2.only hT (hk2.far ha2 (by decide))⟩, hO.trans (hT.mono fun i _ hi => .inr hi)⟩
  · have t1 : (f == sl) = false := by simp [hs]
    have ht := tell_any hp hk hx f y
    go_enter Tryz.func129, Tryz.ntmps129
    go_wp2_with fail
    refine ht.mono ?_
    rintro e w1 ⟨⟨v, rfl⟩, hM, hT⟩
    go_wp2_with fail
    go_end0
    exact ⟨⟨_, rfl⟩, hM, ⟨sl, ha.only hT (hk.far ha (by decide))⟩, hT.mono fun i _ hi => .inr hi⟩

theorem move_same (h : RG w G n r xs t) (f : Int) :
    Calls Tryz.prog 175 #[.int .i64 f, .int .i64 f, .pointer (some ⟨G.bs, 0, none⟩), .pointer (some ⟨G.bn, 0, none⟩), .pointer (some ⟨G.bf, 0, none⟩)] w fun e w' => e = .returned (.int .i64 0) ∧ w = w' := by
  have t1 : (f == f) = true := by simp
  go_enter Tryz.func175, Tryz.ntmps175
  go_wp2_with fail
  go_ret
  exact ⟨rfl, rfl⟩
/-- What is read only, behind a change of what is written. -/
theorem RG.reads (h : RG w G n r xs t) : ∀ i, (i = G.b.s ∨ i = G.b.p ∨ i = G.pp ∨ i = G.bs ∨ i = G.bf ∨ (∃ b, G.k = some b ∧ (i = b.bx ∨ i = b.lb)) ∨ (∃ a c, G.f = .stp a c ∧ i = c)) → ¬ G.mv i := by
  have sm := h.sm
  obtain ⟨cn, hn⟩ := h.m2
  have key : ∀ {g : Nat} {ty : TypeId} {cs : Array Value}, Blk w g ty cs → ty ≠ 3 → ty ≠ 191 → ty ≠ 133 → ¬ G.mv g := by
    intro g ty cs hb t3 t191 t133
    rintro ((rfl | rfl) | rfl | hk | hf)
    · exact sm.hx.ne_ hb (fun e => t3 e.symm) rfl
    · obtain ⟨cs', h1, _⟩ := sm.hb.hg
      exact hb.ne_ h1 t191 rfl
    · exact hb.ne_ hn t3 rfl
    · exact h.tk.far hb t133 hk
    · have tf := h.tf
      cases e : G.f with
      | dir => rw [e] at hf; exact hf
      | stp a c =>
        rw [e] at hf tf
        obtain rfl : g = a := hf
        obtain ⟨s, hs⟩ := tf.1
        exact hb.ne_ hs t3 rfl
  rintro i (rfl | rfl | rfl | rfl | rfl | ⟨b, e, rfl | rfl⟩ | ⟨a, c, e, rfl⟩)
  · exact key sm.hs (by decide) (by decide) (by decide)
  · exact key sm.hb.hp (by decide) (by decide) (by decide)
  · exact key h.pw (by decide) (by decide) (by decide)
  · exact key h.m1 (by decide) (by decide) (by decide)
  · exact key h.m3 (by decide) (by decide) (by decide)
  · have tk := h.tk; rw [e] at tk; exact key tk.1.1 (by decide) (by decide) (by decide)
  · have tk := h.tk; rw [e] at tk; exact key tk.1.2.1 (by decide) (by decide) (by decide)
  · have tf := h.tf; rw [e] at tf; exact key tf.2 (by decide) (by decide) (by decide)
theorem hI_set {xs : List Int} (h : ∀ j, inH (nth xs j)) {x : Int} (hx : inH x) (i : Nat) : ∀ j, inH (nth (xs.set i x) j) := by
  intro j
  by_cases hi : i < xs.length
  · rw [nth_set hi]; split
    · exact hx
    · exact h j
  · rw [List.set_eq_of_length_le (by omega)]; exact h j
theorem inH_zero : inH 0 := ⟨by decide, by decide⟩

set_option maxRecDepth 100000 in
set_option maxHeartbeats 1000000 in
theorem move_ok (h : RG w G n r xs t) (f y : Nat) (hf : on r f = true) (hy : y < n) (hoff : on r y = false) :
    Calls Tryz.prog 175 #[.int .i64 (f : Nat), .int .i64 (y : Nat), .pointer (some ⟨G.bs, 0, none⟩), .pointer (some ⟨G.bn, 0, none⟩), .pointer (some ⟨G.bf, 0, none⟩)] w fun e w' =>
      e = .returned (.int .i64 0) ∧ RG w' G n (mvB r f y) (mvX xs f y) (tellV t (nth xs f) y) ∧ Only G.mv w w' := by
  have hne : f ≠ y := by rintro rfl; rw [hf] at hoff; cases hoff
  have t1 : ((f : Int) == (y : Int)) = false := by simp; omega
  have hrd := h.reads
  have hn2 := h.ne2
  have c1 : w.cell? ⟨G.bs, 0, none⟩ = some (.pointer (some ⟨G.b.s, 0, none⟩)) := by rw [h.m1.cell]; rfl
  have hat := SAt_any h.sm (f : Int)
  have hmv := SMove_ok h.sm f y hf hy hoff
  rw [hasB_nat, hf] at hat
  unfold atV at hat
  rw [hasB_nat, if_pos hf, Int.toNat_natCast] at hat
  have hx := h.hI f
  obtain ⟨c, hc⟩ := h.m2
  have x1 : ∀ i, G.b.mv i → G.mv i := fun i hi => .inl hi
  have r1 : ¬ G.mv G.bs := hrd _ (.inr (.inr (.inr (.inl rfl))))
  have r2 : ¬ G.mv G.bf := hrd _ (.inr (.inr (.inr (.inr (.inl rfl)))))
  have r3 : ¬ G.mv G.pp := hrd _ (.inr (.inr (.inl rfl)))
  have gk : G.bn ≠ G.b.k := by
    obtain ⟨cs', h1, _⟩ := h.sm.hb.hg
    exact hc.ne_ h1 (by decide)
  have gn : ¬ G.b.mv G.bn := by
    rintro (e | e)
    · exact h.n1 e.symm
    · exact gk e
  -- behind the move of the slots
  have aft : ∀ W, SM W G.b n (mvB r f y) (mvX xs f y) → Only G.b.mv w W → Blk W G.bs 105 #[.pointer (some ⟨G.b.s, 0, none⟩)] ∧ Blk W G.bn 3 #[.int .i64 c] ∧ Blk W G.bf 104 #[tellF G.pp G.f] ∧ PW W G.pp G.b.s G.tt G.k ∧ TK W G.k t ∧ TFm W G.pp G.f ∧ Tab W := by
    intro W hW hO
    refine ⟨h.m1.only hO fun q => r1 (x1 _ q), hc.only hO gn, h.m3.only hO fun q => r2 (x1 _ q), Blk.only h.pw hO fun q => r3 (x1 _ q), ?_, ?_, h.hT.only hO fun i q => hn2 i (x1 _ q)⟩
    · refine h.tk.only hO fun b e => ?_
      have tk := h.tk
      rw [e] at tk
      refine ⟨fun q => hrd _ (.inr (.inr (.inr (.inr (.inr (.inl ⟨b, e, .inl rfl⟩)))))) (x1 _ q), fun q => hrd _ (.inr (.inr (.inr (.inr (.inr (.inl ⟨b, e, .inr rfl⟩)))))) (x1 _ q), ?_, ?_⟩
      · rintro (q | q)
        · exact h.sm.hx.ne_ tk.1.2.2.hp (by decide) q.symm
        · obtain ⟨cs', h1, _⟩ := h.sm.hb.hg
          exact tk.1.2.2.hp.ne_ h1 (by decide) q
      · obtain ⟨cs1, h0, _⟩ := h.sm.hx
        obtain ⟨cs', h1, _⟩ := h.sm.hb.hg
        rintro (q | q)
        · exact tk.1.2.2.hm.not_cells h0 q.symm
        · exact tk.1.2.2.hm.not_cells h1 q.symm
    · refine h.tf.only hO fun a cc e => ⟨?_, fun q => hrd _ (.inr (.inr (.inr (.inr (.inr (.inr ⟨a, cc, e, rfl⟩)))))) (x1 _ q)⟩
      have tf := h.tf
      rw [e] at tf
      obtain ⟨s, hs⟩ := tf.1
      rintro (q | q)
      · exact (h.n2 a cc e).1 q
      · obtain ⟨cs', h1, _⟩ := h.sm.hb.hg
        exact hs.ne_ h1 (by decide) q
  -- behind the count
  have aft2 : ∀ W d, SM W G.b n (mvB r f y) (mvX xs f y) → Only G.b.mv w W → Blk W G.bn 3 #[.int .i64 c] →
      SM (W.setCell ⟨G.bn, 0, none⟩ (.int .i64 d)) G.b n (mvB r f y) (mvX xs f y) ∧ Blk (W.setCell ⟨G.bn, 0, none⟩ (.int .i64 d)) G.bs 105 #[.pointer (some ⟨G.b.s, 0, none⟩)] ∧ Blk (W.setCell ⟨G.bn, 0, none⟩ (.int .i64 d)) G.bn 3 #[.int .i64 d] ∧
      Blk (W.setCell ⟨G.bn, 0, none⟩ (.int .i64 d)) G.bf 104 #[tellF G.pp G.f] ∧ PW (W.setCell ⟨G.bn, 0, none⟩ (.int .i64 d)) G.pp G.b.s G.tt G.k ∧ TK (W.setCell ⟨G.bn, 0, none⟩ (.int .i64 d)) G.k t ∧ TFm (W.setCell ⟨G.bn, 0, none⟩ (.int .i64 d)) G.pp G.f ∧ Tab (W.setCell ⟨G.bn, 0, none⟩ (.int .i64 d)) := by
    intro W d hW hO hcW
    obtain ⟨a1, a2, a3, a4, a5, a6, a7⟩ := aft W hW hO
    have hO2 : Only (fun i => i = G.bn) W (W.setCell ⟨G.bn, 0, none⟩ (.int .i64 d)) := (Only.refl (fun i => i = G.bn) W).put (p := ⟨G.bn, 0, none⟩) (.inl rfl) _
    refine ⟨hW.only hO2 ?_, a1.only hO2 (a1.ne_ a2 (by decide)), hcW.put 0 _, a3.only hO2 (a3.ne_ a2 (by decide)), Blk.only a4 hO2 (Blk.ne_ a4 a2 (by decide)), ?_, ?_, a7.only hO2 fun i e => by rw [e]; exact a2.ne2 a7 (by simp)⟩
    · rintro i (rfl | rfl | rfl | rfl)
      · exact hW.hs.ne_ a2 (by decide)
      · exact h.n1
      · exact hW.hb.hp.ne_ a2 (by decide)
      · exact fun e => gk e.symm
    · refine a5.only hO2 fun b e => ?_
      rw [e] at a5
      exact ⟨a5.1.1.ne_ a2 (by decide), a5.1.2.1.ne_ a2 (by decide), a5.1.2.2.hp.ne_ a2 (by decide), fun q => a5.1.2.2.hm.not_cells a2 q.symm⟩
    · refine a6.only hO2 fun a cc e => ?_
      rw [e] at a6
      exact ⟨(h.n2 a cc e).2, a6.2.ne_ a2 (by decide)⟩
  -- behind the telling
  have fin : ∀ W d, SM W G.b n (mvB r f y) (mvX xs f y) → Only G.b.mv w W → Blk W G.bn 3 #[.int .i64 c] → ∀ W', TK W' G.k (tellV t (nth xs f) y) → (TFm W' G.pp G.f) → Only (fun i => mvF G.f i ∨ mvK G.k i) (W.setCell ⟨G.bn, 0, none⟩ (.int .i64 d)) W' →
      RG W' G n (mvB r f y) (mvX xs f y) (tellV t (nth xs f) y) ∧ Only G.mv w W' := by
    intro W d hW hO hcW W' q1 q2 hO3
    obtain ⟨b0, b1, b2, b3, b4, b5, b6, b7⟩ := aft2 W d hW hO hcW
    have hO2 : Only (fun i => i = G.bn) W (W.setCell ⟨G.bn, 0, none⟩ (.int .i64 d)) := (Only.refl (fun i => i = G.bn) W).put (p := ⟨G.bn, 0, none⟩) (.inl rfl) _
    have hOO : Only G.mv w W' := ((hO.mono fun i _ q => (.inl q : G.mv i)).trans (hO2.mono fun i _ q => (.inr (.inl q) : G.mv i))).trans (hO3.mono fun i _ q => (.inr (.inr (q.symm)) : G.mv i))
    have far : ∀ {g : Nat} {ty : TypeId} {cs : Array Value}, Blk (W.setCell ⟨G.bn, 0, none⟩ (.int .i64 d)) g ty cs → ty ≠ 133 → (∀ a cc, G.f = .stp a cc → g ≠ a) → ¬ (mvF G.f g ∨ mvK G.k g) := by
      rintro g ty cs hb hty hstp (q | q)
      · cases e : G.f with
        | dir => rw [e] at q; exact q
        | stp a cc => rw [e] at q; exact hstp a cc e q
      · exact b5.far hb hty q
    have tfa : ∀ a cc, G.f = .stp a cc → ∃ s, Blk (W.setCell ⟨G.bn, 0, none⟩ (.int .i64 d)) a 3 #[.int .i64 s] := fun a cc e => by rw [e] at b6; exact b6.1
    have ntf : ∀ {g : Nat} {ty : TypeId} {cs : Array Value}, Blk (W.setCell ⟨G.bn, 0, none⟩ (.int .i64 d)) g ty cs → ty ≠ 3 → ∀ a cc, G.f = .stp a cc → g ≠ a := fun hb hty a cc e => by
      obtain ⟨s, hs⟩ := tfa a cc e
      exact hb.ne_ hs hty
    refine ⟨⟨b0.only hO3 ?_, q1, Blk.only b4 hO3 (far b4 (by decide) (ntf b4 (by decide))), b1.only hO3 (far b1 (by decide) (ntf b1 (by decide))), ⟨d, b2.only hO3 (far b2 (by decide) fun a cc e => fun q => (h.n2 a cc e).2 q.symm)⟩, b3.only hO3 (far b3 (by decide) (ntf b3 (by decide))), q2, ?_, ?_, h.n1, h.n2⟩, hOO⟩
    · rintro i (rfl | rfl | rfl | rfl)
      · exact far b0.hs (by decide) (ntf b0.hs (by decide))
      · obtain ⟨cs1, h0, _⟩ := b0.hx
        exact far h0 (by decide) fun a cc e => fun q => (h.n2 a cc e).1 q.symm
      · exact far b0.hb.hp (by decide) (ntf b0.hb.hp (by decide))
      · obtain ⟨cs1, h0, _⟩ := b0.hb.hg
        exact far h0 (by decide) (ntf h0 (by decide))
    · exact h.hT.only hOO hn2
    · exact hI_set (hI_set h.hI inH_zero f) (h.hI f) y
  clear hrd hn2 r1 r2 r3 gk gn x1
  have HX := Lib.hid hx
  clear hx
  generalize hxv : nth xs f = x at *
  go_enter Tryz.func175, Tryz.ntmps175
  go_wp2_with fail
  refine hat.mono ?_
  rintro e w1 ⟨rfl, rfl⟩
  go_wp2_with fail
  refine hmv.mono ?_
  rintro e w1 ⟨rfl, hS1, hO1⟩
  obtain ⟨a1, a2, a3, a4, a5, a6, a7⟩ := aft w1 hS1 hO1
  have d1 : w1.cell? ⟨G.bn, 0, none⟩ = some (.int .i64 c) := by rw [a2.cell]; rfl
  have d2 := a2.frozen 0
  obtain ⟨b0, b1, b2, b3, b4, b5, b6, b7⟩ := aft2 w1 (IntKind.i64.wrap (c + 1)) hS1 hO1 a2
  have g1 : (w1.setCell ⟨G.bn, 0, none⟩ (.int .i64 (IntKind.i64.wrap (c + 1)))).cell? ⟨G.bf, 0, none⟩ = some (tellF G.pp G.f) := by rw [b3.cell]; rfl
  have hfin := fin w1 (IntKind.i64.wrap (c + 1)) hS1 hO1 a2
  clear aft aft2 fin hat hmv h
  have hw0 : ∀ z : Int, ∃ u, IntKind.i64.wrap z = u := fun z => ⟨_, rfl⟩
  obtain ⟨u, hu⟩ := hw0 (c + 1)
  rw [hu] at b0 b1 b2 b3 b4 b5 b6 b7 g1 hfin
  cases hk : G.f with
  | dir =>
    rw [hk] at g1 hfin
    unfold tellF at g1
    have hne2 := run_func_ne (.func 74) #[.pointer (some ⟨G.pp, 0, none⟩)] #[]
    have htl := tell_any b4 b5 HX.out (f : Int) (y : Int)
    go_wp2_with fail
    refine htl.mono ?_
    rintro e w2 ⟨⟨v, rfl⟩, hM, hT2⟩
    obtain ⟨z1, z2⟩ := hfin w2 hM trivial (hT2.mono fun i _ q => .inr q)
    go_wp2_with fail
    go_ret
    exact ⟨rfl, z1, z2⟩
  | stp a cc =>
    rw [hk] at g1 hfin b6
    unfold tellF at g1
    have hne2 := run_func_ne (.func 129) #[] #[.pointer (some ⟨a, 0, none⟩), .pointer (some ⟨cc, 0, none⟩)]
    obtain ⟨⟨sl, hs⟩, hcc⟩ := b6
    have htl := step1_any b4 b5 hs hcc HX.out (f : Int) (y : Int)
    go_wp2_with fail
    refine htl.mono ?_
    rintro e w2 ⟨⟨v, rfl⟩, hM, hsl, hT2⟩
    obtain ⟨z1, z2⟩ := hfin w2 hM ⟨hsl, hcc.only hT2 (by
      rintro (q | q)
      · exact hcc.ne_ hs (by decide) q
      · exact b5.far hcc (by decide) q)⟩ hT2
    go_wp2_with fail
    go_ret
    exact ⟨rfl, z1, z2⟩
end
end Go.Proofs.YtaonkbfekadalaaGreatDoor
/- Plain laws: the slots of a spread rise; what moves of elements do to the occupied slots, as they are packed and spread. No program in sight. -/
namespace Go.Proofs.YtaonkbfekadalaaGreatDoor
open Go
set_option linter.unusedVariables false

theorem off_rises {m j j' : Nat} (hm : m ≤ 8) (h : j < j') (h' : j' < m) : j * 8 / m < j' * 8 / m := by
  have h1 : (j * 8 + m) / m = j * 8 / m + 1 := Nat.add_div_right _ (by omega)
  have h2 : (j * 8 + m) / m ≤ j' * 8 / m := Nat.div_le_div_right (by omega)
  omega
theorem seg_mem {n first segs : Int} (hok : okB n segs = true) {k : Nat} {x : Int} (h : x ∈ seg n first segs k) : 8 * (first + k) ≤ x ∧ x < 8 * (first + k) + 8 := by
  unfold seg offsP at h
  rw [List.map_map, List.mem_map] at h
  obtain ⟨j, hj, rfl⟩ := h
  rw [List.mem_range] at hj
  have hm := sN_le hok k
  have : j * 8 / sN n segs k < 8 := Nat.div_lt_of_lt_mul (by omega)
  simp only [Function.comp]
  generalize j * 8 / sN n segs k = q at *
  omega
theorem seg_rises {n first segs : Int} (hok : okB n segs = true) (k : Nat) : (seg n first segs k).Pairwise (· < ·) := by
  unfold seg offsP
  rw [List.map_map, List.pairwise_map]
  refine List.Pairwise.imp_of_mem ?_ List.pairwise_lt_range
  intro a b ha hb h
  rw [List.mem_range] at ha hb
  have := off_rises (sN_le hok k) h hb
  simp only [Function.comp]
  generalize a * 8 / sN n segs k = q at *
  generalize b * 8 / sN n segs k = q' at *
  omega
theorem plTo_mem {n first segs : Int} (hok : okB n segs = true) {x : Int} : ∀ {k : Nat}, x ∈ plTo n first segs k → 8 * first ≤ x ∧ x < 8 * (first + k)
  | 0, h => by rw [plTo_zero] at h; cases h
  | k + 1, h => by
    rw [plTo_succ, List.mem_append] at h
    rcases h with h | h
    · have := plTo_mem hok h; push_cast; omega
    · have := seg_mem hok h; push_cast; omega
theorem plTo_rises {n first segs : Int} (hok : okB n segs = true) : ∀ k : Nat, (plTo n first segs k).Pairwise (· < ·)
  | 0 => by rw [plTo_zero]; exact List.Pairwise.nil
  | k + 1 => by
    rw [plTo_succ, List.pairwise_append]
    refine ⟨plTo_rises hok k, seg_rises hok k, fun a ha b hb => ?_⟩
    have h1 := plTo_mem hok ha
    have h2 := seg_mem hok hb
    omega
theorem pl_mem {n first segs x : Int} (hok : okB n segs = true) (h : x ∈ pl n first segs) : 8 * first ≤ x ∧ x < 8 * (first + segs) := by
  have := plTo_mem hok (k := segs.toNat) h
  have := (okB_true hok).1
  omega
theorem pl_rise {n first segs : Int} (hok : okB n segs = true) {i j : Nat} (h : i < j) (hj : j < (pl n first segs).length) : nth (pl n first segs) i < nth (pl n first segs) j := by
  have := List.pairwise_iff_getElem.1 (plTo_rises (first := first) hok segs.toNat) i j (Nat.lt_trans h hj) hj h
  rw [nth_eq (Nat.lt_trans h hj), nth_eq hj]
  exact this
theorem nth_mem {S : List Int} {i : Nat} (h : i < S.length) : nth S i ∈ S := by
  rw [nth_eq h]; exact List.getElem_mem h
theorem mem_nth {S : List Int} {x : Int} (h : x ∈ S) : ∃ i, i < S.length ∧ nth S i = x := by
  obtain ⟨i, hi, rfl⟩ := List.getElem_of_mem h
  exact ⟨i, hi, nth_eq hi⟩
theorem pl_low {n first segs : Int} (hok : okB n segs = true) : ∀ {i : Nat}, i < (pl n first segs).length → 8 * first + i ≤ nth (pl n first segs) i
  | 0, h => by have := (pl_mem hok (nth_mem h)).1; omega
  | i + 1, h => by
    have h1 := pl_low (first := first) hok (i := i) (Nat.lt_of_succ_lt h)
    have h2 := pl_rise hok (i := i) (j := i + 1) (by omega) h
    push_cast
    omega

theorem mvB_len (r : List Bool) (f t : Nat) : (mvB r f t).length = r.length := by simp [mvB]
theorem on_mvB {r : List Bool} {f t : Nat} (hf : f < r.length) (ht : t < r.length) (j : Nat) : on (mvB r f t) j = if j = t then true else if j = f then false else on r j := by
  unfold mvB
  rw [on_set (by simpa using ht), on_set hf]
theorem mvB_same {r : List Bool} {f : Nat} (h : on r f = true) : mvB r f f = r := by
  apply on_ext (mvB_len _ _ _)
  intro i _
  rw [on_mvB (on_lt h) (on_lt h)]
  by_cases e : i = f
  · rw [if_pos e, e, h]
  · rw [if_neg e, if_neg e]
/-- The elements of a window, packed up to m of them; the slots from p on yet to be seen. -/
structure Pack (r r' : List Bool) (B E m p : Nat) : Prop where
  len : r'.length = r.length
  bd : B + m ≤ p ∧ p ≤ E
  cnt : cnt r p = cnt r B + m
  at_ : ∀ j, on r' j = if B ≤ j ∧ j < p then decide (j < B + m) else on r j
theorem Pack.start {r : List Bool} {B E : Nat} (h : B ≤ E) : Pack r r B E 0 B := ⟨rfl, ⟨by omega, h⟩, by omega, fun j => by rw [if_neg (by omega)]⟩
theorem Pack.skip {r r' : List Bool} {B E m p q : Nat} (h : Pack r r' B E m p) (hpq : p ≤ q) (hq : q ≤ E) (hno : ∀ j, p ≤ j → j < q → on r j = false) : Pack r r' B E m q :=
  ⟨h.len, ⟨by have := h.bd; omega, hq⟩, by rw [cnt_none hpq hno, h.cnt], fun j => by
    rw [h.at_]
    have := h.bd
    by_cases h1 : B ≤ j ∧ j < p
    · rw [if_pos h1, if_pos (by omega)]
    · rw [if_neg h1]
      by_cases h2 : B ≤ j ∧ j < q
      · rw [if_pos h2, hno j (by omega) (by omega)]; simp; omega
      · rw [if_neg h2]⟩
theorem Pack.step {r r' : List Bool} {B E m p : Nat} (h : Pack r r' B E m p) (hp : p < E) (ho : on r p = true) :
    on r' p = true ∧ (B + m = p ∨ (B + m < p ∧ on r' (B + m) = false)) ∧ (∀ j, (p < j ∧ j < B + m) ∨ (B + m < j ∧ j < p) → on r' j = false) ∧ Pack r (mvB r' p (B + m)) B E (m + 1) (p + 1) := by
  have bd := h.bd
  have hpl : p < r'.length := by rw [h.len]; exact on_lt ho
  have a1 : on r' p = true := by rw [h.at_, if_neg (by omega)]; exact ho
  refine ⟨a1, ?_, ?_, ⟨by rw [mvB_len, h.len], by omega, by rw [cnt_succ, if_pos ho, h.cnt]; omega, ?_⟩⟩
  · by_cases e : B + m = p
    · exact .inl e
    · refine .inr ⟨by omega, ?_⟩
      rw [h.at_, if_pos (by omega)]; simp
  · intro j hj
    rw [h.at_, if_pos (by omega)]; simp; omega
  · intro j
    rw [on_mvB hpl (by omega), h.at_]
    by_cases e1 : j = B + m
    · rw [if_pos e1, if_pos (by omega)]; simp; omega
    · rw [if_neg e1]
      by_cases e2 : j = p
      · rw [if_pos e2, if_pos (by omega)]; simp; omega
      · rw [if_neg e2]
        by_cases e3 : B ≤ j ∧ j < p
        · rw [if_pos e3, if_pos (by omega)]; congr 1; simp; omega
        · rw [if_neg e3, if_neg (by omega)]

/-- The elements of a window, m of them, spread from the i-th one on. -/
structure Spread (r r' : List Bool) (B E m i : Nat) (S : List Int) : Prop where
  len : r'.length = r.length
  at_ : ∀ j, on r' j = if B ≤ j ∧ j < E then (decide (j < B + i) || decide (∃ q, q < m ∧ i ≤ q ∧ nth S q = (j : Int))) else on r j
/-- The slots S are as many as elements; they rise, in the window. -/
structure Places (B E m : Nat) (S : List Int) : Prop where
  len : S.length = m
  le : B + m ≤ E
  rise : ∀ i j, i < j → j < m → nth S i < nth S j
  low : ∀ i, i < m → (B + i : Int) ≤ nth S i
  high : ∀ i, i < m → nth S i < (E : Int)
theorem Spread.start {r r' : List Bool} {B E m p : Nat} {S : List Int} (h : Pack r r' B E m E) : Spread r r' B E m m S := ⟨h.len, fun j => by
  rw [h.at_]
  by_cases e : B ≤ j ∧ j < E
  · rw [if_pos e, if_pos e]
    have : decide (∃ q, q < m ∧ m ≤ q ∧ nth S q = (j : Int)) = false := by
      rw [decide_eq_false_iff_not]; rintro ⟨q, h1, h2, _⟩; omega
    rw [this, Bool.or_false]
  · rw [if_neg e, if_neg e]⟩
theorem Spread.step {r r' : List Bool} {B E m i : Nat} {S : List Int} (hP : Places B E m S) (h : Spread r r' B E m (i + 1) S) (hi : i < m) (hE : E ≤ r.length) :
    on r' (B + i) = true ∧ (∃ y : Nat, nth S i = (y : Int) ∧ y < r.length ∧ (B + i = y ∨ (B + i < y ∧ on r' y = false)) ∧ (∀ j, (B + i < j ∧ j < y) ∨ (y < j ∧ j < B + i) → on r' j = false) ∧ Spread r (mvB r' (B + i) y) B E m i S) := by
  have h1 := hP.low i hi
  have h2 := hP.high i hi
  have hle := hP.le
  obtain ⟨y, hy⟩ : ∃ y : Nat, nth S i = (y : Int) := ⟨(nth S i).toNat, by omega⟩
  rw [hy] at h1 h2
  have a1 : on r' (B + i) = true := by rw [h.at_, if_pos (by omega)]; simp
  have far : ∀ q, q < m → i + 1 ≤ q → (y : Int) < nth S q := fun q hq hq2 => by have := hP.rise i q (by omega) hq; omega
  have off : ∀ j : Nat, B + i < j → j ≤ y → on r' j = false := by
    intro j j1 j2
    rw [h.at_, if_pos (by omega)]
    rw [Bool.or_eq_false_iff]
    refine ⟨by simp; omega, ?_⟩
    rw [decide_eq_false_iff_not]
    rintro ⟨q, q1, q2, q3⟩
    have := far q q1 q2
    omega
  refine ⟨a1, y, hy, by omega, ?_, ?_, ⟨by rw [mvB_len, h.len], ?_⟩⟩
  · by_cases e : B + i = y
    · exact .inl e
    · exact .inr ⟨by omega, off y (by omega) (Nat.le_refl _)⟩
  · rintro j (hj | hj)
    · exact off j hj.1 (by omega)
    · omega
  · intro j
    rw [on_mvB (by rw [h.len]; omega) (by rw [h.len]; omega), h.at_]
    by_cases e1 : j = y
    · rw [if_pos e1, if_pos (by omega)]
      have : decide (∃ q, q < m ∧ i ≤ q ∧ nth S q = (j : Int)) = true := by rw [decide_eq_true_eq]; exact ⟨i, hi, Nat.le_refl _, by rw [hy, e1]⟩
      rw [this, Bool.or_true]
    · rw [if_neg e1]
      by_cases e2 : j = B + i
      · rw [if_pos e2, if_pos (by omega)]
        symm
        rw [Bool.or_eq_false_iff]
        refine ⟨by simp; omega, ?_⟩
        rw [decide_eq_false_iff_not]
        rintro ⟨q, q1, q2, q3⟩
        by_cases e3 : q = i
        · subst e3; omega
        · have := far q q1 (by omega); omega
      · rw [if_neg e2]
        by_cases e3 : B ≤ j ∧ j < E
        · rw [if_pos e3, if_pos e3]
          have e4 : (∃ q, q < m ∧ i + 1 ≤ q ∧ nth S q = (j : Int)) ↔ (∃ q, q < m ∧ i ≤ q ∧ nth S q = (j : Int)) := by
            constructor
            · rintro ⟨q, q1, q2, q3⟩; exact ⟨q, q1, by omega, q3⟩
            · rintro ⟨q, q1, q2, q3⟩
              refine ⟨q, q1, ?_, q3⟩
              by_cases e5 : q = i
              · subst e5; omega
              · omega
          have e5 : decide (j < B + (i + 1)) = decide (j < B + i) := by simp; omega
          rw [e5]
          congr 1
          simp only [e4]
        · rw [if_neg e3, if_neg e3]
/-- The bits behind an even spread of a window. -/
def evenB (r : List Bool) (first segs : Nat) : List Bool :=
  (List.range r.length).map fun j => if 8 * first ≤ j ∧ j < 8 * (first + segs) then decide ((j : Int) ∈ pl ((cnt r (8 * (first + segs)) - cnt r (8 * first) : Nat) : Int) first segs) else on r j
theorem evenB_len (r : List Bool) (first segs : Nat) : (evenB r first segs).length = r.length := by simp [evenB]
theorem on_evenB {r : List Bool} {first segs j : Nat} : on (evenB r first segs) j = if 8 * first ≤ j ∧ j < 8 * (first + segs) ∧ j < r.length then decide ((j : Int) ∈ pl ((cnt r (8 * (first + segs)) - cnt r (8 * first) : Nat) : Int) first segs) else on r j := by
  by_cases h : j < r.length
  · rw [on_eq (by rw [evenB_len]; exact h)]
    unfold evenB
    simp only [List.getElem_map, List.getElem_range]
    by_cases e : 8 * first ≤ j ∧ j < 8 * (first + segs)
    · rw [if_pos e, if_pos (by omega)]
    · rw [if_neg e, if_neg (by omega)]
  · rw [if_neg (by omega), on_end (by rw [evenB_len]; omega), on_end (by omega)]
theorem Spread.done {r r' : List Bool} {first segs m : Nat} {S : List Int} (hS : S = pl (m : Int) first segs) (hm : m = cnt r (8 * (first + segs)) - cnt r (8 * first)) (hE : 8 * (first + segs) ≤ r.length) (hl : S.length = m) (h : Spread r r' (8 * first) (8 * (first + segs)) m 0 S) : r' = evenB r first segs := by
  apply on_ext (by rw [h.len, evenB_len])
  intro j hj
  rw [h.at_, on_evenB, ← hm, ← hS]
  by_cases e : 8 * first ≤ j ∧ j < 8 * (first + segs)
  · rw [if_pos e, if_pos (by omega)]
    have : decide (j < 8 * first + 0) = false := by simp; omega
    rw [this, Bool.false_or]
    congr 1
    rw [eq_iff_iff]
    constructor
    · rintro ⟨q, q1, _, q3⟩; rw [← q3]; exact nth_mem (by omega)
    · intro hq
      obtain ⟨q, q1, q2⟩ := mem_nth hq
      exact ⟨q, by omega, Nat.zero_le _, q2⟩
  · rw [if_neg e, if_neg (by omega)]
theorem places_pl {r : List Bool} {first segs m : Nat} (hok : okB (m : Int) segs = true) : Places (8 * first) (8 * (first + segs)) m (pl (m : Int) first segs) := by
  have hl := pl_length (first := first) hok
  have ok := okB_true hok
  refine ⟨by omega, by omega, fun i j h1 h2 => pl_rise hok h1 (by omega), fun i hi => ?_, fun i hi => ?_⟩
  · have := pl_low (first := first) hok (i := i) (by omega); push_cast; omega
  · have := (pl_mem (first := first) hok (nth_mem (S := pl (m : Int) first segs) (i := i) (by omega))).2; push_cast; omega
end Go.Proofs.YtaonkbfekadalaaGreatDoor
