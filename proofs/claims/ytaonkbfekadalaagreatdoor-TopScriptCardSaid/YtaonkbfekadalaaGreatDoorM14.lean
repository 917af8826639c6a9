/- Joined texts: On, Gc, Gd. -/
import Derived.Test.YtaonkbfekadalaaGreatDoorM07
import Derived.Test.YtaonkbfekadalaaGreatDoorM09
import Derived.Test.YtaonkbfekadalaaGreatDoorM13
/- Worlds of which but the blocks of a set have turned. -/
namespace Go.Proofs.YtaonkbfekadalaaGreatDoor
open Go.RowKit
set_option linter.unusedVariables false

/-- Of the world but the blocks of X have turned. -/
structure Only (X : Nat → Prop) (w w' : World) : Prop where
  os : w'.os = w.os
  tape : w'.tape = w.tape
  output : w'.output = w.output
  size : w.heap.size ≤ w'.heap.size
  block : ∀ i, i < w.heap.size → ¬ X i → w'.heap[i]? = w.heap[i]?
section
variable {X Y : Nat → Prop} {w w' w'' : World}
theorem Only.refl (X : Nat → Prop) (w : World) : Only X w w := ⟨rfl, rfl, rfl, Nat.le_refl _, fun _ _ _ => rfl⟩
theorem Only.trans (h : Only X w w') (k : Only X w' w'') : Only X w w'' := ⟨k.os.trans h.os, k.tape.trans h.tape, k.output.trans h.output, Nat.le_trans h.size k.size, fun i hi hx => (k.block i (Nat.lt_of_lt_of_le hi h.size) hx).trans (h.block i hi hx)⟩
/-- What turns behind a new block, or a block that may turn, may turn. -/
theorem Only.trans' (h : Only X w w') (k : Only Y w' w'') (hY : ∀ i, i < w.heap.size → Y i → X i) : Only X w w'' := ⟨k.os.trans h.os, k.tape.trans h.tape, k.output.trans h.output, Nat.le_trans h.size k.size, fun i hi hx => (k.block i (Nat.lt_of_lt_of_le hi h.size) (fun q => hx (hY i hi q))).trans (h.block i hi hx)⟩
theorem Only.mono (h : Only X w w') (hY : ∀ i, i < w.heap.size → X i → Y i) : Only Y w w' := ⟨h.os, h.tape, h.output, h.size, fun i hi hy => h.block i hi fun q => hy (hY i hi q)⟩
theorem Only.of_below (h : Below w.heap.size w w') : Only X w w' := ⟨h.os, h.tape, h.output, h.size, fun i hi _ => h.block i hi⟩
theorem Only.of_grown {row : Option Nat} (h : w.grownBy w' row) (hX : ∀ r, row = some r → X r) : Only X w w' := ⟨h.os, h.tape, h.output, h.size, fun i hi hx => h.block i hi fun q => hx (hX i q.symm)⟩
theorem Only.of_turn {p b : Nat} (h : Turn p b w w') (hp : X p) (hb : X b) : Only X w w' := ⟨h.os, h.tape, h.output, h.size, fun i hi hx => h.block i hi (fun q => hx (q ▸ hp)) (fun q => hx (q ▸ hb))⟩
theorem Only.toBelow {B : Nat} (h : Only X w w') (hB : B ≤ w.heap.size) (hX : ∀ i, X i → B ≤ i) : Below B w w' := ⟨h.os, h.tape, h.output, h.size, fun i hi => h.block i (by omega) fun q => by have := hX i q; omega⟩
theorem Only.below {B : Nat} {a : World} (hb : Below B a w) (h : Only X w w') (hB : B ≤ w.heap.size) (hX : ∀ i, X i → B ≤ i) : Below B a w' := hb.trans (h.toBelow hB hX)
theorem Only.alloc (h : Only X w w') (o : Obj) : Only X w (w'.alloc o) := h.trans' (Y := fun _ => False) (Only.of_below ((Below.refl _ w').alloc (Nat.le_refl _) o)) (fun _ _ q => q.elim)
theorem Only.drewN (h : Only X w w') (n : Nat) : Only X w (w'.drewN n) := ⟨h.os, h.tape, h.output, h.size, h.block⟩
theorem Only.drew (h : Only X w w') : Only X w w'.drew := ⟨h.os, h.tape, h.output, h.size, h.block⟩
theorem Only.box {o : Obj} (h : Only X (w.alloc o) w') : Only X w w' := ⟨h.os, h.tape, h.output, by have := h.size; simp at this; omega, fun i hi hx => (h.block i (by simp; omega) hx).trans (Below.heap_alloc _ _ _ hi)⟩
theorem Only.put (h : Only X w w') {p : Addr} (hp : X p.block ∨ w.heap.size ≤ p.block) (u : Value) : Only X w (w'.setCell p u) := ⟨h.os, h.tape, h.output, by simpa [World.setCell] using h.size, fun i hi hx => (Below.heap_setCell w' p u i (by
    rintro rfl
    rcases hp with hp | hp
    · exact hx hp
    · omega)).trans (h.block i hi hx)⟩
theorem Blk.only {g : Nat} {t : TypeId} {cs : Array Value} (h : Blk w g t cs) (k : Only X w w') (hx : ¬ X g) : Blk w' g t cs := (k.block g h.lt hx).trans h
theorem BI.only {g : Nat} {xs : List Int} (h : BI w g xs) (k : Only X w w') (hx : ¬ X g) : BI w' g xs := by
  obtain ⟨cs, h1, h2⟩ := h
  exact ⟨cs, h1.only k hx, h2⟩
theorem BW.only {g : Nat} {f : Nat → Nat} {m : Nat} (h : BW w g f m) (k : Only X w w') (hx : ¬ X g) : BW w' g f m := by
  obtain ⟨cs, h1, h2⟩ := h
  exact ⟨cs, h1.only k hx, h2⟩
theorem BM.only {p g cap n : Nat} {r : List Bool} (h : BM w p g cap n r) (k : Only X w w') (h1 : ¬ X p) (h2 : ¬ X g) : BM w' p g cap n r := ⟨h.hl, h.hn, h.hp.only k h1, h.hg.only k h2, h.cap⟩
theorem TM.only {p g cap S : Nat} {r t : List Int} (h : TM w p g cap S r t) (k : Only X w w') (h1 : ¬ X p) (h2 : ¬ X g) : TM w' p g cap S r t := ⟨h.hS, h.hp.only k h1, h.hg.only k h2, h.ti, h.cap⟩
theorem MM.only {b : Nat} {r : List Int} (h : MM w b r) (k : Only X w w') (hx : ¬ X b) : MM w' b r := by
  have hlt := h.lt
  obtain ⟨D, ⟨es, clock, e1, e2⟩, e3⟩ := h
  exact ⟨D, ⟨es, clock, (k.block b hlt hx).trans e1, e2⟩, e3⟩
theorem HM.only {p b : Nat} {r : List Int} (h : HM w p b r) (k : Only X w w') (h1 : ¬ X p) (h2 : ¬ X b) : HM w' p b r := ⟨h.hp.only k h1, h.hm.only k h2⟩
end
end Go.Proofs.YtaonkbfekadalaaGreatDoor
/- An array with gaps in memory; what look, Cap, Len, At, Next, Prev, Count, Put, Take and Move come to. -/
namespace Go.Proofs.YtaonkbfekadalaaGreatDoor
open Go.RowKit
set_option linter.unusedVariables false

/-- The blocks of an array with gaps: its struct, its slots, its bits, their words; and two capacities. -/
structure SB where
  s : Nat
  g : Nat
  c : Nat
  p : Nat
  k : Nat
  cap : Nat
/-- Is a block one of its own? -/
def SB.has (b : SB) (i : Nat) : Prop := i = b.s ∨ i = b.g ∨ i = b.p ∨ i = b.k
/-- The blocks that its changes turn. -/
def SB.mv (b : SB) (i : Nat) : Prop := i = b.g ∨ i = b.k
/-- An array with gaps lies there: of n slots, r occupied, that hold xs. -/
structure SM (w : World) (b : SB) (n : Nat) (r : List Bool) (xs : List Int) : Prop where
  hs : Blk w b.s 149 #[.slice (some ⟨b.g, 0, none⟩) n b.c, .pointer (some ⟨b.p, 0, none⟩)]
  hb : BM w b.p b.k b.cap n r
  hx : BI w b.g xs
  hl : xs.length = n
  hn : n ≤ 4096
  hc : n ≤ b.c ∧ b.c ≤ 9223372036854775807
section
variable {w w' : World} {b : SB} {n : Nat} {r : List Bool} {xs : List Int}
theorem BI.ne_BW {g g' : Nat} {f : Nat → Nat} {m : Nat} (h : BI w g xs) (h' : BW w g' f m) : g ≠ g' := by
  obtain ⟨cs, h1, _⟩ := h'
  exact h.ne_ h1 (by decide)
theorem SM.lr (h : SM w b n r xs) : r.length = n := h.hb.hl
theorem SM.c0 (h : SM w b n r xs) : w.cell? ⟨b.s, 0, none⟩ = some (.slice (some ⟨b.g, 0, none⟩) n b.c) := by rw [h.hs.cell]; rfl
theorem SM.c1 (h : SM w b n r xs) : w.cell? ⟨b.s, 1, none⟩ = some (.pointer (some ⟨b.p, 0, none⟩)) := by rw [h.hs.cell]; rfl
theorem SM.gs (h : SM w b n r xs) : b.g ≠ b.s := h.hx.ne_ h.hs (by decide)
theorem SM.gp (h : SM w b n r xs) : b.g ≠ b.p := h.hx.ne_ h.hb.hp (by decide)
theorem SM.gk (h : SM w b n r xs) : b.g ≠ b.k := h.hx.ne_BW h.hb.hg
theorem SM.sk (h : SM w b n r xs) : b.s ≠ b.k := by
  obtain ⟨cs, h1, _⟩ := h.hb.hg
  exact h.hs.ne_ h1 (by decide)
theorem SM.only {X : Nat → Prop} (h : SM w b n r xs) (k : Only X w w') (hX : ∀ i, b.has i → ¬ X i) : SM w' b n r xs :=
  ⟨h.hs.only k (hX _ (.inl rfl)), h.hb.only k (hX _ (.inr (.inr (.inl rfl)))) (hX _ (.inr (.inr (.inr rfl)))), h.hx.only k (hX _ (.inr (.inl rfl))), h.hl, h.hn, h.hc⟩
theorem SM.below (h : SM w b n r xs) (hb : Below w.heap.size w w') : SM w' b n r xs := h.only (Only.of_below (X := fun _ => False) hb) fun _ _ q => q
theorem SM.alloc (h : SM w b n r xs) (o : Obj) : SM (w.alloc o) b n r xs := h.below ((Below.refl _ w).alloc (Nat.le_refl _) _)
theorem SM.drewN (h : SM w b n r xs) (d : Nat) : SM (w.drewN d) b n r xs := ⟨h.hs, h.hb.drewN d, h.hx, h.hl, h.hn, h.hc⟩
theorem SM.lt (h : SM w b n r xs) {i : Nat} (hi : b.has i) : i < w.heap.size := by
  rcases hi with rfl | rfl | rfl | rfl
  · exact h.hs.lt
  · exact h.hx.lt
  · exact h.hb.hp.lt
  · exact h.hb.hg.lt
theorem SM.bd (h : SM w b n r xs) : 1 ≤ n ∧ n ≤ 4096 := ⟨h.hb.hn.1, h.hn⟩
theorem SM.cell (h : SM w b n r xs) {k : Nat} (hk : k < n) : w.cell? ⟨b.g, k, none⟩ = some (.int .i64 (nth xs k)) := h.hx.cell (by rw [h.hl]; exact hk)
/-- The library's table is none of its blocks. -/
theorem SM.ne2 (h : SM w b n r xs) (hT : Tab w) : ∀ i, b.mv i → i ≠ 2 := by
  have t := hT 0 (by decide)
  have bd := h.bd
  rintro i (rfl | rfl) e
  · have := h.cell (k := 0) (by omega)
    rw [e, t] at this
    cases this
  · have := h.hb.hg.cell (k := 0) (by unfold nw; omega)
    rw [e, t] at this
    cases this
end
theorem Tab.only {X : Nat → Prop} {w w' : World} (h : Tab w) (k : Only X w w') (hX : ∀ i, X i → i ≠ 2) : Tab w' := fun j hj => by
  have h2 : w'.heap[2]? = w.heap[2]? := k.block 2 h.pos fun q => hX 2 q rfl
  rw [show w'.cell? ⟨2, j, none⟩ = w.cell? ⟨2, j, none⟩ by simp only [World.cell?, h2]]
  exact h j hj

/-- What is wrong with slots: nothing, if all of them are. -/
theorem look_ok {w : World} {b : SB} {n m c : Nat} {r : List Bool} {xs ys : List Int} {A : Option Addr} (h : SM w b n r xs) (hl : ys.length = m) (hR : RI w A ys) (hy : ∀ j, j < m → 0 ≤ nth ys j ∧ nth ys j < n) (hm : m ≤ 4096) :
    Calls Tryz.prog 124 #[.pointer (some ⟨b.s, 0, none⟩), .slice A m c] w fun e w' => e = .returned (.int .i64 0) ∧ w = w' := by
  have c0 := h.c0
  have bd := h.bd
  have HS := Lib.hid hl
  have HY := Lib.hid hy
  clear hl hy h
  go_enter Tryz.func124, Tryz.ntmps124
  go_wp2_with fail
  go_loop [11] (fun i => ∃ q : Nat, q ≤ m ∧ i = .int .i64 q) (fun i => m - (intOf i).toNat)
  case atStart => exact ⟨0, Nat.zero_le _, rfl⟩
  case round =>
    obtain ⟨q, hq, rfl⟩ := hrel
    by_cases hlt : q < m
    · obtain ⟨g, off, rfl, hc⟩ := hR (by rw [HS.out]; omega)
      have c2 := hc q (by rw [HS.out]; exact hlt)
      have bq := HY.out q hlt
      have j0 := bq.1
      have j3 := bq.2
      have j1 : (0 : Int) ≤ (q : Int) := by omega
      have j2 : (q : Int) < (m : Int) := by omega
      clear hc bq
      generalize nth ys q = y at *
      have t1 : decide (y < 0) = false := by simp; omega
      have t2 : decide ((n : Int) ≤ y) = false := by simp; omega
      go_wp2_with fail
      go_round
      case rel => exact ⟨q + 1, by omega, by go_num⟩
      case measure => simp [intOf]; omega
    · obtain rfl : q = m := by omega
      go_wp2_with fail
      go_ret
      exact ⟨rfl, rfl⟩

section
variable {w : World} {b : SB} {n : Nat} {r : List Bool} {xs : List Int}
theorem SCap_ok (h : SM w b n r xs) : Calls Tryz.prog 78 #[.pointer (some ⟨b.s, 0, none⟩)] w fun e w' => e = .returned (.int .i64 (n : Int)) ∧ w = w' := by
  have c0 := h.c0
  have bd := h.bd
  go_enter Tryz.func78, Tryz.ntmps78
  go_wp2_with fail
  go_ret
  exact ⟨rfl, rfl⟩
theorem SLen_ok (h : SM w b n r xs) : Calls Tryz.prog 72 #[.pointer (some ⟨b.s, 0, none⟩)] w fun e w' => e = .returned (.int .i64 (cnt r n : Nat)) ∧ w = w' := by
  have c1 := h.c1
  have hc := BCount_ok h.hb
  go_enter Tryz.func72, Tryz.ntmps72
  go_wp2_with fail
  refine hc.mono ?_
  rintro e w1 ⟨rfl, rfl⟩
  go_wp2_with fail
  go_ret
  exact ⟨rfl, rfl⟩
theorem SNext_any (h : SM w b n r xs) (hT : Tab w) (i : Int) : Calls Tryz.prog 163 #[.pointer (some ⟨b.s, 0, none⟩), .int .i64 i] w fun e w' => (∃ s : Int, e = .returned (.int .i64 s) ∧ IsNext r i s) ∧ w = w' := by
  have c1 := h.c1
  have hc := BNext_any h.hb hT i
  go_enter Tryz.func163, Tryz.ntmps163
  go_wp2_with fail
  refine hc.mono ?_
  rintro e w1 ⟨⟨s, rfl, hs⟩, rfl⟩
  go_wp2_with fail
  go_ret
  exact ⟨⟨s, rfl, hs⟩, rfl⟩
theorem SPrev_any (h : SM w b n r xs) (i : Int) : Calls Tryz.prog 79 #[.pointer (some ⟨b.s, 0, none⟩), .int .i64 i] w fun e w' => (∃ s : Int, e = .returned (.int .i64 s) ∧ IsPrev r i s) ∧ w = w' := by
  have c1 := h.c1
  have hc := BPrev_any h.hb i
  go_enter Tryz.func79, Tryz.ntmps79
  go_wp2_with fail
  refine hc.mono ?_
  rintro e w1 ⟨⟨s, rfl, hs⟩, rfl⟩
  go_wp2_with fail
  go_ret
  exact ⟨⟨s, rfl, hs⟩, rfl⟩
theorem SCount_ok (h : SM w b n r xs) (a e : Nat) (hae : a ≤ e) (he : e ≤ n) : Calls Tryz.prog 133 #[.pointer (some ⟨b.s, 0, none⟩), .int .i64 (a : Nat), .int .i64 (e : Nat)] w fun x w' => x = .returned (.tuple #[.int .i64 ((cnt r e - cnt r a : Nat) : Int), .int .i64 0]) ∧ w = w' := by
  have c1 := h.c1
  have hc := BRange_ok h.hb a e hae he
  go_enter Tryz.func133, Tryz.ntmps133
  go_wp2_with fail
  refine hc.mono ?_
  rintro e w1 ⟨rfl, rfl⟩
  go_wp2_with fail
  go_ret2
  exact ⟨rfl, rfl⟩
/-- The element of a slot that is occupied; 0, if it is free. -/
def atV (r : List Bool) (xs : List Int) (i : Int) : Int := if hasB r i then nth xs i.toNat else 0
theorem SAt_any (h : SM w b n r xs) (i : Int) : Calls Tryz.prog 70 #[.pointer (some ⟨b.s, 0, none⟩), .int .i64 i] w fun e w' => e = .returned (.tuple #[.int .i64 (atV r xs i), .bool (hasB r i)]) ∧ w = w' := by
  have c0 := h.c0
  have c1 := h.c1
  have bd := h.bd
  have hc := BHas_any h.hb i
  unfold atV
  cases ho : hasB r i
  · rw [ho] at hc
    rw [if_neg (by simp)]
    clear ho c0 h
    go_enter Tryz.func70, Tryz.ntmps70
    go_wp2_with fail
    refine hc.mono ?_
    rintro e w1 ⟨rfl, rfl⟩
    go_wp2_with fail
    go_ret2
    exact ⟨rfl, rfl⟩
  · rw [ho] at hc
    rw [if_pos rfl]
    obtain ⟨h0, h1⟩ : 0 ≤ i ∧ on r i.toNat = true := by simpa [hasB] using ho
    obtain ⟨I, rfl⟩ := Int.eq_ofNat_of_zero_le h0
    have hI : I < n := by have := on_lt h1; rw [h.lr] at this; simpa using this
    have c2 := h.cell hI
    rw [Int.toNat_natCast]
    have i1 : (I : Int) < (n : Int) := by omega
    clear ho h1 h
    generalize nth xs I = y at *
    go_enter Tryz.func70, Tryz.ntmps70
    go_wp2_with fail
    refine hc.mono ?_
    rintro e w1 ⟨rfl, rfl⟩
    go_wp2_with fail
    go_ret2
    exact ⟨rfl, rfl⟩
end
end Go.Proofs.YtaonkbfekadalaaGreatDoor
/- What Put, Take, Move, New and Clone of an array with gaps come to. -/
namespace Go.Proofs.YtaonkbfekadalaaGreatDoor
open Go.RowKit
set_option linter.unusedVariables false

section
variable {w : World} {b : SB} {n : Nat} {r : List Bool} {xs : List Int}
/-- A slot is written, and its bit turned. -/
theorem SM.step (h : SM w b n r xs) (I : Nat) (x : Int) {w3 : World} {r' : List Bool} (h3 : BM w3 b.p b.k b.cap n r') (hg : (w.setCell ⟨b.g, I, none⟩ (.int .i64 x)).grownBy w3 (some b.k)) :
    SM w3 b n r' (xs.set I x) ∧ Only b.mv w w3 := by
  have e1 := h.gk
  have e2 := h.gs
  have e3 := h.sk
  refine ⟨⟨?_, h3, ?_, by rw [List.length_set, h.hl], h.hn, h.hc⟩, ?_⟩
  · exact (h.hs.far (p := ⟨b.g, I, none⟩) (fun e => e2 e.symm) _).grown hg (fun e => by injection e with e; exact e3 e)
  · exact (h.hx.put I x).grown hg (fun e => by injection e with e; exact e1 e)
  · exact ((Only.refl b.mv w).put (.inl (.inl rfl)) _).trans (Only.of_grown hg fun r e => by injection e with e; exact .inr e.symm)

set_option maxRecDepth 100000 in
theorem SPut_ok (h : SM w b n r xs) (I : Nat) (hI : I < n) (ho : on r I = false) (x : Int) :
    Calls Tryz.prog 75 #[.pointer (some ⟨b.s, 0, none⟩), .int .i64 (I : Nat), .int .i64 x] w fun e w' => e = .returned (.int .i64 0) ∧ SM w' b n (r.set I true) (xs.set I x) ∧ Only b.mv w w' := by
  have h1 := h.alloc (.cells #[.int .i64 (I : Int)] 3)
  have hR := RI_of_blk (xs := [(I : Int)]) (Blk.made w 3 #[.int .i64 (I : Int)])
  have hO : Only b.mv w (w.alloc (.cells #[.int .i64 (I : Int)] 3)) := (Only.refl _ w).alloc _
  have bd := h.bd
  have i1 : (I : Int) < (n : Int) := by omega
  go_enter Tryz.func75, Tryz.ntmps75
  go_wp2_with fail
  refine (look_ok (m := 1) h1 rfl hR (fun j hj => ?_) (by decide)).mono ?_
  · obtain rfl : j = 0 := by omega
    exact ⟨by show (0 : Int) ≤ (I : Int); omega, by show (I : Int) < (n : Int); omega⟩
  rintro e w1 ⟨rfl, rfl⟩
  have hh := BHas_any h1.hb (I : Int)
  rw [hasB_nat, ho] at hh
  have c0 := h1.c0
  have c1 := h1.c1
  have hset := fun W hW => BSet_ok (w := W) (p := b.p) (g := b.k) (cap := b.cap) (n := n) (r := r) hW I hI true
  have hfz := h1.hx.frozen I
  have hlt := h1.cell hI
  clear h ho hR
  generalize w.alloc (.cells #[.int .i64 (I : Int)] 3) = W at *
  go_wp2_with fail
  refine hh.mono ?_
  rintro e w1 ⟨rfl, rfl⟩
  have d0 : (W.setCell ⟨b.g, I, none⟩ (.int .i64 x)).cell? ⟨b.s, 1, none⟩ = some (.pointer (some ⟨b.p, 0, none⟩)) := by
    rw [(h1.hs.far (p := ⟨b.g, I, none⟩) (fun e => h1.gs e.symm) _).cell]; rfl
  go_wp2_with fail
  refine (hset _ (h1.hb.far (q := ⟨b.g, I, none⟩) (fun e => h1.gp e.symm) (fun e => h1.gk e.symm) _)).mono ?_
  rintro e w3 ⟨rfl, h3, hg3⟩
  obtain ⟨q1, q2⟩ := h1.step I x h3 hg3
  go_wp2_with fail
  go_ret
  exact ⟨rfl, q1, hO.trans q2⟩

set_option maxRecDepth 100000 in
theorem STake_ok (h : SM w b n r xs) (I : Nat) (ho : on r I = true) :
    Calls Tryz.prog 200 #[.pointer (some ⟨b.s, 0, none⟩), .int .i64 (I : Nat)] w fun e w' => e = .returned (.tuple #[.int .i64 (nth xs I), .int .i64 0]) ∧ SM w' b n (r.set I false) (xs.set I 0) ∧ Only b.mv w w' := by
  have hI : I < n := by have := on_lt ho; rwa [h.lr] at this
  have h1 := h.alloc (.cells #[.int .i64 (I : Int)] 3)
  have hR := RI_of_blk (xs := [(I : Int)]) (Blk.made w 3 #[.int .i64 (I : Int)])
  have hO : Only b.mv w (w.alloc (.cells #[.int .i64 (I : Int)] 3)) := (Only.refl _ w).alloc _
  have bd := h.bd
  have i1 : (I : Int) < (n : Int) := by omega
  go_enter Tryz.func200, Tryz.ntmps200
  go_wp2_with fail
  refine (look_ok (m := 1) h1 rfl hR (fun j hj => ?_) (by decide)).mono ?_
  · obtain rfl : j = 0 := by omega
    exact ⟨by show (0 : Int) ≤ (I : Int); omega, by show (I : Int) < (n : Int); omega⟩
  rintro e w1 ⟨rfl, rfl⟩
  have hh := BHas_any h1.hb (I : Int)
  rw [hasB_nat, ho] at hh
  have c0 := h1.c0
  have c1 := h1.c1
  have hset := fun W hW => BSet_ok (w := W) (p := b.p) (g := b.k) (cap := b.cap) (n := n) (r := r) hW I hI false
  have hfz := h1.hx.frozen I
  have hlt := h1.cell hI
  clear h ho hR
  generalize hW : w.alloc (.cells #[.int .i64 (I : Int)] 3) = W at *
  clear hW
  go_wp2_with fail
  refine hh.mono ?_
  rintro e w1 ⟨rfl, rfl⟩
  have d0 : (W.setCell ⟨b.g, I, none⟩ (.int .i64 0)).cell? ⟨b.s, 1, none⟩ = some (.pointer (some ⟨b.p, 0, none⟩)) := by
    rw [(h1.hs.far (p := ⟨b.g, I, none⟩) (fun e => h1.gs e.symm) _).cell]; rfl
  have hst := fun w3 h3 hg3 => h1.step (w3 := w3) (r' := r.set I false) I 0 h3 hg3
  have hfar := h1.hb.far (q := ⟨b.g, I, none⟩) (fun e => h1.gp e.symm) (fun e => h1.gk e.symm) (.int .i64 0)
  clear h1 hh
  go_wp2_with fail
  refine (hset _ hfar).mono ?_
  rintro e w3 ⟨rfl, h3, hg3⟩
  obtain ⟨q1, q2⟩ := hst w3 h3 hg3
  go_wp2_with fail
  go_ret2
  exact ⟨rfl, q1, hO.trans q2⟩

/-- The bits, and the slots, behind a move. -/
def mvB (r : List Bool) (f t : Nat) : List Bool := (r.set f false).set t true
def mvX (xs : List Int) (f t : Nat) : List Int := (xs.set f 0).set t (nth xs f)
set_option maxRecDepth 100000 in
theorem SMove_ok (h : SM w b n r xs) (f t : Nat) (hf : on r f = true) (ht : t < n) (hto : on r t = false) :
    Calls Tryz.prog 176 #[.pointer (some ⟨b.s, 0, none⟩), .int .i64 (f : Nat), .int .i64 (t : Nat)] w fun e w' => e = .returned (.int .i64 0) ∧ SM w' b n (mvB r f t) (mvX xs f t) ∧ Only b.mv w w' := by
  have hF : f < n := by have := on_lt hf; rwa [h.lr] at this
  have hne : f ≠ t := by rintro rfl; rw [hf] at hto; cases hto
  have h1 := h.alloc (.cells #[.int .i64 (f : Int), .int .i64 (t : Int)] 3)
  have hR := RI_of_blk (xs := [(f : Int), (t : Int)]) (Blk.made w 3 #[.int .i64 (f : Int), .int .i64 (t : Int)])
  have hO : Only b.mv w (w.alloc (.cells #[.int .i64 (f : Int), .int .i64 (t : Int)] 3)) := (Only.refl _ w).alloc _
  have bd := h.bd
  go_enter Tryz.func176, Tryz.ntmps176
  go_wp2_with fail
  refine (look_ok (m := 2) h1 rfl hR (fun j hj => ?_) (by decide)).mono ?_
  · rcases (show j = 0 ∨ j = 1 by omega) with rfl | rfl
    · exact ⟨by show (0 : Int) ≤ (f : Int); omega, by show (f : Int) < (n : Int); omega⟩
    · exact ⟨by show (0 : Int) ≤ (t : Int); omega, by show (t : Int) < (n : Int); omega⟩
  rintro e w1 ⟨rfl, rfl⟩
  have hh1 := BHas_any h1.hb (f : Int)
  have hh2 := BHas_any h1.hb (t : Int)
  rw [hasB_nat, hf] at hh1
  rw [hasB_nat, hto] at hh2
  have c1 := h1.c1
  have htk := STake_ok h1 f hf
  have hto' : on (r.set f false) t = false := by rw [on_set (on_lt hf), if_neg (fun e => hne e.symm)]; exact hto
  clear hR
  generalize hW : w.alloc (.cells #[.int .i64 (f : Int), .int .i64 (t : Int)] 3) = W at *
  clear hW
  go_wp2_with fail
  refine hh1.mono ?_
  rintro e w1 ⟨rfl, rfl⟩
  go_wp2_with fail
  refine hh2.mono ?_
  rintro e w1 ⟨rfl, rfl⟩
  go_wp2_with fail
  refine htk.mono ?_
  rintro e w2 ⟨rfl, h2, hO2⟩
  go_wp2_with fail
  refine (SPut_ok h2 t ht hto' _).mono ?_
  rintro e w3 ⟨rfl, h3, hO3⟩
  go_wp2_with fail
  go_ret
  exact ⟨rfl, h3, (hO.trans hO2).trans hO3⟩
end

/-- All of its blocks are new. -/
def SB.from (b : SB) (B : Nat) : Prop := ∀ i, b.has i → B ≤ i
set_option maxRecDepth 100000 in
theorem SNew_ok (N : Nat) (h1 : 1 ≤ N) (h2 : N ≤ 4096) (w : World) :
    Calls Tryz.prog 66 #[.int .i64 (N : Nat)] w fun e w' => ∃ b : SB, e = .returned (.tuple #[.pointer (some ⟨b.s, 0, none⟩), .int .i64 0]) ∧ SM w' b N (offs N) (zeros N) ∧ b.from w.heap.size ∧ Below w.heap.size w w' := by
  have hmk := make_ints N (by omega)
  go_enter Tryz.func66, Tryz.ntmps66
  go_wp2_with fail
  refine (BNew_ok N h1 (by omega) w).mono ?_
  rintro e w1 ⟨rfl, hb, hB⟩
  have hsz := hB.size
  have k1 := Blk.made w1 3 (cells (zeros N))
  have hb2 := (hb.alloc (.cells (cells (zeros N)) 3)).alloc (.cells #[.slice (some ⟨w1.heap.size, 0, none⟩) N N, .pointer (some ⟨w.heap.size + 1, 0, none⟩)] 149)
  have k2 := k1.alloc (.cells #[.slice (some ⟨w1.heap.size, 0, none⟩) N N, .pointer (some ⟨w.heap.size + 1, 0, none⟩)] 149)
  have k3 := Blk.made (w1.alloc (.cells (cells (zeros N)) 3)) 149 #[.slice (some ⟨w1.heap.size, 0, none⟩) N N, .pointer (some ⟨w.heap.size + 1, 0, none⟩)]
  rw [World.size_alloc] at k3
  go_wp2_with fail
  go_ret2
  refine ⟨⟨w1.heap.size + 1, w1.heap.size, N, w.heap.size + 1, w.heap.size, nw N⟩, rfl, ⟨k3, hb2, BI.of_blk k2, zeros_length N, h2, ⟨Nat.le_refl N, by show N ≤ 9223372036854775807; omega⟩⟩, ?_, ?_⟩
  · rintro i (rfl | rfl | rfl | rfl) <;> dsimp only <;> omega
  · exact (hB.alloc hsz _).alloc (by simp; omega) _

set_option maxRecDepth 100000 in
theorem SClone_any {w : World} {b : SB} {n : Nat} {r : List Bool} {xs : List Int} (h : SM w b n r xs) :
    Calls Tryz.prog 147 #[.pointer (some ⟨b.s, 0, none⟩)] w fun e w' => ∃ b' : SB, e = .returned (.pointer (some ⟨b'.s, 0, none⟩)) ∧ SM w' b' n r xs ∧ b'.from w.heap.size ∧ Below w.heap.size w w' := by
  have c0 := h.c0
  have c1 := h.c1
  have bd := h.bd
  have hc1 : Calls Tryz.prog 180 #[.slice (some ⟨b.g, 0, none⟩) n b.c] w.drew _ := SClone_ok (w := w.drew) (c := b.c) h.hl (RI_of_BI (BI.drewN h.hx 1)) bd.1 bd.2
  have hp0 : Blk w.drew b.s 149 #[.slice (some ⟨b.g, 0, none⟩) n b.c, .pointer (some ⟨b.p, 0, none⟩)] := h.hs.drew
  have hplt := hp0.lt
  have hb0 : BM w.drew b.p b.k b.cap n r := h.hb.drewN 1
  have hx0 : BI w.drew b.g xs := BI.drewN h.hx 1
  have hbd : Below w.heap.size w w.drew := below_drewN (Below.refl _ _) 1
  have hzd : w.drew.heap.size = w.heap.size := rfl
  have HZD := Lib.hid hzd
  have HL := Lib.hid h.hl
  clear hzd bd
  go_enter Tryz.func147, Tryz.ntmps147
  go_wp2_with fail
  go_region_held3 (fun W => W.cell? ⟨b.s, 0, none⟩ = some (.slice (some ⟨b.g, 0, none⟩) n b.c) ∧ W.cell? ⟨b.s, 1, none⟩ = some (.pointer (some ⟨b.p, 0, none⟩)))
    (first | exact ⟨c0, c1⟩ | exact ⟨f0, f1⟩ | exact ⟨d0, d1⟩ | exact ⟨(hp4.alloc _).cell 0, (hp4.alloc _).cell 1⟩)
    ((first
      | (go_at_call 180; refine hc1.mono ?_; rintro e w3 ⟨⟨g', cap', rfl, hg, k1, k2, hB⟩, hb3⟩; have hp3 := hp0.below hb3 hplt; have hm3 := hb0.below hb3; have d0 : w3.cell? ⟨b.s, 0, none⟩ = some (.slice (some ⟨b.g, 0, none⟩) n b.c) := (by rw [hp3.cell]; rfl); have d1 : w3.cell? ⟨b.s, 1, none⟩ = some (.pointer (some ⟨b.p, 0, none⟩)) := (by rw [hp3.cell]; rfl))
      | (go_at_call 198; refine (BClone_ok hm3).mono ?_; rintro e w4 ⟨⟨p', k', cap2, rfl, hp', hk', hM⟩, hb4⟩; have hp4 := hp3.below hb4 hp3.lt; have f0 : w4.cell? ⟨b.s, 0, none⟩ = some (.slice (some ⟨b.g, 0, none⟩) n b.c) := (by rw [hp4.cell]; rfl); have f1 : w4.cell? ⟨b.s, 1, none⟩ = some (.pointer (some ⟨b.p, 0, none⟩)) := (by rw [hp4.cell]; rfl))))
  all_goals go_wp2_with fail
  all_goals go_ret
  all_goals
    have hbl := below_ge hbd hb3 (Nat.le_refl _)
    have hsz := hbl.size
    have hbl4 := below_ge hbl hb4 (Nat.le_refl _)
    have hsz4 := hbl4.size
    have hB4 := hB.below hb4 hB.lt
    rw [HZD.out] at hg
    refine ⟨⟨w4.heap.size, g', cap', p', k', cap2⟩, rfl, ⟨Blk.made _ _ _, hM.alloc _, hB4.alloc _, HL.out, h.hn, ⟨k1, k2⟩⟩, ?_, hbl4.alloc hsz4 _⟩
    rintro i (rfl | rfl | rfl | rfl) <;> (try dsimp only) <;> omega
end Go.Proofs.YtaonkbfekadalaaGreatDoor
