/- What Resize of the sizing layer comes to: the walk. -/
import Derived.Test.YtaonkbfekadalaaGreatDoorM27
namespace Go.Proofs.YtaonkbfekadalaaGreatDoor
open Go.RowKit Go.Shelf
attribute [local go_sem] Oper.semAt_some
set_option linter.unusedVariables false

theorem TK.ne2 {w : World} {k : Option TB} {t : List Int} (h : TK w k t) (hT : Tab w) : ∀ i, mvK k i → i ≠ 2 := by
  intro i hi
  cases k with
  | none => exact hi.elim
  | some b =>
    rcases hi with rfl | rfl
    · exact h.1.2.2.hp.ne2 hT (by simp)
    · intro e
      have t0 := hT 0 (by decide)
      obtain ⟨o, ho, hc⟩ := cells_of_cell t0
      cases o with
      | cells cs ty fr =>
        obtain ⟨D, ⟨es, clock, e1, _⟩, _⟩ := h.1.2.2.hm
        rw [e] at e1
        rw [e1] at ho
        cases ho
      | _ => cases hc
theorem results_cc {fn : Func} {p q : Tmp} {t1 t2 : TypeId} {P : Program} {w : World} {a1 a2 : Addr} {v1 v2 : Value} (h : fn.results = #[.cell p t1, .cell q t2]) (tmps : Array Value) (hp : tmps.getD p undef = .pointer (some a1)) (hq : tmps.getD q undef = .pointer (some a2))
    (l1 : (loadVar t1 a1).run P w = .ok v1 w) (l2 : (loadVar t2 a2).run P w = .ok v2 w) : (results fn tmps).run P w = .ok (.tuple #[v1, v2]) w := by
  have hp' : tmps[p]?.getD undef = .pointer (some a1) := by simpa using hp
  have hq' : tmps[q]?.getD undef = .pointer (some a2) := by simpa using hq
  simp [results, h, hp', hq', asAddr, l1, l2]
theorem loadVar105 {w : World} {a : Addr} {v : Value} (h : w.cell? a = some v) : (loadVar 105 a).run Tryz.prog w = .ok v w := by
  simp [loadVar, go_sem, Tryz.isAgg105, h]
theorem loadVar28 {w : World} {a : Addr} {v : Value} (h : w.cell? a = some v) : (loadVar 28 a).run Tryz.prog w = .ok v w := by
  simp [loadVar, go_sem, Tryz.isAgg28, h]
/-- What the loop of Resize works on. -/
structure RZ (w W : World) (k : Option TB) (pp tt s s1 gp n NN : Nat) (b' : SB) (S t vs : List Int) : Prop where
  e1 : Blk W w.heap.size 104 #[tellF pp .dir]
  e2 : Blk W (w.heap.size + 1) 105 #[.pointer none]
  e3 : Blk W (w.heap.size + 1 + 1) 28 #[.int .i64 0]
  e4 : Blk W s1 105 #[.pointer (some ⟨b'.s, 0, none⟩)]
  e5 : Blk W (s1 + 1) 31 #[.slice (some ⟨gp, 0, none⟩) NN NN]
  e6 : Blk W (s1 + 1 + 1) 3 #[.int .i64 (vs.length : Nat)]
  ri : RI W (some ⟨gp, 0, none⟩) S
  sm : SM W b' n (putB n S vs.length) (putX n S vs vs.length)
  tk : TK W k (tJ t vs S vs.length)
  pw : PW W pp s tt k
  hT : Tab W
  on : Only (mvK k) w W
  sz : s1 + 4 ≤ W.heap.size
/-- What lies where, for good. -/
structure RC (w : World) (k : Option TB) (pp s1 gp NN : Nat) (b' : SB) : Prop where
  hs : w.heap.size + 3 ≤ s1
  hb : ∀ i, b'.has i → w.heap.size + 3 ≤ i ∧ i < s1
  hg : 0 < NN → w.heap.size + 3 ≤ gp ∧ gp < s1 ∧ ∀ i, b'.has i → gp < i
  hp : pp < w.heap.size
  hk : ∀ b, k = some b → b.bx < w.heap.size ∧ b.lb < w.heap.size ∧ b.t < w.heap.size ∧ b.mb < w.heap.size
  h2 : 2 < w.heap.size
section
variable {w W W' : World} {k : Option TB} {pp tt s s1 gp n NN : Nat} {b' : SB} {S t vs : List Int}
theorem RZ.only {X : Nat → Prop} (h : RZ w W k pp tt s s1 gp n NN b' S t vs) (hc : RC w k pp s1 gp NN b') (hl : S.length = NN) (ho : Only X W W') (hX : ∀ i, X i → s1 + 4 ≤ i) : RZ w W' k pp tt s s1 gp n NN b' S t vs := by
  have far : ∀ i, i < s1 + 4 → ¬ X i := fun i hi q => by have := hX i q; omega
  have c1 := hc.hs
  refine ⟨h.e1.only ho (far _ (by omega)), h.e2.only ho (far _ (by omega)), h.e3.only ho (far _ (by omega)), h.e4.only ho (far _ (by omega)), h.e5.only ho (far _ (by omega)), h.e6.only ho (far _ (by omega)), ?_, h.sm.only ho fun i hi => far i (by have := hc.hb i hi; omega), ?_, Blk.only h.pw ho (far _ (by have := hc.hp; omega)), h.hT.only ho fun i q => by have := hX i q; have := hc.h2; omega, h.on.trans' ho fun i hi q => by have := hX i q; omega, Nat.le_trans h.sz ho.size⟩
  · by_cases h0 : 0 < NN
    · exact h.ri.only ho (far _ (by have := (hc.hg h0).2.1; omega))
    · have : S = [] := List.eq_nil_of_length_eq_zero (by omega)
      rw [this]; exact RI_nil _ _
  · refine h.tk.only ho fun b e => ?_
    have := hc.hk b e
    exact ⟨far _ (by omega), far _ (by omega), far _ (by omega), far _ (by omega)⟩
theorem RZ.from (hc : RC w k pp s1 gp NN b') (hl : S.length = NN) : OwnFrom (s1 + 4) (fun (vs : List Int) W => RZ w W k pp tt s s1 gp n NN b' S t vs) := fun vs A B row h hg hr =>
  h.only hc hl (X := fun i => s1 + 4 ≤ i) (Only.of_grown hg fun r e => (hr r e).1) fun _ q => q

set_option maxRecDepth 100000 in
set_option maxHeartbeats 4000000 in
theorem Resize_walk {b : SB} {n0 h NN : Nat} {r : List Bool} {xs : List Int} (hs : SM w b n0 r xs) (hT : Tab w) (hpw : PW w pp b.s tt k) (htk : TK w k t) (hI : ∀ j, inH (nth xs j)) (h1 : 2 ≤ h) (h2 : h ≤ 9) (hNN : cnt r n0 = NN) (hN : NN ≤ capN h) :
    Calls Tryz.prog 134 #[.pointer (some ⟨b.s, 0, none⟩), .int .i64 (capN h : Nat), tellF pp .dir] w fun e w' => ∃ b' : SB, e = .returned (.tuple #[.pointer (some ⟨b'.s, 0, none⟩), .int .i64 0]) ∧
      SM w' b' (capN h) (putB (capN h) (pl (NN : Int) 0 ((2 ^ h : Nat) : Int)) NN) (putX (capN h) (pl (NN : Int) 0 ((2 ^ h : Nat) : Int)) (its r xs) NN) ∧ TK w' k (tJ t (its r xs) (pl (NN : Int) 0 ((2 ^ h : Nat) : Int)) NN) ∧ b'.from w.heap.size ∧ PW w' pp b.s tt k ∧ Only (mvK k) w w' := by
  obtain ⟨a1, a2⟩ := capN_bd h1 h2
  have hcap : 8 * 2 ^ h = capN h := rfl
  have hok : okB (NN : Int) ((2 ^ h : Nat) : Int) = true := okB_mk ⟨by omega, by omega, by omega, by omega⟩
  have hSl := pl_length (first := 0) hok
  have hRis : Rising (capN h) (pl (NN : Int) 0 ((2 ^ h : Nat) : Int)) := ⟨fun i j q1 q2 => pl_rise hok q1 q2, fun i hi => by
    have := pl_mem hok (nth_mem hi)
    omega⟩
  have hlen := fun W (hW : SM W b n0 r xs) => SLen_ok hW
  rw [hNN] at hlen
  have hem := fun W => empty_ok h1 h2 hN W
  have hne := run_func_eq (.func 74) #[.pointer (some ⟨pp, 0, none⟩)] #[]
  have lr := hs.lr
  have k0 := Blk.made w 104 #[tellF pp .dir]
  have k1 := Blk.made (w.alloc (.cells #[tellF pp .dir] 104)) 105 #[.pointer none]
  have k2 := Blk.made ((w.alloc (.cells #[tellF pp .dir] 104)).alloc (.cells #[.pointer none] 105)) 28 #[.int .i64 0]
  simp only [World.size_alloc] at k1 k2
  replace k0 := (k0.alloc (.cells #[.pointer none] 105)).alloc (.cells #[.int .i64 0] 28)
  replace k1 := k1.alloc (.cells #[.int .i64 0] 28)
  have hB0 : Below w.heap.size w (((w.alloc (.cells #[tellF pp .dir] 104)).alloc (.cells #[.pointer none] 105)).alloc (.cells #[.int .i64 0] 28)) :=
    (((Below.refl _ w).alloc (Nat.le_refl _) _).alloc (by simp) _).alloc (by simp; omega) _
  have hz0 : (((w.alloc (.cells #[tellF pp .dir] 104)).alloc (.cells #[.pointer none] 105)).alloc (.cells #[.int .i64 0] 28)).heap.size = w.heap.size + 3 := by simp
  have HA2 := Lib.hid a2
  have HCAP := Lib.hid hcap
  have HSL := Lib.hid hSl
  have HNN := Lib.hid hN
  clear a1 a2 hcap hok hN hSl
  generalize pl (NN : Int) 0 ((2 ^ h : Nat) : Int) = S at *
  generalize capN h = n at *
  unfold tellF at *
  refine (callsIn_wide (n := 3)).1 ?_
  refine callsIn_of_wp_marks Tryz.func134 rfl trivial ?_ rfl
  simp only [Tryz.ntmps134, List.size_toArray, List.length_cons, List.length_nil, Nat.reduceAdd, Nat.reduceSub, Array.replicate_succ, Array.replicate_zero, List.push_toArray, List.append_toArray, List.nil_append, List.cons_append]
  gi_wp2_with fail
  refine ⟨trivial, ?_⟩
  refine (callsIn_wide.2 (hlen _ (hs.below hB0))).mono ?_
  rintro e w' ⟨rfl, rfl⟩
  gi_wp2_with fail
  refine ⟨trivial, ?_⟩
  refine (callsIn_wide.2 (hem _)).mono ?_
  rintro e w1 ⟨b', gp, rfl, hs1, hfr, hgp, hgp2, hri, hB1⟩
  have kk0 := (k0.below hB1 k0.lt)
  have cf : w1.cell? ⟨w.heap.size, 0, none⟩ = some (.func (.func 74) #[.pointer (some ⟨pp, 0, none⟩)] #[]) := by rw [kk0.cell]; rfl
  have q4 := Blk.made w1 105 #[.pointer (some ⟨b'.s, 0, none⟩)]
  have cf2 : ((w1.alloc (.cells #[.pointer (some ⟨b'.s, 0, none⟩)] 105)).alloc (.cells #[.slice (some ⟨gp, 0, none⟩) NN NN] 31)).cell? ⟨w.heap.size, 0, none⟩ = some (.func (.func 74) #[.pointer (some ⟨pp, 0, none⟩)] #[]) := by rw [((kk0.alloc _).alloc _).cell]; rfl
  gi_wp2_with fail
  refine ⟨trivial, ?_⟩
  refine (callsIn_wide.2 (all_any b.s _)).mono ?_
  rintro e w' ⟨rfl, rfl⟩
  gi_wp2_with fail
  -- the loop
  have sz0 := hB0.size
  have szz := hB1.size
  have hsl := hs.lt (i := b.s) (.inl rfl)
  have q5 := Blk.made (w1.alloc (.cells #[.pointer (some ⟨b'.s, 0, none⟩)] 105)) 31 #[.slice (some ⟨gp, 0, none⟩) NN NN]
  have q6 := Blk.made ((w1.alloc (.cells #[.pointer (some ⟨b'.s, 0, none⟩)] 105)).alloc (.cells #[.slice (some ⟨gp, 0, none⟩) NN NN] 31)) 3 #[.int .i64 0]
  have q7 := Blk.made (((w1.alloc (.cells #[.pointer (some ⟨b'.s, 0, none⟩)] 105)).alloc (.cells #[.slice (some ⟨gp, 0, none⟩) NN NN] 31)).alloc (.cells #[.int .i64 0] 3)) 105 #[.pointer (some ⟨b.s, 0, none⟩)]
  simp only [World.size_alloc] at q5 q6 q7
  replace q4 := ((q4.alloc (.cells #[.slice (some ⟨gp, 0, none⟩) NN NN] 31)).alloc (.cells #[.int .i64 0] 3)).alloc (.cells #[.pointer (some ⟨b.s, 0, none⟩)] 105)
  replace q5 := (q5.alloc (.cells #[.int .i64 0] 3)).alloc (.cells #[.pointer (some ⟨b.s, 0, none⟩)] 105)
  replace q6 := q6.alloc (.cells #[.pointer (some ⟨b.s, 0, none⟩)] 105)
  have hB2 : Below w1.heap.size w1 ((((w1.alloc (.cells #[.pointer (some ⟨b'.s, 0, none⟩)] 105)).alloc (.cells #[.slice (some ⟨gp, 0, none⟩) NN NN] 31)).alloc (.cells #[.int .i64 0] 3)).alloc (.cells #[.pointer (some ⟨b.s, 0, none⟩)] 105)) :=
    ((((Below.refl _ w1).alloc (Nat.le_refl _) _).alloc (by simp) _).alloc (by simp; omega) _).alloc (by simp; omega) _
  have hz2 : ((((w1.alloc (.cells #[.pointer (some ⟨b'.s, 0, none⟩)] 105)).alloc (.cells #[.slice (some ⟨gp, 0, none⟩) NN NN] 31)).alloc (.cells #[.int .i64 0] 3)).alloc (.cells #[.pointer (some ⟨b.s, 0, none⟩)] 105)).heap.size = w1.heap.size + 4 := by simp
  generalize ((((w1.alloc (.cells #[.pointer (some ⟨b'.s, 0, none⟩)] 105)).alloc (.cells #[.slice (some ⟨gp, 0, none⟩) NN NN] 31)).alloc (.cells #[.int .i64 0] 3)).alloc (.cells #[.pointer (some ⟨b.s, 0, none⟩)] 105)) = W0 at q4 q5 q6 q7 hB2 hz2 ⊢
  have hB12 := hB1.trans (hB2.mono hB1.size)
  have hBall : Below w.heap.size w W0 := hB0.trans (hB12.mono hB0.size)
  rw [hz0] at hgp hfr szz
  have hlt : ∀ i, b.has i → i < w.heap.size := fun i hi => hs.lt hi
  have hRC : RC w k pp w1.heap.size gp NN b' := ⟨by omega, fun i hi => ⟨hfr i hi, hs1.lt hi⟩, fun h0 => ⟨by omega, (hgp2 h0).1, (hgp2 h0).2⟩, Blk.lt hpw, htk.lt, hT.pos⟩
  have hSlen : S.length = NN := by have := HSL.out; omega
  have hr0 : RZ w W0 k pp tt b.s w1.heap.size gp n NN b' S t [] :=
    ⟨(kk0.below hB2 kk0.lt), ((k1.below hB1 k1.lt).below hB2 (k1.below hB1 k1.lt).lt), ((k2.below hB1 (by rw [hz0]; omega)).below hB2 (by omega)), q4, q5, q6, hri.below hB2 (Nat.le_refl _), hs1.below hB2, htk.below hBall, Blk.below hpw hBall (Blk.lt hpw), hT.below hBall, Only.of_below hBall, by omega⟩
  have hs0 := hs.below hBall
  have hT0 := hT.below hBall
  have h2 := hT.pos
  have hne2 : ∀ i, mvK k i → i ≠ 2 := htk.ne2 hT
  have hnk : ∀ i, b.has i → ¬ mvK k i := by
    rintro i (rfl | rfl | rfl | rfl)
    · exact htk.far hs.hs (by decide)
    · obtain ⟨cs, hh, _⟩ := hs.hx; exact htk.far hh (by decide)
    · exact htk.far hs.hb.hp (by decide)
    · obtain ⟨cs, hh, _⟩ := hs.hb.hg; exact htk.far hh (by decide)
  have hvl : ∀ pre : List { x : Int × Int // inH x.2 }, (pre.map fun x => x.1.2).length = pre.length := fun pre => by simp
  have hmx : Tryz.prog.follows .mixedOrders = true := by kernel_rfl
  clear hlen hem k0 k1 k2 kk0 q4 q5 q6 cf cf2 hB1 hB2 hB12 hs1 hri
  have HRC := Lib.hid hRC
  have HRIS := Lib.hid hRis
  have HSLEN := Lib.hid hSlen
  refine wpIn_rangeFunc_ownH rfl (by decide) (gf := 189) (lb := #[.pointer (some ⟨w1.heap.size + 1 + 1 + 1, 0, none⟩)]) rfl trivial (enters_of Tryz.func189 (by kernel_rfl) rfl)
    (all_stopsG (fun x : { x : Int × Int // inH x.2 } => x.1) (prsH r xs hI) _ (w1.heap.size + 1 + 1 + 1) (fun g => ¬ (b.has g ∨ g = w1.heap.size + 1 + 1 + 1 ∨ g = 2)) W0 (prsH_map r xs hI) hs0 hT0 q7 (fun i hi q => q (.inl hi)) (fun q => q (.inr (.inr rfl))) (fun q => q (.inr (.inl rfl))))
    Kx.trans (fun W l o o' _ hl ho _ => Kx.putObj W l o o' hl ho) (Below.refl _ _) (fun _ => rfl)
    (fun (pre : List { x : Int × Int // inH x.2 }) W => RZ w W k pp tt b.s w1.heap.size gp n NN b' S t (pre.map fun x => x.1.2))
    (fun _ _ _ => False)
    (fun (pre : List { x : Int × Int // inH x.2 }) A B row hh hg hr => RZ.from hRC hSlen (pre.map fun x => x.1.2) A B row hh hg (fun r e => by have := hr r e; rw [hz2] at this; exact this))
    (fun _ _ _ _ _ hh _ _ => hh)
    hr0
    (fun x a' W => a' = { tmps := #[.pointer (some ⟨b.s, 0, none⟩), .int .i64 (n : Nat), .func (.func 74) #[.pointer (some ⟨pp, 0, none⟩)] #[], undef, undef, .pointer (some ⟨w.heap.size, 0, none⟩), .pointer (some ⟨w.heap.size + 1, 0, none⟩), .pointer (some ⟨w.heap.size + 1 + 1, 0, none⟩), .pointer (some ⟨w1.heap.size, 0, none⟩), .pointer (some ⟨w1.heap.size + 1, 0, none⟩), .int .i64 0, .pointer (some ⟨w1.heap.size + 1 + 1, 0, none⟩), .int .i64 x.1.1, .int .i64 x.1.2, undef, .pointer (some ⟨b.s, 0, none⟩), .bool false, .tuple #[.pointer (some ⟨b'.s, 0, none⟩), .slice (some ⟨gp, 0, none⟩) NN NN, .int .i64 0], .pointer (some ⟨b.s, 0, none⟩), .int .i64 (NN : Nat), .int .i64 (n : Nat), .tuple #[.pointer (some ⟨b'.s, 0, none⟩), .slice (some ⟨gp, 0, none⟩) NN NN, .int .i64 0], .pointer (some ⟨b'.s, 0, none⟩), .slice (some ⟨gp, 0, none⟩) NN NN, .int .i64 0, .int .i64 0, .bool false, undef, .func (.func 74) #[.pointer (some ⟨pp, 0, none⟩)] #[], .bool false, .pointer (some ⟨b.s, 0, none⟩), .func (.func 189) #[] #[.pointer (some ⟨w1.heap.size + 1 + 1 + 1, 0, none⟩)], .int .i64 x.1.1, .int .i64 x.1.2, undef, undef, undef, undef, undef, undef, undef, undef, undef, undef, undef, undef, undef, undef, undef, undef, undef, undef, undef, undef, undef], defers := [] })
    (fun x a' _ _ _ _ hh _ _ => hh)
    ?assign ?body ?done ?stop
  case assign =>
    intro l pre x W K hI0 hK
    have HK := Lib.hid (fun a' (e : a' = _) => hK a' W (KeepsFrom.refl _ _) (Kx.refl _ _) hI0 e)
    clear hK
    simp only [enc2]
    gi_wp2
    exact HK.out _ rfl
  case body =>
    rintro l pre x a' W hl _ hRZ rfl hlen
    rw [hNN] at hlen
    have hxH := x.2
    have hj : pre.length < S.length := by rw [hSlen]; exact hlen
    have hb := hRis.bd pre.length hj
    obtain ⟨y, hy⟩ : ∃ y : Nat, nth S pre.length = (y : Int) := ⟨(nth S pre.length).toNat, by omega⟩
    have hyn : y < n := by omega
    have hm := hvl pre
    have sm0 := hRZ.sm
    have tk0 := hRZ.tk
    have d6 := hRZ.e6
    rw [hm] at sm0 tk0 d6
    have hoff : on (putB n S pre.length) y = false := by have := off_next hRis hj; rw [hy] at this; simpa using this
    have c8 : W.cell? ⟨w1.heap.size, 0, none⟩ = some (.pointer (some ⟨b'.s, 0, none⟩)) := by rw [hRZ.e4.cell]; rfl
    have c9 : W.cell? ⟨w1.heap.size + 1, 0, none⟩ = some (.slice (some ⟨gp, 0, none⟩) NN NN) := by rw [hRZ.e5.cell]; rfl
    have c11 : W.cell? ⟨w1.heap.size + 1 + 1, 0, none⟩ = some (.int .i64 (pre.length : Nat)) := by rw [d6.cell]; rfl
    have c5 : W.cell? ⟨w.heap.size, 0, none⟩ = some (.func (.func 74) #[.pointer (some ⟨pp, 0, none⟩)] #[]) := by rw [hRZ.e1.cell]; rfl
    have cS : W.cell? ⟨gp, pre.length, none⟩ = some (.int .i64 (y : Nat)) := by
      have := hRZ.ri.cellN hj
      rw [Nat.zero_add, hy] at this
      exact this
    have i0 : (0 : Int) ≤ (pre.length : Int) := by omega
    have i1 : (pre.length : Int) < (NN : Int) := by omega
    have hput : Calls Tryz.prog 75 #[.pointer (some ⟨b'.s, 0, none⟩), .int .i64 (y : Nat), .int .i64 x.1.2] W.drew fun e w' => e = .returned (.int .i64 0) ∧ SM w' b' n ((putB n S pre.length).set y true) ((putX n S (pre.map fun x => x.1.2) pre.length).set y x.1.2) ∧ Only b'.mv W.drew w' := SPut_ok (sm0.drewN 1) y hyn hoff x.1.2
    -- behind the put
    have aft : ∀ w5, SM w5 b' n ((putB n S pre.length).set y true) ((putX n S (pre.map fun x => x.1.2) pre.length).set y x.1.2) → Only b'.mv W.drew w5 →
        Blk w5 w1.heap.size 105 #[.pointer (some ⟨b'.s, 0, none⟩)] ∧ Blk w5 (w1.heap.size + 1) 31 #[.slice (some ⟨gp, 0, none⟩) NN NN] ∧ Blk w5 (w1.heap.size + 1 + 1) 3 #[.int .i64 (pre.length : Nat)] ∧ Blk w5 w.heap.size 104 #[.func (.func 74) #[.pointer (some ⟨pp, 0, none⟩)] #[]] ∧ RI w5 (some ⟨gp, 0, none⟩) S ∧ TK w5 k (tJ t (pre.map fun x => x.1.2) S pre.length) ∧ PW w5 pp b.s tt k := by
      intro w5 _ hO
      have nb : ∀ i, b'.mv i → b'.has i := fun i hi => by
        rcases hi with e | e
        · exact .inr (.inl e)
        · exact .inr (.inr (.inr e))
      have far : ∀ i, i < w.heap.size + 3 ∨ w1.heap.size ≤ i → ¬ b'.mv i := fun i hi q => by have := hRC.hb i (nb i q); omega
      refine ⟨(hRZ.e4.drewN 1).only hO (far _ (by omega)), (hRZ.e5.drewN 1).only hO (far _ (by omega)), (d6.drewN 1).only hO (far _ (by omega)), (hRZ.e1.drewN 1).only hO (far _ (by omega)), (hRZ.ri.drewN 1).only hO fun q => ?_, (tk0.drewN 1).only hO fun b e => ?_, Blk.only (Blk.drewN hRZ.pw 1) hO (far _ (by have := hRC.hp; omega))⟩
      · have := (hRC.hg (by omega)).2.2 _ (nb _ q); omega
      · have := hRC.hk b e
        exact ⟨far _ (by omega), far _ (by omega), far _ (by omega), far _ (by omega)⟩
    -- behind the telling
    have fin : ∀ w5 w6, SM w5 b' n ((putB n S pre.length).set y true) ((putX n S (pre.map fun x => x.1.2) pre.length).set y x.1.2) → Only b'.mv W.drew w5 → TK w6 k (tellV (tJ t (pre.map fun x => x.1.2) S pre.length) x.1.2 (y : Int)) → Only (mvK k) w5.drew w6 →
        Blk w6 (w1.heap.size + 1 + 1) 3 #[.int .i64 (pre.length : Nat)] ∧
        (RZ w (w6.setCell ⟨w1.heap.size + 1 + 1, 0, none⟩ (.int .i64 ((pre.length : Int) + 1))) k pp tt b.s w1.heap.size gp n NN b' S t ((pre ++ [x]).map fun x => x.1.2)) ∧ KeepsFrom W0.heap.size W (w6.setCell ⟨w1.heap.size + 1 + 1, 0, none⟩ (.int .i64 ((pre.length : Int) + 1))) ∧
        Kx (fun g => ¬ (b.has g ∨ g = w1.heap.size + 1 + 1 + 1 ∨ g = 2)) W (w6.setCell ⟨w1.heap.size + 1 + 1, 0, none⟩ (.int .i64 ((pre.length : Int) + 1))) := by
      intro w5 w6 hS5 hO5 hK6 hO6
      obtain ⟨a4, a5, a6, a1, ari, atk, apw⟩ := aft w5 hS5 hO5
      have hO6' : Only (mvK k) w5 w6 := ⟨hO6.os, hO6.tape, hO6.output, hO6.size, hO6.block⟩
      have nb : ∀ i, b'.mv i → b'.has i := fun i hi => by
        rcases hi with e | e
        · exact .inr (.inl e)
        · exact .inr (.inr (.inr e))
      have mk : ∀ i, mvK k i → i < w.heap.size := fun i hi => by
        cases e : k with
        | none => rw [e] at hi; exact hi.elim
        | some bb =>
          have := hRC.hk bb e
          rw [e] at hi
          rcases hi with rfl | rfl <;> omega
      have farK : ∀ i, w.heap.size ≤ i → ¬ mvK k i := fun i hi q => by have := mk i q; omega
      have hs1' := hRC.hs
      have z6 := a6.only hO6' (farK _ (by omega))
      have hO7 : Only (fun i => i = w1.heap.size + 1 + 1) w6 (w6.setCell ⟨w1.heap.size + 1 + 1, 0, none⟩ (.int .i64 ((pre.length : Int) + 1))) := (Only.refl (fun i => i = w1.heap.size + 1 + 1) w6).put (p := ⟨w1.heap.size + 1 + 1, 0, none⟩) (.inl rfl) _
      have ppw6 : PW w6 pp b.s tt k := Blk.only apw hO6' (atk.far apw (by decide))
      have hOw : Only (mvK k) w (w6.setCell ⟨w1.heap.size + 1 + 1, 0, none⟩ (.int .i64 ((pre.length : Int) + 1))) :=
        (((hRZ.on.drewN 1).trans' hO5 fun i hi q => by have := hRC.hb i (nb i q); omega).trans hO6').trans' hO7 fun i hi q => by omega
      have far5 : ∀ i, i < w.heap.size + 3 ∨ w1.heap.size ≤ i → ¬ b'.mv i := fun i hi q => by have := hRC.hb i (nb i q); omega
      have blk7 : ∀ i, i < W.heap.size → (i < w.heap.size + 3 ∨ w1.heap.size ≤ i) → ¬ mvK k i → i ≠ w1.heap.size + 1 + 1 → (w6.setCell ⟨w1.heap.size + 1 + 1, 0, none⟩ (.int .i64 ((pre.length : Int) + 1))).heap[i]? = W.heap[i]? := by
        intro i h0 h1 h2 h3
        have e1 := hO5.block i h0 (far5 i h1)
        have z5 : (W.drewN 1).heap.size ≤ w5.heap.size := hO5.size
        have z6' := hO6'.size
        have e2 := hO6'.block i (Nat.lt_of_lt_of_le h0 z5) h2
        have e3 := hO7.block i (Nat.lt_of_lt_of_le h0 (Nat.le_trans z5 z6')) h3
        exact e3.trans (e2.trans e1)
      have pass : ∀ {g : Nat} {ty : TypeId} {cs : Array Value}, Blk W g ty cs → (g < w.heap.size + 3 ∨ w1.heap.size ≤ g) → ¬ mvK k g → g ≠ w1.heap.size + 1 + 1 → Blk (w6.setCell ⟨w1.heap.size + 1 + 1, 0, none⟩ (.int .i64 ((pre.length : Int) + 1))) g ty cs := fun hb h1 h2 h3 => (blk7 _ hb.lt h1 h2 h3).trans hb
      have hl1 : ((pre ++ [x]).map fun x => x.1.2).length = pre.length + 1 := by simp
      have hcg : ∀ j, j < pre.length → nth ((pre ++ [x]).map fun x => x.1.2) j = nth (pre.map fun x => x.1.2) j := fun j hj => by rw [List.map_append]; exact nth_snoc_lt (by rw [hm]; exact hj)
      have hla : nth ((pre ++ [x]).map fun x => x.1.2) pre.length = x.1.2 := by
        rw [List.map_append]
        have := nth_snoc_eq (pre.map fun x => x.1.2) x.1.2
        rw [hm] at this
        exact this
      have hyt : (nth S pre.length).toNat = y := by rw [hy]; simp
      have hgp0 := hRC.hg (by omega)
      have eB : putB n S (pre.length + 1) = (putB n S pre.length).set y true := by rw [← hyt]; rfl
      have eX : putX n S ((pre ++ [x]).map fun x => x.1.2) (pre.length + 1) = (putX n S (pre.map fun x => x.1.2) pre.length).set y x.1.2 := by
        rw [← hyt]
        show (putX n S ((pre ++ [x]).map fun x => x.1.2) pre.length).set (nth S pre.length).toNat (nth ((pre ++ [x]).map fun x => x.1.2) pre.length) = _
        rw [putX_congr hcg, hla]
      have eT : tJ t ((pre ++ [x]).map fun x => x.1.2) S (pre.length + 1) = tellV (tJ t (pre.map fun x => x.1.2) S pre.length) x.1.2 (y : Int) := by
        show tellV (tJ t ((pre ++ [x]).map fun x => x.1.2) S pre.length) (nth ((pre ++ [x]).map fun x => x.1.2) pre.length) (nth S pre.length) = _
        rw [tJ_congr hcg, hla, hy]
      refine ⟨z6, ⟨?_, ?_, ?_, ?_, ?_, ?_, ?_, ?_, ?_, ?_, ?_, hOw, ?_⟩, ?_, ?_⟩
      · exact pass hRZ.e1 (.inl (by omega)) (farK _ (Nat.le_refl _)) (by omega)
      · exact pass hRZ.e2 (.inl (by omega)) (farK _ (by omega)) (by omega)
      · exact pass hRZ.e3 (.inl (by omega)) (farK _ (by omega)) (by omega)
      · exact pass hRZ.e4 (.inr (by omega)) (farK _ (by omega)) (by omega)
      · exact pass hRZ.e5 (.inr (by omega)) (farK _ (by omega)) (by omega)
      · have := z6.put 0 (.int .i64 ((pre.length : Int) + 1))
        rw [hl1]
        push_cast
        simpa using this
      · exact (ari.only hO6' (farK _ (by omega))).only hO7 (by omega)
      · rw [hl1, eB, eX]
        exact (hS5.only hO6' fun i hi => farK i (by have := hRC.hb i hi; omega)).only hO7 fun i hi q => by have := hRC.hb i hi; omega
      · rw [hl1, eT]
        refine hK6.only hO7 fun bb e => ?_
        have := hRC.hk bb e
        omega
      · exact Blk.only ppw6 hO7 (by have := hRC.hp; omega)
      · exact hT.only hOw fun i hi => hne2 i hi
      · have z5 : W.heap.size ≤ w5.heap.size := hO5.size
        have := hO6'.size
        have := hO7.size
        have := hRZ.sz
        omega
      · refine ⟨?_, fun i o hi ho hc => ?_⟩
        · have z5 : W.heap.size ≤ w5.heap.size := hO5.size
          exact Nat.le_trans z5 (Nat.le_trans hO6'.size hO7.size)
        · exact (blk7 i (Array.getElem?_eq_some_iff.1 ho).1 (.inr (by omega)) (farK _ (by omega)) (by omega)).trans ho
      · refine ⟨?_, fun g c ty fr hx hg => ?_⟩
        · have z5 : W.heap.size ≤ w5.heap.size := hO5.size
          exact Nat.le_trans z5 (Nat.le_trans hO6'.size hO7.size)
        · have hx' := Classical.not_not.1 hx
          refine (blk7 g (Array.getElem?_eq_some_iff.1 hg).1 ?_ ?_ ?_).trans hg
          · rcases hx' with q | q | q
            · exact .inl (by have := hlt g q; omega)
            · exact .inr (by omega)
            · exact .inl (by omega)
          · rcases hx' with q | q | q
            · exact hnk g q
            · exact farK _ (by omega)
            · intro q2; exact hne2 g q2 q
          · rcases hx' with q | q | q
            · have := hlt g q; omega
            · omega
            · omega
    have n6 : IntKind.i64.wrap ((pre.length : Int) + 1) = (pre.length : Int) + 1 := IntWalk.i64_in _ (by have := HNN.out; have := HA2.out; omega)
    have HX := Lib.hid hxH
    have HFIN := Lib.hid fin
    have HAFT := Lib.hid aft
    clear fin aft hyn hoff hb hj sm0 hxH hRis hSlen hlen
    gi_wp2_with fail
    rename_i K hKr
    have hfin1 : ∀ w5, SM w5 b' n ((putB n S pre.length).set y true) ((putX n S (pre.map fun x => x.1.2) pre.length).set y x.1.2) → Only b'.mv W.drew w5 → K { tmps := #[.pointer (some ⟨b.s, 0, none⟩), .int .i64 (n : Nat), .func (.func 74) #[.pointer (some ⟨pp, 0, none⟩)] #[], undef, undef, .pointer (some ⟨w.heap.size, 0, none⟩), .pointer (some ⟨w.heap.size + 1, 0, none⟩), .pointer (some ⟨w.heap.size + 1 + 1, 0, none⟩), .pointer (some ⟨w1.heap.size, 0, none⟩), .pointer (some ⟨w1.heap.size + 1, 0, none⟩), .int .i64 0, .pointer (some ⟨w1.heap.size + 1 + 1, 0, none⟩), .int .i64 x.1.1, .int .i64 x.1.2, .int .i64 0, .pointer (some ⟨b.s, 0, none⟩), .bool false, .tuple #[.pointer (some ⟨b'.s, 0, none⟩), .slice (some ⟨gp, 0, none⟩) NN NN, .int .i64 0], .pointer (some ⟨b.s, 0, none⟩), .int .i64 (NN : Nat), .int .i64 (n : Nat), .tuple #[.pointer (some ⟨b'.s, 0, none⟩), .slice (some ⟨gp, 0, none⟩) NN NN, .int .i64 0], .pointer (some ⟨b'.s, 0, none⟩), .slice (some ⟨gp, 0, none⟩) NN NN, .int .i64 0, .int .i64 0, .bool false, undef, .func (.func 74) #[.pointer (some ⟨pp, 0, none⟩)] #[], .bool false, .pointer (some ⟨b.s, 0, none⟩), .func (.func 189) #[] #[.pointer (some ⟨w1.heap.size + 1 + 1 + 1, 0, none⟩)], .int .i64 x.1.1, .int .i64 x.1.2, .pointer (some ⟨b'.s, 0, none⟩), .slice (some ⟨gp, 0, none⟩) NN NN, .int .i64 (pre.length : Nat), .pointer (some ⟨gp, pre.length, none⟩), .int .i64 (y : Nat), .int .i64 x.1.2, .int .i64 0, undef, undef, undef, undef, undef, undef, undef, undef, undef, undef, undef, undef, undef, undef], defers := [] } w5 := by
      intro w5 q1 q2
      refine hKr _ _ ?_
      obtain ⟨a4, a5, a6, a1, ari, atk, apw⟩ := HAFT.out w5 q1 q2
      have g9 : w5.cell? ⟨w1.heap.size + 1, 0, none⟩ = some (.slice (some ⟨gp, 0, none⟩) NN NN) := by rw [a5.cell]; rfl
      have g11 : w5.cell? ⟨w1.heap.size + 1 + 1, 0, none⟩ = some (.int .i64 (pre.length : Nat)) := by rw [a6.cell]; rfl
      have g5 : w5.cell? ⟨w.heap.size, 0, none⟩ = some (.func (.func 74) #[.pointer (some ⟨pp, 0, none⟩)] #[]) := by rw [a1.cell]; rfl
      have gS : w5.cell? ⟨gp, pre.length, none⟩ = some (.int .i64 (y : Nat)) := by
        have := ari.cellN (k := pre.length) (by have := HSLEN.out; omega)
        rw [Nat.zero_add, hy] at this
        exact this
      have htell : Calls Tryz.prog 74 #[.pointer (some ⟨pp, 0, none⟩), .int .i64 x.1.2, .int .i64 x.1.1, .int .i64 (y : Int)] w5.drew fun e w' => (∃ v, e = .returned v) ∧ TK w' k (tellV (tJ t (pre.map fun x => x.1.2) S pre.length) x.1.2 (y : Int)) ∧ Only (mvK k) w5.drew w' :=
        tell_any (Blk.drewN apw 1) (atk.drewN 1) HX.out x.1.1 (y : Int)
      clear hKr hput
      gi_wp2_with fail
      rename_i K2 hK2
      have hfin2 : ∀ (v5 : Value) w6, TK w6 k (tellV (tJ t (pre.map fun x => x.1.2) S pre.length) x.1.2 (y : Int)) → Only (mvK k) w5.drew w6 → K2 { tmps := #[.pointer (some ⟨b.s, 0, none⟩), .int .i64 (n : Nat), .func (.func 74) #[.pointer (some ⟨pp, 0, none⟩)] #[], undef, undef, .pointer (some ⟨w.heap.size, 0, none⟩), .pointer (some ⟨w.heap.size + 1, 0, none⟩), .pointer (some ⟨w.heap.size + 1 + 1, 0, none⟩), .pointer (some ⟨w1.heap.size, 0, none⟩), .pointer (some ⟨w1.heap.size + 1, 0, none⟩), .int .i64 0, .pointer (some ⟨w1.heap.size + 1 + 1, 0, none⟩), .int .i64 x.1.1, .int .i64 x.1.2, .int .i64 0, .pointer (some ⟨b.s, 0, none⟩), .bool false, .tuple #[.pointer (some ⟨b'.s, 0, none⟩), .slice (some ⟨gp, 0, none⟩) NN NN, .int .i64 0], .pointer (some ⟨b.s, 0, none⟩), .int .i64 (NN : Nat), .int .i64 (n : Nat), .tuple #[.pointer (some ⟨b'.s, 0, none⟩), .slice (some ⟨gp, 0, none⟩) NN NN, .int .i64 0], .pointer (some ⟨b'.s, 0, none⟩), .slice (some ⟨gp, 0, none⟩) NN NN, .int .i64 0, .int .i64 0, .bool false, undef, .func (.func 74) #[.pointer (some ⟨pp, 0, none⟩)] #[], .bool false, .pointer (some ⟨b.s, 0, none⟩), .func (.func 189) #[] #[.pointer (some ⟨w1.heap.size + 1 + 1 + 1, 0, none⟩)], .int .i64 x.1.1, .int .i64 x.1.2, .pointer (some ⟨b'.s, 0, none⟩), .slice (some ⟨gp, 0, none⟩) NN NN, .int .i64 (pre.length : Nat), .pointer (some ⟨gp, pre.length, none⟩), .int .i64 (y : Nat), .int .i64 x.1.2, .int .i64 0, .int .i64 0, .bool false, undef, .func (.func 74) #[.pointer (some ⟨pp, 0, none⟩)] #[], .int .i64 x.1.2, .int .i64 x.1.1, .slice (some ⟨gp, 0, none⟩) NN NN, .int .i64 (pre.length : Nat), .pointer (some ⟨gp, pre.length, none⟩), .int .i64 (y : Nat), v5, undef, undef, undef], defers := [] } w6 := by
        intro v5 w6 q3 q4
        refine hK2 _ _ ?_
        obtain ⟨z6, f1, f2, f3⟩ := HFIN.out w5 w6 q1 q2 q3 q4
        have c6 : w6.cell? ⟨w1.heap.size + 1 + 1, 0, none⟩ = some (.int .i64 (pre.length : Nat)) := by rw [z6.cell]; rfl
        have fz := z6.frozen 0
        clear hK2 htell
        gi_wp2_with fail
        exact ⟨f2, f3, f1⟩
      have HF2 := Lib.hid hfin2
      clear hfin2 hK2 q1 q2 a4 a5 a6 a1 ari atk apw hRZ hr0 hs0 hT0 htk hpw hs hRC c8 c9 c11 c5 cS tk0 d6 hBall hvl hne2 hnk
      refine wpIn_region_any hmx ?_
      change wpAnyIn _ _ _ _ _ _ 8 #[false, false, false, false, false, false, false, false] _ w5.drew
      refine with_any ?_
      intro GG hG
      have g01234567 : ∀ (v5 : Value) w6, TK w6 k (tellV (tJ t (pre.map fun x => x.1.2) S pre.length) x.1.2 (y : Int)) → Only (mvK k) w5.drew w6 → GG 0 #[true, true, true, true, true, true, true, true] { tmps := #[.pointer (some ⟨b.s, 0, none⟩), .int .i64 (n : Nat), .func (.func 74) #[.pointer (some ⟨pp, 0, none⟩)] #[], undef, undef, .pointer (some ⟨w.heap.size, 0, none⟩), .pointer (some ⟨w.heap.size + 1, 0, none⟩), .pointer (some ⟨w.heap.size + 1 + 1, 0, none⟩), .pointer (some ⟨w1.heap.size, 0, none⟩), .pointer (some ⟨w1.heap.size + 1, 0, none⟩), .int .i64 0, .pointer (some ⟨w1.heap.size + 1 + 1, 0, none⟩), .int .i64 x.1.1, .int .i64 x.1.2, .int .i64 0, .pointer (some ⟨b.s, 0, none⟩), .bool false, .tuple #[.pointer (some ⟨b'.s, 0, none⟩), .slice (some ⟨gp, 0, none⟩) NN NN, .int .i64 0], .pointer (some ⟨b.s, 0, none⟩), .int .i64 (NN : Nat), .int .i64 (n : Nat), .tuple #[.pointer (some ⟨b'.s, 0, none⟩), .slice (some ⟨gp, 0, none⟩) NN NN, .int .i64 0], .pointer (some ⟨b'.s, 0, none⟩), .slice (some ⟨gp, 0, none⟩) NN NN, .int .i64 0, .int .i64 0, .bool false, undef, .func (.func 74) #[.pointer (some ⟨pp, 0, none⟩)] #[], .bool false, .pointer (some ⟨b.s, 0, none⟩), .func (.func 189) #[] #[.pointer (some ⟨w1.heap.size + 1 + 1 + 1, 0, none⟩)], .int .i64 x.1.1, .int .i64 x.1.2, .pointer (some ⟨b'.s, 0, none⟩), .slice (some ⟨gp, 0, none⟩) NN NN, .int .i64 (pre.length : Nat), .pointer (some ⟨gp, pre.length, none⟩), .int .i64 (y : Nat), .int .i64 x.1.2, .int .i64 0, .int .i64 0, .bool false, undef, .func (.func 74) #[.pointer (some ⟨pp, 0, none⟩)] #[], .int .i64 x.1.2, .int .i64 x.1.1, .slice (some ⟨gp, 0, none⟩) NN NN, .int .i64 (pre.length : Nat), .pointer (some ⟨gp, pre.length, none⟩), .int .i64 (y : Nat), v5, undef, undef, undef], defers := [] } w6 := by
        intro v5 w6 p3 p4
        rw [hG]
        refine wpAnyIn_done (by kernel_rfl) ?_ _
        exact HF2.out v5 w6 p3 p4
      have g0123456 : GG 1 #[true, true, true, true, true, true, true, false] { tmps := #[.pointer (some ⟨b.s, 0, none⟩), .int .i64 (n : Nat), .func (.func 74) #[.pointer (some ⟨pp, 0, none⟩)] #[], undef, undef, .pointer (some ⟨w.heap.size, 0, none⟩), .pointer (some ⟨w.heap.size + 1, 0, none⟩), .pointer (some ⟨w.heap.size + 1 + 1, 0, none⟩), .pointer (some ⟨w1.heap.size, 0, none⟩), .pointer (some ⟨w1.heap.size + 1, 0, none⟩), .int .i64 0, .pointer (some ⟨w1.heap.size + 1 + 1, 0, none⟩), .int .i64 x.1.1, .int .i64 x.1.2, .int .i64 0, .pointer (some ⟨b.s, 0, none⟩), .bool false, .tuple #[.pointer (some ⟨b'.s, 0, none⟩), .slice (some ⟨gp, 0, none⟩) NN NN, .int .i64 0], .pointer (some ⟨b.s, 0, none⟩), .int .i64 (NN : Nat), .int .i64 (n : Nat), .tuple #[.pointer (some ⟨b'.s, 0, none⟩), .slice (some ⟨gp, 0, none⟩) NN NN, .int .i64 0], .pointer (some ⟨b'.s, 0, none⟩), .slice (some ⟨gp, 0, none⟩) NN NN, .int .i64 0, .int .i64 0, .bool false, undef, .func (.func 74) #[.pointer (some ⟨pp, 0, none⟩)] #[], .bool false, .pointer (some ⟨b.s, 0, none⟩), .func (.func 189) #[] #[.pointer (some ⟨w1.heap.size + 1 + 1 + 1, 0, none⟩)], .int .i64 x.1.1, .int .i64 x.1.2, .pointer (some ⟨b'.s, 0, none⟩), .slice (some ⟨gp, 0, none⟩) NN NN, .int .i64 (pre.length : Nat), .pointer (some ⟨gp, pre.length, none⟩), .int .i64 (y : Nat), .int .i64 x.1.2, .int .i64 0, .int .i64 0, .bool false, undef, .func (.func 74) #[.pointer (some ⟨pp, 0, none⟩)] #[], .int .i64 x.1.2, .int .i64 x.1.1, .slice (some ⟨gp, 0, none⟩) NN NN, .int .i64 (pre.length : Nat), .pointer (some ⟨gp, pre.length, none⟩), .int .i64 (y : Nat), undef, undef, undef, undef], defers := [] } w5.drew := by
        rw [hG]
        refine wpAnyIn_ready (rs := [7]) (by kernel_rfl) (by simp) ?_
        refine AllReadyIn.cons rfl (fun K hK => ?_) ?_
        · go_simp
          gi_wp2_with (refine ⟨trivial, ?_⟩; refine (CallsIn.inRound l (callsIn_wide.2 htell)).mono ?_; rintro e w6 ⟨⟨v5, rfl⟩, p3, p4⟩)
          first | (rw [← hG]; exact g01234567 v5 w6 p3 p4) | (refine hK _ _ ?_; rw [← hG]; exact g01234567 v5 w6 p3 p4)
        exact AllReadyIn.nil
      have g012345 : GG 2 #[true, true, true, true, true, true, false, false] { tmps := #[.pointer (some ⟨b.s, 0, none⟩), .int .i64 (n : Nat), .func (.func 74) #[.pointer (some ⟨pp, 0, none⟩)] #[], undef, undef, .pointer (some ⟨w.heap.size, 0, none⟩), .pointer (some ⟨w.heap.size + 1, 0, none⟩), .pointer (some ⟨w.heap.size + 1 + 1, 0, none⟩), .pointer (some ⟨w1.heap.size, 0, none⟩), .pointer (some ⟨w1.heap.size + 1, 0, none⟩), .int .i64 0, .pointer (some ⟨w1.heap.size + 1 + 1, 0, none⟩), .int .i64 x.1.1, .int .i64 x.1.2, .int .i64 0, .pointer (some ⟨b.s, 0, none⟩), .bool false, .tuple #[.pointer (some ⟨b'.s, 0, none⟩), .slice (some ⟨gp, 0, none⟩) NN NN, .int .i64 0], .pointer (some ⟨b.s, 0, none⟩), .int .i64 (NN : Nat), .int .i64 (n : Nat), .tuple #[.pointer (some ⟨b'.s, 0, none⟩), .slice (some ⟨gp, 0, none⟩) NN NN, .int .i64 0], .pointer (some ⟨b'.s, 0, none⟩), .slice (some ⟨gp, 0, none⟩) NN NN, .int .i64 0, .int .i64 0, .bool false, undef, .func (.func 74) #[.pointer (some ⟨pp, 0, none⟩)] #[], .bool false, .pointer (some ⟨b.s, 0, none⟩), .func (.func 189) #[] #[.pointer (some ⟨w1.heap.size + 1 + 1 + 1, 0, none⟩)], .int .i64 x.1.1, .int .i64 x.1.2, .pointer (some ⟨b'.s, 0, none⟩), .slice (some ⟨gp, 0, none⟩) NN NN, .int .i64 (pre.length : Nat), .pointer (some ⟨gp, pre.length, none⟩), .int .i64 (y : Nat), .int .i64 x.1.2, .int .i64 0, .int .i64 0, .bool false, undef, .func (.func 74) #[.pointer (some ⟨pp, 0, none⟩)] #[], .int .i64 x.1.2, .int .i64 x.1.1, .slice (some ⟨gp, 0, none⟩) NN NN, .int .i64 (pre.length : Nat), .pointer (some ⟨gp, pre.length, none⟩), undef, undef, undef, undef, undef], defers := [] } w5.drew := by
        rw [hG]
        refine wpAnyIn_ready (rs := [6]) (by kernel_rfl) (by simp) ?_
        refine AllReadyIn.cons rfl (fun K hK => ?_) ?_
        · go_simp
          refine hK _ _ ?_
          rw [← hG]
          exact g0123456
        exact AllReadyIn.nil
      have g013456 : GG 2 #[true, true, false, true, true, true, true, false] { tmps := #[.pointer (some ⟨b.s, 0, none⟩), .int .i64 (n : Nat), .func (.func 74) #[.pointer (some ⟨pp, 0, none⟩)] #[], undef, undef, .pointer (some ⟨w.heap.size, 0, none⟩), .pointer (some ⟨w.heap.size + 1, 0, none⟩), .pointer (some ⟨w.heap.size + 1 + 1, 0, none⟩), .pointer (some ⟨w1.heap.size, 0, none⟩), .pointer (some ⟨w1.heap.size + 1, 0, none⟩), .int .i64 0, .pointer (some ⟨w1.heap.size + 1 + 1, 0, none⟩), .int .i64 x.1.1, .int .i64 x.1.2, .int .i64 0, .pointer (some ⟨b.s, 0, none⟩), .bool false, .tuple #[.pointer (some ⟨b'.s, 0, none⟩), .slice (some ⟨gp, 0, none⟩) NN NN, .int .i64 0], .pointer (some ⟨b.s, 0, none⟩), .int .i64 (NN : Nat), .int .i64 (n : Nat), .tuple #[.pointer (some ⟨b'.s, 0, none⟩), .slice (some ⟨gp, 0, none⟩) NN NN, .int .i64 0], .pointer (some ⟨b'.s, 0, none⟩), .slice (some ⟨gp, 0, none⟩) NN NN, .int .i64 0, .int .i64 0, .bool false, undef, .func (.func 74) #[.pointer (some ⟨pp, 0, none⟩)] #[], .bool false, .pointer (some ⟨b.s, 0, none⟩), .func (.func 189) #[] #[.pointer (some ⟨w1.heap.size + 1 + 1 + 1, 0, none⟩)], .int .i64 x.1.1, .int .i64 x.1.2, .pointer (some ⟨b'.s, 0, none⟩), .slice (some ⟨gp, 0, none⟩) NN NN, .int .i64 (pre.length : Nat), .pointer (some ⟨gp, pre.length, none⟩), .int .i64 (y : Nat), .int .i64 x.1.2, .int .i64 0, .int .i64 0, .bool false, undef, .func (.func 74) #[.pointer (some ⟨pp, 0, none⟩)] #[], .int .i64 x.1.2, undef, .slice (some ⟨gp, 0, none⟩) NN NN, .int .i64 (pre.length : Nat), .pointer (some ⟨gp, pre.length, none⟩), .int .i64 (y : Nat), undef, undef, undef, undef], defers := [] } w5.drew := by
        rw [hG]
        refine wpAnyIn_ready (rs := [2]) (by kernel_rfl) (by simp) ?_
        refine AllReadyIn.cons rfl (fun K hK => ?_) ?_
        · go_simp
          refine hK _ _ ?_
          rw [← hG]
          exact g0123456
        exact AllReadyIn.nil
      have g023456 : GG 2 #[true, false, true, true, true, true, true, false] { tmps := #[.pointer (some ⟨b.s, 0, none⟩), .int .i64 (n : Nat), .func (.func 74) #[.pointer (some ⟨pp, 0, none⟩)] #[], undef, undef, .pointer (some ⟨w.heap.size, 0, none⟩), .pointer (some ⟨w.heap.size + 1, 0, none⟩), .pointer (some ⟨w.heap.size + 1 + 1, 0, none⟩), .pointer (some ⟨w1.heap.size, 0, none⟩), .pointer (some ⟨w1.heap.size + 1, 0, none⟩), .int .i64 0, .pointer (some ⟨w1.heap.size + 1 + 1, 0, none⟩), .int .i64 x.1.1, .int .i64 x.1.2, .int .i64 0, .pointer (some ⟨b.s, 0, none⟩), .bool false, .tuple #[.pointer (some ⟨b'.s, 0, none⟩), .slice (some ⟨gp, 0, none⟩) NN NN, .int .i64 0], .pointer (some ⟨b.s, 0, none⟩), .int .i64 (NN : Nat), .int .i64 (n : Nat), .tuple #[.pointer (some ⟨b'.s, 0, none⟩), .slice (some ⟨gp, 0, none⟩) NN NN, .int .i64 0], .pointer (some ⟨b'.s, 0, none⟩), .slice (some ⟨gp, 0, none⟩) NN NN, .int .i64 0, .int .i64 0, .bool false, undef, .func (.func 74) #[.pointer (some ⟨pp, 0, none⟩)] #[], .bool false, .pointer (some ⟨b.s, 0, none⟩), .func (.func 189) #[] #[.pointer (some ⟨w1.heap.size + 1 + 1 + 1, 0, none⟩)], .int .i64 x.1.1, .int .i64 x.1.2, .pointer (some ⟨b'.s, 0, none⟩), .slice (some ⟨gp, 0, none⟩) NN NN, .int .i64 (pre.length : Nat), .pointer (some ⟨gp, pre.length, none⟩), .int .i64 (y : Nat), .int .i64 x.1.2, .int .i64 0, .int .i64 0, .bool false, undef, .func (.func 74) #[.pointer (some ⟨pp, 0, none⟩)] #[], undef, .int .i64 x.1.1, .slice (some ⟨gp, 0, none⟩) NN NN, .int .i64 (pre.length : Nat), .pointer (some ⟨gp, pre.length, none⟩), .int .i64 (y : Nat), undef, undef, undef, undef], defers := [] } w5.drew := by
        rw [hG]
        refine wpAnyIn_ready (rs := [1]) (by kernel_rfl) (by simp) ?_
        refine AllReadyIn.cons rfl (fun K hK => ?_) ?_
        · go_simp
          refine hK _ _ ?_
          rw [← hG]
          exact g0123456
        exact AllReadyIn.nil
      have g123456 : GG 2 #[false, true, true, true, true, true, true, false] { tmps := #[.pointer (some ⟨b.s, 0, none⟩), .int .i64 (n : Nat), .func (.func 74) #[.pointer (some ⟨pp, 0, none⟩)] #[], undef, undef, .pointer (some ⟨w.heap.size, 0, none⟩), .pointer (some ⟨w.heap.size + 1, 0, none⟩), .pointer (some ⟨w.heap.size + 1 + 1, 0, none⟩), .pointer (some ⟨w1.heap.size, 0, none⟩), .pointer (some ⟨w1.heap.size + 1, 0, none⟩), .int .i64 0, .pointer (some ⟨w1.heap.size + 1 + 1, 0, none⟩), .int .i64 x.1.1, .int .i64 x.1.2, .int .i64 0, .pointer (some ⟨b.s, 0, none⟩), .bool false, .tuple #[.pointer (some ⟨b'.s, 0, none⟩), .slice (some ⟨gp, 0, none⟩) NN NN, .int .i64 0], .pointer (some ⟨b.s, 0, none⟩), .int .i64 (NN : Nat), .int .i64 (n : Nat), .tuple #[.pointer (some ⟨b'.s, 0, none⟩), .slice (some ⟨gp, 0, none⟩) NN NN, .int .i64 0], .pointer (some ⟨b'.s, 0, none⟩), .slice (some ⟨gp, 0, none⟩) NN NN, .int .i64 0, .int .i64 0, .bool false, undef, .func (.func 74) #[.pointer (some ⟨pp, 0, none⟩)] #[], .bool false, .pointer (some ⟨b.s, 0, none⟩), .func (.func 189) #[] #[.pointer (some ⟨w1.heap.size + 1 + 1 + 1, 0, none⟩)], .int .i64 x.1.1, .int .i64 x.1.2, .pointer (some ⟨b'.s, 0, none⟩), .slice (some ⟨gp, 0, none⟩) NN NN, .int .i64 (pre.length : Nat), .pointer (some ⟨gp, pre.length, none⟩), .int .i64 (y : Nat), .int .i64 x.1.2, .int .i64 0, .int .i64 0, .bool false, undef, undef, .int .i64 x.1.2, .int .i64 x.1.1, .slice (some ⟨gp, 0, none⟩) NN NN, .int .i64 (pre.length : Nat), .pointer (some ⟨gp, pre.length, none⟩), .int .i64 (y : Nat), undef, undef, undef, undef], defers := [] } w5.drew := by
        rw [hG]
        refine wpAnyIn_ready (rs := [0]) (by kernel_rfl) (by simp) ?_
        refine AllReadyIn.cons rfl (fun K hK => ?_) ?_
        · go_simp
          refine hK _ _ ?_
          rw [← hG]
          exact g0123456
        exact AllReadyIn.nil
      have g01234 : GG 3 #[true, true, true, true, true, false, false, false] { tmps := #[.pointer (some ⟨b.s, 0, none⟩), .int .i64 (n : Nat), .func (.func 74) #[.pointer (some ⟨pp, 0, none⟩)] #[], undef, undef, .pointer (some ⟨w.heap.size, 0, none⟩), .pointer (some ⟨w.heap.size + 1, 0, none⟩), .pointer (some ⟨w.heap.size + 1 + 1, 0, none⟩), .pointer (some ⟨w1.heap.size, 0, none⟩), .pointer (some ⟨w1.heap.size + 1, 0, none⟩), .int .i64 0, .pointer (some ⟨w1.heap.size + 1 + 1, 0, none⟩), .int .i64 x.1.1, .int .i64 x.1.2, .int .i64 0, .pointer (some ⟨b.s, 0, none⟩), .bool false, .tuple #[.pointer (some ⟨b'.s, 0, none⟩), .slice (some ⟨gp, 0, none⟩) NN NN, .int .i64 0], .pointer (some ⟨b.s, 0, none⟩), .int .i64 (NN : Nat), .int .i64 (n : Nat), .tuple #[.pointer (some ⟨b'.s, 0, none⟩), .slice (some ⟨gp, 0, none⟩) NN NN, .int .i64 0], .pointer (some ⟨b'.s, 0, none⟩), .slice (some ⟨gp, 0, none⟩) NN NN, .int .i64 0, .int .i64 0, .bool false, undef, .func (.func 74) #[.pointer (some ⟨pp, 0, none⟩)] #[], .bool false, .pointer (some ⟨b.s, 0, none⟩), .func (.func 189) #[] #[.pointer (some ⟨w1.heap.size + 1 + 1 + 1, 0, none⟩)], .int .i64 x.1.1, .int .i64 x.1.2, .pointer (some ⟨b'.s, 0, none⟩), .slice (some ⟨gp, 0, none⟩) NN NN, .int .i64 (pre.length : Nat), .pointer (some ⟨gp, pre.length, none⟩), .int .i64 (y : Nat), .int .i64 x.1.2, .int .i64 0, .int .i64 0, .bool false, undef, .func (.func 74) #[.pointer (some ⟨pp, 0, none⟩)] #[], .int .i64 x.1.2, .int .i64 x.1.1, .slice (some ⟨gp, 0, none⟩) NN NN, .int .i64 (pre.length : Nat), undef, undef, undef, undef, undef, undef], defers := [] } w5.drew := by
        rw [hG]
        refine wpAnyIn_ready (rs := [5]) (by kernel_rfl) (by simp) ?_
        refine AllReadyIn.cons rfl (fun K hK => ?_) ?_
        · go_simp
          refine hK _ _ ?_
          rw [← hG]
          exact g012345
        exact AllReadyIn.nil
      have g01345 : GG 3 #[true, true, false, true, true, true, false, false] { tmps := #[.pointer (some ⟨b.s, 0, none⟩), .int .i64 (n : Nat), .func (.func 74) #[.pointer (some ⟨pp, 0, none⟩)] #[], undef, undef, .pointer (some ⟨w.heap.size, 0, none⟩), .pointer (some ⟨w.heap.size + 1, 0, none⟩), .pointer (some ⟨w.heap.size + 1 + 1, 0, none⟩), .pointer (some ⟨w1.heap.size, 0, none⟩), .pointer (some ⟨w1.heap.size + 1, 0, none⟩), .int .i64 0, .pointer (some ⟨w1.heap.size + 1 + 1, 0, none⟩), .int .i64 x.1.1, .int .i64 x.1.2, .int .i64 0, .pointer (some ⟨b.s, 0, none⟩), .bool false, .tuple #[.pointer (some ⟨b'.s, 0, none⟩), .slice (some ⟨gp, 0, none⟩) NN NN, .int .i64 0], .pointer (some ⟨b.s, 0, none⟩), .int .i64 (NN : Nat), .int .i64 (n : Nat), .tuple #[.pointer (some ⟨b'.s, 0, none⟩), .slice (some ⟨gp, 0, none⟩) NN NN, .int .i64 0], .pointer (some ⟨b'.s, 0, none⟩), .slice (some ⟨gp, 0, none⟩) NN NN, .int .i64 0, .int .i64 0, .bool false, undef, .func (.func 74) #[.pointer (some ⟨pp, 0, none⟩)] #[], .bool false, .pointer (some ⟨b.s, 0, none⟩), .func (.func 189) #[] #[.pointer (some ⟨w1.heap.size + 1 + 1 + 1, 0, none⟩)], .int .i64 x.1.1, .int .i64 x.1.2, .pointer (some ⟨b'.s, 0, none⟩), .slice (some ⟨gp, 0, none⟩) NN NN, .int .i64 (pre.length : Nat), .pointer (some ⟨gp, pre.length, none⟩), .int .i64 (y : Nat), .int .i64 x.1.2, .int .i64 0, .int .i64 0, .bool false, undef, .func (.func 74) #[.pointer (some ⟨pp, 0, none⟩)] #[], .int .i64 x.1.2, undef, .slice (some ⟨gp, 0, none⟩) NN NN, .int .i64 (pre.length : Nat), .pointer (some ⟨gp, pre.length, none⟩), undef, undef, undef, undef, undef], defers := [] } w5.drew := by
        rw [hG]
        refine wpAnyIn_ready (rs := [2, 6]) (by kernel_rfl) (by simp) ?_
        refine AllReadyIn.cons rfl (fun K hK => ?_) ?_
        · go_simp
          refine hK _ _ ?_
          rw [← hG]
          exact g012345
        refine AllReadyIn.cons rfl (fun K hK => ?_) ?_
        · go_simp
          refine hK _ _ ?_
          rw [← hG]
          exact g013456
        exact AllReadyIn.nil
      have g02345 : GG 3 #[true, false, true, true, true, true, false, false] { tmps := #[.pointer (some ⟨b.s, 0, none⟩), .int .i64 (n : Nat), .func (.func 74) #[.pointer (some ⟨pp, 0, none⟩)] #[], undef, undef, .pointer (some ⟨w.heap.size, 0, none⟩), .pointer (some ⟨w.heap.size + 1, 0, none⟩), .pointer (some ⟨w.heap.size + 1 + 1, 0, none⟩), .pointer (some ⟨w1.heap.size, 0, none⟩), .pointer (some ⟨w1.heap.size + 1, 0, none⟩), .int .i64 0, .pointer (some ⟨w1.heap.size + 1 + 1, 0, none⟩), .int .i64 x.1.1, .int .i64 x.1.2, .int .i64 0, .pointer (some ⟨b.s, 0, none⟩), .bool false, .tuple #[.pointer (some ⟨b'.s, 0, none⟩), .slice (some ⟨gp, 0, none⟩) NN NN, .int .i64 0], .pointer (some ⟨b.s, 0, none⟩), .int .i64 (NN : Nat), .int .i64 (n : Nat), .tuple #[.pointer (some ⟨b'.s, 0, none⟩), .slice (some ⟨gp, 0, none⟩) NN NN, .int .i64 0], .pointer (some ⟨b'.s, 0, none⟩), .slice (some ⟨gp, 0, none⟩) NN NN, .int .i64 0, .int .i64 0, .bool false, undef, .func (.func 74) #[.pointer (some ⟨pp, 0, none⟩)] #[], .bool false, .pointer (some ⟨b.s, 0, none⟩), .func (.func 189) #[] #[.pointer (some ⟨w1.heap.size + 1 + 1 + 1, 0, none⟩)], .int .i64 x.1.1, .int .i64 x.1.2, .pointer (some ⟨b'.s, 0, none⟩), .slice (some ⟨gp, 0, none⟩) NN NN, .int .i64 (pre.length : Nat), .pointer (some ⟨gp, pre.length, none⟩), .int .i64 (y : Nat), .int .i64 x.1.2, .int .i64 0, .int .i64 0, .bool false, undef, .func (.func 74) #[.pointer (some ⟨pp, 0, none⟩)] #[], undef, .int .i64 x.1.1, .slice (some ⟨gp, 0, none⟩) NN NN, .int .i64 (pre.length : Nat), .pointer (some ⟨gp, pre.length, none⟩), undef, undef, undef, undef, undef], defers := [] } w5.drew := by
        rw [hG]
        refine wpAnyIn_ready (rs := [1, 6]) (by kernel_rfl) (by simp) ?_
        refine AllReadyIn.cons rfl (fun K hK => ?_) ?_
        · go_simp
          refine hK _ _ ?_
          rw [← hG]
          exact g012345
        refine AllReadyIn.cons rfl (fun K hK => ?_) ?_
        · go_simp
          refine hK _ _ ?_
          rw [← hG]
          exact g023456
        exact AllReadyIn.nil
      have g03456 : GG 3 #[true, false, false, true, true, true, true, false] { tmps := #[.pointer (some ⟨b.s, 0, none⟩), .int .i64 (n : Nat), .func (.func 74) #[.pointer (some ⟨pp, 0, none⟩)] #[], undef, undef, .pointer (some ⟨w.heap.size, 0, none⟩), .pointer (some ⟨w.heap.size + 1, 0, none⟩), .pointer (some ⟨w.heap.size + 1 + 1, 0, none⟩), .pointer (some ⟨w1.heap.size, 0, none⟩), .pointer (some ⟨w1.heap.size + 1, 0, none⟩), .int .i64 0, .pointer (some ⟨w1.heap.size + 1 + 1, 0, none⟩), .int .i64 x.1.1, .int .i64 x.1.2, .int .i64 0, .pointer (some ⟨b.s, 0, none⟩), .bool false, .tuple #[.pointer (some ⟨b'.s, 0, none⟩), .slice (some ⟨gp, 0, none⟩) NN NN, .int .i64 0], .pointer (some ⟨b.s, 0, none⟩), .int .i64 (NN : Nat), .int .i64 (n : Nat), .tuple #[.pointer (some ⟨b'.s, 0, none⟩), .slice (some ⟨gp, 0, none⟩) NN NN, .int .i64 0], .pointer (some ⟨b'.s, 0, none⟩), .slice (some ⟨gp, 0, none⟩) NN NN, .int .i64 0, .int .i64 0, .bool false, undef, .func (.func 74) #[.pointer (some ⟨pp, 0, none⟩)] #[], .bool false, .pointer (some ⟨b.s, 0, none⟩), .func (.func 189) #[] #[.pointer (some ⟨w1.heap.size + 1 + 1 + 1, 0, none⟩)], .int .i64 x.1.1, .int .i64 x.1.2, .pointer (some ⟨b'.s, 0, none⟩), .slice (some ⟨gp, 0, none⟩) NN NN, .int .i64 (pre.length : Nat), .pointer (some ⟨gp, pre.length, none⟩), .int .i64 (y : Nat), .int .i64 x.1.2, .int .i64 0, .int .i64 0, .bool false, undef, .func (.func 74) #[.pointer (some ⟨pp, 0, none⟩)] #[], undef, undef, .slice (some ⟨gp, 0, none⟩) NN NN, .int .i64 (pre.length : Nat), .pointer (some ⟨gp, pre.length, none⟩), .int .i64 (y : Nat), undef, undef, undef, undef], defers := [] } w5.drew := by
        rw [hG]
        refine wpAnyIn_ready (rs := [1, 2]) (by kernel_rfl) (by simp) ?_
        refine AllReadyIn.cons rfl (fun K hK => ?_) ?_
        · go_simp
          refine hK _ _ ?_
          rw [← hG]
          exact g013456
        refine AllReadyIn.cons rfl (fun K hK => ?_) ?_
        · go_simp
          refine hK _ _ ?_
          rw [← hG]
          exact g023456
        exact AllReadyIn.nil
      have g12345 : GG 3 #[false, true, true, true, true, true, false, false] { tmps := #[.pointer (some ⟨b.s, 0, none⟩), .int .i64 (n : Nat), .func (.func 74) #[.pointer (some ⟨pp, 0, none⟩)] #[], undef, undef, .pointer (some ⟨w.heap.size, 0, none⟩), .pointer (some ⟨w.heap.size + 1, 0, none⟩), .pointer (some ⟨w.heap.size + 1 + 1, 0, none⟩), .pointer (some ⟨w1.heap.size, 0, none⟩), .pointer (some ⟨w1.heap.size + 1, 0, none⟩), .int .i64 0, .pointer (some ⟨w1.heap.size + 1 + 1, 0, none⟩), .int .i64 x.1.1, .int .i64 x.1.2, .int .i64 0, .pointer (some ⟨b.s, 0, none⟩), .bool false, .tuple #[.pointer (some ⟨b'.s, 0, none⟩), .slice (some ⟨gp, 0, none⟩) NN NN, .int .i64 0], .pointer (some ⟨b.s, 0, none⟩), .int .i64 (NN : Nat), .int .i64 (n : Nat), .tuple #[.pointer (some ⟨b'.s, 0, none⟩), .slice (some ⟨gp, 0, none⟩) NN NN, .int .i64 0], .pointer (some ⟨b'.s, 0, none⟩), .slice (some ⟨gp, 0, none⟩) NN NN, .int .i64 0, .int .i64 0, .bool false, undef, .func (.func 74) #[.pointer (some ⟨pp, 0, none⟩)] #[], .bool false, .pointer (some ⟨b.s, 0, none⟩), .func (.func 189) #[] #[.pointer (some ⟨w1.heap.size + 1 + 1 + 1, 0, none⟩)], .int .i64 x.1.1, .int .i64 x.1.2, .pointer (some ⟨b'.s, 0, none⟩), .slice (some ⟨gp, 0, none⟩) NN NN, .int .i64 (pre.length : Nat), .pointer (some ⟨gp, pre.length, none⟩), .int .i64 (y : Nat), .int .i64 x.1.2, .int .i64 0, .int .i64 0, .bool false, undef, undef, .int .i64 x.1.2, .int .i64 x.1.1, .slice (some ⟨gp, 0, none⟩) NN NN, .int .i64 (pre.length : Nat), .pointer (some ⟨gp, pre.length, none⟩), undef, undef, undef, undef, undef], defers := [] } w5.drew := by
        rw [hG]
        refine wpAnyIn_ready (rs := [0, 6]) (by kernel_rfl) (by simp) ?_
        refine AllReadyIn.cons rfl (fun K hK => ?_) ?_
        · go_simp
          refine hK _ _ ?_
          rw [← hG]
          exact g012345
        refine AllReadyIn.cons rfl (fun K hK => ?_) ?_
        · go_simp
          refine hK _ _ ?_
          rw [← hG]
          exact g123456
        exact AllReadyIn.nil
      have g13456 : GG 3 #[false, true, false, true, true, true, true, false] { tmps := #[.pointer (some ⟨b.s, 0, none⟩), .int .i64 (n : Nat), .func (.func 74) #[.pointer (some ⟨pp, 0, none⟩)] #[], undef, undef, .pointer (some ⟨w.heap.size, 0, none⟩), .pointer (some ⟨w.heap.size + 1, 0, none⟩), .pointer (some ⟨w.heap.size + 1 + 1, 0, none⟩), .pointer (some ⟨w1.heap.size, 0, none⟩), .pointer (some ⟨w1.heap.size + 1, 0, none⟩), .int .i64 0, .pointer (some ⟨w1.heap.size + 1 + 1, 0, none⟩), .int .i64 x.1.1, .int .i64 x.1.2, .int .i64 0, .pointer (some ⟨b.s, 0, none⟩), .bool false, .tuple #[.pointer (some ⟨b'.s, 0, none⟩), .slice (some ⟨gp, 0, none⟩) NN NN, .int .i64 0], .pointer (some ⟨b.s, 0, none⟩), .int .i64 (NN : Nat), .int .i64 (n : Nat), .tuple #[.pointer (some ⟨b'.s, 0, none⟩), .slice (some ⟨gp, 0, none⟩) NN NN, .int .i64 0], .pointer (some ⟨b'.s, 0, none⟩), .slice (some ⟨gp, 0, none⟩) NN NN, .int .i64 0, .int .i64 0, .bool false, undef, .func (.func 74) #[.pointer (some ⟨pp, 0, none⟩)] #[], .bool false, .pointer (some ⟨b.s, 0, none⟩), .func (.func 189) #[] #[.pointer (some ⟨w1.heap.size + 1 + 1 + 1, 0, none⟩)], .int .i64 x.1.1, .int .i64 x.1.2, .pointer (some ⟨b'.s, 0, none⟩), .slice (some ⟨gp, 0, none⟩) NN NN, .int .i64 (pre.length : Nat), .pointer (some ⟨gp, pre.length, none⟩), .int .i64 (y : Nat), .int .i64 x.1.2, .int .i64 0, .int .i64 0, .bool false, undef, undef, .int .i64 x.1.2, undef, .slice (some ⟨gp, 0, none⟩) NN NN, .int .i64 (pre.length : Nat), .pointer (some ⟨gp, pre.length, none⟩), .int .i64 (y : Nat), undef, undef, undef, undef], defers := [] } w5.drew := by
        rw [hG]
        refine wpAnyIn_ready (rs := [0, 2]) (by kernel_rfl) (by simp) ?_
        refine AllReadyIn.cons rfl (fun K hK => ?_) ?_
        · go_simp
          refine hK _ _ ?_
          rw [← hG]
          exact g013456
        refine AllReadyIn.cons rfl (fun K hK => ?_) ?_
        · go_simp
          refine hK _ _ ?_
          rw [← hG]
          exact g123456
        exact AllReadyIn.nil
      have g23456 : GG 3 #[false, false, true, true, true, true, true, false] { tmps := #[.pointer (some ⟨b.s, 0, none⟩), .int .i64 (n : Nat), .func (.func 74) #[.pointer (some ⟨pp, 0, none⟩)] #[], undef, undef, .pointer (some ⟨w.heap.size, 0, none⟩), .pointer (some ⟨w.heap.size + 1, 0, none⟩), .pointer (some ⟨w.heap.size + 1 + 1, 0, none⟩), .pointer (some ⟨w1.heap.size, 0, none⟩), .pointer (some ⟨w1.heap.size + 1, 0, none⟩), .int .i64 0, .pointer (some ⟨w1.heap.size + 1 + 1, 0, none⟩), .int .i64 x.1.1, .int .i64 x.1.2, .int .i64 0, .pointer (some ⟨b.s, 0, none⟩), .bool false, .tuple #[.pointer (some ⟨b'.s, 0, none⟩), .slice (some ⟨gp, 0, none⟩) NN NN, .int .i64 0], .pointer (some ⟨b.s, 0, none⟩), .int .i64 (NN : Nat), .int .i64 (n : Nat), .tuple #[.pointer (some ⟨b'.s, 0, none⟩), .slice (some ⟨gp, 0, none⟩) NN NN, .int .i64 0], .pointer (some ⟨b'.s, 0, none⟩), .slice (some ⟨gp, 0, none⟩) NN NN, .int .i64 0, .int .i64 0, .bool false, undef, .func (.func 74) #[.pointer (some ⟨pp, 0, none⟩)] #[], .bool false, .pointer (some ⟨b.s, 0, none⟩), .func (.func 189) #[] #[.pointer (some ⟨w1.heap.size + 1 + 1 + 1, 0, none⟩)], .int .i64 x.1.1, .int .i64 x.1.2, .pointer (some ⟨b'.s, 0, none⟩), .slice (some ⟨gp, 0, none⟩) NN NN, .int .i64 (pre.length : Nat), .pointer (some ⟨gp, pre.length, none⟩), .int .i64 (y : Nat), .int .i64 x.1.2, .int .i64 0, .int .i64 0, .bool false, undef, undef, undef, .int .i64 x.1.1, .slice (some ⟨gp, 0, none⟩) NN NN, .int .i64 (pre.length : Nat), .pointer (some ⟨gp, pre.length, none⟩), .int .i64 (y : Nat), undef, undef, undef, undef], defers := [] } w5.drew := by
        rw [hG]
        refine wpAnyIn_ready (rs := [0, 1]) (by kernel_rfl) (by simp) ?_
        refine AllReadyIn.cons rfl (fun K hK => ?_) ?_
        · go_simp
          refine hK _ _ ?_
          rw [← hG]
          exact g023456
        refine AllReadyIn.cons rfl (fun K hK => ?_) ?_
        · go_simp
          refine hK _ _ ?_
          rw [← hG]
          exact g123456
        exact AllReadyIn.nil
      have g0123 : GG 4 #[true, true, true, true, false, false, false, false] { tmps := #[.pointer (some ⟨b.s, 0, none⟩), .int .i64 (n : Nat), .func (.func 74) #[.pointer (some ⟨pp, 0, none⟩)] #[], undef, undef, .pointer (some ⟨w.heap.size, 0, none⟩), .pointer (some ⟨w.heap.size + 1, 0, none⟩), .pointer (some ⟨w.heap.size + 1 + 1, 0, none⟩), .pointer (some ⟨w1.heap.size, 0, none⟩), .pointer (some ⟨w1.heap.size + 1, 0, none⟩), .int .i64 0, .pointer (some ⟨w1.heap.size + 1 + 1, 0, none⟩), .int .i64 x.1.1, .int .i64 x.1.2, .int .i64 0, .pointer (some ⟨b.s, 0, none⟩), .bool false, .tuple #[.pointer (some ⟨b'.s, 0, none⟩), .slice (some ⟨gp, 0, none⟩) NN NN, .int .i64 0], .pointer (some ⟨b.s, 0, none⟩), .int .i64 (NN : Nat), .int .i64 (n : Nat), .tuple #[.pointer (some ⟨b'.s, 0, none⟩), .slice (some ⟨gp, 0, none⟩) NN NN, .int .i64 0], .pointer (some ⟨b'.s, 0, none⟩), .slice (some ⟨gp, 0, none⟩) NN NN, .int .i64 0, .int .i64 0, .bool false, undef, .func (.func 74) #[.pointer (some ⟨pp, 0, none⟩)] #[], .bool false, .pointer (some ⟨b.s, 0, none⟩), .func (.func 189) #[] #[.pointer (some ⟨w1.heap.size + 1 + 1 + 1, 0, none⟩)], .int .i64 x.1.1, .int .i64 x.1.2, .pointer (some ⟨b'.s, 0, none⟩), .slice (some ⟨gp, 0, none⟩) NN NN, .int .i64 (pre.length : Nat), .pointer (some ⟨gp, pre.length, none⟩), .int .i64 (y : Nat), .int .i64 x.1.2, .int .i64 0, .int .i64 0, .bool false, undef, .func (.func 74) #[.pointer (some ⟨pp, 0, none⟩)] #[], .int .i64 x.1.2, .int .i64 x.1.1, .slice (some ⟨gp, 0, none⟩) NN NN, undef, undef, undef, undef, undef, undef, undef], defers := [] } w5.drew := by
        rw [hG]
        refine wpAnyIn_ready (rs := [4]) (by kernel_rfl) (by simp) ?_
        refine AllReadyIn.cons rfl (fun K hK => ?_) ?_
        · go_simp
          refine hK _ _ ?_
          rw [← hG]
          exact g01234
        exact AllReadyIn.nil
      have g0124 : GG 4 #[true, true, true, false, true, false, false, false] { tmps := #[.pointer (some ⟨b.s, 0, none⟩), .int .i64 (n : Nat), .func (.func 74) #[.pointer (some ⟨pp, 0, none⟩)] #[], undef, undef, .pointer (some ⟨w.heap.size, 0, none⟩), .pointer (some ⟨w.heap.size + 1, 0, none⟩), .pointer (some ⟨w.heap.size + 1 + 1, 0, none⟩), .pointer (some ⟨w1.heap.size, 0, none⟩), .pointer (some ⟨w1.heap.size + 1, 0, none⟩), .int .i64 0, .pointer (some ⟨w1.heap.size + 1 + 1, 0, none⟩), .int .i64 x.1.1, .int .i64 x.1.2, .int .i64 0, .pointer (some ⟨b.s, 0, none⟩), .bool false, .tuple #[.pointer (some ⟨b'.s, 0, none⟩), .slice (some ⟨gp, 0, none⟩) NN NN, .int .i64 0], .pointer (some ⟨b.s, 0, none⟩), .int .i64 (NN : Nat), .int .i64 (n : Nat), .tuple #[.pointer (some ⟨b'.s, 0, none⟩), .slice (some ⟨gp, 0, none⟩) NN NN, .int .i64 0], .pointer (some ⟨b'.s, 0, none⟩), .slice (some ⟨gp, 0, none⟩) NN NN, .int .i64 0, .int .i64 0, .bool false, undef, .func (.func 74) #[.pointer (some ⟨pp, 0, none⟩)] #[], .bool false, .pointer (some ⟨b.s, 0, none⟩), .func (.func 189) #[] #[.pointer (some ⟨w1.heap.size + 1 + 1 + 1, 0, none⟩)], .int .i64 x.1.1, .int .i64 x.1.2, .pointer (some ⟨b'.s, 0, none⟩), .slice (some ⟨gp, 0, none⟩) NN NN, .int .i64 (pre.length : Nat), .pointer (some ⟨gp, pre.length, none⟩), .int .i64 (y : Nat), .int .i64 x.1.2, .int .i64 0, .int .i64 0, .bool false, undef, .func (.func 74) #[.pointer (some ⟨pp, 0, none⟩)] #[], .int .i64 x.1.2, .int .i64 x.1.1, undef, .int .i64 (pre.length : Nat), undef, undef, undef, undef, undef, undef], defers := [] } w5.drew := by
        rw [hG]
        refine wpAnyIn_ready (rs := [3]) (by kernel_rfl) (by simp) ?_
        refine AllReadyIn.cons rfl (fun K hK => ?_) ?_
        · go_simp
          refine hK _ _ ?_
          rw [← hG]
          exact g01234
        exact AllReadyIn.nil
      have g0134 : GG 4 #[true, true, false, true, true, false, false, false] { tmps := #[.pointer (some ⟨b.s, 0, none⟩), .int .i64 (n : Nat), .func (.func 74) #[.pointer (some ⟨pp, 0, none⟩)] #[], undef, undef, .pointer (some ⟨w.heap.size, 0, none⟩), .pointer (some ⟨w.heap.size + 1, 0, none⟩), .pointer (some ⟨w.heap.size + 1 + 1, 0, none⟩), .pointer (some ⟨w1.heap.size, 0, none⟩), .pointer (some ⟨w1.heap.size + 1, 0, none⟩), .int .i64 0, .pointer (some ⟨w1.heap.size + 1 + 1, 0, none⟩), .int .i64 x.1.1, .int .i64 x.1.2, .int .i64 0, .pointer (some ⟨b.s, 0, none⟩), .bool false, .tuple #[.pointer (some ⟨b'.s, 0, none⟩), .slice (some ⟨gp, 0, none⟩) NN NN, .int .i64 0], .pointer (some ⟨b.s, 0, none⟩), .int .i64 (NN : Nat), .int .i64 (n : Nat), .tuple #[.pointer (some ⟨b'.s, 0, none⟩), .slice (some ⟨gp, 0, none⟩) NN NN, .int .i64 0], .pointer (some ⟨b'.s, 0, none⟩), .slice (some ⟨gp, 0, none⟩) NN NN, .int .i64 0, .int .i64 0, .bool false, undef, .func (.func 74) #[.pointer (some ⟨pp, 0, none⟩)] #[], .bool false, .pointer (some ⟨b.s, 0, none⟩), .func (.func 189) #[] #[.pointer (some ⟨w1.heap.size + 1 + 1 + 1, 0, none⟩)], .int .i64 x.1.1, .int .i64 x.1.2, .pointer (some ⟨b'.s, 0, none⟩), .slice (some ⟨gp, 0, none⟩) NN NN, .int .i64 (pre.length : Nat), .pointer (some ⟨gp, pre.length, none⟩), .int .i64 (y : Nat), .int .i64 x.1.2, .int .i64 0, .int .i64 0, .bool false, undef, .func (.func 74) #[.pointer (some ⟨pp, 0, none⟩)] #[], .int .i64 x.1.2, undef, .slice (some ⟨gp, 0, none⟩) NN NN, .int .i64 (pre.length : Nat), undef, undef, undef, undef, undef, undef], defers := [] } w5.drew := by
        rw [hG]
        refine wpAnyIn_ready (rs := [2, 5]) (by kernel_rfl) (by simp) ?_
        refine AllReadyIn.cons rfl (fun K hK => ?_) ?_
        · go_simp
          refine hK _ _ ?_
          rw [← hG]
          exact g01234
        refine AllReadyIn.cons rfl (fun K hK => ?_) ?_
        · go_simp
          refine hK _ _ ?_
          rw [← hG]
          exact g01345
        exact AllReadyIn.nil
      have g0234 : GG 4 #[true, false, true, true, true, false, false, false] { tmps := #[.pointer (some ⟨b.s, 0, none⟩), .int .i64 (n : Nat), .func (.func 74) #[.pointer (some ⟨pp, 0, none⟩)] #[], undef, undef, .pointer (some ⟨w.heap.size, 0, none⟩), .pointer (some ⟨w.heap.size + 1, 0, none⟩), .pointer (some ⟨w.heap.size + 1 + 1, 0, none⟩), .pointer (some ⟨w1.heap.size, 0, none⟩), .pointer (some ⟨w1.heap.size + 1, 0, none⟩), .int .i64 0, .pointer (some ⟨w1.heap.size + 1 + 1, 0, none⟩), .int .i64 x.1.1, .int .i64 x.1.2, .int .i64 0, .pointer (some ⟨b.s, 0, none⟩), .bool false, .tuple #[.pointer (some ⟨b'.s, 0, none⟩), .slice (some ⟨gp, 0, none⟩) NN NN, .int .i64 0], .pointer (some ⟨b.s, 0, none⟩), .int .i64 (NN : Nat), .int .i64 (n : Nat), .tuple #[.pointer (some ⟨b'.s, 0, none⟩), .slice (some ⟨gp, 0, none⟩) NN NN, .int .i64 0], .pointer (some ⟨b'.s, 0, none⟩), .slice (some ⟨gp, 0, none⟩) NN NN, .int .i64 0, .int .i64 0, .bool false, undef, .func (.func 74) #[.pointer (some ⟨pp, 0, none⟩)] #[], .bool false, .pointer (some ⟨b.s, 0, none⟩), .func (.func 189) #[] #[.pointer (some ⟨w1.heap.size + 1 + 1 + 1, 0, none⟩)], .int .i64 x.1.1, .int .i64 x.1.2, .pointer (some ⟨b'.s, 0, none⟩), .slice (some ⟨gp, 0, none⟩) NN NN, .int .i64 (pre.length : Nat), .pointer (some ⟨gp, pre.length, none⟩), .int .i64 (y : Nat), .int .i64 x.1.2, .int .i64 0, .int .i64 0, .bool false, undef, .func (.func 74) #[.pointer (some ⟨pp, 0, none⟩)] #[], undef, .int .i64 x.1.1, .slice (some ⟨gp, 0, none⟩) NN NN, .int .i64 (pre.length : Nat), undef, undef, undef, undef, undef, undef], defers := [] } w5.drew := by
        rw [hG]
        refine wpAnyIn_ready (rs := [1, 5]) (by kernel_rfl) (by simp) ?_
        refine AllReadyIn.cons rfl (fun K hK => ?_) ?_
        · go_simp
          refine hK _ _ ?_
          rw [← hG]
          exact g01234
        refine AllReadyIn.cons rfl (fun K hK => ?_) ?_
        · go_simp
          refine hK _ _ ?_
          rw [← hG]
          exact g02345
        exact AllReadyIn.nil
      have g0345 : GG 4 #[true, false, false, true, true, true, false, false] { tmps := #[.pointer (some ⟨b.s, 0, none⟩), .int .i64 (n : Nat), .func (.func 74) #[.pointer (some ⟨pp, 0, none⟩)] #[], undef, undef, .pointer (some ⟨w.heap.size, 0, none⟩), .pointer (some ⟨w.heap.size + 1, 0, none⟩), .pointer (some ⟨w.heap.size + 1 + 1, 0, none⟩), .pointer (some ⟨w1.heap.size, 0, none⟩), .pointer (some ⟨w1.heap.size + 1, 0, none⟩), .int .i64 0, .pointer (some ⟨w1.heap.size + 1 + 1, 0, none⟩), .int .i64 x.1.1, .int .i64 x.1.2, .int .i64 0, .pointer (some ⟨b.s, 0, none⟩), .bool false, .tuple #[.pointer (some ⟨b'.s, 0, none⟩), .slice (some ⟨gp, 0, none⟩) NN NN, .int .i64 0], .pointer (some ⟨b.s, 0, none⟩), .int .i64 (NN : Nat), .int .i64 (n : Nat), .tuple #[.pointer (some ⟨b'.s, 0, none⟩), .slice (some ⟨gp, 0, none⟩) NN NN, .int .i64 0], .pointer (some ⟨b'.s, 0, none⟩), .slice (some ⟨gp, 0, none⟩) NN NN, .int .i64 0, .int .i64 0, .bool false, undef, .func (.func 74) #[.pointer (some ⟨pp, 0, none⟩)] #[], .bool false, .pointer (some ⟨b.s, 0, none⟩), .func (.func 189) #[] #[.pointer (some ⟨w1.heap.size + 1 + 1 + 1, 0, none⟩)], .int .i64 x.1.1, .int .i64 x.1.2, .pointer (some ⟨b'.s, 0, none⟩), .slice (some ⟨gp, 0, none⟩) NN NN, .int .i64 (pre.length : Nat), .pointer (some ⟨gp, pre.length, none⟩), .int .i64 (y : Nat), .int .i64 x.1.2, .int .i64 0, .int .i64 0, .bool false, undef, .func (.func 74) #[.pointer (some ⟨pp, 0, none⟩)] #[], undef, undef, .slice (some ⟨gp, 0, none⟩) NN NN, .int .i64 (pre.length : Nat), .pointer (some ⟨gp, pre.length, none⟩), undef, undef, undef, undef, undef], defers := [] } w5.drew := by
        rw [hG]
        refine wpAnyIn_ready (rs := [1, 2, 6]) (by kernel_rfl) (by simp) ?_
        refine AllReadyIn.cons rfl (fun K hK => ?_) ?_
        · go_simp
          refine hK _ _ ?_
          rw [← hG]
          exact g01345
        refine AllReadyIn.cons rfl (fun K hK => ?_) ?_
        · go_simp
          refine hK _ _ ?_
          rw [← hG]
          exact g02345
        refine AllReadyIn.cons rfl (fun K hK => ?_) ?_
        · go_simp
          refine hK _ _ ?_
          rw [← hG]
          exact g03456
        exact AllReadyIn.nil
      have g1234 : GG 4 #[false, true, true, true, true, false, false, false] { tmps := #[.pointer (some ⟨b.s, 0, none⟩), .int .i64 (n : Nat), .func (.func 74) #[.pointer (some ⟨pp, 0, none⟩)] #[], undef, undef, .pointer (some ⟨w.heap.size, 0, none⟩), .pointer (some ⟨w.heap.size + 1, 0, none⟩), .pointer (some ⟨w.heap.size + 1 + 1, 0, none⟩), .pointer (some ⟨w1.heap.size, 0, none⟩), .pointer (some ⟨w1.heap.size + 1, 0, none⟩), .int .i64 0, .pointer (some ⟨w1.heap.size + 1 + 1, 0, none⟩), .int .i64 x.1.1, .int .i64 x.1.2, .int .i64 0, .pointer (some ⟨b.s, 0, none⟩), .bool false, .tuple #[.pointer (some ⟨b'.s, 0, none⟩), .slice (some ⟨gp, 0, none⟩) NN NN, .int .i64 0], .pointer (some ⟨b.s, 0, none⟩), .int .i64 (NN : Nat), .int .i64 (n : Nat), .tuple #[.pointer (some ⟨b'.s, 0, none⟩), .slice (some ⟨gp, 0, none⟩) NN NN, .int .i64 0], .pointer (some ⟨b'.s, 0, none⟩), .slice (some ⟨gp, 0, none⟩) NN NN, .int .i64 0, .int .i64 0, .bool false, undef, .func (.func 74) #[.pointer (some ⟨pp, 0, none⟩)] #[], .bool false, .pointer (some ⟨b.s, 0, none⟩), .func (.func 189) #[] #[.pointer (some ⟨w1.heap.size + 1 + 1 + 1, 0, none⟩)], .int .i64 x.1.1, .int .i64 x.1.2, .pointer (some ⟨b'.s, 0, none⟩), .slice (some ⟨gp, 0, none⟩) NN NN, .int .i64 (pre.length : Nat), .pointer (some ⟨gp, pre.length, none⟩), .int .i64 (y : Nat), .int .i64 x.1.2, .int .i64 0, .int .i64 0, .bool false, undef, undef, .int .i64 x.1.2, .int .i64 x.1.1, .slice (some ⟨gp, 0, none⟩) NN NN, .int .i64 (pre.length : Nat), undef, undef, undef, undef, undef, undef], defers := [] } w5.drew := by
        rw [hG]
        refine wpAnyIn_ready (rs := [0, 5]) (by kernel_rfl) (by simp) ?_
        refine AllReadyIn.cons rfl (fun K hK => ?_) ?_
        · go_simp
          refine hK _ _ ?_
          rw [← hG]
          exact g01234
        refine AllReadyIn.cons rfl (fun K hK => ?_) ?_
        · go_simp
          refine hK _ _ ?_
          rw [← hG]
          exact g12345
        exact AllReadyIn.nil
      have g1345 : GG 4 #[false, true, false, true, true, true, false, false] { tmps := #[.pointer (some ⟨b.s, 0, none⟩), .int .i64 (n : Nat), .func (.func 74) #[.pointer (some ⟨pp, 0, none⟩)] #[], undef, undef, .pointer (some ⟨w.heap.size, 0, none⟩), .pointer (some ⟨w.heap.size + 1, 0, none⟩), .pointer (some ⟨w.heap.size + 1 + 1, 0, none⟩), .pointer (some ⟨w1.heap.size, 0, none⟩), .pointer (some ⟨w1.heap.size + 1, 0, none⟩), .int .i64 0, .pointer (some ⟨w1.heap.size + 1 + 1, 0, none⟩), .int .i64 x.1.1, .int .i64 x.1.2, .int .i64 0, .pointer (some ⟨b.s, 0, none⟩), .bool false, .tuple #[.pointer (some ⟨b'.s, 0, none⟩), .slice (some ⟨gp, 0, none⟩) NN NN, .int .i64 0], .pointer (some ⟨b.s, 0, none⟩), .int .i64 (NN : Nat), .int .i64 (n : Nat), .tuple #[.pointer (some ⟨b'.s, 0, none⟩), .slice (some ⟨gp, 0, none⟩) NN NN, .int .i64 0], .pointer (some ⟨b'.s, 0, none⟩), .slice (some ⟨gp, 0, none⟩) NN NN, .int .i64 0, .int .i64 0, .bool false, undef, .func (.func 74) #[.pointer (some ⟨pp, 0, none⟩)] #[], .bool false, .pointer (some ⟨b.s, 0, none⟩), .func (.func 189) #[] #[.pointer (some ⟨w1.heap.size + 1 + 1 + 1, 0, none⟩)], .int .i64 x.1.1, .int .i64 x.1.2, .pointer (some ⟨b'.s, 0, none⟩), .slice (some ⟨gp, 0, none⟩) NN NN, .int .i64 (pre.length : Nat), .pointer (some ⟨gp, pre.length, none⟩), .int .i64 (y : Nat), .int .i64 x.1.2, .int .i64 0, .int .i64 0, .bool false, undef, undef, .int .i64 x.1.2, undef, .slice (some ⟨gp, 0, none⟩) NN NN, .int .i64 (pre.length : Nat), .pointer (some ⟨gp, pre.length, none⟩), undef, undef, undef, undef, undef], defers := [] } w5.drew := by
        rw [hG]
        refine wpAnyIn_ready (rs := [0, 2, 6]) (by kernel_rfl) (by simp) ?_
        refine AllReadyIn.cons rfl (fun K hK => ?_) ?_
        · go_simp
          refine hK _ _ ?_
          rw [← hG]
          exact g01345
        refine AllReadyIn.cons rfl (fun K hK => ?_) ?_
        · go_simp
          refine hK _ _ ?_
          rw [← hG]
          exact g12345
        refine AllReadyIn.cons rfl (fun K hK => ?_) ?_
        · go_simp
          refine hK _ _ ?_
          rw [← hG]
          exact g13456
        exact AllReadyIn.nil
      have g2345 : GG 4 #[false, false, true, true, true, true, false, false] { tmps := #[.pointer (some ⟨b.s, 0, none⟩), .int .i64 (n : Nat), .func (.func 74) #[.pointer (some ⟨pp, 0, none⟩)] #[], undef, undef, .pointer (some ⟨w.heap.size, 0, none⟩), .pointer (some ⟨w.heap.size + 1, 0, none⟩), .pointer (some ⟨w.heap.size + 1 + 1, 0, none⟩), .pointer (some ⟨w1.heap.size, 0, none⟩), .pointer (some ⟨w1.heap.size + 1, 0, none⟩), .int .i64 0, .pointer (some ⟨w1.heap.size + 1 + 1, 0, none⟩), .int .i64 x.1.1, .int .i64 x.1.2, .int .i64 0, .pointer (some ⟨b.s, 0, none⟩), .bool false, .tuple #[.pointer (some ⟨b'.s, 0, none⟩), .slice (some ⟨gp, 0, none⟩) NN NN, .int .i64 0], .pointer (some ⟨b.s, 0, none⟩), .int .i64 (NN : Nat), .int .i64 (n : Nat), .tuple #[.pointer (some ⟨b'.s, 0, none⟩), .slice (some ⟨gp, 0, none⟩) NN NN, .int .i64 0], .pointer (some ⟨b'.s, 0, none⟩), .slice (some ⟨gp, 0, none⟩) NN NN, .int .i64 0, .int .i64 0, .bool false, undef, .func (.func 74) #[.pointer (some ⟨pp, 0, none⟩)] #[], .bool false, .pointer (some ⟨b.s, 0, none⟩), .func (.func 189) #[] #[.pointer (some ⟨w1.heap.size + 1 + 1 + 1, 0, none⟩)], .int .i64 x.1.1, .int .i64 x.1.2, .pointer (some ⟨b'.s, 0, none⟩), .slice (some ⟨gp, 0, none⟩) NN NN, .int .i64 (pre.length : Nat), .pointer (some ⟨gp, pre.length, none⟩), .int .i64 (y : Nat), .int .i64 x.1.2, .int .i64 0, .int .i64 0, .bool false, undef, undef, undef, .int .i64 x.1.1, .slice (some ⟨gp, 0, none⟩) NN NN, .int .i64 (pre.length : Nat), .pointer (some ⟨gp, pre.length, none⟩), undef, undef, undef, undef, undef], defers := [] } w5.drew := by
        rw [hG]
        refine wpAnyIn_ready (rs := [0, 1, 6]) (by kernel_rfl) (by simp) ?_
        refine AllReadyIn.cons rfl (fun K hK => ?_) ?_
        · go_simp
          refine hK _ _ ?_
          rw [← hG]
          exact g02345
        refine AllReadyIn.cons rfl (fun K hK => ?_) ?_
        · go_simp
          refine hK _ _ ?_
          rw [← hG]
          exact g12345
        refine AllReadyIn.cons rfl (fun K hK => ?_) ?_
        · go_simp
          refine hK _ _ ?_
          rw [← hG]
          exact g23456
        exact AllReadyIn.nil
      have g3456 : GG 4 #[false, false, false, true, true, true, true, false] { tmps := #[.pointer (some ⟨b.s, 0, none⟩), .int .i64 (n : Nat), .func (.func 74) #[.pointer (some ⟨pp, 0, none⟩)] #[], undef, undef, .pointer (some ⟨w.heap.size, 0, none⟩), .pointer (some ⟨w.heap.size + 1, 0, none⟩), .pointer (some ⟨w.heap.size + 1 + 1, 0, none⟩), .pointer (some ⟨w1.heap.size, 0, none⟩), .pointer (some ⟨w1.heap.size + 1, 0, none⟩), .int .i64 0, .pointer (some ⟨w1.heap.size + 1 + 1, 0, none⟩), .int .i64 x.1.1, .int .i64 x.1.2, .int .i64 0, .pointer (some ⟨b.s, 0, none⟩), .bool false, .tuple #[.pointer (some ⟨b'.s, 0, none⟩), .slice (some ⟨gp, 0, none⟩) NN NN, .int .i64 0], .pointer (some ⟨b.s, 0, none⟩), .int .i64 (NN : Nat), .int .i64 (n : Nat), .tuple #[.pointer (some ⟨b'.s, 0, none⟩), .slice (some ⟨gp, 0, none⟩) NN NN, .int .i64 0], .pointer (some ⟨b'.s, 0, none⟩), .slice (some ⟨gp, 0, none⟩) NN NN, .int .i64 0, .int .i64 0, .bool false, undef, .func (.func 74) #[.pointer (some ⟨pp, 0, none⟩)] #[], .bool false, .pointer (some ⟨b.s, 0, none⟩), .func (.func 189) #[] #[.pointer (some ⟨w1.heap.size + 1 + 1 + 1, 0, none⟩)], .int .i64 x.1.1, .int .i64 x.1.2, .pointer (some ⟨b'.s, 0, none⟩), .slice (some ⟨gp, 0, none⟩) NN NN, .int .i64 (pre.length : Nat), .pointer (some ⟨gp, pre.length, none⟩), .int .i64 (y : Nat), .int .i64 x.1.2, .int .i64 0, .int .i64 0, .bool false, undef, undef, undef, undef, .slice (some ⟨gp, 0, none⟩) NN NN, .int .i64 (pre.length : Nat), .pointer (some ⟨gp, pre.length, none⟩), .int .i64 (y : Nat), undef, undef, undef, undef], defers := [] } w5.drew := by
        rw [hG]
        refine wpAnyIn_ready (rs := [0, 1, 2]) (by kernel_rfl) (by simp) ?_
        refine AllReadyIn.cons rfl (fun K hK => ?_) ?_
        · go_simp
          refine hK _ _ ?_
          rw [← hG]
          exact g03456
        refine AllReadyIn.cons rfl (fun K hK => ?_) ?_
        · go_simp
          refine hK _ _ ?_
          rw [← hG]
          exact g13456
        refine AllReadyIn.cons rfl (fun K hK => ?_) ?_
        · go_simp
          refine hK _ _ ?_
          rw [← hG]
          exact g23456
        exact AllReadyIn.nil
      have g012 : GG 5 #[true, true, true, false, false, false, false, false] { tmps := #[.pointer (some ⟨b.s, 0, none⟩), .int .i64 (n : Nat), .func (.func 74) #[.pointer (some ⟨pp, 0, none⟩)] #[], undef, undef, .pointer (some ⟨w.heap.size, 0, none⟩), .pointer (some ⟨w.heap.size + 1, 0, none⟩), .pointer (some ⟨w.heap.size + 1 + 1, 0, none⟩), .pointer (some ⟨w1.heap.size, 0, none⟩), .pointer (some ⟨w1.heap.size + 1, 0, none⟩), .int .i64 0, .pointer (some ⟨w1.heap.size + 1 + 1, 0, none⟩), .int .i64 x.1.1, .int .i64 x.1.2, .int .i64 0, .pointer (some ⟨b.s, 0, none⟩), .bool false, .tuple #[.pointer (some ⟨b'.s, 0, none⟩), .slice (some ⟨gp, 0, none⟩) NN NN, .int .i64 0], .pointer (some ⟨b.s, 0, none⟩), .int .i64 (NN : Nat), .int .i64 (n : Nat), .tuple #[.pointer (some ⟨b'.s, 0, none⟩), .slice (some ⟨gp, 0, none⟩) NN NN, .int .i64 0], .pointer (some ⟨b'.s, 0, none⟩), .slice (some ⟨gp, 0, none⟩) NN NN, .int .i64 0, .int .i64 0, .bool false, undef, .func (.func 74) #[.pointer (some ⟨pp, 0, none⟩)] #[], .bool false, .pointer (some ⟨b.s, 0, none⟩), .func (.func 189) #[] #[.pointer (some ⟨w1.heap.size + 1 + 1 + 1, 0, none⟩)], .int .i64 x.1.1, .int .i64 x.1.2, .pointer (some ⟨b'.s, 0, none⟩), .slice (some ⟨gp, 0, none⟩) NN NN, .int .i64 (pre.length : Nat), .pointer (some ⟨gp, pre.length, none⟩), .int .i64 (y : Nat), .int .i64 x.1.2, .int .i64 0, .int .i64 0, .bool false, undef, .func (.func 74) #[.pointer (some ⟨pp, 0, none⟩)] #[], .int .i64 x.1.2, .int .i64 x.1.1, undef, undef, undef, undef, undef, undef, undef, undef], defers := [] } w5.drew := by
        rw [hG]
        refine wpAnyIn_ready (rs := [3, 4]) (by kernel_rfl) (by simp) ?_
        refine AllReadyIn.cons rfl (fun K hK => ?_) ?_
        · go_simp
          refine hK _ _ ?_
          rw [← hG]
          exact g0123
        refine AllReadyIn.cons rfl (fun K hK => ?_) ?_
        · go_simp
          refine hK _ _ ?_
          rw [← hG]
          exact g0124
        exact AllReadyIn.nil
      have g013 : GG 5 #[true, true, false, true, false, false, false, false] { tmps := #[.pointer (some ⟨b.s, 0, none⟩), .int .i64 (n : Nat), .func (.func 74) #[.pointer (some ⟨pp, 0, none⟩)] #[], undef, undef, .pointer (some ⟨w.heap.size, 0, none⟩), .pointer (some ⟨w.heap.size + 1, 0, none⟩), .pointer (some ⟨w.heap.size + 1 + 1, 0, none⟩), .pointer (some ⟨w1.heap.size, 0, none⟩), .pointer (some ⟨w1.heap.size + 1, 0, none⟩), .int .i64 0, .pointer (some ⟨w1.heap.size + 1 + 1, 0, none⟩), .int .i64 x.1.1, .int .i64 x.1.2, .int .i64 0, .pointer (some ⟨b.s, 0, none⟩), .bool false, .tuple #[.pointer (some ⟨b'.s, 0, none⟩), .slice (some ⟨gp, 0, none⟩) NN NN, .int .i64 0], .pointer (some ⟨b.s, 0, none⟩), .int .i64 (NN : Nat), .int .i64 (n : Nat), .tuple #[.pointer (some ⟨b'.s, 0, none⟩), .slice (some ⟨gp, 0, none⟩) NN NN, .int .i64 0], .pointer (some ⟨b'.s, 0, none⟩), .slice (some ⟨gp, 0, none⟩) NN NN, .int .i64 0, .int .i64 0, .bool false, undef, .func (.func 74) #[.pointer (some ⟨pp, 0, none⟩)] #[], .bool false, .pointer (some ⟨b.s, 0, none⟩), .func (.func 189) #[] #[.pointer (some ⟨w1.heap.size + 1 + 1 + 1, 0, none⟩)], .int .i64 x.1.1, .int .i64 x.1.2, .pointer (some ⟨b'.s, 0, none⟩), .slice (some ⟨gp, 0, none⟩) NN NN, .int .i64 (pre.length : Nat), .pointer (some ⟨gp, pre.length, none⟩), .int .i64 (y : Nat), .int .i64 x.1.2, .int .i64 0, .int .i64 0, .bool false, undef, .func (.func 74) #[.pointer (some ⟨pp, 0, none⟩)] #[], .int .i64 x.1.2, undef, .slice (some ⟨gp, 0, none⟩) NN NN, undef, undef, undef, undef, undef, undef, undef], defers := [] } w5.drew := by
        rw [hG]
        refine wpAnyIn_ready (rs := [2, 4]) (by kernel_rfl) (by simp) ?_
        refine AllReadyIn.cons rfl (fun K hK => ?_) ?_
        · go_simp
          refine hK _ _ ?_
          rw [← hG]
          exact g0123
        refine AllReadyIn.cons rfl (fun K hK => ?_) ?_
        · go_simp
          refine hK _ _ ?_
          rw [← hG]
          exact g0134
        exact AllReadyIn.nil
      have g014 : GG 5 #[true, true, false, false, true, false, false, false] { tmps := #[.pointer (some ⟨b.s, 0, none⟩), .int .i64 (n : Nat), .func (.func 74) #[.pointer (some ⟨pp, 0, none⟩)] #[], undef, undef, .pointer (some ⟨w.heap.size, 0, none⟩), .pointer (some ⟨w.heap.size + 1, 0, none⟩), .pointer (some ⟨w.heap.size + 1 + 1, 0, none⟩), .pointer (some ⟨w1.heap.size, 0, none⟩), .pointer (some ⟨w1.heap.size + 1, 0, none⟩), .int .i64 0, .pointer (some ⟨w1.heap.size + 1 + 1, 0, none⟩), .int .i64 x.1.1, .int .i64 x.1.2, .int .i64 0, .pointer (some ⟨b.s, 0, none⟩), .bool false, .tuple #[.pointer (some ⟨b'.s, 0, none⟩), .slice (some ⟨gp, 0, none⟩) NN NN, .int .i64 0], .pointer (some ⟨b.s, 0, none⟩), .int .i64 (NN : Nat), .int .i64 (n : Nat), .tuple #[.pointer (some ⟨b'.s, 0, none⟩), .slice (some ⟨gp, 0, none⟩) NN NN, .int .i64 0], .pointer (some ⟨b'.s, 0, none⟩), .slice (some ⟨gp, 0, none⟩) NN NN, .int .i64 0, .int .i64 0, .bool false, undef, .func (.func 74) #[.pointer (some ⟨pp, 0, none⟩)] #[], .bool false, .pointer (some ⟨b.s, 0, none⟩), .func (.func 189) #[] #[.pointer (some ⟨w1.heap.size + 1 + 1 + 1, 0, none⟩)], .int .i64 x.1.1, .int .i64 x.1.2, .pointer (some ⟨b'.s, 0, none⟩), .slice (some ⟨gp, 0, none⟩) NN NN, .int .i64 (pre.length : Nat), .pointer (some ⟨gp, pre.length, none⟩), .int .i64 (y : Nat), .int .i64 x.1.2, .int .i64 0, .int .i64 0, .bool false, undef, .func (.func 74) #[.pointer (some ⟨pp, 0, none⟩)] #[], .int .i64 x.1.2, undef, undef, .int .i64 (pre.length : Nat), undef, undef, undef, undef, undef, undef], defers := [] } w5.drew := by
        rw [hG]
        refine wpAnyIn_ready (rs := [2, 3]) (by kernel_rfl) (by simp) ?_
        refine AllReadyIn.cons rfl (fun K hK => ?_) ?_
        · go_simp
          refine hK _ _ ?_
          rw [← hG]
          exact g0124
        refine AllReadyIn.cons rfl (fun K hK => ?_) ?_
        · go_simp
          refine hK _ _ ?_
          rw [← hG]
          exact g0134
        exact AllReadyIn.nil
      have g023 : GG 5 #[true, false, true, true, false, false, false, false] { tmps := #[.pointer (some ⟨b.s, 0, none⟩), .int .i64 (n : Nat), .func (.func 74) #[.pointer (some ⟨pp, 0, none⟩)] #[], undef, undef, .pointer (some ⟨w.heap.size, 0, none⟩), .pointer (some ⟨w.heap.size + 1, 0, none⟩), .pointer (some ⟨w.heap.size + 1 + 1, 0, none⟩), .pointer (some ⟨w1.heap.size, 0, none⟩), .pointer (some ⟨w1.heap.size + 1, 0, none⟩), .int .i64 0, .pointer (some ⟨w1.heap.size + 1 + 1, 0, none⟩), .int .i64 x.1.1, .int .i64 x.1.2, .int .i64 0, .pointer (some ⟨b.s, 0, none⟩), .bool false, .tuple #[.pointer (some ⟨b'.s, 0, none⟩), .slice (some ⟨gp, 0, none⟩) NN NN, .int .i64 0], .pointer (some ⟨b.s, 0, none⟩), .int .i64 (NN : Nat), .int .i64 (n : Nat), .tuple #[.pointer (some ⟨b'.s, 0, none⟩), .slice (some ⟨gp, 0, none⟩) NN NN, .int .i64 0], .pointer (some ⟨b'.s, 0, none⟩), .slice (some ⟨gp, 0, none⟩) NN NN, .int .i64 0, .int .i64 0, .bool false, undef, .func (.func 74) #[.pointer (some ⟨pp, 0, none⟩)] #[], .bool false, .pointer (some ⟨b.s, 0, none⟩), .func (.func 189) #[] #[.pointer (some ⟨w1.heap.size + 1 + 1 + 1, 0, none⟩)], .int .i64 x.1.1, .int .i64 x.1.2, .pointer (some ⟨b'.s, 0, none⟩), .slice (some ⟨gp, 0, none⟩) NN NN, .int .i64 (pre.length : Nat), .pointer (some ⟨gp, pre.length, none⟩), .int .i64 (y : Nat), .int .i64 x.1.2, .int .i64 0, .int .i64 0, .bool false, undef, .func (.func 74) #[.pointer (some ⟨pp, 0, none⟩)] #[], undef, .int .i64 x.1.1, .slice (some ⟨gp, 0, none⟩) NN NN, undef, undef, undef, undef, undef, undef, undef], defers := [] } w5.drew := by
        rw [hG]
        refine wpAnyIn_ready (rs := [1, 4]) (by kernel_rfl) (by simp) ?_
        refine AllReadyIn.cons rfl (fun K hK => ?_) ?_
        · go_simp
          refine hK _ _ ?_
          rw [← hG]
          exact g0123
        refine AllReadyIn.cons rfl (fun K hK => ?_) ?_
        · go_simp
          refine hK _ _ ?_
          rw [← hG]
          exact g0234
        exact AllReadyIn.nil
      have g024 : GG 5 #[true, false, true, false, true, false, false, false] { tmps := #[.pointer (some ⟨b.s, 0, none⟩), .int .i64 (n : Nat), .func (.func 74) #[.pointer (some ⟨pp, 0, none⟩)] #[], undef, undef, .pointer (some ⟨w.heap.size, 0, none⟩), .pointer (some ⟨w.heap.size + 1, 0, none⟩), .pointer (some ⟨w.heap.size + 1 + 1, 0, none⟩), .pointer (some ⟨w1.heap.size, 0, none⟩), .pointer (some ⟨w1.heap.size + 1, 0, none⟩), .int .i64 0, .pointer (some ⟨w1.heap.size + 1 + 1, 0, none⟩), .int .i64 x.1.1, .int .i64 x.1.2, .int .i64 0, .pointer (some ⟨b.s, 0, none⟩), .bool false, .tuple #[.pointer (some ⟨b'.s, 0, none⟩), .slice (some ⟨gp, 0, none⟩) NN NN, .int .i64 0], .pointer (some ⟨b.s, 0, none⟩), .int .i64 (NN : Nat), .int .i64 (n : Nat), .tuple #[.pointer (some ⟨b'.s, 0, none⟩), .slice (some ⟨gp, 0, none⟩) NN NN, .int .i64 0], .pointer (some ⟨b'.s, 0, none⟩), .slice (some ⟨gp, 0, none⟩) NN NN, .int .i64 0, .int .i64 0, .bool false, undef, .func (.func 74) #[.pointer (some ⟨pp, 0, none⟩)] #[], .bool false, .pointer (some ⟨b.s, 0, none⟩), .func (.func 189) #[] #[.pointer (some ⟨w1.heap.size + 1 + 1 + 1, 0, none⟩)], .int .i64 x.1.1, .int .i64 x.1.2, .pointer (some ⟨b'.s, 0, none⟩), .slice (some ⟨gp, 0, none⟩) NN NN, .int .i64 (pre.length : Nat), .pointer (some ⟨gp, pre.length, none⟩), .int .i64 (y : Nat), .int .i64 x.1.2, .int .i64 0, .int .i64 0, .bool false, undef, .func (.func 74) #[.pointer (some ⟨pp, 0, none⟩)] #[], undef, .int .i64 x.1.1, undef, .int .i64 (pre.length : Nat), undef, undef, undef, undef, undef, undef], defers := [] } w5.drew := by
        rw [hG]
        refine wpAnyIn_ready (rs := [1, 3]) (by kernel_rfl) (by simp) ?_
        refine AllReadyIn.cons rfl (fun K hK => ?_) ?_
        · go_simp
          refine hK _ _ ?_
          rw [← hG]
          exact g0124
        refine AllReadyIn.cons rfl (fun K hK => ?_) ?_
        · go_simp
          refine hK _ _ ?_
          rw [← hG]
          exact g0234
        exact AllReadyIn.nil
      have g034 : GG 5 #[true, false, false, true, true, false, false, false] { tmps := #[.pointer (some ⟨b.s, 0, none⟩), .int .i64 (n : Nat), .func (.func 74) #[.pointer (some ⟨pp, 0, none⟩)] #[], undef, undef, .pointer (some ⟨w.heap.size, 0, none⟩), .pointer (some ⟨w.heap.size + 1, 0, none⟩), .pointer (some ⟨w.heap.size + 1 + 1, 0, none⟩), .pointer (some ⟨w1.heap.size, 0, none⟩), .pointer (some ⟨w1.heap.size + 1, 0, none⟩), .int .i64 0, .pointer (some ⟨w1.heap.size + 1 + 1, 0, none⟩), .int .i64 x.1.1, .int .i64 x.1.2, .int .i64 0, .pointer (some ⟨b.s, 0, none⟩), .bool false, .tuple #[.pointer (some ⟨b'.s, 0, none⟩), .slice (some ⟨gp, 0, none⟩) NN NN, .int .i64 0], .pointer (some ⟨b.s, 0, none⟩), .int .i64 (NN : Nat), .int .i64 (n : Nat), .tuple #[.pointer (some ⟨b'.s, 0, none⟩), .slice (some ⟨gp, 0, none⟩) NN NN, .int .i64 0], .pointer (some ⟨b'.s, 0, none⟩), .slice (some ⟨gp, 0, none⟩) NN NN, .int .i64 0, .int .i64 0, .bool false, undef, .func (.func 74) #[.pointer (some ⟨pp, 0, none⟩)] #[], .bool false, .pointer (some ⟨b.s, 0, none⟩), .func (.func 189) #[] #[.pointer (some ⟨w1.heap.size + 1 + 1 + 1, 0, none⟩)], .int .i64 x.1.1, .int .i64 x.1.2, .pointer (some ⟨b'.s, 0, none⟩), .slice (some ⟨gp, 0, none⟩) NN NN, .int .i64 (pre.length : Nat), .pointer (some ⟨gp, pre.length, none⟩), .int .i64 (y : Nat), .int .i64 x.1.2, .int .i64 0, .int .i64 0, .bool false, undef, .func (.func 74) #[.pointer (some ⟨pp, 0, none⟩)] #[], undef, undef, .slice (some ⟨gp, 0, none⟩) NN NN, .int .i64 (pre.length : Nat), undef, undef, undef, undef, undef, undef], defers := [] } w5.drew := by
        rw [hG]
        refine wpAnyIn_ready (rs := [1, 2, 5]) (by kernel_rfl) (by simp) ?_
        refine AllReadyIn.cons rfl (fun K hK => ?_) ?_
        · go_simp
          refine hK _ _ ?_
          rw [← hG]
          exact g0134
        refine AllReadyIn.cons rfl (fun K hK => ?_) ?_
        · go_simp
          refine hK _ _ ?_
          rw [← hG]
          exact g0234
        refine AllReadyIn.cons rfl (fun K hK => ?_) ?_
        · go_simp
          refine hK _ _ ?_
          rw [← hG]
          exact g0345
        exact AllReadyIn.nil
      have g123 : GG 5 #[false, true, true, true, false, false, false, false] { tmps := #[.pointer (some ⟨b.s, 0, none⟩), .int .i64 (n : Nat), .func (.func 74) #[.pointer (some ⟨pp, 0, none⟩)] #[], undef, undef, .pointer (some ⟨w.heap.size, 0, none⟩), .pointer (some ⟨w.heap.size + 1, 0, none⟩), .pointer (some ⟨w.heap.size + 1 + 1, 0, none⟩), .pointer (some ⟨w1.heap.size, 0, none⟩), .pointer (some ⟨w1.heap.size + 1, 0, none⟩), .int .i64 0, .pointer (some ⟨w1.heap.size + 1 + 1, 0, none⟩), .int .i64 x.1.1, .int .i64 x.1.2, .int .i64 0, .pointer (some ⟨b.s, 0, none⟩), .bool false, .tuple #[.pointer (some ⟨b'.s, 0, none⟩), .slice (some ⟨gp, 0, none⟩) NN NN, .int .i64 0], .pointer (some ⟨b.s, 0, none⟩), .int .i64 (NN : Nat), .int .i64 (n : Nat), .tuple #[.pointer (some ⟨b'.s, 0, none⟩), .slice (some ⟨gp, 0, none⟩) NN NN, .int .i64 0], .pointer (some ⟨b'.s, 0, none⟩), .slice (some ⟨gp, 0, none⟩) NN NN, .int .i64 0, .int .i64 0, .bool false, undef, .func (.func 74) #[.pointer (some ⟨pp, 0, none⟩)] #[], .bool false, .pointer (some ⟨b.s, 0, none⟩), .func (.func 189) #[] #[.pointer (some ⟨w1.heap.size + 1 + 1 + 1, 0, none⟩)], .int .i64 x.1.1, .int .i64 x.1.2, .pointer (some ⟨b'.s, 0, none⟩), .slice (some ⟨gp, 0, none⟩) NN NN, .int .i64 (pre.length : Nat), .pointer (some ⟨gp, pre.length, none⟩), .int .i64 (y : Nat), .int .i64 x.1.2, .int .i64 0, .int .i64 0, .bool false, undef, undef, .int .i64 x.1.2, .int .i64 x.1.1, .slice (some ⟨gp, 0, none⟩) NN NN, undef, undef, undef, undef, undef, undef, undef], defers := [] } w5.drew := by
        rw [hG]
        refine wpAnyIn_ready (rs := [0, 4]) (by kernel_rfl) (by simp) ?_
        refine AllReadyIn.cons rfl (fun K hK => ?_) ?_
        · go_simp
          refine hK _ _ ?_
          rw [← hG]
          exact g0123
        refine AllReadyIn.cons rfl (fun K hK => ?_) ?_
        · go_simp
          refine hK _ _ ?_
          rw [← hG]
          exact g1234
        exact AllReadyIn.nil
      have g124 : GG 5 #[false, true, true, false, true, false, false, false] { tmps := #[.pointer (some ⟨b.s, 0, none⟩), .int .i64 (n : Nat), .func (.func 74) #[.pointer (some ⟨pp, 0, none⟩)] #[], undef, undef, .pointer (some ⟨w.heap.size, 0, none⟩), .pointer (some ⟨w.heap.size + 1, 0, none⟩), .pointer (some ⟨w.heap.size + 1 + 1, 0, none⟩), .pointer (some ⟨w1.heap.size, 0, none⟩), .pointer (some ⟨w1.heap.size + 1, 0, none⟩), .int .i64 0, .pointer (some ⟨w1.heap.size + 1 + 1, 0, none⟩), .int .i64 x.1.1, .int .i64 x.1.2, .int .i64 0, .pointer (some ⟨b.s, 0, none⟩), .bool false, .tuple #[.pointer (some ⟨b'.s, 0, none⟩), .slice (some ⟨gp, 0, none⟩) NN NN, .int .i64 0], .pointer (some ⟨b.s, 0, none⟩), .int .i64 (NN : Nat), .int .i64 (n : Nat), .tuple #[.pointer (some ⟨b'.s, 0, none⟩), .slice (some ⟨gp, 0, none⟩) NN NN, .int .i64 0], .pointer (some ⟨b'.s, 0, none⟩), .slice (some ⟨gp, 0, none⟩) NN NN, .int .i64 0, .int .i64 0, .bool false, undef, .func (.func 74) #[.pointer (some ⟨pp, 0, none⟩)] #[], .bool false, .pointer (some ⟨b.s, 0, none⟩), .func (.func 189) #[] #[.pointer (some ⟨w1.heap.size + 1 + 1 + 1, 0, none⟩)], .int .i64 x.1.1, .int .i64 x.1.2, .pointer (some ⟨b'.s, 0, none⟩), .slice (some ⟨gp, 0, none⟩) NN NN, .int .i64 (pre.length : Nat), .pointer (some ⟨gp, pre.length, none⟩), .int .i64 (y : Nat), .int .i64 x.1.2, .int .i64 0, .int .i64 0, .bool false, undef, undef, .int .i64 x.1.2, .int .i64 x.1.1, undef, .int .i64 (pre.length : Nat), undef, undef, undef, undef, undef, undef], defers := [] } w5.drew := by
        rw [hG]
        refine wpAnyIn_ready (rs := [0, 3]) (by kernel_rfl) (by simp) ?_
        refine AllReadyIn.cons rfl (fun K hK => ?_) ?_
        · go_simp
          refine hK _ _ ?_
          rw [← hG]
          exact g0124
        refine AllReadyIn.cons rfl (fun K hK => ?_) ?_
        · go_simp
          refine hK _ _ ?_
          rw [← hG]
          exact g1234
        exact AllReadyIn.nil
      have g134 : GG 5 #[false, true, false, true, true, false, false, false] { tmps := #[.pointer (some ⟨b.s, 0, none⟩), .int .i64 (n : Nat), .func (.func 74) #[.pointer (some ⟨pp, 0, none⟩)] #[], undef, undef, .pointer (some ⟨w.heap.size, 0, none⟩), .pointer (some ⟨w.heap.size + 1, 0, none⟩), .pointer (some ⟨w.heap.size + 1 + 1, 0, none⟩), .pointer (some ⟨w1.heap.size, 0, none⟩), .pointer (some ⟨w1.heap.size + 1, 0, none⟩), .int .i64 0, .pointer (some ⟨w1.heap.size + 1 + 1, 0, none⟩), .int .i64 x.1.1, .int .i64 x.1.2, .int .i64 0, .pointer (some ⟨b.s, 0, none⟩), .bool false, .tuple #[.pointer (some ⟨b'.s, 0, none⟩), .slice (some ⟨gp, 0, none⟩) NN NN, .int .i64 0], .pointer (some ⟨b.s, 0, none⟩), .int .i64 (NN : Nat), .int .i64 (n : Nat), .tuple #[.pointer (some ⟨b'.s, 0, none⟩), .slice (some ⟨gp, 0, none⟩) NN NN, .int .i64 0], .pointer (some ⟨b'.s, 0, none⟩), .slice (some ⟨gp, 0, none⟩) NN NN, .int .i64 0, .int .i64 0, .bool false, undef, .func (.func 74) #[.pointer (some ⟨pp, 0, none⟩)] #[], .bool false, .pointer (some ⟨b.s, 0, none⟩), .func (.func 189) #[] #[.pointer (some ⟨w1.heap.size + 1 + 1 + 1, 0, none⟩)], .int .i64 x.1.1, .int .i64 x.1.2, .pointer (some ⟨b'.s, 0, none⟩), .slice (some ⟨gp, 0, none⟩) NN NN, .int .i64 (pre.length : Nat), .pointer (some ⟨gp, pre.length, none⟩), .int .i64 (y : Nat), .int .i64 x.1.2, .int .i64 0, .int .i64 0, .bool false, undef, undef, .int .i64 x.1.2, undef, .slice (some ⟨gp, 0, none⟩) NN NN, .int .i64 (pre.length : Nat), undef, undef, undef, undef, undef, undef], defers := [] } w5.drew := by
        rw [hG]
        refine wpAnyIn_ready (rs := [0, 2, 5]) (by kernel_rfl) (by simp) ?_
        refine AllReadyIn.cons rfl (fun K hK => ?_) ?_
        · go_simp
          refine hK _ _ ?_
          rw [← hG]
          exact g0134
        refine AllReadyIn.cons rfl (fun K hK => ?_) ?_
        · go_simp
          refine hK _ _ ?_
          rw [← hG]
          exact g1234
        refine AllReadyIn.cons rfl (fun K hK => ?_) ?_
        · go_simp
          refine hK _ _ ?_
          rw [← hG]
          exact g1345
        exact AllReadyIn.nil
      have g234 : GG 5 #[false, false, true, true, true, false, false, false] { tmps := #[.pointer (some ⟨b.s, 0, none⟩), .int .i64 (n : Nat), .func (.func 74) #[.pointer (some ⟨pp, 0, none⟩)] #[], undef, undef, .pointer (some ⟨w.heap.size, 0, none⟩), .pointer (some ⟨w.heap.size + 1, 0, none⟩), .pointer (some ⟨w.heap.size + 1 + 1, 0, none⟩), .pointer (some ⟨w1.heap.size, 0, none⟩), .pointer (some ⟨w1.heap.size + 1, 0, none⟩), .int .i64 0, .pointer (some ⟨w1.heap.size + 1 + 1, 0, none⟩), .int .i64 x.1.1, .int .i64 x.1.2, .int .i64 0, .pointer (some ⟨b.s, 0, none⟩), .bool false, .tuple #[.pointer (some ⟨b'.s, 0, none⟩), .slice (some ⟨gp, 0, none⟩) NN NN, .int .i64 0], .pointer (some ⟨b.s, 0, none⟩), .int .i64 (NN : Nat), .int .i64 (n : Nat), .tuple #[.pointer (some ⟨b'.s, 0, none⟩), .slice (some ⟨gp, 0, none⟩) NN NN, .int .i64 0], .pointer (some ⟨b'.s, 0, none⟩), .slice (some ⟨gp, 0, none⟩) NN NN, .int .i64 0, .int .i64 0, .bool false, undef, .func (.func 74) #[.pointer (some ⟨pp, 0, none⟩)] #[], .bool false, .pointer (some ⟨b.s, 0, none⟩), .func (.func 189) #[] #[.pointer (some ⟨w1.heap.size + 1 + 1 + 1, 0, none⟩)], .int .i64 x.1.1, .int .i64 x.1.2, .pointer (some ⟨b'.s, 0, none⟩), .slice (some ⟨gp, 0, none⟩) NN NN, .int .i64 (pre.length : Nat), .pointer (some ⟨gp, pre.length, none⟩), .int .i64 (y : Nat), .int .i64 x.1.2, .int .i64 0, .int .i64 0, .bool false, undef, undef, undef, .int .i64 x.1.1, .slice (some ⟨gp, 0, none⟩) NN NN, .int .i64 (pre.length : Nat), undef, undef, undef, undef, undef, undef], defers := [] } w5.drew := by
        rw [hG]
        refine wpAnyIn_ready (rs := [0, 1, 5]) (by kernel_rfl) (by simp) ?_
        refine AllReadyIn.cons rfl (fun K hK => ?_) ?_
        · go_simp
          refine hK _ _ ?_
          rw [← hG]
          exact g0234
        refine AllReadyIn.cons rfl (fun K hK => ?_) ?_
        · go_simp
          refine hK _ _ ?_
          rw [← hG]
          exact g1234
        refine AllReadyIn.cons rfl (fun K hK => ?_) ?_
        · go_simp
          refine hK _ _ ?_
          rw [← hG]
          exact g2345
        exact AllReadyIn.nil
      have g345 : GG 5 #[false, false, false, true, true, true, false, false] { tmps := #[.pointer (some ⟨b.s, 0, none⟩), .int .i64 (n : Nat), .func (.func 74) #[.pointer (some ⟨pp, 0, none⟩)] #[], undef, undef, .pointer (some ⟨w.heap.size, 0, none⟩), .pointer (some ⟨w.heap.size + 1, 0, none⟩), .pointer (some ⟨w.heap.size + 1 + 1, 0, none⟩), .pointer (some ⟨w1.heap.size, 0, none⟩), .pointer (some ⟨w1.heap.size + 1, 0, none⟩), .int .i64 0, .pointer (some ⟨w1.heap.size + 1 + 1, 0, none⟩), .int .i64 x.1.1, .int .i64 x.1.2, .int .i64 0, .pointer (some ⟨b.s, 0, none⟩), .bool false, .tuple #[.pointer (some ⟨b'.s, 0, none⟩), .slice (some ⟨gp, 0, none⟩) NN NN, .int .i64 0], .pointer (some ⟨b.s, 0, none⟩), .int .i64 (NN : Nat), .int .i64 (n : Nat), .tuple #[.pointer (some ⟨b'.s, 0, none⟩), .slice (some ⟨gp, 0, none⟩) NN NN, .int .i64 0], .pointer (some ⟨b'.s, 0, none⟩), .slice (some ⟨gp, 0, none⟩) NN NN, .int .i64 0, .int .i64 0, .bool false, undef, .func (.func 74) #[.pointer (some ⟨pp, 0, none⟩)] #[], .bool false, .pointer (some ⟨b.s, 0, none⟩), .func (.func 189) #[] #[.pointer (some ⟨w1.heap.size + 1 + 1 + 1, 0, none⟩)], .int .i64 x.1.1, .int .i64 x.1.2, .pointer (some ⟨b'.s, 0, none⟩), .slice (some ⟨gp, 0, none⟩) NN NN, .int .i64 (pre.length : Nat), .pointer (some ⟨gp, pre.length, none⟩), .int .i64 (y : Nat), .int .i64 x.1.2, .int .i64 0, .int .i64 0, .bool false, undef, undef, undef, undef, .slice (some ⟨gp, 0, none⟩) NN NN, .int .i64 (pre.length : Nat), .pointer (some ⟨gp, pre.length, none⟩), undef, undef, undef, undef, undef], defers := [] } w5.drew := by
        rw [hG]
        refine wpAnyIn_ready (rs := [0, 1, 2, 6]) (by kernel_rfl) (by simp) ?_
        refine AllReadyIn.cons rfl (fun K hK => ?_) ?_
        · go_simp
          refine hK _ _ ?_
          rw [← hG]
          exact g0345
        refine AllReadyIn.cons rfl (fun K hK => ?_) ?_
        · go_simp
          refine hK _ _ ?_
          rw [← hG]
          exact g1345
        refine AllReadyIn.cons rfl (fun K hK => ?_) ?_
        · go_simp
          refine hK _ _ ?_
          rw [← hG]
          exact g2345
        refine AllReadyIn.cons rfl (fun K hK => ?_) ?_
        · go_simp
          refine hK _ _ ?_
          rw [← hG]
          exact g3456
        exact AllReadyIn.nil
      have g01 : GG 6 #[true, true, false, false, false, false, false, false] { tmps := #[.pointer (some ⟨b.s, 0, none⟩), .int .i64 (n : Nat), .func (.func 74) #[.pointer (some ⟨pp, 0, none⟩)] #[], undef, undef, .pointer (some ⟨w.heap.size, 0, none⟩), .pointer (some ⟨w.heap.size + 1, 0, none⟩), .pointer (some ⟨w.heap.size + 1 + 1, 0, none⟩), .pointer (some ⟨w1.heap.size, 0, none⟩), .pointer (some ⟨w1.heap.size + 1, 0, none⟩), .int .i64 0, .pointer (some ⟨w1.heap.size + 1 + 1, 0, none⟩), .int .i64 x.1.1, .int .i64 x.1.2, .int .i64 0, .pointer (some ⟨b.s, 0, none⟩), .bool false, .tuple #[.pointer (some ⟨b'.s, 0, none⟩), .slice (some ⟨gp, 0, none⟩) NN NN, .int .i64 0], .pointer (some ⟨b.s, 0, none⟩), .int .i64 (NN : Nat), .int .i64 (n : Nat), .tuple #[.pointer (some ⟨b'.s, 0, none⟩), .slice (some ⟨gp, 0, none⟩) NN NN, .int .i64 0], .pointer (some ⟨b'.s, 0, none⟩), .slice (some ⟨gp, 0, none⟩) NN NN, .int .i64 0, .int .i64 0, .bool false, undef, .func (.func 74) #[.pointer (some ⟨pp, 0, none⟩)] #[], .bool false, .pointer (some ⟨b.s, 0, none⟩), .func (.func 189) #[] #[.pointer (some ⟨w1.heap.size + 1 + 1 + 1, 0, none⟩)], .int .i64 x.1.1, .int .i64 x.1.2, .pointer (some ⟨b'.s, 0, none⟩), .slice (some ⟨gp, 0, none⟩) NN NN, .int .i64 (pre.length : Nat), .pointer (some ⟨gp, pre.length, none⟩), .int .i64 (y : Nat), .int .i64 x.1.2, .int .i64 0, .int .i64 0, .bool false, undef, .func (.func 74) #[.pointer (some ⟨pp, 0, none⟩)] #[], .int .i64 x.1.2, undef, undef, undef, undef, undef, undef, undef, undef, undef], defers := [] } w5.drew := by
        rw [hG]
        refine wpAnyIn_ready (rs := [2, 3, 4]) (by kernel_rfl) (by simp) ?_
        refine AllReadyIn.cons rfl (fun K hK => ?_) ?_
        · go_simp
          refine hK _ _ ?_
          rw [← hG]
          exact g012
        refine AllReadyIn.cons rfl (fun K hK => ?_) ?_
        · go_simp
          refine hK _ _ ?_
          rw [← hG]
          exact g013
        refine AllReadyIn.cons rfl (fun K hK => ?_) ?_
        · go_simp
          refine hK _ _ ?_
          rw [← hG]
          exact g014
        exact AllReadyIn.nil
      have g02 : GG 6 #[true, false, true, false, false, false, false, false] { tmps := #[.pointer (some ⟨b.s, 0, none⟩), .int .i64 (n : Nat), .func (.func 74) #[.pointer (some ⟨pp, 0, none⟩)] #[], undef, undef, .pointer (some ⟨w.heap.size, 0, none⟩), .pointer (some ⟨w.heap.size + 1, 0, none⟩), .pointer (some ⟨w.heap.size + 1 + 1, 0, none⟩), .pointer (some ⟨w1.heap.size, 0, none⟩), .pointer (some ⟨w1.heap.size + 1, 0, none⟩), .int .i64 0, .pointer (some ⟨w1.heap.size + 1 + 1, 0, none⟩), .int .i64 x.1.1, .int .i64 x.1.2, .int .i64 0, .pointer (some ⟨b.s, 0, none⟩), .bool false, .tuple #[.pointer (some ⟨b'.s, 0, none⟩), .slice (some ⟨gp, 0, none⟩) NN NN, .int .i64 0], .pointer (some ⟨b.s, 0, none⟩), .int .i64 (NN : Nat), .int .i64 (n : Nat), .tuple #[.pointer (some ⟨b'.s, 0, none⟩), .slice (some ⟨gp, 0, none⟩) NN NN, .int .i64 0], .pointer (some ⟨b'.s, 0, none⟩), .slice (some ⟨gp, 0, none⟩) NN NN, .int .i64 0, .int .i64 0, .bool false, undef, .func (.func 74) #[.pointer (some ⟨pp, 0, none⟩)] #[], .bool false, .pointer (some ⟨b.s, 0, none⟩), .func (.func 189) #[] #[.pointer (some ⟨w1.heap.size + 1 + 1 + 1, 0, none⟩)], .int .i64 x.1.1, .int .i64 x.1.2, .pointer (some ⟨b'.s, 0, none⟩), .slice (some ⟨gp, 0, none⟩) NN NN, .int .i64 (pre.length : Nat), .pointer (some ⟨gp, pre.length, none⟩), .int .i64 (y : Nat), .int .i64 x.1.2, .int .i64 0, .int .i64 0, .bool false, undef, .func (.func 74) #[.pointer (some ⟨pp, 0, none⟩)] #[], undef, .int .i64 x.1.1, undef, undef, undef, undef, undef, undef, undef, undef], defers := [] } w5.drew := by
        rw [hG]
        refine wpAnyIn_ready (rs := [1, 3, 4]) (by kernel_rfl) (by simp) ?_
        refine AllReadyIn.cons rfl (fun K hK => ?_) ?_
        · go_simp
          refine hK _ _ ?_
          rw [← hG]
          exact g012
        refine AllReadyIn.cons rfl (fun K hK => ?_) ?_
        · go_simp
          refine hK _ _ ?_
          rw [← hG]
          exact g023
        refine AllReadyIn.cons rfl (fun K hK => ?_) ?_
        · go_simp
          refine hK _ _ ?_
          rw [← hG]
          exact g024
        exact AllReadyIn.nil
      have g03 : GG 6 #[true, false, false, true, false, false, false, false] { tmps := #[.pointer (some ⟨b.s, 0, none⟩), .int .i64 (n : Nat), .func (.func 74) #[.pointer (some ⟨pp, 0, none⟩)] #[], undef, undef, .pointer (some ⟨w.heap.size, 0, none⟩), .pointer (some ⟨w.heap.size + 1, 0, none⟩), .pointer (some ⟨w.heap.size + 1 + 1, 0, none⟩), .pointer (some ⟨w1.heap.size, 0, none⟩), .pointer (some ⟨w1.heap.size + 1, 0, none⟩), .int .i64 0, .pointer (some ⟨w1.heap.size + 1 + 1, 0, none⟩), .int .i64 x.1.1, .int .i64 x.1.2, .int .i64 0, .pointer (some ⟨b.s, 0, none⟩), .bool false, .tuple #[.pointer (some ⟨b'.s, 0, none⟩), .slice (some ⟨gp, 0, none⟩) NN NN, .int .i64 0], .pointer (some ⟨b.s, 0, none⟩), .int .i64 (NN : Nat), .int .i64 (n : Nat), .tuple #[.pointer (some ⟨b'.s, 0, none⟩), .slice (some ⟨gp, 0, none⟩) NN NN, .int .i64 0], .pointer (some ⟨b'.s, 0, none⟩), .slice (some ⟨gp, 0, none⟩) NN NN, .int .i64 0, .int .i64 0, .bool false, undef, .func (.func 74) #[.pointer (some ⟨pp, 0, none⟩)] #[], .bool false, .pointer (some ⟨b.s, 0, none⟩), .func (.func 189) #[] #[.pointer (some ⟨w1.heap.size + 1 + 1 + 1, 0, none⟩)], .int .i64 x.1.1, .int .i64 x.1.2, .pointer (some ⟨b'.s, 0, none⟩), .slice (some ⟨gp, 0, none⟩) NN NN, .int .i64 (pre.length : Nat), .pointer (some ⟨gp, pre.length, none⟩), .int .i64 (y : Nat), .int .i64 x.1.2, .int .i64 0, .int .i64 0, .bool false, undef, .func (.func 74) #[.pointer (some ⟨pp, 0, none⟩)] #[], undef, undef, .slice (some ⟨gp, 0, none⟩) NN NN, undef, undef, undef, undef, undef, undef, undef], defers := [] } w5.drew := by
        rw [hG]
        refine wpAnyIn_ready (rs := [1, 2, 4]) (by kernel_rfl) (by simp) ?_
        refine AllReadyIn.cons rfl (fun K hK => ?_) ?_
        · go_simp
          refine hK _ _ ?_
          rw [← hG]
          exact g013
        refine AllReadyIn.cons rfl (fun K hK => ?_) ?_
        · go_simp
          refine hK _ _ ?_
          rw [← hG]
          exact g023
        refine AllReadyIn.cons rfl (fun K hK => ?_) ?_
        · go_simp
          refine hK _ _ ?_
          rw [← hG]
          exact g034
        exact AllReadyIn.nil
      have g04 : GG 6 #[true, false, false, false, true, false, false, false] { tmps := #[.pointer (some ⟨b.s, 0, none⟩), .int .i64 (n : Nat), .func (.func 74) #[.pointer (some ⟨pp, 0, none⟩)] #[], undef, undef, .pointer (some ⟨w.heap.size, 0, none⟩), .pointer (some ⟨w.heap.size + 1, 0, none⟩), .pointer (some ⟨w.heap.size + 1 + 1, 0, none⟩), .pointer (some ⟨w1.heap.size, 0, none⟩), .pointer (some ⟨w1.heap.size + 1, 0, none⟩), .int .i64 0, .pointer (some ⟨w1.heap.size + 1 + 1, 0, none⟩), .int .i64 x.1.1, .int .i64 x.1.2, .int .i64 0, .pointer (some ⟨b.s, 0, none⟩), .bool false, .tuple #[.pointer (some ⟨b'.s, 0, none⟩), .slice (some ⟨gp, 0, none⟩) NN NN, .int .i64 0], .pointer (some ⟨b.s, 0, none⟩), .int .i64 (NN : Nat), .int .i64 (n : Nat), .tuple #[.pointer (some ⟨b'.s, 0, none⟩), .slice (some ⟨gp, 0, none⟩) NN NN, .int .i64 0], .pointer (some ⟨b'.s, 0, none⟩), .slice (some ⟨gp, 0, none⟩) NN NN, .int .i64 0, .int .i64 0, .bool false, undef, .func (.func 74) #[.pointer (some ⟨pp, 0, none⟩)] #[], .bool false, .pointer (some ⟨b.s, 0, none⟩), .func (.func 189) #[] #[.pointer (some ⟨w1.heap.size + 1 + 1 + 1, 0, none⟩)], .int .i64 x.1.1, .int .i64 x.1.2, .pointer (some ⟨b'.s, 0, none⟩), .slice (some ⟨gp, 0, none⟩) NN NN, .int .i64 (pre.length : Nat), .pointer (some ⟨gp, pre.length, none⟩), .int .i64 (y : Nat), .int .i64 x.1.2, .int .i64 0, .int .i64 0, .bool false, undef, .func (.func 74) #[.pointer (some ⟨pp, 0, none⟩)] #[], undef, undef, undef, .int .i64 (pre.length : Nat), undef, undef, undef, undef, undef, undef], defers := [] } w5.drew := by
        rw [hG]
        refine wpAnyIn_ready (rs := [1, 2, 3]) (by kernel_rfl) (by simp) ?_
        refine AllReadyIn.cons rfl (fun K hK => ?_) ?_
        · go_simp
          refine hK _ _ ?_
          rw [← hG]
          exact g014
        refine AllReadyIn.cons rfl (fun K hK => ?_) ?_
        · go_simp
          refine hK _ _ ?_
          rw [← hG]
          exact g024
        refine AllReadyIn.cons rfl (fun K hK => ?_) ?_
        · go_simp
          refine hK _ _ ?_
          rw [← hG]
          exact g034
        exact AllReadyIn.nil
      have g12 : GG 6 #[false, true, true, false, false, false, false, false] { tmps := #[.pointer (some ⟨b.s, 0, none⟩), .int .i64 (n : Nat), .func (.func 74) #[.pointer (some ⟨pp, 0, none⟩)] #[], undef, undef, .pointer (some ⟨w.heap.size, 0, none⟩), .pointer (some ⟨w.heap.size + 1, 0, none⟩), .pointer (some ⟨w.heap.size + 1 + 1, 0, none⟩), .pointer (some ⟨w1.heap.size, 0, none⟩), .pointer (some ⟨w1.heap.size + 1, 0, none⟩), .int .i64 0, .pointer (some ⟨w1.heap.size + 1 + 1, 0, none⟩), .int .i64 x.1.1, .int .i64 x.1.2, .int .i64 0, .pointer (some ⟨b.s, 0, none⟩), .bool false, .tuple #[.pointer (some ⟨b'.s, 0, none⟩), .slice (some ⟨gp, 0, none⟩) NN NN, .int .i64 0], .pointer (some ⟨b.s, 0, none⟩), .int .i64 (NN : Nat), .int .i64 (n : Nat), .tuple #[.pointer (some ⟨b'.s, 0, none⟩), .slice (some ⟨gp, 0, none⟩) NN NN, .int .i64 0], .pointer (some ⟨b'.s, 0, none⟩), .slice (some ⟨gp, 0, none⟩) NN NN, .int .i64 0, .int .i64 0, .bool false, undef, .func (.func 74) #[.pointer (some ⟨pp, 0, none⟩)] #[], .bool false, .pointer (some ⟨b.s, 0, none⟩), .func (.func 189) #[] #[.pointer (some ⟨w1.heap.size + 1 + 1 + 1, 0, none⟩)], .int .i64 x.1.1, .int .i64 x.1.2, .pointer (some ⟨b'.s, 0, none⟩), .slice (some ⟨gp, 0, none⟩) NN NN, .int .i64 (pre.length : Nat), .pointer (some ⟨gp, pre.length, none⟩), .int .i64 (y : Nat), .int .i64 x.1.2, .int .i64 0, .int .i64 0, .bool false, undef, undef, .int .i64 x.1.2, .int .i64 x.1.1, undef, undef, undef, undef, undef, undef, undef, undef], defers := [] } w5.drew := by
        rw [hG]
        refine wpAnyIn_ready (rs := [0, 3, 4]) (by kernel_rfl) (by simp) ?_
        refine AllReadyIn.cons rfl (fun K hK => ?_) ?_
        · go_simp
          refine hK _ _ ?_
          rw [← hG]
          exact g012
        refine AllReadyIn.cons rfl (fun K hK => ?_) ?_
        · go_simp
          refine hK _ _ ?_
          rw [← hG]
          exact g123
        refine AllReadyIn.cons rfl (fun K hK => ?_) ?_
        · go_simp
          refine hK _ _ ?_
          rw [← hG]
          exact g124
        exact AllReadyIn.nil
      have g13 : GG 6 #[false, true, false, true, false, false, false, false] { tmps := #[.pointer (some ⟨b.s, 0, none⟩), .int .i64 (n : Nat), .func (.func 74) #[.pointer (some ⟨pp, 0, none⟩)] #[], undef, undef, .pointer (some ⟨w.heap.size, 0, none⟩), .pointer (some ⟨w.heap.size + 1, 0, none⟩), .pointer (some ⟨w.heap.size + 1 + 1, 0, none⟩), .pointer (some ⟨w1.heap.size, 0, none⟩), .pointer (some ⟨w1.heap.size + 1, 0, none⟩), .int .i64 0, .pointer (some ⟨w1.heap.size + 1 + 1, 0, none⟩), .int .i64 x.1.1, .int .i64 x.1.2, .int .i64 0, .pointer (some ⟨b.s, 0, none⟩), .bool false, .tuple #[.pointer (some ⟨b'.s, 0, none⟩), .slice (some ⟨gp, 0, none⟩) NN NN, .int .i64 0], .pointer (some ⟨b.s, 0, none⟩), .int .i64 (NN : Nat), .int .i64 (n : Nat), .tuple #[.pointer (some ⟨b'.s, 0, none⟩), .slice (some ⟨gp, 0, none⟩) NN NN, .int .i64 0], .pointer (some ⟨b'.s, 0, none⟩), .slice (some ⟨gp, 0, none⟩) NN NN, .int .i64 0, .int .i64 0, .bool false, undef, .func (.func 74) #[.pointer (some ⟨pp, 0, none⟩)] #[], .bool false, .pointer (some ⟨b.s, 0, none⟩), .func (.func 189) #[] #[.pointer (some ⟨w1.heap.size + 1 + 1 + 1, 0, none⟩)], .int .i64 x.1.1, .int .i64 x.1.2, .pointer (some ⟨b'.s, 0, none⟩), .slice (some ⟨gp, 0, none⟩) NN NN, .int .i64 (pre.length : Nat), .pointer (some ⟨gp, pre.length, none⟩), .int .i64 (y : Nat), .int .i64 x.1.2, .int .i64 0, .int .i64 0, .bool false, undef, undef, .int .i64 x.1.2, undef, .slice (some ⟨gp, 0, none⟩) NN NN, undef, undef, undef, undef, undef, undef, undef], defers := [] } w5.drew := by
        rw [hG]
        refine wpAnyIn_ready (rs := [0, 2, 4]) (by kernel_rfl) (by simp) ?_
        refine AllReadyIn.cons rfl (fun K hK => ?_) ?_
        · go_simp
          refine hK _ _ ?_
          rw [← hG]
          exact g013
        refine AllReadyIn.cons rfl (fun K hK => ?_) ?_
        · go_simp
          refine hK _ _ ?_
          rw [← hG]
          exact g123
        refine AllReadyIn.cons rfl (fun K hK => ?_) ?_
        · go_simp
          refine hK _ _ ?_
          rw [← hG]
          exact g134
        exact AllReadyIn.nil
      have g14 : GG 6 #[false, true, false, false, true, false, false, false] { tmps := #[.pointer (some ⟨b.s, 0, none⟩), .int .i64 (n : Nat), .func (.func 74) #[.pointer (some ⟨pp, 0, none⟩)] #[], undef, undef, .pointer (some ⟨w.heap.size, 0, none⟩), .pointer (some ⟨w.heap.size + 1, 0, none⟩), .pointer (some ⟨w.heap.size + 1 + 1, 0, none⟩), .pointer (some ⟨w1.heap.size, 0, none⟩), .pointer (some ⟨w1.heap.size + 1, 0, none⟩), .int .i64 0, .pointer (some ⟨w1.heap.size + 1 + 1, 0, none⟩), .int .i64 x.1.1, .int .i64 x.1.2, .int .i64 0, .pointer (some ⟨b.s, 0, none⟩), .bool false, .tuple #[.pointer (some ⟨b'.s, 0, none⟩), .slice (some ⟨gp, 0, none⟩) NN NN, .int .i64 0], .pointer (some ⟨b.s, 0, none⟩), .int .i64 (NN : Nat), .int .i64 (n : Nat), .tuple #[.pointer (some ⟨b'.s, 0, none⟩), .slice (some ⟨gp, 0, none⟩) NN NN, .int .i64 0], .pointer (some ⟨b'.s, 0, none⟩), .slice (some ⟨gp, 0, none⟩) NN NN, .int .i64 0, .int .i64 0, .bool false, undef, .func (.func 74) #[.pointer (some ⟨pp, 0, none⟩)] #[], .bool false, .pointer (some ⟨b.s, 0, none⟩), .func (.func 189) #[] #[.pointer (some ⟨w1.heap.size + 1 + 1 + 1, 0, none⟩)], .int .i64 x.1.1, .int .i64 x.1.2, .pointer (some ⟨b'.s, 0, none⟩), .slice (some ⟨gp, 0, none⟩) NN NN, .int .i64 (pre.length : Nat), .pointer (some ⟨gp, pre.length, none⟩), .int .i64 (y : Nat), .int .i64 x.1.2, .int .i64 0, .int .i64 0, .bool false, undef, undef, .int .i64 x.1.2, undef, undef, .int .i64 (pre.length : Nat), undef, undef, undef, undef, undef, undef], defers := [] } w5.drew := by
        rw [hG]
        refine wpAnyIn_ready (rs := [0, 2, 3]) (by kernel_rfl) (by simp) ?_
        refine AllReadyIn.cons rfl (fun K hK => ?_) ?_
        · go_simp
          refine hK _ _ ?_
          rw [← hG]
          exact g014
        refine AllReadyIn.cons rfl (fun K hK => ?_) ?_
        · go_simp
          refine hK _ _ ?_
          rw [← hG]
          exact g124
        refine AllReadyIn.cons rfl (fun K hK => ?_) ?_
        · go_simp
          refine hK _ _ ?_
          rw [← hG]
          exact g134
        exact AllReadyIn.nil
      have g23 : GG 6 #[false, false, true, true, false, false, false, false] { tmps := #[.pointer (some ⟨b.s, 0, none⟩), .int .i64 (n : Nat), .func (.func 74) #[.pointer (some ⟨pp, 0, none⟩)] #[], undef, undef, .pointer (some ⟨w.heap.size, 0, none⟩), .pointer (some ⟨w.heap.size + 1, 0, none⟩), .pointer (some ⟨w.heap.size + 1 + 1, 0, none⟩), .pointer (some ⟨w1.heap.size, 0, none⟩), .pointer (some ⟨w1.heap.size + 1, 0, none⟩), .int .i64 0, .pointer (some ⟨w1.heap.size + 1 + 1, 0, none⟩), .int .i64 x.1.1, .int .i64 x.1.2, .int .i64 0, .pointer (some ⟨b.s, 0, none⟩), .bool false, .tuple #[.pointer (some ⟨b'.s, 0, none⟩), .slice (some ⟨gp, 0, none⟩) NN NN, .int .i64 0], .pointer (some ⟨b.s, 0, none⟩), .int .i64 (NN : Nat), .int .i64 (n : Nat), .tuple #[.pointer (some ⟨b'.s, 0, none⟩), .slice (some ⟨gp, 0, none⟩) NN NN, .int .i64 0], .pointer (some ⟨b'.s, 0, none⟩), .slice (some ⟨gp, 0, none⟩) NN NN, .int .i64 0, .int .i64 0, .bool false, undef, .func (.func 74) #[.pointer (some ⟨pp, 0, none⟩)] #[], .bool false, .pointer (some ⟨b.s, 0, none⟩), .func (.func 189) #[] #[.pointer (some ⟨w1.heap.size + 1 + 1 + 1, 0, none⟩)], .int .i64 x.1.1, .int .i64 x.1.2, .pointer (some ⟨b'.s, 0, none⟩), .slice (some ⟨gp, 0, none⟩) NN NN, .int .i64 (pre.length : Nat), .pointer (some ⟨gp, pre.length, none⟩), .int .i64 (y : Nat), .int .i64 x.1.2, .int .i64 0, .int .i64 0, .bool false, undef, undef, undef, .int .i64 x.1.1, .slice (some ⟨gp, 0, none⟩) NN NN, undef, undef, undef, undef, undef, undef, undef], defers := [] } w5.drew := by
        rw [hG]
        refine wpAnyIn_ready (rs := [0, 1, 4]) (by kernel_rfl) (by simp) ?_
        refine AllReadyIn.cons rfl (fun K hK => ?_) ?_
        · go_simp
          refine hK _ _ ?_
          rw [← hG]
          exact g023
        refine AllReadyIn.cons rfl (fun K hK => ?_) ?_
        · go_simp
          refine hK _ _ ?_
          rw [← hG]
          exact g123
        refine AllReadyIn.cons rfl (fun K hK => ?_) ?_
        · go_simp
          refine hK _ _ ?_
          rw [← hG]
          exact g234
        exact AllReadyIn.nil
      have g24 : GG 6 #[false, false, true, false, true, false, false, false] { tmps := #[.pointer (some ⟨b.s, 0, none⟩), .int .i64 (n : Nat), .func (.func 74) #[.pointer (some ⟨pp, 0, none⟩)] #[], undef, undef, .pointer (some ⟨w.heap.size, 0, none⟩), .pointer (some ⟨w.heap.size + 1, 0, none⟩), .pointer (some ⟨w.heap.size + 1 + 1, 0, none⟩), .pointer (some ⟨w1.heap.size, 0, none⟩), .pointer (some ⟨w1.heap.size + 1, 0, none⟩), .int .i64 0, .pointer (some ⟨w1.heap.size + 1 + 1, 0, none⟩), .int .i64 x.1.1, .int .i64 x.1.2, .int .i64 0, .pointer (some ⟨b.s, 0, none⟩), .bool false, .tuple #[.pointer (some ⟨b'.s, 0, none⟩), .slice (some ⟨gp, 0, none⟩) NN NN, .int .i64 0], .pointer (some ⟨b.s, 0, none⟩), .int .i64 (NN : Nat), .int .i64 (n : Nat), .tuple #[.pointer (some ⟨b'.s, 0, none⟩), .slice (some ⟨gp, 0, none⟩) NN NN, .int .i64 0], .pointer (some ⟨b'.s, 0, none⟩), .slice (some ⟨gp, 0, none⟩) NN NN, .int .i64 0, .int .i64 0, .bool false, undef, .func (.func 74) #[.pointer (some ⟨pp, 0, none⟩)] #[], .bool false, .pointer (some ⟨b.s, 0, none⟩), .func (.func 189) #[] #[.pointer (some ⟨w1.heap.size + 1 + 1 + 1, 0, none⟩)], .int .i64 x.1.1, .int .i64 x.1.2, .pointer (some ⟨b'.s, 0, none⟩), .slice (some ⟨gp, 0, none⟩) NN NN, .int .i64 (pre.length : Nat), .pointer (some ⟨gp, pre.length, none⟩), .int .i64 (y : Nat), .int .i64 x.1.2, .int .i64 0, .int .i64 0, .bool false, undef, undef, undef, .int .i64 x.1.1, undef, .int .i64 (pre.length : Nat), undef, undef, undef, undef, undef, undef], defers := [] } w5.drew := by
        rw [hG]
        refine wpAnyIn_ready (rs := [0, 1, 3]) (by kernel_rfl) (by simp) ?_
        refine AllReadyIn.cons rfl (fun K hK => ?_) ?_
        · go_simp
          refine hK _ _ ?_
          rw [← hG]
          exact g024
        refine AllReadyIn.cons rfl (fun K hK => ?_) ?_
        · go_simp
          refine hK _ _ ?_
          rw [← hG]
          exact g124
        refine AllReadyIn.cons rfl (fun K hK => ?_) ?_
        · go_simp
          refine hK _ _ ?_
          rw [← hG]
          exact g234
        exact AllReadyIn.nil
      have g34 : GG 6 #[false, false, false, true, true, false, false, false] { tmps := #[.pointer (some ⟨b.s, 0, none⟩), .int .i64 (n : Nat), .func (.func 74) #[.pointer (some ⟨pp, 0, none⟩)] #[], undef, undef, .pointer (some ⟨w.heap.size, 0, none⟩), .pointer (some ⟨w.heap.size + 1, 0, none⟩), .pointer (some ⟨w.heap.size + 1 + 1, 0, none⟩), .pointer (some ⟨w1.heap.size, 0, none⟩), .pointer (some ⟨w1.heap.size + 1, 0, none⟩), .int .i64 0, .pointer (some ⟨w1.heap.size + 1 + 1, 0, none⟩), .int .i64 x.1.1, .int .i64 x.1.2, .int .i64 0, .pointer (some ⟨b.s, 0, none⟩), .bool false, .tuple #[.pointer (some ⟨b'.s, 0, none⟩), .slice (some ⟨gp, 0, none⟩) NN NN, .int .i64 0], .pointer (some ⟨b.s, 0, none⟩), .int .i64 (NN : Nat), .int .i64 (n : Nat), .tuple #[.pointer (some ⟨b'.s, 0, none⟩), .slice (some ⟨gp, 0, none⟩) NN NN, .int .i64 0], .pointer (some ⟨b'.s, 0, none⟩), .slice (some ⟨gp, 0, none⟩) NN NN, .int .i64 0, .int .i64 0, .bool false, undef, .func (.func 74) #[.pointer (some ⟨pp, 0, none⟩)] #[], .bool false, .pointer (some ⟨b.s, 0, none⟩), .func (.func 189) #[] #[.pointer (some ⟨w1.heap.size + 1 + 1 + 1, 0, none⟩)], .int .i64 x.1.1, .int .i64 x.1.2, .pointer (some ⟨b'.s, 0, none⟩), .slice (some ⟨gp, 0, none⟩) NN NN, .int .i64 (pre.length : Nat), .pointer (some ⟨gp, pre.length, none⟩), .int .i64 (y : Nat), .int .i64 x.1.2, .int .i64 0, .int .i64 0, .bool false, undef, undef, undef, undef, .slice (some ⟨gp, 0, none⟩) NN NN, .int .i64 (pre.length : Nat), undef, undef, undef, undef, undef, undef], defers := [] } w5.drew := by
        rw [hG]
        refine wpAnyIn_ready (rs := [0, 1, 2, 5]) (by kernel_rfl) (by simp) ?_
        refine AllReadyIn.cons rfl (fun K hK => ?_) ?_
        · go_simp
          refine hK _ _ ?_
          rw [← hG]
          exact g034
        refine AllReadyIn.cons rfl (fun K hK => ?_) ?_
        · go_simp
          refine hK _ _ ?_
          rw [← hG]
          exact g134
        refine AllReadyIn.cons rfl (fun K hK => ?_) ?_
        · go_simp
          refine hK _ _ ?_
          rw [← hG]
          exact g234
        refine AllReadyIn.cons rfl (fun K hK => ?_) ?_
        · go_simp
          refine hK _ _ ?_
          rw [← hG]
          exact g345
        exact AllReadyIn.nil
      have g0 : GG 7 #[true, false, false, false, false, false, false, false] { tmps := #[.pointer (some ⟨b.s, 0, none⟩), .int .i64 (n : Nat), .func (.func 74) #[.pointer (some ⟨pp, 0, none⟩)] #[], undef, undef, .pointer (some ⟨w.heap.size, 0, none⟩), .pointer (some ⟨w.heap.size + 1, 0, none⟩), .pointer (some ⟨w.heap.size + 1 + 1, 0, none⟩), .pointer (some ⟨w1.heap.size, 0, none⟩), .pointer (some ⟨w1.heap.size + 1, 0, none⟩), .int .i64 0, .pointer (some ⟨w1.heap.size + 1 + 1, 0, none⟩), .int .i64 x.1.1, .int .i64 x.1.2, .int .i64 0, .pointer (some ⟨b.s, 0, none⟩), .bool false, .tuple #[.pointer (some ⟨b'.s, 0, none⟩), .slice (some ⟨gp, 0, none⟩) NN NN, .int .i64 0], .pointer (some ⟨b.s, 0, none⟩), .int .i64 (NN : Nat), .int .i64 (n : Nat), .tuple #[.pointer (some ⟨b'.s, 0, none⟩), .slice (some ⟨gp, 0, none⟩) NN NN, .int .i64 0], .pointer (some ⟨b'.s, 0, none⟩), .slice (some ⟨gp, 0, none⟩) NN NN, .int .i64 0, .int .i64 0, .bool false, undef, .func (.func 74) #[.pointer (some ⟨pp, 0, none⟩)] #[], .bool false, .pointer (some ⟨b.s, 0, none⟩), .func (.func 189) #[] #[.pointer (some ⟨w1.heap.size + 1 + 1 + 1, 0, none⟩)], .int .i64 x.1.1, .int .i64 x.1.2, .pointer (some ⟨b'.s, 0, none⟩), .slice (some ⟨gp, 0, none⟩) NN NN, .int .i64 (pre.length : Nat), .pointer (some ⟨gp, pre.length, none⟩), .int .i64 (y : Nat), .int .i64 x.1.2, .int .i64 0, .int .i64 0, .bool false, undef, .func (.func 74) #[.pointer (some ⟨pp, 0, none⟩)] #[], undef, undef, undef, undef, undef, undef, undef, undef, undef, undef], defers := [] } w5.drew := by
        rw [hG]
        refine wpAnyIn_ready (rs := [1, 2, 3, 4]) (by kernel_rfl) (by simp) ?_
        refine AllReadyIn.cons rfl (fun K hK => ?_) ?_
        · go_simp
          refine hK _ _ ?_
          rw [← hG]
          exact g01
        refine AllReadyIn.cons rfl (fun K hK => ?_) ?_
        · go_simp
          refine hK _ _ ?_
          rw [← hG]
          exact g02
        refine AllReadyIn.cons rfl (fun K hK => ?_) ?_
        · go_simp
          refine hK _ _ ?_
          rw [← hG]
          exact g03
        refine AllReadyIn.cons rfl (fun K hK => ?_) ?_
        · go_simp
          refine hK _ _ ?_
          rw [← hG]
          exact g04
        exact AllReadyIn.nil
      have g1 : GG 7 #[false, true, false, false, false, false, false, false] { tmps := #[.pointer (some ⟨b.s, 0, none⟩), .int .i64 (n : Nat), .func (.func 74) #[.pointer (some ⟨pp, 0, none⟩)] #[], undef, undef, .pointer (some ⟨w.heap.size, 0, none⟩), .pointer (some ⟨w.heap.size + 1, 0, none⟩), .pointer (some ⟨w.heap.size + 1 + 1, 0, none⟩), .pointer (some ⟨w1.heap.size, 0, none⟩), .pointer (some ⟨w1.heap.size + 1, 0, none⟩), .int .i64 0, .pointer (some ⟨w1.heap.size + 1 + 1, 0, none⟩), .int .i64 x.1.1, .int .i64 x.1.2, .int .i64 0, .pointer (some ⟨b.s, 0, none⟩), .bool false, .tuple #[.pointer (some ⟨b'.s, 0, none⟩), .slice (some ⟨gp, 0, none⟩) NN NN, .int .i64 0], .pointer (some ⟨b.s, 0, none⟩), .int .i64 (NN : Nat), .int .i64 (n : Nat), .tuple #[.pointer (some ⟨b'.s, 0, none⟩), .slice (some ⟨gp, 0, none⟩) NN NN, .int .i64 0], .pointer (some ⟨b'.s, 0, none⟩), .slice (some ⟨gp, 0, none⟩) NN NN, .int .i64 0, .int .i64 0, .bool false, undef, .func (.func 74) #[.pointer (some ⟨pp, 0, none⟩)] #[], .bool false, .pointer (some ⟨b.s, 0, none⟩), .func (.func 189) #[] #[.pointer (some ⟨w1.heap.size + 1 + 1 + 1, 0, none⟩)], .int .i64 x.1.1, .int .i64 x.1.2, .pointer (some ⟨b'.s, 0, none⟩), .slice (some ⟨gp, 0, none⟩) NN NN, .int .i64 (pre.length : Nat), .pointer (some ⟨gp, pre.length, none⟩), .int .i64 (y : Nat), .int .i64 x.1.2, .int .i64 0, .int .i64 0, .bool false, undef, undef, .int .i64 x.1.2, undef, undef, undef, undef, undef, undef, undef, undef, undef], defers := [] } w5.drew := by
        rw [hG]
        refine wpAnyIn_ready (rs := [0, 2, 3, 4]) (by kernel_rfl) (by simp) ?_
        refine AllReadyIn.cons rfl (fun K hK => ?_) ?_
        · go_simp
          refine hK _ _ ?_
          rw [← hG]
          exact g01
        refine AllReadyIn.cons rfl (fun K hK => ?_) ?_
        · go_simp
          refine hK _ _ ?_
          rw [← hG]
          exact g12
        refine AllReadyIn.cons rfl (fun K hK => ?_) ?_
        · go_simp
          refine hK _ _ ?_
          rw [← hG]
          exact g13
        refine AllReadyIn.cons rfl (fun K hK => ?_) ?_
        · go_simp
          refine hK _ _ ?_
          rw [← hG]
          exact g14
        exact AllReadyIn.nil
      have g2 : GG 7 #[false, false, true, false, false, false, false, false] { tmps := #[.pointer (some ⟨b.s, 0, none⟩), .int .i64 (n : Nat), .func (.func 74) #[.pointer (some ⟨pp, 0, none⟩)] #[], undef, undef, .pointer (some ⟨w.heap.size, 0, none⟩), .pointer (some ⟨w.heap.size + 1, 0, none⟩), .pointer (some ⟨w.heap.size + 1 + 1, 0, none⟩), .pointer (some ⟨w1.heap.size, 0, none⟩), .pointer (some ⟨w1.heap.size + 1, 0, none⟩), .int .i64 0, .pointer (some ⟨w1.heap.size + 1 + 1, 0, none⟩), .int .i64 x.1.1, .int .i64 x.1.2, .int .i64 0, .pointer (some ⟨b.s, 0, none⟩), .bool false, .tuple #[.pointer (some ⟨b'.s, 0, none⟩), .slice (some ⟨gp, 0, none⟩) NN NN, .int .i64 0], .pointer (some ⟨b.s, 0, none⟩), .int .i64 (NN : Nat), .int .i64 (n : Nat), .tuple #[.pointer (some ⟨b'.s, 0, none⟩), .slice (some ⟨gp, 0, none⟩) NN NN, .int .i64 0], .pointer (some ⟨b'.s, 0, none⟩), .slice (some ⟨gp, 0, none⟩) NN NN, .int .i64 0, .int .i64 0, .bool false, undef, .func (.func 74) #[.pointer (some ⟨pp, 0, none⟩)] #[], .bool false, .pointer (some ⟨b.s, 0, none⟩), .func (.func 189) #[] #[.pointer (some ⟨w1.heap.size + 1 + 1 + 1, 0, none⟩)], .int .i64 x.1.1, .int .i64 x.1.2, .pointer (some ⟨b'.s, 0, none⟩), .slice (some ⟨gp, 0, none⟩) NN NN, .int .i64 (pre.length : Nat), .pointer (some ⟨gp, pre.length, none⟩), .int .i64 (y : Nat), .int .i64 x.1.2, .int .i64 0, .int .i64 0, .bool false, undef, undef, undef, .int .i64 x.1.1, undef, undef, undef, undef, undef, undef, undef, undef], defers := [] } w5.drew := by
        rw [hG]
        refine wpAnyIn_ready (rs := [0, 1, 3, 4]) (by kernel_rfl) (by simp) ?_
        refine AllReadyIn.cons rfl (fun K hK => ?_) ?_
        · go_simp
          refine hK _ _ ?_
          rw [← hG]
          exact g02
        refine AllReadyIn.cons rfl (fun K hK => ?_) ?_
        · go_simp
          refine hK _ _ ?_
          rw [← hG]
          exact g12
        refine AllReadyIn.cons rfl (fun K hK => ?_) ?_
        · go_simp
          refine hK _ _ ?_
          rw [← hG]
          exact g23
        refine AllReadyIn.cons rfl (fun K hK => ?_) ?_
        · go_simp
          refine hK _ _ ?_
          rw [← hG]
          exact g24
        exact AllReadyIn.nil
      have g3 : GG 7 #[false, false, false, true, false, false, false, false] { tmps := #[.pointer (some ⟨b.s, 0, none⟩), .int .i64 (n : Nat), .func (.func 74) #[.pointer (some ⟨pp, 0, none⟩)] #[], undef, undef, .pointer (some ⟨w.heap.size, 0, none⟩), .pointer (some ⟨w.heap.size + 1, 0, none⟩), .pointer (some ⟨w.heap.size + 1 + 1, 0, none⟩), .pointer (some ⟨w1.heap.size, 0, none⟩), .pointer (some ⟨w1.heap.size + 1, 0, none⟩), .int .i64 0, .pointer (some ⟨w1.heap.size + 1 + 1, 0, none⟩), .int .i64 x.1.1, .int .i64 x.1.2, .int .i64 0, .pointer (some ⟨b.s, 0, none⟩), .bool false, .tuple #[.pointer (some ⟨b'.s, 0, none⟩), .slice (some ⟨gp, 0, none⟩) NN NN, .int .i64 0], .pointer (some ⟨b.s, 0, none⟩), .int .i64 (NN : Nat), .int .i64 (n : Nat), .tuple #[.pointer (some ⟨b'.s, 0, none⟩), .slice (some ⟨gp, 0, none⟩) NN NN, .int .i64 0], .pointer (some ⟨b'.s, 0, none⟩), .slice (some ⟨gp, 0, none⟩) NN NN, .int .i64 0, .int .i64 0, .bool false, undef, .func (.func 74) #[.pointer (some ⟨pp, 0, none⟩)] #[], .bool false, .pointer (some ⟨b.s, 0, none⟩), .func (.func 189) #[] #[.pointer (some ⟨w1.heap.size + 1 + 1 + 1, 0, none⟩)], .int .i64 x.1.1, .int .i64 x.1.2, .pointer (some ⟨b'.s, 0, none⟩), .slice (some ⟨gp, 0, none⟩) NN NN, .int .i64 (pre.length : Nat), .pointer (some ⟨gp, pre.length, none⟩), .int .i64 (y : Nat), .int .i64 x.1.2, .int .i64 0, .int .i64 0, .bool false, undef, undef, undef, undef, .slice (some ⟨gp, 0, none⟩) NN NN, undef, undef, undef, undef, undef, undef, undef], defers := [] } w5.drew := by
        rw [hG]
        refine wpAnyIn_ready (rs := [0, 1, 2, 4]) (by kernel_rfl) (by simp) ?_
        refine AllReadyIn.cons rfl (fun K hK => ?_) ?_
        · go_simp
          refine hK _ _ ?_
          rw [← hG]
          exact g03
        refine AllReadyIn.cons rfl (fun K hK => ?_) ?_
        · go_simp
          refine hK _ _ ?_
          rw [← hG]
          exact g13
        refine AllReadyIn.cons rfl (fun K hK => ?_) ?_
        · go_simp
          refine hK _ _ ?_
          rw [← hG]
          exact g23
        refine AllReadyIn.cons rfl (fun K hK => ?_) ?_
        · go_simp
          refine hK _ _ ?_
          rw [← hG]
          exact g34
        exact AllReadyIn.nil
      have g4 : GG 7 #[false, false, false, false, true, false, false, false] { tmps := #[.pointer (some ⟨b.s, 0, none⟩), .int .i64 (n : Nat), .func (.func 74) #[.pointer (some ⟨pp, 0, none⟩)] #[], undef, undef, .pointer (some ⟨w.heap.size, 0, none⟩), .pointer (some ⟨w.heap.size + 1, 0, none⟩), .pointer (some ⟨w.heap.size + 1 + 1, 0, none⟩), .pointer (some ⟨w1.heap.size, 0, none⟩), .pointer (some ⟨w1.heap.size + 1, 0, none⟩), .int .i64 0, .pointer (some ⟨w1.heap.size + 1 + 1, 0, none⟩), .int .i64 x.1.1, .int .i64 x.1.2, .int .i64 0, .pointer (some ⟨b.s, 0, none⟩), .bool false, .tuple #[.pointer (some ⟨b'.s, 0, none⟩), .slice (some ⟨gp, 0, none⟩) NN NN, .int .i64 0], .pointer (some ⟨b.s, 0, none⟩), .int .i64 (NN : Nat), .int .i64 (n : Nat), .tuple #[.pointer (some ⟨b'.s, 0, none⟩), .slice (some ⟨gp, 0, none⟩) NN NN, .int .i64 0], .pointer (some ⟨b'.s, 0, none⟩), .slice (some ⟨gp, 0, none⟩) NN NN, .int .i64 0, .int .i64 0, .bool false, undef, .func (.func 74) #[.pointer (some ⟨pp, 0, none⟩)] #[], .bool false, .pointer (some ⟨b.s, 0, none⟩), .func (.func 189) #[] #[.pointer (some ⟨w1.heap.size + 1 + 1 + 1, 0, none⟩)], .int .i64 x.1.1, .int .i64 x.1.2, .pointer (some ⟨b'.s, 0, none⟩), .slice (some ⟨gp, 0, none⟩) NN NN, .int .i64 (pre.length : Nat), .pointer (some ⟨gp, pre.length, none⟩), .int .i64 (y : Nat), .int .i64 x.1.2, .int .i64 0, .int .i64 0, .bool false, undef, undef, undef, undef, undef, .int .i64 (pre.length : Nat), undef, undef, undef, undef, undef, undef], defers := [] } w5.drew := by
        rw [hG]
        refine wpAnyIn_ready (rs := [0, 1, 2, 3]) (by kernel_rfl) (by simp) ?_
        refine AllReadyIn.cons rfl (fun K hK => ?_) ?_
        · go_simp
          refine hK _ _ ?_
          rw [← hG]
          exact g04
        refine AllReadyIn.cons rfl (fun K hK => ?_) ?_
        · go_simp
          refine hK _ _ ?_
          rw [← hG]
          exact g14
        refine AllReadyIn.cons rfl (fun K hK => ?_) ?_
        · go_simp
          refine hK _ _ ?_
          rw [← hG]
          exact g24
        refine AllReadyIn.cons rfl (fun K hK => ?_) ?_
        · go_simp
          refine hK _ _ ?_
          rw [← hG]
          exact g34
        exact AllReadyIn.nil
      have g : GG 8 #[false, false, false, false, false, false, false, false] { tmps := #[.pointer (some ⟨b.s, 0, none⟩), .int .i64 (n : Nat), .func (.func 74) #[.pointer (some ⟨pp, 0, none⟩)] #[], undef, undef, .pointer (some ⟨w.heap.size, 0, none⟩), .pointer (some ⟨w.heap.size + 1, 0, none⟩), .pointer (some ⟨w.heap.size + 1 + 1, 0, none⟩), .pointer (some ⟨w1.heap.size, 0, none⟩), .pointer (some ⟨w1.heap.size + 1, 0, none⟩), .int .i64 0, .pointer (some ⟨w1.heap.size + 1 + 1, 0, none⟩), .int .i64 x.1.1, .int .i64 x.1.2, .int .i64 0, .pointer (some ⟨b.s, 0, none⟩), .bool false, .tuple #[.pointer (some ⟨b'.s, 0, none⟩), .slice (some ⟨gp, 0, none⟩) NN NN, .int .i64 0], .pointer (some ⟨b.s, 0, none⟩), .int .i64 (NN : Nat), .int .i64 (n : Nat), .tuple #[.pointer (some ⟨b'.s, 0, none⟩), .slice (some ⟨gp, 0, none⟩) NN NN, .int .i64 0], .pointer (some ⟨b'.s, 0, none⟩), .slice (some ⟨gp, 0, none⟩) NN NN, .int .i64 0, .int .i64 0, .bool false, undef, .func (.func 74) #[.pointer (some ⟨pp, 0, none⟩)] #[], .bool false, .pointer (some ⟨b.s, 0, none⟩), .func (.func 189) #[] #[.pointer (some ⟨w1.heap.size + 1 + 1 + 1, 0, none⟩)], .int .i64 x.1.1, .int .i64 x.1.2, .pointer (some ⟨b'.s, 0, none⟩), .slice (some ⟨gp, 0, none⟩) NN NN, .int .i64 (pre.length : Nat), .pointer (some ⟨gp, pre.length, none⟩), .int .i64 (y : Nat), .int .i64 x.1.2, .int .i64 0, .int .i64 0, .bool false, undef, undef, undef, undef, undef, undef, undef, undef, undef, undef, undef, undef], defers := [] } w5.drew := by
        rw [hG]
        refine wpAnyIn_ready (rs := [0, 1, 2, 3, 4]) (by kernel_rfl) (by simp) ?_
        refine AllReadyIn.cons rfl (fun K hK => ?_) ?_
        · go_simp
          refine hK _ _ ?_
          rw [← hG]
          exact g0
        refine AllReadyIn.cons rfl (fun K hK => ?_) ?_
        · go_simp
          refine hK _ _ ?_
          rw [← hG]
          exact g1
        refine AllReadyIn.cons rfl (fun K hK => ?_) ?_
        · go_simp
          refine hK _ _ ?_
          rw [← hG]
          exact g2
        refine AllReadyIn.cons rfl (fun K hK => ?_) ?_
        · go_simp
          refine hK _ _ ?_
          rw [← hG]
          exact g3
        refine AllReadyIn.cons rfl (fun K hK => ?_) ?_
        · go_simp
          refine hK _ _ ?_
          rw [← hG]
          exact g4
        exact AllReadyIn.nil
      exact g
    have HF1 := Lib.hid hfin1
    clear hfin1 hKr hRZ hr0 hs0 hT0 htk hpw hs hRC tk0 d6 hBall hvl hne2 hnk
    refine wpIn_region_any hmx ?_
    change wpAnyIn _ _ _ _ _ _ 8 #[false, false, false, false, false, false, false, false] _ W.drew
    refine with_any ?_
    intro GG hG
    have g01234567 : ∀ w5, SM w5 b' n ((putB n S pre.length).set y true) ((putX n S (pre.map fun x => x.1.2) pre.length).set y x.1.2) → Only b'.mv W.drew w5 → GG 0 #[true, true, true, true, true, true, true, true] { tmps := #[.pointer (some ⟨b.s, 0, none⟩), .int .i64 (n : Nat), .func (.func 74) #[.pointer (some ⟨pp, 0, none⟩)] #[], undef, undef, .pointer (some ⟨w.heap.size, 0, none⟩), .pointer (some ⟨w.heap.size + 1, 0, none⟩), .pointer (some ⟨w.heap.size + 1 + 1, 0, none⟩), .pointer (some ⟨w1.heap.size, 0, none⟩), .pointer (some ⟨w1.heap.size + 1, 0, none⟩), .int .i64 0, .pointer (some ⟨w1.heap.size + 1 + 1, 0, none⟩), .int .i64 x.1.1, .int .i64 x.1.2, .int .i64 0, .pointer (some ⟨b.s, 0, none⟩), .bool false, .tuple #[.pointer (some ⟨b'.s, 0, none⟩), .slice (some ⟨gp, 0, none⟩) NN NN, .int .i64 0], .pointer (some ⟨b.s, 0, none⟩), .int .i64 (NN : Nat), .int .i64 (n : Nat), .tuple #[.pointer (some ⟨b'.s, 0, none⟩), .slice (some ⟨gp, 0, none⟩) NN NN, .int .i64 0], .pointer (some ⟨b'.s, 0, none⟩), .slice (some ⟨gp, 0, none⟩) NN NN, .int .i64 0, .int .i64 0, .bool false, undef, .func (.func 74) #[.pointer (some ⟨pp, 0, none⟩)] #[], .bool false, .pointer (some ⟨b.s, 0, none⟩), .func (.func 189) #[] #[.pointer (some ⟨w1.heap.size + 1 + 1 + 1, 0, none⟩)], .int .i64 x.1.1, .int .i64 x.1.2, .pointer (some ⟨b'.s, 0, none⟩), .slice (some ⟨gp, 0, none⟩) NN NN, .int .i64 (pre.length : Nat), .pointer (some ⟨gp, pre.length, none⟩), .int .i64 (y : Nat), .int .i64 x.1.2, .int .i64 0, undef, undef, undef, undef, undef, undef, undef, undef, undef, undef, undef, undef, undef, undef], defers := [] } w5 := by
      intro w5 p1 p2
      rw [hG]
      refine wpAnyIn_done (by kernel_rfl) ?_ _
      exact HF1.out w5 p1 p2
    have g0123456 : ∀ w5, SM w5 b' n ((putB n S pre.length).set y true) ((putX n S (pre.map fun x => x.1.2) pre.length).set y x.1.2) → Only b'.mv W.drew w5 → GG 1 #[true, true, true, true, true, true, true, false] { tmps := #[.pointer (some ⟨b.s, 0, none⟩), .int .i64 (n : Nat), .func (.func 74) #[.pointer (some ⟨pp, 0, none⟩)] #[], undef, undef, .pointer (some ⟨w.heap.size, 0, none⟩), .pointer (some ⟨w.heap.size + 1, 0, none⟩), .pointer (some ⟨w.heap.size + 1 + 1, 0, none⟩), .pointer (some ⟨w1.heap.size, 0, none⟩), .pointer (some ⟨w1.heap.size + 1, 0, none⟩), .int .i64 0, .pointer (some ⟨w1.heap.size + 1 + 1, 0, none⟩), .int .i64 x.1.1, .int .i64 x.1.2, undef, .pointer (some ⟨b.s, 0, none⟩), .bool false, .tuple #[.pointer (some ⟨b'.s, 0, none⟩), .slice (some ⟨gp, 0, none⟩) NN NN, .int .i64 0], .pointer (some ⟨b.s, 0, none⟩), .int .i64 (NN : Nat), .int .i64 (n : Nat), .tuple #[.pointer (some ⟨b'.s, 0, none⟩), .slice (some ⟨gp, 0, none⟩) NN NN, .int .i64 0], .pointer (some ⟨b'.s, 0, none⟩), .slice (some ⟨gp, 0, none⟩) NN NN, .int .i64 0, .int .i64 0, .bool false, undef, .func (.func 74) #[.pointer (some ⟨pp, 0, none⟩)] #[], .bool false, .pointer (some ⟨b.s, 0, none⟩), .func (.func 189) #[] #[.pointer (some ⟨w1.heap.size + 1 + 1 + 1, 0, none⟩)], .int .i64 x.1.1, .int .i64 x.1.2, .pointer (some ⟨b'.s, 0, none⟩), .slice (some ⟨gp, 0, none⟩) NN NN, .int .i64 (pre.length : Nat), .pointer (some ⟨gp, pre.length, none⟩), .int .i64 (y : Nat), .int .i64 x.1.2, .int .i64 0, undef, undef, undef, undef, undef, undef, undef, undef, undef, undef, undef, undef, undef, undef], defers := [] } w5 := by
      intro w5 p1 p2
      rw [hG]
      refine wpAnyIn_ready (rs := [7]) (by kernel_rfl) (by simp) ?_
      refine AllReadyIn.cons rfl (fun K hK => ?_) ?_
      · go_simp
        refine hK _ _ ?_
        rw [← hG]
        exact g01234567 w5 p1 p2
      exact AllReadyIn.nil
    have g012345 : GG 2 #[true, true, true, true, true, true, false, false] { tmps := #[.pointer (some ⟨b.s, 0, none⟩), .int .i64 (n : Nat), .func (.func 74) #[.pointer (some ⟨pp, 0, none⟩)] #[], undef, undef, .pointer (some ⟨w.heap.size, 0, none⟩), .pointer (some ⟨w.heap.size + 1, 0, none⟩), .pointer (some ⟨w.heap.size + 1 + 1, 0, none⟩), .pointer (some ⟨w1.heap.size, 0, none⟩), .pointer (some ⟨w1.heap.size + 1, 0, none⟩), .int .i64 0, .pointer (some ⟨w1.heap.size + 1 + 1, 0, none⟩), .int .i64 x.1.1, .int .i64 x.1.2, undef, .pointer (some ⟨b.s, 0, none⟩), .bool false, .tuple #[.pointer (some ⟨b'.s, 0, none⟩), .slice (some ⟨gp, 0, none⟩) NN NN, .int .i64 0], .pointer (some ⟨b.s, 0, none⟩), .int .i64 (NN : Nat), .int .i64 (n : Nat), .tuple #[.pointer (some ⟨b'.s, 0, none⟩), .slice (some ⟨gp, 0, none⟩) NN NN, .int .i64 0], .pointer (some ⟨b'.s, 0, none⟩), .slice (some ⟨gp, 0, none⟩) NN NN, .int .i64 0, .int .i64 0, .bool false, undef, .func (.func 74) #[.pointer (some ⟨pp, 0, none⟩)] #[], .bool false, .pointer (some ⟨b.s, 0, none⟩), .func (.func 189) #[] #[.pointer (some ⟨w1.heap.size + 1 + 1 + 1, 0, none⟩)], .int .i64 x.1.1, .int .i64 x.1.2, .pointer (some ⟨b'.s, 0, none⟩), .slice (some ⟨gp, 0, none⟩) NN NN, .int .i64 (pre.length : Nat), .pointer (some ⟨gp, pre.length, none⟩), .int .i64 (y : Nat), .int .i64 x.1.2, undef, undef, undef, undef, undef, undef, undef, undef, undef, undef, undef, undef, undef, undef, undef], defers := [] } W.drew := by
      rw [hG]
      refine wpAnyIn_ready (rs := [6]) (by kernel_rfl) (by simp) ?_
      refine AllReadyIn.cons rfl (fun K hK => ?_) ?_
      · go_simp
        gi_wp2_with (refine ⟨trivial, ?_⟩; refine (CallsIn.inRound l (callsIn_wide.2 hput)).mono ?_; rintro e w5 ⟨rfl, p1, p2⟩)
        first | (rw [← hG]; exact g0123456 w5 p1 p2) | (refine hK _ _ ?_; rw [← hG]; exact g0123456 w5 p1 p2)
      exact AllReadyIn.nil
    have g01234 : GG 3 #[true, true, true, true, true, false, false, false] { tmps := #[.pointer (some ⟨b.s, 0, none⟩), .int .i64 (n : Nat), .func (.func 74) #[.pointer (some ⟨pp, 0, none⟩)] #[], undef, undef, .pointer (some ⟨w.heap.size, 0, none⟩), .pointer (some ⟨w.heap.size + 1, 0, none⟩), .pointer (some ⟨w.heap.size + 1 + 1, 0, none⟩), .pointer (some ⟨w1.heap.size, 0, none⟩), .pointer (some ⟨w1.heap.size + 1, 0, none⟩), .int .i64 0, .pointer (some ⟨w1.heap.size + 1 + 1, 0, none⟩), .int .i64 x.1.1, .int .i64 x.1.2, undef, .pointer (some ⟨b.s, 0, none⟩), .bool false, .tuple #[.pointer (some ⟨b'.s, 0, none⟩), .slice (some ⟨gp, 0, none⟩) NN NN, .int .i64 0], .pointer (some ⟨b.s, 0, none⟩), .int .i64 (NN : Nat), .int .i64 (n : Nat), .tuple #[.pointer (some ⟨b'.s, 0, none⟩), .slice (some ⟨gp, 0, none⟩) NN NN, .int .i64 0], .pointer (some ⟨b'.s, 0, none⟩), .slice (some ⟨gp, 0, none⟩) NN NN, .int .i64 0, .int .i64 0, .bool false, undef, .func (.func 74) #[.pointer (some ⟨pp, 0, none⟩)] #[], .bool false, .pointer (some ⟨b.s, 0, none⟩), .func (.func 189) #[] #[.pointer (some ⟨w1.heap.size + 1 + 1 + 1, 0, none⟩)], .int .i64 x.1.1, .int .i64 x.1.2, .pointer (some ⟨b'.s, 0, none⟩), .slice (some ⟨gp, 0, none⟩) NN NN, .int .i64 (pre.length : Nat), .pointer (some ⟨gp, pre.length, none⟩), .int .i64 (y : Nat), undef, undef, undef, undef, undef, undef, undef, undef, undef, undef, undef, undef, undef, undef, undef, undef], defers := [] } W.drew := by
      rw [hG]
      refine wpAnyIn_ready (rs := [5]) (by kernel_rfl) (by simp) ?_
      refine AllReadyIn.cons rfl (fun K hK => ?_) ?_
      · go_simp
        refine hK _ _ ?_
        rw [← hG]
        exact g012345
      exact AllReadyIn.nil
    have g01235 : GG 3 #[true, true, true, true, false, true, false, false] { tmps := #[.pointer (some ⟨b.s, 0, none⟩), .int .i64 (n : Nat), .func (.func 74) #[.pointer (some ⟨pp, 0, none⟩)] #[], undef, undef, .pointer (some ⟨w.heap.size, 0, none⟩), .pointer (some ⟨w.heap.size + 1, 0, none⟩), .pointer (some ⟨w.heap.size + 1 + 1, 0, none⟩), .pointer (some ⟨w1.heap.size, 0, none⟩), .pointer (some ⟨w1.heap.size + 1, 0, none⟩), .int .i64 0, .pointer (some ⟨w1.heap.size + 1 + 1, 0, none⟩), .int .i64 x.1.1, .int .i64 x.1.2, undef, .pointer (some ⟨b.s, 0, none⟩), .bool false, .tuple #[.pointer (some ⟨b'.s, 0, none⟩), .slice (some ⟨gp, 0, none⟩) NN NN, .int .i64 0], .pointer (some ⟨b.s, 0, none⟩), .int .i64 (NN : Nat), .int .i64 (n : Nat), .tuple #[.pointer (some ⟨b'.s, 0, none⟩), .slice (some ⟨gp, 0, none⟩) NN NN, .int .i64 0], .pointer (some ⟨b'.s, 0, none⟩), .slice (some ⟨gp, 0, none⟩) NN NN, .int .i64 0, .int .i64 0, .bool false, undef, .func (.func 74) #[.pointer (some ⟨pp, 0, none⟩)] #[], .bool false, .pointer (some ⟨b.s, 0, none⟩), .func (.func 189) #[] #[.pointer (some ⟨w1.heap.size + 1 + 1 + 1, 0, none⟩)], .int .i64 x.1.1, .int .i64 x.1.2, .pointer (some ⟨b'.s, 0, none⟩), .slice (some ⟨gp, 0, none⟩) NN NN, .int .i64 (pre.length : Nat), .pointer (some ⟨gp, pre.length, none⟩), undef, .int .i64 x.1.2, undef, undef, undef, undef, undef, undef, undef, undef, undef, undef, undef, undef, undef, undef, undef], defers := [] } W.drew := by
      rw [hG]
      refine wpAnyIn_ready (rs := [4]) (by kernel_rfl) (by simp) ?_
      refine AllReadyIn.cons rfl (fun K hK => ?_) ?_
      · go_simp
        refine hK _ _ ?_
        rw [← hG]
        exact g012345
      exact AllReadyIn.nil
    have g12345 : GG 3 #[false, true, true, true, true, true, false, false] { tmps := #[.pointer (some ⟨b.s, 0, none⟩), .int .i64 (n : Nat), .func (.func 74) #[.pointer (some ⟨pp, 0, none⟩)] #[], undef, undef, .pointer (some ⟨w.heap.size, 0, none⟩), .pointer (some ⟨w.heap.size + 1, 0, none⟩), .pointer (some ⟨w.heap.size + 1 + 1, 0, none⟩), .pointer (some ⟨w1.heap.size, 0, none⟩), .pointer (some ⟨w1.heap.size + 1, 0, none⟩), .int .i64 0, .pointer (some ⟨w1.heap.size + 1 + 1, 0, none⟩), .int .i64 x.1.1, .int .i64 x.1.2, undef, .pointer (some ⟨b.s, 0, none⟩), .bool false, .tuple #[.pointer (some ⟨b'.s, 0, none⟩), .slice (some ⟨gp, 0, none⟩) NN NN, .int .i64 0], .pointer (some ⟨b.s, 0, none⟩), .int .i64 (NN : Nat), .int .i64 (n : Nat), .tuple #[.pointer (some ⟨b'.s, 0, none⟩), .slice (some ⟨gp, 0, none⟩) NN NN, .int .i64 0], .pointer (some ⟨b'.s, 0, none⟩), .slice (some ⟨gp, 0, none⟩) NN NN, .int .i64 0, .int .i64 0, .bool false, undef, .func (.func 74) #[.pointer (some ⟨pp, 0, none⟩)] #[], .bool false, .pointer (some ⟨b.s, 0, none⟩), .func (.func 189) #[] #[.pointer (some ⟨w1.heap.size + 1 + 1 + 1, 0, none⟩)], .int .i64 x.1.1, .int .i64 x.1.2, undef, .slice (some ⟨gp, 0, none⟩) NN NN, .int .i64 (pre.length : Nat), .pointer (some ⟨gp, pre.length, none⟩), .int .i64 (y : Nat), .int .i64 x.1.2, undef, undef, undef, undef, undef, undef, undef, undef, undef, undef, undef, undef, undef, undef, undef], defers := [] } W.drew := by
      rw [hG]
      refine wpAnyIn_ready (rs := [0]) (by kernel_rfl) (by simp) ?_
      refine AllReadyIn.cons rfl (fun K hK => ?_) ?_
      · go_simp
        refine hK _ _ ?_
        rw [← hG]
        exact g012345
      exact AllReadyIn.nil
    have g0123 : GG 4 #[true, true, true, true, false, false, false, false] { tmps := #[.pointer (some ⟨b.s, 0, none⟩), .int .i64 (n : Nat), .func (.func 74) #[.pointer (some ⟨pp, 0, none⟩)] #[], undef, undef, .pointer (some ⟨w.heap.size, 0, none⟩), .pointer (some ⟨w.heap.size + 1, 0, none⟩), .pointer (some ⟨w.heap.size + 1 + 1, 0, none⟩), .pointer (some ⟨w1.heap.size, 0, none⟩), .pointer (some ⟨w1.heap.size + 1, 0, none⟩), .int .i64 0, .pointer (some ⟨w1.heap.size + 1 + 1, 0, none⟩), .int .i64 x.1.1, .int .i64 x.1.2, undef, .pointer (some ⟨b.s, 0, none⟩), .bool false, .tuple #[.pointer (some ⟨b'.s, 0, none⟩), .slice (some ⟨gp, 0, none⟩) NN NN, .int .i64 0], .pointer (some ⟨b.s, 0, none⟩), .int .i64 (NN : Nat), .int .i64 (n : Nat), .tuple #[.pointer (some ⟨b'.s, 0, none⟩), .slice (some ⟨gp, 0, none⟩) NN NN, .int .i64 0], .pointer (some ⟨b'.s, 0, none⟩), .slice (some ⟨gp, 0, none⟩) NN NN, .int .i64 0, .int .i64 0, .bool false, undef, .func (.func 74) #[.pointer (some ⟨pp, 0, none⟩)] #[], .bool false, .pointer (some ⟨b.s, 0, none⟩), .func (.func 189) #[] #[.pointer (some ⟨w1.heap.size + 1 + 1 + 1, 0, none⟩)], .int .i64 x.1.1, .int .i64 x.1.2, .pointer (some ⟨b'.s, 0, none⟩), .slice (some ⟨gp, 0, none⟩) NN NN, .int .i64 (pre.length : Nat), .pointer (some ⟨gp, pre.length, none⟩), undef, undef, undef, undef, undef, undef, undef, undef, undef, undef, undef, undef, undef, undef, undef, undef, undef], defers := [] } W.drew := by
      rw [hG]
      refine wpAnyIn_ready (rs := [4, 5]) (by kernel_rfl) (by simp) ?_
      refine AllReadyIn.cons rfl (fun K hK => ?_) ?_
      · go_simp
        refine hK _ _ ?_
        rw [← hG]
        exact g01234
      refine AllReadyIn.cons rfl (fun K hK => ?_) ?_
      · go_simp
        refine hK _ _ ?_
        rw [← hG]
        exact g01235
      exact AllReadyIn.nil
    have g0125 : GG 4 #[true, true, true, false, false, true, false, false] { tmps := #[.pointer (some ⟨b.s, 0, none⟩), .int .i64 (n : Nat), .func (.func 74) #[.pointer (some ⟨pp, 0, none⟩)] #[], undef, undef, .pointer (some ⟨w.heap.size, 0, none⟩), .pointer (some ⟨w.heap.size + 1, 0, none⟩), .pointer (some ⟨w.heap.size + 1 + 1, 0, none⟩), .pointer (some ⟨w1.heap.size, 0, none⟩), .pointer (some ⟨w1.heap.size + 1, 0, none⟩), .int .i64 0, .pointer (some ⟨w1.heap.size + 1 + 1, 0, none⟩), .int .i64 x.1.1, .int .i64 x.1.2, undef, .pointer (some ⟨b.s, 0, none⟩), .bool false, .tuple #[.pointer (some ⟨b'.s, 0, none⟩), .slice (some ⟨gp, 0, none⟩) NN NN, .int .i64 0], .pointer (some ⟨b.s, 0, none⟩), .int .i64 (NN : Nat), .int .i64 (n : Nat), .tuple #[.pointer (some ⟨b'.s, 0, none⟩), .slice (some ⟨gp, 0, none⟩) NN NN, .int .i64 0], .pointer (some ⟨b'.s, 0, none⟩), .slice (some ⟨gp, 0, none⟩) NN NN, .int .i64 0, .int .i64 0, .bool false, undef, .func (.func 74) #[.pointer (some ⟨pp, 0, none⟩)] #[], .bool false, .pointer (some ⟨b.s, 0, none⟩), .func (.func 189) #[] #[.pointer (some ⟨w1.heap.size + 1 + 1 + 1, 0, none⟩)], .int .i64 x.1.1, .int .i64 x.1.2, .pointer (some ⟨b'.s, 0, none⟩), .slice (some ⟨gp, 0, none⟩) NN NN, .int .i64 (pre.length : Nat), undef, undef, .int .i64 x.1.2, undef, undef, undef, undef, undef, undef, undef, undef, undef, undef, undef, undef, undef, undef, undef], defers := [] } W.drew := by
      rw [hG]
      refine wpAnyIn_ready (rs := [3]) (by kernel_rfl) (by simp) ?_
      refine AllReadyIn.cons rfl (fun K hK => ?_) ?_
      · go_simp
        refine hK _ _ ?_
        rw [← hG]
        exact g01235
      exact AllReadyIn.nil
    have g1234 : GG 4 #[false, true, true, true, true, false, false, false] { tmps := #[.pointer (some ⟨b.s, 0, none⟩), .int .i64 (n : Nat), .func (.func 74) #[.pointer (some ⟨pp, 0, none⟩)] #[], undef, undef, .pointer (some ⟨w.heap.size, 0, none⟩), .pointer (some ⟨w.heap.size + 1, 0, none⟩), .pointer (some ⟨w.heap.size + 1 + 1, 0, none⟩), .pointer (some ⟨w1.heap.size, 0, none⟩), .pointer (some ⟨w1.heap.size + 1, 0, none⟩), .int .i64 0, .pointer (some ⟨w1.heap.size + 1 + 1, 0, none⟩), .int .i64 x.1.1, .int .i64 x.1.2, undef, .pointer (some ⟨b.s, 0, none⟩), .bool false, .tuple #[.pointer (some ⟨b'.s, 0, none⟩), .slice (some ⟨gp, 0, none⟩) NN NN, .int .i64 0], .pointer (some ⟨b.s, 0, none⟩), .int .i64 (NN : Nat), .int .i64 (n : Nat), .tuple #[.pointer (some ⟨b'.s, 0, none⟩), .slice (some ⟨gp, 0, none⟩) NN NN, .int .i64 0], .pointer (some ⟨b'.s, 0, none⟩), .slice (some ⟨gp, 0, none⟩) NN NN, .int .i64 0, .int .i64 0, .bool false, undef, .func (.func 74) #[.pointer (some ⟨pp, 0, none⟩)] #[], .bool false, .pointer (some ⟨b.s, 0, none⟩), .func (.func 189) #[] #[.pointer (some ⟨w1.heap.size + 1 + 1 + 1, 0, none⟩)], .int .i64 x.1.1, .int .i64 x.1.2, undef, .slice (some ⟨gp, 0, none⟩) NN NN, .int .i64 (pre.length : Nat), .pointer (some ⟨gp, pre.length, none⟩), .int .i64 (y : Nat), undef, undef, undef, undef, undef, undef, undef, undef, undef, undef, undef, undef, undef, undef, undef, undef], defers := [] } W.drew := by
      rw [hG]
      refine wpAnyIn_ready (rs := [0, 5]) (by kernel_rfl) (by simp) ?_
      refine AllReadyIn.cons rfl (fun K hK => ?_) ?_
      · go_simp
        refine hK _ _ ?_
        rw [← hG]
        exact g01234
      refine AllReadyIn.cons rfl (fun K hK => ?_) ?_
      · go_simp
        refine hK _ _ ?_
        rw [← hG]
        exact g12345
      exact AllReadyIn.nil
    have g1235 : GG 4 #[false, true, true, true, false, true, false, false] { tmps := #[.pointer (some ⟨b.s, 0, none⟩), .int .i64 (n : Nat), .func (.func 74) #[.pointer (some ⟨pp, 0, none⟩)] #[], undef, undef, .pointer (some ⟨w.heap.size, 0, none⟩), .pointer (some ⟨w.heap.size + 1, 0, none⟩), .pointer (some ⟨w.heap.size + 1 + 1, 0, none⟩), .pointer (some ⟨w1.heap.size, 0, none⟩), .pointer (some ⟨w1.heap.size + 1, 0, none⟩), .int .i64 0, .pointer (some ⟨w1.heap.size + 1 + 1, 0, none⟩), .int .i64 x.1.1, .int .i64 x.1.2, undef, .pointer (some ⟨b.s, 0, none⟩), .bool false, .tuple #[.pointer (some ⟨b'.s, 0, none⟩), .slice (some ⟨gp, 0, none⟩) NN NN, .int .i64 0], .pointer (some ⟨b.s, 0, none⟩), .int .i64 (NN : Nat), .int .i64 (n : Nat), .tuple #[.pointer (some ⟨b'.s, 0, none⟩), .slice (some ⟨gp, 0, none⟩) NN NN, .int .i64 0], .pointer (some ⟨b'.s, 0, none⟩), .slice (some ⟨gp, 0, none⟩) NN NN, .int .i64 0, .int .i64 0, .bool false, undef, .func (.func 74) #[.pointer (some ⟨pp, 0, none⟩)] #[], .bool false, .pointer (some ⟨b.s, 0, none⟩), .func (.func 189) #[] #[.pointer (some ⟨w1.heap.size + 1 + 1 + 1, 0, none⟩)], .int .i64 x.1.1, .int .i64 x.1.2, undef, .slice (some ⟨gp, 0, none⟩) NN NN, .int .i64 (pre.length : Nat), .pointer (some ⟨gp, pre.length, none⟩), undef, .int .i64 x.1.2, undef, undef, undef, undef, undef, undef, undef, undef, undef, undef, undef, undef, undef, undef, undef], defers := [] } W.drew := by
      rw [hG]
      refine wpAnyIn_ready (rs := [0, 4]) (by kernel_rfl) (by simp) ?_
      refine AllReadyIn.cons rfl (fun K hK => ?_) ?_
      · go_simp
        refine hK _ _ ?_
        rw [← hG]
        exact g01235
      refine AllReadyIn.cons rfl (fun K hK => ?_) ?_
      · go_simp
        refine hK _ _ ?_
        rw [← hG]
        exact g12345
      exact AllReadyIn.nil
    have g012 : GG 5 #[true, true, true, false, false, false, false, false] { tmps := #[.pointer (some ⟨b.s, 0, none⟩), .int .i64 (n : Nat), .func (.func 74) #[.pointer (some ⟨pp, 0, none⟩)] #[], undef, undef, .pointer (some ⟨w.heap.size, 0, none⟩), .pointer (some ⟨w.heap.size + 1, 0, none⟩), .pointer (some ⟨w.heap.size + 1 + 1, 0, none⟩), .pointer (some ⟨w1.heap.size, 0, none⟩), .pointer (some ⟨w1.heap.size + 1, 0, none⟩), .int .i64 0, .pointer (some ⟨w1.heap.size + 1 + 1, 0, none⟩), .int .i64 x.1.1, .int .i64 x.1.2, undef, .pointer (some ⟨b.s, 0, none⟩), .bool false, .tuple #[.pointer (some ⟨b'.s, 0, none⟩), .slice (some ⟨gp, 0, none⟩) NN NN, .int .i64 0], .pointer (some ⟨b.s, 0, none⟩), .int .i64 (NN : Nat), .int .i64 (n : Nat), .tuple #[.pointer (some ⟨b'.s, 0, none⟩), .slice (some ⟨gp, 0, none⟩) NN NN, .int .i64 0], .pointer (some ⟨b'.s, 0, none⟩), .slice (some ⟨gp, 0, none⟩) NN NN, .int .i64 0, .int .i64 0, .bool false, undef, .func (.func 74) #[.pointer (some ⟨pp, 0, none⟩)] #[], .bool false, .pointer (some ⟨b.s, 0, none⟩), .func (.func 189) #[] #[.pointer (some ⟨w1.heap.size + 1 + 1 + 1, 0, none⟩)], .int .i64 x.1.1, .int .i64 x.1.2, .pointer (some ⟨b'.s, 0, none⟩), .slice (some ⟨gp, 0, none⟩) NN NN, .int .i64 (pre.length : Nat), undef, undef, undef, undef, undef, undef, undef, undef, undef, undef, undef, undef, undef, undef, undef, undef, undef, undef], defers := [] } W.drew := by
      rw [hG]
      refine wpAnyIn_ready (rs := [3, 5]) (by kernel_rfl) (by simp) ?_
      refine AllReadyIn.cons rfl (fun K hK => ?_) ?_
      · go_simp
        refine hK _ _ ?_
        rw [← hG]
        exact g0123
      refine AllReadyIn.cons rfl (fun K hK => ?_) ?_
      · go_simp
        refine hK _ _ ?_
        rw [← hG]
        exact g0125
      exact AllReadyIn.nil
    have g015 : GG 5 #[true, true, false, false, false, true, false, false] { tmps := #[.pointer (some ⟨b.s, 0, none⟩), .int .i64 (n : Nat), .func (.func 74) #[.pointer (some ⟨pp, 0, none⟩)] #[], undef, undef, .pointer (some ⟨w.heap.size, 0, none⟩), .pointer (some ⟨w.heap.size + 1, 0, none⟩), .pointer (some ⟨w.heap.size + 1 + 1, 0, none⟩), .pointer (some ⟨w1.heap.size, 0, none⟩), .pointer (some ⟨w1.heap.size + 1, 0, none⟩), .int .i64 0, .pointer (some ⟨w1.heap.size + 1 + 1, 0, none⟩), .int .i64 x.1.1, .int .i64 x.1.2, undef, .pointer (some ⟨b.s, 0, none⟩), .bool false, .tuple #[.pointer (some ⟨b'.s, 0, none⟩), .slice (some ⟨gp, 0, none⟩) NN NN, .int .i64 0], .pointer (some ⟨b.s, 0, none⟩), .int .i64 (NN : Nat), .int .i64 (n : Nat), .tuple #[.pointer (some ⟨b'.s, 0, none⟩), .slice (some ⟨gp, 0, none⟩) NN NN, .int .i64 0], .pointer (some ⟨b'.s, 0, none⟩), .slice (some ⟨gp, 0, none⟩) NN NN, .int .i64 0, .int .i64 0, .bool false, undef, .func (.func 74) #[.pointer (some ⟨pp, 0, none⟩)] #[], .bool false, .pointer (some ⟨b.s, 0, none⟩), .func (.func 189) #[] #[.pointer (some ⟨w1.heap.size + 1 + 1 + 1, 0, none⟩)], .int .i64 x.1.1, .int .i64 x.1.2, .pointer (some ⟨b'.s, 0, none⟩), .slice (some ⟨gp, 0, none⟩) NN NN, undef, undef, undef, .int .i64 x.1.2, undef, undef, undef, undef, undef, undef, undef, undef, undef, undef, undef, undef, undef, undef, undef], defers := [] } W.drew := by
      rw [hG]
      refine wpAnyIn_ready (rs := [2]) (by kernel_rfl) (by simp) ?_
      refine AllReadyIn.cons rfl (fun K hK => ?_) ?_
      · go_simp
        refine hK _ _ ?_
        rw [← hG]
        exact g0125
      exact AllReadyIn.nil
    have g025 : GG 5 #[true, false, true, false, false, true, false, false] { tmps := #[.pointer (some ⟨b.s, 0, none⟩), .int .i64 (n : Nat), .func (.func 74) #[.pointer (some ⟨pp, 0, none⟩)] #[], undef, undef, .pointer (some ⟨w.heap.size, 0, none⟩), .pointer (some ⟨w.heap.size + 1, 0, none⟩), .pointer (some ⟨w.heap.size + 1 + 1, 0, none⟩), .pointer (some ⟨w1.heap.size, 0, none⟩), .pointer (some ⟨w1.heap.size + 1, 0, none⟩), .int .i64 0, .pointer (some ⟨w1.heap.size + 1 + 1, 0, none⟩), .int .i64 x.1.1, .int .i64 x.1.2, undef, .pointer (some ⟨b.s, 0, none⟩), .bool false, .tuple #[.pointer (some ⟨b'.s, 0, none⟩), .slice (some ⟨gp, 0, none⟩) NN NN, .int .i64 0], .pointer (some ⟨b.s, 0, none⟩), .int .i64 (NN : Nat), .int .i64 (n : Nat), .tuple #[.pointer (some ⟨b'.s, 0, none⟩), .slice (some ⟨gp, 0, none⟩) NN NN, .int .i64 0], .pointer (some ⟨b'.s, 0, none⟩), .slice (some ⟨gp, 0, none⟩) NN NN, .int .i64 0, .int .i64 0, .bool false, undef, .func (.func 74) #[.pointer (some ⟨pp, 0, none⟩)] #[], .bool false, .pointer (some ⟨b.s, 0, none⟩), .func (.func 189) #[] #[.pointer (some ⟨w1.heap.size + 1 + 1 + 1, 0, none⟩)], .int .i64 x.1.1, .int .i64 x.1.2, .pointer (some ⟨b'.s, 0, none⟩), undef, .int .i64 (pre.length : Nat), undef, undef, .int .i64 x.1.2, undef, undef, undef, undef, undef, undef, undef, undef, undef, undef, undef, undef, undef, undef, undef], defers := [] } W.drew := by
      rw [hG]
      refine wpAnyIn_ready (rs := [1]) (by kernel_rfl) (by simp) ?_
      refine AllReadyIn.cons rfl (fun K hK => ?_) ?_
      · go_simp
        refine hK _ _ ?_
        rw [← hG]
        exact g0125
      exact AllReadyIn.nil
    have g123 : GG 5 #[false, true, true, true, false, false, false, false] { tmps := #[.pointer (some ⟨b.s, 0, none⟩), .int .i64 (n : Nat), .func (.func 74) #[.pointer (some ⟨pp, 0, none⟩)] #[], undef, undef, .pointer (some ⟨w.heap.size, 0, none⟩), .pointer (some ⟨w.heap.size + 1, 0, none⟩), .pointer (some ⟨w.heap.size + 1 + 1, 0, none⟩), .pointer (some ⟨w1.heap.size, 0, none⟩), .pointer (some ⟨w1.heap.size + 1, 0, none⟩), .int .i64 0, .pointer (some ⟨w1.heap.size + 1 + 1, 0, none⟩), .int .i64 x.1.1, .int .i64 x.1.2, undef, .pointer (some ⟨b.s, 0, none⟩), .bool false, .tuple #[.pointer (some ⟨b'.s, 0, none⟩), .slice (some ⟨gp, 0, none⟩) NN NN, .int .i64 0], .pointer (some ⟨b.s, 0, none⟩), .int .i64 (NN : Nat), .int .i64 (n : Nat), .tuple #[.pointer (some ⟨b'.s, 0, none⟩), .slice (some ⟨gp, 0, none⟩) NN NN, .int .i64 0], .pointer (some ⟨b'.s, 0, none⟩), .slice (some ⟨gp, 0, none⟩) NN NN, .int .i64 0, .int .i64 0, .bool false, undef, .func (.func 74) #[.pointer (some ⟨pp, 0, none⟩)] #[], .bool false, .pointer (some ⟨b.s, 0, none⟩), .func (.func 189) #[] #[.pointer (some ⟨w1.heap.size + 1 + 1 + 1, 0, none⟩)], .int .i64 x.1.1, .int .i64 x.1.2, undef, .slice (some ⟨gp, 0, none⟩) NN NN, .int .i64 (pre.length : Nat), .pointer (some ⟨gp, pre.length, none⟩), undef, undef, undef, undef, undef, undef, undef, undef, undef, undef, undef, undef, undef, undef, undef, undef, undef], defers := [] } W.drew := by
      rw [hG]
      refine wpAnyIn_ready (rs := [0, 4, 5]) (by kernel_rfl) (by simp) ?_
      refine AllReadyIn.cons rfl (fun K hK => ?_) ?_
      · go_simp
        refine hK _ _ ?_
        rw [← hG]
        exact g0123
      refine AllReadyIn.cons rfl (fun K hK => ?_) ?_
      · go_simp
        refine hK _ _ ?_
        rw [← hG]
        exact g1234
      refine AllReadyIn.cons rfl (fun K hK => ?_) ?_
      · go_simp
        refine hK _ _ ?_
        rw [← hG]
        exact g1235
      exact AllReadyIn.nil
    have g125 : GG 5 #[false, true, true, false, false, true, false, false] { tmps := #[.pointer (some ⟨b.s, 0, none⟩), .int .i64 (n : Nat), .func (.func 74) #[.pointer (some ⟨pp, 0, none⟩)] #[], undef, undef, .pointer (some ⟨w.heap.size, 0, none⟩), .pointer (some ⟨w.heap.size + 1, 0, none⟩), .pointer (some ⟨w.heap.size + 1 + 1, 0, none⟩), .pointer (some ⟨w1.heap.size, 0, none⟩), .pointer (some ⟨w1.heap.size + 1, 0, none⟩), .int .i64 0, .pointer (some ⟨w1.heap.size + 1 + 1, 0, none⟩), .int .i64 x.1.1, .int .i64 x.1.2, undef, .pointer (some ⟨b.s, 0, none⟩), .bool false, .tuple #[.pointer (some ⟨b'.s, 0, none⟩), .slice (some ⟨gp, 0, none⟩) NN NN, .int .i64 0], .pointer (some ⟨b.s, 0, none⟩), .int .i64 (NN : Nat), .int .i64 (n : Nat), .tuple #[.pointer (some ⟨b'.s, 0, none⟩), .slice (some ⟨gp, 0, none⟩) NN NN, .int .i64 0], .pointer (some ⟨b'.s, 0, none⟩), .slice (some ⟨gp, 0, none⟩) NN NN, .int .i64 0, .int .i64 0, .bool false, undef, .func (.func 74) #[.pointer (some ⟨pp, 0, none⟩)] #[], .bool false, .pointer (some ⟨b.s, 0, none⟩), .func (.func 189) #[] #[.pointer (some ⟨w1.heap.size + 1 + 1 + 1, 0, none⟩)], .int .i64 x.1.1, .int .i64 x.1.2, undef, .slice (some ⟨gp, 0, none⟩) NN NN, .int .i64 (pre.length : Nat), undef, undef, .int .i64 x.1.2, undef, undef, undef, undef, undef, undef, undef, undef, undef, undef, undef, undef, undef, undef, undef], defers := [] } W.drew := by
      rw [hG]
      refine wpAnyIn_ready (rs := [0, 3]) (by kernel_rfl) (by simp) ?_
      refine AllReadyIn.cons rfl (fun K hK => ?_) ?_
      · go_simp
        refine hK _ _ ?_
        rw [← hG]
        exact g0125
      refine AllReadyIn.cons rfl (fun K hK => ?_) ?_
      · go_simp
        refine hK _ _ ?_
        rw [← hG]
        exact g1235
      exact AllReadyIn.nil
    have g01 : GG 6 #[true, true, false, false, false, false, false, false] { tmps := #[.pointer (some ⟨b.s, 0, none⟩), .int .i64 (n : Nat), .func (.func 74) #[.pointer (some ⟨pp, 0, none⟩)] #[], undef, undef, .pointer (some ⟨w.heap.size, 0, none⟩), .pointer (some ⟨w.heap.size + 1, 0, none⟩), .pointer (some ⟨w.heap.size + 1 + 1, 0, none⟩), .pointer (some ⟨w1.heap.size, 0, none⟩), .pointer (some ⟨w1.heap.size + 1, 0, none⟩), .int .i64 0, .pointer (some ⟨w1.heap.size + 1 + 1, 0, none⟩), .int .i64 x.1.1, .int .i64 x.1.2, undef, .pointer (some ⟨b.s, 0, none⟩), .bool false, .tuple #[.pointer (some ⟨b'.s, 0, none⟩), .slice (some ⟨gp, 0, none⟩) NN NN, .int .i64 0], .pointer (some ⟨b.s, 0, none⟩), .int .i64 (NN : Nat), .int .i64 (n : Nat), .tuple #[.pointer (some ⟨b'.s, 0, none⟩), .slice (some ⟨gp, 0, none⟩) NN NN, .int .i64 0], .pointer (some ⟨b'.s, 0, none⟩), .slice (some ⟨gp, 0, none⟩) NN NN, .int .i64 0, .int .i64 0, .bool false, undef, .func (.func 74) #[.pointer (some ⟨pp, 0, none⟩)] #[], .bool false, .pointer (some ⟨b.s, 0, none⟩), .func (.func 189) #[] #[.pointer (some ⟨w1.heap.size + 1 + 1 + 1, 0, none⟩)], .int .i64 x.1.1, .int .i64 x.1.2, .pointer (some ⟨b'.s, 0, none⟩), .slice (some ⟨gp, 0, none⟩) NN NN, undef, undef, undef, undef, undef, undef, undef, undef, undef, undef, undef, undef, undef, undef, undef, undef, undef, undef, undef], defers := [] } W.drew := by
      rw [hG]
      refine wpAnyIn_ready (rs := [2, 5]) (by kernel_rfl) (by simp) ?_
      refine AllReadyIn.cons rfl (fun K hK => ?_) ?_
      · go_simp
        refine hK _ _ ?_
        rw [← hG]
        exact g012
      refine AllReadyIn.cons rfl (fun K hK => ?_) ?_
      · go_simp
        refine hK _ _ ?_
        rw [← hG]
        exact g015
      exact AllReadyIn.nil
    have g02 : GG 6 #[true, false, true, false, false, false, false, false] { tmps := #[.pointer (some ⟨b.s, 0, none⟩), .int .i64 (n : Nat), .func (.func 74) #[.pointer (some ⟨pp, 0, none⟩)] #[], undef, undef, .pointer (some ⟨w.heap.size, 0, none⟩), .pointer (some ⟨w.heap.size + 1, 0, none⟩), .pointer (some ⟨w.heap.size + 1 + 1, 0, none⟩), .pointer (some ⟨w1.heap.size, 0, none⟩), .pointer (some ⟨w1.heap.size + 1, 0, none⟩), .int .i64 0, .pointer (some ⟨w1.heap.size + 1 + 1, 0, none⟩), .int .i64 x.1.1, .int .i64 x.1.2, undef, .pointer (some ⟨b.s, 0, none⟩), .bool false, .tuple #[.pointer (some ⟨b'.s, 0, none⟩), .slice (some ⟨gp, 0, none⟩) NN NN, .int .i64 0], .pointer (some ⟨b.s, 0, none⟩), .int .i64 (NN : Nat), .int .i64 (n : Nat), .tuple #[.pointer (some ⟨b'.s, 0, none⟩), .slice (some ⟨gp, 0, none⟩) NN NN, .int .i64 0], .pointer (some ⟨b'.s, 0, none⟩), .slice (some ⟨gp, 0, none⟩) NN NN, .int .i64 0, .int .i64 0, .bool false, undef, .func (.func 74) #[.pointer (some ⟨pp, 0, none⟩)] #[], .bool false, .pointer (some ⟨b.s, 0, none⟩), .func (.func 189) #[] #[.pointer (some ⟨w1.heap.size + 1 + 1 + 1, 0, none⟩)], .int .i64 x.1.1, .int .i64 x.1.2, .pointer (some ⟨b'.s, 0, none⟩), undef, .int .i64 (pre.length : Nat), undef, undef, undef, undef, undef, undef, undef, undef, undef, undef, undef, undef, undef, undef, undef, undef, undef, undef], defers := [] } W.drew := by
      rw [hG]
      refine wpAnyIn_ready (rs := [1, 5]) (by kernel_rfl) (by simp) ?_
      refine AllReadyIn.cons rfl (fun K hK => ?_) ?_
      · go_simp
        refine hK _ _ ?_
        rw [← hG]
        exact g012
      refine AllReadyIn.cons rfl (fun K hK => ?_) ?_
      · go_simp
        refine hK _ _ ?_
        rw [← hG]
        exact g025
      exact AllReadyIn.nil
    have g05 : GG 6 #[true, false, false, false, false, true, false, false] { tmps := #[.pointer (some ⟨b.s, 0, none⟩), .int .i64 (n : Nat), .func (.func 74) #[.pointer (some ⟨pp, 0, none⟩)] #[], undef, undef, .pointer (some ⟨w.heap.size, 0, none⟩), .pointer (some ⟨w.heap.size + 1, 0, none⟩), .pointer (some ⟨w.heap.size + 1 + 1, 0, none⟩), .pointer (some ⟨w1.heap.size, 0, none⟩), .pointer (some ⟨w1.heap.size + 1, 0, none⟩), .int .i64 0, .pointer (some ⟨w1.heap.size + 1 + 1, 0, none⟩), .int .i64 x.1.1, .int .i64 x.1.2, undef, .pointer (some ⟨b.s, 0, none⟩), .bool false, .tuple #[.pointer (some ⟨b'.s, 0, none⟩), .slice (some ⟨gp, 0, none⟩) NN NN, .int .i64 0], .pointer (some ⟨b.s, 0, none⟩), .int .i64 (NN : Nat), .int .i64 (n : Nat), .tuple #[.pointer (some ⟨b'.s, 0, none⟩), .slice (some ⟨gp, 0, none⟩) NN NN, .int .i64 0], .pointer (some ⟨b'.s, 0, none⟩), .slice (some ⟨gp, 0, none⟩) NN NN, .int .i64 0, .int .i64 0, .bool false, undef, .func (.func 74) #[.pointer (some ⟨pp, 0, none⟩)] #[], .bool false, .pointer (some ⟨b.s, 0, none⟩), .func (.func 189) #[] #[.pointer (some ⟨w1.heap.size + 1 + 1 + 1, 0, none⟩)], .int .i64 x.1.1, .int .i64 x.1.2, .pointer (some ⟨b'.s, 0, none⟩), undef, undef, undef, undef, .int .i64 x.1.2, undef, undef, undef, undef, undef, undef, undef, undef, undef, undef, undef, undef, undef, undef, undef], defers := [] } W.drew := by
      rw [hG]
      refine wpAnyIn_ready (rs := [1, 2]) (by kernel_rfl) (by simp) ?_
      refine AllReadyIn.cons rfl (fun K hK => ?_) ?_
      · go_simp
        refine hK _ _ ?_
        rw [← hG]
        exact g015
      refine AllReadyIn.cons rfl (fun K hK => ?_) ?_
      · go_simp
        refine hK _ _ ?_
        rw [← hG]
        exact g025
      exact AllReadyIn.nil
    have g12 : GG 6 #[false, true, true, false, false, false, false, false] { tmps := #[.pointer (some ⟨b.s, 0, none⟩), .int .i64 (n : Nat), .func (.func 74) #[.pointer (some ⟨pp, 0, none⟩)] #[], undef, undef, .pointer (some ⟨w.heap.size, 0, none⟩), .pointer (some ⟨w.heap.size + 1, 0, none⟩), .pointer (some ⟨w.heap.size + 1 + 1, 0, none⟩), .pointer (some ⟨w1.heap.size, 0, none⟩), .pointer (some ⟨w1.heap.size + 1, 0, none⟩), .int .i64 0, .pointer (some ⟨w1.heap.size + 1 + 1, 0, none⟩), .int .i64 x.1.1, .int .i64 x.1.2, undef, .pointer (some ⟨b.s, 0, none⟩), .bool false, .tuple #[.pointer (some ⟨b'.s, 0, none⟩), .slice (some ⟨gp, 0, none⟩) NN NN, .int .i64 0], .pointer (some ⟨b.s, 0, none⟩), .int .i64 (NN : Nat), .int .i64 (n : Nat), .tuple #[.pointer (some ⟨b'.s, 0, none⟩), .slice (some ⟨gp, 0, none⟩) NN NN, .int .i64 0], .pointer (some ⟨b'.s, 0, none⟩), .slice (some ⟨gp, 0, none⟩) NN NN, .int .i64 0, .int .i64 0, .bool false, undef, .func (.func 74) #[.pointer (some ⟨pp, 0, none⟩)] #[], .bool false, .pointer (some ⟨b.s, 0, none⟩), .func (.func 189) #[] #[.pointer (some ⟨w1.heap.size + 1 + 1 + 1, 0, none⟩)], .int .i64 x.1.1, .int .i64 x.1.2, undef, .slice (some ⟨gp, 0, none⟩) NN NN, .int .i64 (pre.length : Nat), undef, undef, undef, undef, undef, undef, undef, undef, undef, undef, undef, undef, undef, undef, undef, undef, undef, undef], defers := [] } W.drew := by
      rw [hG]
      refine wpAnyIn_ready (rs := [0, 3, 5]) (by kernel_rfl) (by simp) ?_
      refine AllReadyIn.cons rfl (fun K hK => ?_) ?_
      · go_simp
        refine hK _ _ ?_
        rw [← hG]
        exact g012
      refine AllReadyIn.cons rfl (fun K hK => ?_) ?_
      · go_simp
        refine hK _ _ ?_
        rw [← hG]
        exact g123
      refine AllReadyIn.cons rfl (fun K hK => ?_) ?_
      · go_simp
        refine hK _ _ ?_
        rw [← hG]
        exact g125
      exact AllReadyIn.nil
    have g15 : GG 6 #[false, true, false, false, false, true, false, false] { tmps := #[.pointer (some ⟨b.s, 0, none⟩), .int .i64 (n : Nat), .func (.func 74) #[.pointer (some ⟨pp, 0, none⟩)] #[], undef, undef, .pointer (some ⟨w.heap.size, 0, none⟩), .pointer (some ⟨w.heap.size + 1, 0, none⟩), .pointer (some ⟨w.heap.size + 1 + 1, 0, none⟩), .pointer (some ⟨w1.heap.size, 0, none⟩), .pointer (some ⟨w1.heap.size + 1, 0, none⟩), .int .i64 0, .pointer (some ⟨w1.heap.size + 1 + 1, 0, none⟩), .int .i64 x.1.1, .int .i64 x.1.2, undef, .pointer (some ⟨b.s, 0, none⟩), .bool false, .tuple #[.pointer (some ⟨b'.s, 0, none⟩), .slice (some ⟨gp, 0, none⟩) NN NN, .int .i64 0], .pointer (some ⟨b.s, 0, none⟩), .int .i64 (NN : Nat), .int .i64 (n : Nat), .tuple #[.pointer (some ⟨b'.s, 0, none⟩), .slice (some ⟨gp, 0, none⟩) NN NN, .int .i64 0], .pointer (some ⟨b'.s, 0, none⟩), .slice (some ⟨gp, 0, none⟩) NN NN, .int .i64 0, .int .i64 0, .bool false, undef, .func (.func 74) #[.pointer (some ⟨pp, 0, none⟩)] #[], .bool false, .pointer (some ⟨b.s, 0, none⟩), .func (.func 189) #[] #[.pointer (some ⟨w1.heap.size + 1 + 1 + 1, 0, none⟩)], .int .i64 x.1.1, .int .i64 x.1.2, undef, .slice (some ⟨gp, 0, none⟩) NN NN, undef, undef, undef, .int .i64 x.1.2, undef, undef, undef, undef, undef, undef, undef, undef, undef, undef, undef, undef, undef, undef, undef], defers := [] } W.drew := by
      rw [hG]
      refine wpAnyIn_ready (rs := [0, 2]) (by kernel_rfl) (by simp) ?_
      refine AllReadyIn.cons rfl (fun K hK => ?_) ?_
      · go_simp
        refine hK _ _ ?_
        rw [← hG]
        exact g015
      refine AllReadyIn.cons rfl (fun K hK => ?_) ?_
      · go_simp
        refine hK _ _ ?_
        rw [← hG]
        exact g125
      exact AllReadyIn.nil
    have g25 : GG 6 #[false, false, true, false, false, true, false, false] { tmps := #[.pointer (some ⟨b.s, 0, none⟩), .int .i64 (n : Nat), .func (.func 74) #[.pointer (some ⟨pp, 0, none⟩)] #[], undef, undef, .pointer (some ⟨w.heap.size, 0, none⟩), .pointer (some ⟨w.heap.size + 1, 0, none⟩), .pointer (some ⟨w.heap.size + 1 + 1, 0, none⟩), .pointer (some ⟨w1.heap.size, 0, none⟩), .pointer (some ⟨w1.heap.size + 1, 0, none⟩), .int .i64 0, .pointer (some ⟨w1.heap.size + 1 + 1, 0, none⟩), .int .i64 x.1.1, .int .i64 x.1.2, undef, .pointer (some ⟨b.s, 0, none⟩), .bool false, .tuple #[.pointer (some ⟨b'.s, 0, none⟩), .slice (some ⟨gp, 0, none⟩) NN NN, .int .i64 0], .pointer (some ⟨b.s, 0, none⟩), .int .i64 (NN : Nat), .int .i64 (n : Nat), .tuple #[.pointer (some ⟨b'.s, 0, none⟩), .slice (some ⟨gp, 0, none⟩) NN NN, .int .i64 0], .pointer (some ⟨b'.s, 0, none⟩), .slice (some ⟨gp, 0, none⟩) NN NN, .int .i64 0, .int .i64 0, .bool false, undef, .func (.func 74) #[.pointer (some ⟨pp, 0, none⟩)] #[], .bool false, .pointer (some ⟨b.s, 0, none⟩), .func (.func 189) #[] #[.pointer (some ⟨w1.heap.size + 1 + 1 + 1, 0, none⟩)], .int .i64 x.1.1, .int .i64 x.1.2, undef, undef, .int .i64 (pre.length : Nat), undef, undef, .int .i64 x.1.2, undef, undef, undef, undef, undef, undef, undef, undef, undef, undef, undef, undef, undef, undef, undef], defers := [] } W.drew := by
      rw [hG]
      refine wpAnyIn_ready (rs := [0, 1]) (by kernel_rfl) (by simp) ?_
      refine AllReadyIn.cons rfl (fun K hK => ?_) ?_
      · go_simp
        refine hK _ _ ?_
        rw [← hG]
        exact g025
      refine AllReadyIn.cons rfl (fun K hK => ?_) ?_
      · go_simp
        refine hK _ _ ?_
        rw [← hG]
        exact g125
      exact AllReadyIn.nil
    have g0 : GG 7 #[true, false, false, false, false, false, false, false] { tmps := #[.pointer (some ⟨b.s, 0, none⟩), .int .i64 (n : Nat), .func (.func 74) #[.pointer (some ⟨pp, 0, none⟩)] #[], undef, undef, .pointer (some ⟨w.heap.size, 0, none⟩), .pointer (some ⟨w.heap.size + 1, 0, none⟩), .pointer (some ⟨w.heap.size + 1 + 1, 0, none⟩), .pointer (some ⟨w1.heap.size, 0, none⟩), .pointer (some ⟨w1.heap.size + 1, 0, none⟩), .int .i64 0, .pointer (some ⟨w1.heap.size + 1 + 1, 0, none⟩), .int .i64 x.1.1, .int .i64 x.1.2, undef, .pointer (some ⟨b.s, 0, none⟩), .bool false, .tuple #[.pointer (some ⟨b'.s, 0, none⟩), .slice (some ⟨gp, 0, none⟩) NN NN, .int .i64 0], .pointer (some ⟨b.s, 0, none⟩), .int .i64 (NN : Nat), .int .i64 (n : Nat), .tuple #[.pointer (some ⟨b'.s, 0, none⟩), .slice (some ⟨gp, 0, none⟩) NN NN, .int .i64 0], .pointer (some ⟨b'.s, 0, none⟩), .slice (some ⟨gp, 0, none⟩) NN NN, .int .i64 0, .int .i64 0, .bool false, undef, .func (.func 74) #[.pointer (some ⟨pp, 0, none⟩)] #[], .bool false, .pointer (some ⟨b.s, 0, none⟩), .func (.func 189) #[] #[.pointer (some ⟨w1.heap.size + 1 + 1 + 1, 0, none⟩)], .int .i64 x.1.1, .int .i64 x.1.2, .pointer (some ⟨b'.s, 0, none⟩), undef, undef, undef, undef, undef, undef, undef, undef, undef, undef, undef, undef, undef, undef, undef, undef, undef, undef, undef, undef], defers := [] } W.drew := by
      rw [hG]
      refine wpAnyIn_ready (rs := [1, 2, 5]) (by kernel_rfl) (by simp) ?_
      refine AllReadyIn.cons rfl (fun K hK => ?_) ?_
      · go_simp
        refine hK _ _ ?_
        rw [← hG]
        exact g01
      refine AllReadyIn.cons rfl (fun K hK => ?_) ?_
      · go_simp
        refine hK _ _ ?_
        rw [← hG]
        exact g02
      refine AllReadyIn.cons rfl (fun K hK => ?_) ?_
      · go_simp
        refine hK _ _ ?_
        rw [← hG]
        exact g05
      exact AllReadyIn.nil
    have g1 : GG 7 #[false, true, false, false, false, false, false, false] { tmps := #[.pointer (some ⟨b.s, 0, none⟩), .int .i64 (n : Nat), .func (.func 74) #[.pointer (some ⟨pp, 0, none⟩)] #[], undef, undef, .pointer (some ⟨w.heap.size, 0, none⟩), .pointer (some ⟨w.heap.size + 1, 0, none⟩), .pointer (some ⟨w.heap.size + 1 + 1, 0, none⟩), .pointer (some ⟨w1.heap.size, 0, none⟩), .pointer (some ⟨w1.heap.size + 1, 0, none⟩), .int .i64 0, .pointer (some ⟨w1.heap.size + 1 + 1, 0, none⟩), .int .i64 x.1.1, .int .i64 x.1.2, undef, .pointer (some ⟨b.s, 0, none⟩), .bool false, .tuple #[.pointer (some ⟨b'.s, 0, none⟩), .slice (some ⟨gp, 0, none⟩) NN NN, .int .i64 0], .pointer (some ⟨b.s, 0, none⟩), .int .i64 (NN : Nat), .int .i64 (n : Nat), .tuple #[.pointer (some ⟨b'.s, 0, none⟩), .slice (some ⟨gp, 0, none⟩) NN NN, .int .i64 0], .pointer (some ⟨b'.s, 0, none⟩), .slice (some ⟨gp, 0, none⟩) NN NN, .int .i64 0, .int .i64 0, .bool false, undef, .func (.func 74) #[.pointer (some ⟨pp, 0, none⟩)] #[], .bool false, .pointer (some ⟨b.s, 0, none⟩), .func (.func 189) #[] #[.pointer (some ⟨w1.heap.size + 1 + 1 + 1, 0, none⟩)], .int .i64 x.1.1, .int .i64 x.1.2, undef, .slice (some ⟨gp, 0, none⟩) NN NN, undef, undef, undef, undef, undef, undef, undef, undef, undef, undef, undef, undef, undef, undef, undef, undef, undef, undef, undef], defers := [] } W.drew := by
      rw [hG]
      refine wpAnyIn_ready (rs := [0, 2, 5]) (by kernel_rfl) (by simp) ?_
      refine AllReadyIn.cons rfl (fun K hK => ?_) ?_
      · go_simp
        refine hK _ _ ?_
        rw [← hG]
        exact g01
      refine AllReadyIn.cons rfl (fun K hK => ?_) ?_
      · go_simp
        refine hK _ _ ?_
        rw [← hG]
        exact g12
      refine AllReadyIn.cons rfl (fun K hK => ?_) ?_
      · go_simp
        refine hK _ _ ?_
        rw [← hG]
        exact g15
      exact AllReadyIn.nil
    have g2 : GG 7 #[false, false, true, false, false, false, false, false] { tmps := #[.pointer (some ⟨b.s, 0, none⟩), .int .i64 (n : Nat), .func (.func 74) #[.pointer (some ⟨pp, 0, none⟩)] #[], undef, undef, .pointer (some ⟨w.heap.size, 0, none⟩), .pointer (some ⟨w.heap.size + 1, 0, none⟩), .pointer (some ⟨w.heap.size + 1 + 1, 0, none⟩), .pointer (some ⟨w1.heap.size, 0, none⟩), .pointer (some ⟨w1.heap.size + 1, 0, none⟩), .int .i64 0, .pointer (some ⟨w1.heap.size + 1 + 1, 0, none⟩), .int .i64 x.1.1, .int .i64 x.1.2, undef, .pointer (some ⟨b.s, 0, none⟩), .bool false, .tuple #[.pointer (some ⟨b'.s, 0, none⟩), .slice (some ⟨gp, 0, none⟩) NN NN, .int .i64 0], .pointer (some ⟨b.s, 0, none⟩), .int .i64 (NN : Nat), .int .i64 (n : Nat), .tuple #[.pointer (some ⟨b'.s, 0, none⟩), .slice (some ⟨gp, 0, none⟩) NN NN, .int .i64 0], .pointer (some ⟨b'.s, 0, none⟩), .slice (some ⟨gp, 0, none⟩) NN NN, .int .i64 0, .int .i64 0, .bool false, undef, .func (.func 74) #[.pointer (some ⟨pp, 0, none⟩)] #[], .bool false, .pointer (some ⟨b.s, 0, none⟩), .func (.func 189) #[] #[.pointer (some ⟨w1.heap.size + 1 + 1 + 1, 0, none⟩)], .int .i64 x.1.1, .int .i64 x.1.2, undef, undef, .int .i64 (pre.length : Nat), undef, undef, undef, undef, undef, undef, undef, undef, undef, undef, undef, undef, undef, undef, undef, undef, undef, undef], defers := [] } W.drew := by
      rw [hG]
      refine wpAnyIn_ready (rs := [0, 1, 5]) (by kernel_rfl) (by simp) ?_
      refine AllReadyIn.cons rfl (fun K hK => ?_) ?_
      · go_simp
        refine hK _ _ ?_
        rw [← hG]
        exact g02
      refine AllReadyIn.cons rfl (fun K hK => ?_) ?_
      · go_simp
        refine hK _ _ ?_
        rw [← hG]
        exact g12
      refine AllReadyIn.cons rfl (fun K hK => ?_) ?_
      · go_simp
        refine hK _ _ ?_
        rw [← hG]
        exact g25
      exact AllReadyIn.nil
    have g5 : GG 7 #[false, false, false, false, false, true, false, false] { tmps := #[.pointer (some ⟨b.s, 0, none⟩), .int .i64 (n : Nat), .func (.func 74) #[.pointer (some ⟨pp, 0, none⟩)] #[], undef, undef, .pointer (some ⟨w.heap.size, 0, none⟩), .pointer (some ⟨w.heap.size + 1, 0, none⟩), .pointer (some ⟨w.heap.size + 1 + 1, 0, none⟩), .pointer (some ⟨w1.heap.size, 0, none⟩), .pointer (some ⟨w1.heap.size + 1, 0, none⟩), .int .i64 0, .pointer (some ⟨w1.heap.size + 1 + 1, 0, none⟩), .int .i64 x.1.1, .int .i64 x.1.2, undef, .pointer (some ⟨b.s, 0, none⟩), .bool false, .tuple #[.pointer (some ⟨b'.s, 0, none⟩), .slice (some ⟨gp, 0, none⟩) NN NN, .int .i64 0], .pointer (some ⟨b.s, 0, none⟩), .int .i64 (NN : Nat), .int .i64 (n : Nat), .tuple #[.pointer (some ⟨b'.s, 0, none⟩), .slice (some ⟨gp, 0, none⟩) NN NN, .int .i64 0], .pointer (some ⟨b'.s, 0, none⟩), .slice (some ⟨gp, 0, none⟩) NN NN, .int .i64 0, .int .i64 0, .bool false, undef, .func (.func 74) #[.pointer (some ⟨pp, 0, none⟩)] #[], .bool false, .pointer (some ⟨b.s, 0, none⟩), .func (.func 189) #[] #[.pointer (some ⟨w1.heap.size + 1 + 1 + 1, 0, none⟩)], .int .i64 x.1.1, .int .i64 x.1.2, undef, undef, undef, undef, undef, .int .i64 x.1.2, undef, undef, undef, undef, undef, undef, undef, undef, undef, undef, undef, undef, undef, undef, undef], defers := [] } W.drew := by
      rw [hG]
      refine wpAnyIn_ready (rs := [0, 1, 2]) (by kernel_rfl) (by simp) ?_
      refine AllReadyIn.cons rfl (fun K hK => ?_) ?_
      · go_simp
        refine hK _ _ ?_
        rw [← hG]
        exact g05
      refine AllReadyIn.cons rfl (fun K hK => ?_) ?_
      · go_simp
        refine hK _ _ ?_
        rw [← hG]
        exact g15
      refine AllReadyIn.cons rfl (fun K hK => ?_) ?_
      · go_simp
        refine hK _ _ ?_
        rw [← hG]
        exact g25
      exact AllReadyIn.nil
    have g : GG 8 #[false, false, false, false, false, false, false, false] { tmps := #[.pointer (some ⟨b.s, 0, none⟩), .int .i64 (n : Nat), .func (.func 74) #[.pointer (some ⟨pp, 0, none⟩)] #[], undef, undef, .pointer (some ⟨w.heap.size, 0, none⟩), .pointer (some ⟨w.heap.size + 1, 0, none⟩), .pointer (some ⟨w.heap.size + 1 + 1, 0, none⟩), .pointer (some ⟨w1.heap.size, 0, none⟩), .pointer (some ⟨w1.heap.size + 1, 0, none⟩), .int .i64 0, .pointer (some ⟨w1.heap.size + 1 + 1, 0, none⟩), .int .i64 x.1.1, .int .i64 x.1.2, undef, .pointer (some ⟨b.s, 0, none⟩), .bool false, .tuple #[.pointer (some ⟨b'.s, 0, none⟩), .slice (some ⟨gp, 0, none⟩) NN NN, .int .i64 0], .pointer (some ⟨b.s, 0, none⟩), .int .i64 (NN : Nat), .int .i64 (n : Nat), .tuple #[.pointer (some ⟨b'.s, 0, none⟩), .slice (some ⟨gp, 0, none⟩) NN NN, .int .i64 0], .pointer (some ⟨b'.s, 0, none⟩), .slice (some ⟨gp, 0, none⟩) NN NN, .int .i64 0, .int .i64 0, .bool false, undef, .func (.func 74) #[.pointer (some ⟨pp, 0, none⟩)] #[], .bool false, .pointer (some ⟨b.s, 0, none⟩), .func (.func 189) #[] #[.pointer (some ⟨w1.heap.size + 1 + 1 + 1, 0, none⟩)], .int .i64 x.1.1, .int .i64 x.1.2, undef, undef, undef, undef, undef, undef, undef, undef, undef, undef, undef, undef, undef, undef, undef, undef, undef, undef, undef, undef, undef], defers := [] } W.drew := by
      rw [hG]
      refine wpAnyIn_ready (rs := [0, 1, 2, 5]) (by kernel_rfl) (by simp) ?_
      refine AllReadyIn.cons rfl (fun K hK => ?_) ?_
      · go_simp
        refine hK _ _ ?_
        rw [← hG]
        exact g0
      refine AllReadyIn.cons rfl (fun K hK => ?_) ?_
      · go_simp
        refine hK _ _ ?_
        rw [← hG]
        exact g1
      refine AllReadyIn.cons rfl (fun K hK => ?_) ?_
      · go_simp
        refine hK _ _ ?_
        rw [← hG]
        exact g2
      refine AllReadyIn.cons rfl (fun K hK => ?_) ?_
      · go_simp
        refine hK _ _ ?_
        rw [← hG]
        exact g5
      exact AllReadyIn.nil
    exact g
  case done =>
    rintro D ys W hD rfl hRZ hK
    have hmap : (prsH r xs hI).map (fun x => x.1.2) = its r xs := by
      have h1 := prsH_map r xs hI
      have h2 := prs_snd r xs
      rw [← h2, ← h1, List.map_map]
      rfl
    rw [hmap] at hRZ
    have hlen : (its r xs).length = NN := by rw [its_len, lr]; exact hNN
    have c8 : W.cell? ⟨w1.heap.size, 0, none⟩ = some (.pointer (some ⟨b'.s, 0, none⟩)) := by rw [hRZ.e4.cell]; rfl
    have c6 : W.cell? ⟨w.heap.size + 1, 0, none⟩ = some (.pointer none) := by rw [hRZ.e2.cell]; rfl
    have c7 : W.cell? ⟨w.heap.size + 1 + 1, 0, none⟩ = some (.int .i64 0) := by rw [hRZ.e3.cell]; rfl
    have f6 := hRZ.e2.frozen 0
    have f7 := hRZ.e3.frozen 0
    gi_wp2_with fail
    have hlt1 := hRC.hs
    have z2 := hRZ.e2.put 0 (.pointer (some ⟨b'.s, 0, none⟩))
    have z3 := (hRZ.e3.far (p := ⟨w.heap.size + 1, 0, none⟩) (by simp) (.pointer (some ⟨b'.s, 0, none⟩))).put 0 (.int .i64 0)
    have z2' := z2.far (p := ⟨w.heap.size + 1 + 1, 0, none⟩) (by simp) (.int .i64 0)
    have hOf : Only (fun i => i = w.heap.size + 1 ∨ i = w.heap.size + 1 + 1) W ((W.setCell ⟨w.heap.size + 1, 0, none⟩ (.pointer (some ⟨b'.s, 0, none⟩))).setCell ⟨w.heap.size + 1 + 1, 0, none⟩ (.int .i64 0)) :=
      ((Only.refl (fun i => i = w.heap.size + 1 ∨ i = w.heap.size + 1 + 1) W).put (p := ⟨w.heap.size + 1, 0, none⟩) (.inl (.inl rfl)) _).put (p := ⟨w.heap.size + 1 + 1, 0, none⟩) (.inl (.inr rfl)) _
    have sm1 := hRZ.sm.only hOf fun i hi q => by have := (hRC.hb i hi).1; omega
    have tk1 := hRZ.tk.only hOf fun bb e => by have := hRC.hk bb e; omega
    have pw1 := Blk.only hRZ.pw hOf (by have := hRC.hp; omega)
    have on1 := hRZ.on.trans' hOf fun i hi q => by omega
    rw [hlen] at sm1 tk1
    have hKD : ((W.setCell ⟨w.heap.size + 1, 0, none⟩ (.pointer (some ⟨b'.s, 0, none⟩))).setCell ⟨w.heap.size + 1 + 1, 0, none⟩ (.int .i64 0)).heap[D]? = some (.deferred (some [])) :=
      (Below.heap_setCell _ _ _ D (by show D ≠ w.heap.size + 1 + 1; omega)).trans ((Below.heap_setCell _ _ _ D (by show D ≠ w.heap.size + 1; omega)).trans hK)
    generalize ((W.setCell ⟨w.heap.size + 1, 0, none⟩ (.pointer (some ⟨b'.s, 0, none⟩))).setCell ⟨w.heap.size + 1 + 1, 0, none⟩ (.int .i64 0)) = Wf at *
    refine ⟨by simp, .inl ⟨_, _, rfl, run_takeDeferred hKD, ?_⟩⟩
    have hg := grownBy_putObj' Wf D (.deferred none)
    have hgo : Only (fun i => i = D) Wf (Wf.putObj D (.deferred none)) := Only.of_grown hg fun r e => by injection e with e; exact e.symm
    have y2 := z2'.grown hg (by intro e; injection e with e; omega)
    have y3 := z3.grown hg (by intro e; injection e with e; omega)
    refine ⟨_, results_cc rfl _ rfl rfl (loadVar105 (by rw [y2.cell]; rfl)) (loadVar28 (by rw [y3.cell]; rfl)), ?_⟩
    refine ⟨b', rfl, sm1.only hgo fun i hi => by have := (hRC.hb i hi).2; omega, tk1.only hgo fun bb e => by have := hRC.hk bb e; omega, fun i hi => by have := (hRC.hb i hi).1; omega, Blk.only pw1 hgo (by have := hRC.hp; omega), on1.trans' hgo fun i hi q => by omega⟩
  case stop =>
    rintro D c pre W _ _ hh _
    exact hh.elim
end
end Go.Proofs.YtaonkbfekadalaaGreatDoor
