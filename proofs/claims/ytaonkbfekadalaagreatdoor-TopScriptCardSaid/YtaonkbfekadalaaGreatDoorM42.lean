/- Joined texts: Vc, Vd, Ve, Vf. -/
import Derived.Test.YtaonkbfekadalaaGreatDoorM39
/- The audit of a set: what Sorted, Keys, row and Set come to. -/
namespace Go.Proofs.YtaonkbfekadalaaGreatDoor
open Go.RowKit Go.Shelf
attribute [local go_sem] Oper.semAt_some
set_option linter.unusedVariables false

theorem results_c1 {fn : Func} {p : Tmp} {t1 : TypeId} {P : Program} {w : World} {a1 : Addr} {v1 : Value} (h : fn.results = #[.cell p t1]) (tmps : Array Value) (hp : tmps.getD p undef = .pointer (some a1))
    (l1 : (loadVar t1 a1).run P w = .ok v1 w) : (results fn tmps).run P w = .ok v1 w := by
  have hp' : tmps[p]?.getD undef = .pointer (some a1) := by simpa using hp
  simp [results, h, hp', asAddr, l1]
theorem loadVar4 {w : World} {a : Addr} {v : Value} (h : w.cell? a = some v) : (loadVar 4 a).run Tryz.prog w = .ok v w := by
  simp [loadVar, go_sem, Tryz.isAgg4, h]
theorem snd_prefix {pre : List (Int × Int)} {x : Int × Int} {r : List Bool} {xs : List Int} (h : pre ++ [x] <+: prs r xs) : (pre ++ [x]).map Prod.snd <+: its r xs := by
  rw [← prs_snd r xs]
  obtain ⟨l, hl⟩ := h
  exact ⟨l.map Prod.snd, by rw [← hl]; simp⟩
theorem nth_prefix {a b : List Int} (h : a <+: b) {j : Nat} (hj : j < a.length) : nth b j = nth a j := by
  obtain ⟨l, rfl⟩ := h
  unfold nth
  simp [List.getElem?_append_left hj]
theorem rise_last {p : List (Int × Int)} {y x : Int × Int} {r : List Bool} {xs : List Int} (hR : Rise (its r xs)) (h : p ++ [y] ++ [x] <+: prs r xs) : y.2 < x.2 := by
  have h1 := snd_prefix h
  have hlen := h1.length_le
  simp at hlen
  have h2 := hR p.length (p.length + 1) (by omega) (by omega)
  rw [nth_prefix h1 (by simp), nth_prefix h1 (by simp)] at h2
  simpa [nth] using h2
def SoI (w : World) (r : List Bool) (xs : List Int) (pre : List (Int × Int)) (W : World) : Prop := ∃ (f : Bool) (z : Int), Blk W w.heap.size 4 #[.bool false] ∧ Blk W (w.heap.size + 1) 4 #[.bool f] ∧ Blk W (w.heap.size + 2) 3 #[.int .i64 z] ∧ (pre <+: prs r xs → (pre = [] ∧ f = true) ∨ (f = false ∧ ∃ p y, pre = p ++ [y] ∧ z = y.2)) ∧ Below w.heap.size w W ∧ w.heap.size + 4 ≤ W.heap.size
section
variable {w w' : World} {b : SB} {n : Nat} {r : List Bool} {xs L : List Int}
set_option maxRecDepth 100000 in
set_option maxHeartbeats 4000000 in
theorem Sorted_ok (h : SM w b n r xs) (hT : Tab w) (hR : Rise (its r xs)) :
    Calls Tryz.prog 93 #[.pointer (some ⟨b.s, 0, none⟩)] w fun e w' => e = .returned (.bool true) ∧ Below w.heap.size w w' := by
  have bd := h.bd
  have lr := h.lr
  have q0 := Blk.made w 4 #[.bool false]
  have q1 := Blk.made (w.alloc (.cells #[.bool false] 4)) 4 #[.bool true]
  have q2 := Blk.made ((w.alloc (.cells #[.bool false] 4)).alloc (.cells #[.bool true] 4)) 3 #[.int .i64 0]
  simp only [World.size_alloc] at q1 q2
  replace q0 := (q0.alloc (.cells #[.bool true] 4)).alloc (.cells #[.int .i64 0] 3)
  replace q1 := q1.alloc (.cells #[.int .i64 0] 3)
  have hB0 : Below w.heap.size w (((w.alloc (.cells #[.bool false] 4)).alloc (.cells #[.bool true] 4)).alloc (.cells #[.int .i64 0] 3)) :=
    (((Below.refl w.heap.size w).alloc (Nat.le_refl _) _).alloc (by simp) _).alloc (by simp; omega) _
  have hz : (((w.alloc (.cells #[.bool false] 4)).alloc (.cells #[.bool true] 4)).alloc (.cells #[.int .i64 0] 3)).heap.size = w.heap.size + 3 := by simp
  have h0 := h.below hB0
  have T0 := hT.below hB0
  refine (callsIn_wide (n := 3)).1 ?_
  refine callsIn_of_wp_marks Tryz.func93 rfl trivial ?_ rfl
  simp only [Tryz.ntmps93, List.size_toArray, List.length_cons, List.length_nil, Nat.reduceAdd, Nat.reduceSub, Array.replicate_succ, Array.replicate_zero, List.push_toArray, List.append_toArray, List.nil_append, List.cons_append]
  gi_wp2_with fail
  refine ⟨trivial, ?_⟩
  refine (callsIn_wide.2 (all_any b.s _)).mono ?_
  rintro e w' ⟨rfl, rfl⟩
  gi_wp2_with fail
  have q3 := Blk.made (((w.alloc (.cells #[.bool false] 4)).alloc (.cells #[.bool true] 4)).alloc (.cells #[.int .i64 0] 3)) 105 #[.pointer (some ⟨b.s, 0, none⟩)]
  rw [hz] at q3
  have hBx : Below (w.heap.size + 3) (((w.alloc (.cells #[.bool false] 4)).alloc (.cells #[.bool true] 4)).alloc (.cells #[.int .i64 0] 3)) ((((w.alloc (.cells #[.bool false] 4)).alloc (.cells #[.bool true] 4)).alloc (.cells #[.int .i64 0] 3)).alloc (.cells #[.pointer (some ⟨b.s, 0, none⟩)] 105)) := (Below.refl _ _).alloc (by omega) _
  have hz1 : ((((w.alloc (.cells #[.bool false] 4)).alloc (.cells #[.bool true] 4)).alloc (.cells #[.int .i64 0] 3)).alloc (.cells #[.pointer (some ⟨b.s, 0, none⟩)] 105)).heap.size = w.heap.size + 4 := by simp
  replace q0 := q0.alloc (.cells #[.pointer (some ⟨b.s, 0, none⟩)] 105)
  replace q1 := q1.alloc (.cells #[.pointer (some ⟨b.s, 0, none⟩)] 105)
  replace q2 := q2.alloc (.cells #[.pointer (some ⟨b.s, 0, none⟩)] 105)
  replace h0 := h0.below (hBx.mono (by omega))
  replace T0 := T0.below (hBx.mono (by omega))
  replace hB0 := hB0.trans (hBx.mono (by omega))
  generalize ((((w.alloc (.cells #[.bool false] 4)).alloc (.cells #[.bool true] 4)).alloc (.cells #[.int .i64 0] 3)).alloc (.cells #[.pointer (some ⟨b.s, 0, none⟩)] 105)) = W0 at *
  have hlt : ∀ i, b.has i → i < w.heap.size := fun i hi => h.lt hi
  have h2 := hT.pos
  refine wpIn_rangeFunc_ownF rfl (by decide) (gf := 189) (lb := #[.pointer (some ⟨w.heap.size + 3, 0, none⟩)]) rfl trivial (enters_of Tryz.func189 (by kernel_rfl) rfl)
    (all_stops _ (w.heap.size + 3) (fun g => g = w.heap.size ∨ g = w.heap.size + 1 ∨ g = w.heap.size + 2) W0 h0 T0 q3 (fun i hi => by have := hlt i hi; omega) (by omega) (by omega))
    Kx.trans (fun W l o o' _ hl ho _ => Kx.putObj W l o o' hl ho) (Below.refl _ _) (fun _ => rfl)
    (SoI w r xs)
    (fun c pre W => ¬ (pre <+: prs r xs))
    (fun pre A B row hs hg hr => by
      obtain ⟨f, z, a1, a2, a3, a4, a5, a6⟩ := hs
      have hne : ∀ i, i < W0.heap.size → some i ≠ row := fun i hi e => by have := (hr i e.symm).1; omega
      exact ⟨f, z, a1.grown hg (hne _ (by omega)), a2.grown hg (hne _ (by omega)), a3.grown hg (hne _ (by omega)), a4, a5.grown hg a5.size (fun k e => by have := (hr k e).1; omega), Nat.le_trans a6 hg.size⟩)
    (fun _ _ _ _ _ hs _ _ => hs)
    ⟨true, 0, q0, q1, q2, fun _ => .inl ⟨rfl, rfl⟩, hB0, by omega⟩
    (fun x => { tmps := #[.pointer (some ⟨b.s, 0, none⟩), undef, .pointer (some ⟨w.heap.size, 0, none⟩), .pointer (some ⟨w.heap.size + 1, 0, none⟩), .pointer (some ⟨w.heap.size + 2, 0, none⟩), undef, .int .i64 x.2, .pointer (some ⟨b.s, 0, none⟩), .func (.func 189) #[] #[.pointer (some ⟨w.heap.size + 3, 0, none⟩)], .int .i64 x.1, .int .i64 x.2, undef, undef, undef, undef, undef, undef, undef, undef], defers := [] }) ?assign ?body ?done ?stop
  case assign =>
    intro l x W K hK
    simp only [enc2]
    gi_wp2
    exact hK
  case body =>
    rintro l pre x W ⟨f, z, a1, a2, a3, a4, a5, a6⟩ hlen
    have c0 : W.cell? ⟨w.heap.size, 0, none⟩ = some (.bool false) := by rw [a1.cell]; rfl
    have c1 : W.cell? ⟨w.heap.size + 1, 0, none⟩ = some (.bool f) := by rw [a2.cell]; rfl
    have c2 : W.cell? ⟨w.heap.size + 2, 0, none⟩ = some (.int .i64 z) := by rw [a3.cell]; rfl
    have f0 := a1.frozen 0
    have f1 := a2.frozen 0
    have f2 := a3.frozen 0
    have HA := Lib.hid (And.intro a1 (And.intro a2 (And.intro a3 (And.intro a4 (And.intro a5 a6)))))
    clear a1 a2 a3 a4 a5 a6
    generalize hx1 : x.1 = x1 at *
    generalize hx2 : x.2 = x2 at *
    have HX := Lib.hid (And.intro hx1 hx2)
    clear hx1 hx2
    cases f
    · by_cases hle : x2 ≤ z
      · gi_wp2_with fail
        obtain ⟨a1, a2, a3, a4, a5, a6⟩ := HA.out
        refine ⟨KeepsOthers.setCell _ _ _, fun hp => ?_⟩
        have hpp : pre <+: prs r xs := (List.prefix_append pre [x]).trans hp
        rcases a4 hpp with ⟨_, q⟩ | ⟨_, p, y, rfl, rfl⟩
        · cases q
        · have := rise_last hR hp
          have := HX.out.2
          omega
      · gi_wp2_with fail
        obtain ⟨a1, a2, a3, a4, a5, a6⟩ := HA.out
        have ho : Only (fun g => g = w.heap.size ∨ g = w.heap.size + 1 ∨ g = w.heap.size + 2) W ((W.setCell ⟨w.heap.size + 1, 0, none⟩ (.bool false)).setCell ⟨w.heap.size + 2, 0, none⟩ (.int .i64 x2)) :=
          ((Only.refl (fun g => g = w.heap.size ∨ g = w.heap.size + 1 ∨ g = w.heap.size + 2) W).put (p := ⟨w.heap.size + 1, 0, none⟩) (.inl (.inr (.inl rfl))) _).put (p := ⟨w.heap.size + 2, 0, none⟩) (.inl (.inr (.inr rfl))) _
        refine ⟨(KeepsOthers.setCell _ _ _).trans (KeepsOthers.setCell _ _ _), Kx.of_only ho (fun _ _ q => q), false, x2, (a1.far (by simp) _).far (by simp) _, (a2.put 0 _).far (by simp) _, (a3.far (by simp) _).put 0 _, fun _ => .inr ⟨rfl, pre, x, rfl, HX.out.2.symm⟩, Only.below a5 ho a5.size (fun i q => by omega), Nat.le_trans a6 ho.size⟩
    · gi_wp2_with fail
      obtain ⟨a1, a2, a3, a4, a5, a6⟩ := HA.out
      have ho : Only (fun g => g = w.heap.size ∨ g = w.heap.size + 1 ∨ g = w.heap.size + 2) W ((W.setCell ⟨w.heap.size + 1, 0, none⟩ (.bool false)).setCell ⟨w.heap.size + 2, 0, none⟩ (.int .i64 x2)) :=
        ((Only.refl (fun g => g = w.heap.size ∨ g = w.heap.size + 1 ∨ g = w.heap.size + 2) W).put (p := ⟨w.heap.size + 1, 0, none⟩) (.inl (.inr (.inl rfl))) _).put (p := ⟨w.heap.size + 2, 0, none⟩) (.inl (.inr (.inr rfl))) _
      refine ⟨(KeepsOthers.setCell _ _ _).trans (KeepsOthers.setCell _ _ _), Kx.of_only ho (fun _ _ q => q), false, x2, (a1.far (by simp) _).far (by simp) _, (a2.put 0 _).far (by simp) _, (a3.far (by simp) _).put 0 _, fun _ => .inr ⟨rfl, pre, x, rfl, HX.out.2.symm⟩, Only.below a5 ho a5.size (fun i q => by omega), Nat.le_trans a6 ho.size⟩
  case done =>
    rintro D ys W hD rfl ⟨f, z, a1, a2, a3, a4, a5, a6⟩ hK
    have f0 := a1.frozen 0
    have c0 : W.cell? ⟨w.heap.size, 0, none⟩ = some (.bool false) := by rw [a1.cell]; rfl
    have HA := Lib.hid (And.intro a1 (And.intro a5 a6))
    clear a2 a3 a4
    gi_wp2_with fail
    obtain ⟨a1, a5, a6⟩ := HA.out
    have hne : D ≠ w.heap.size := by omega
    have hK2 : (W.setCell ⟨w.heap.size, 0, none⟩ (.bool true)).heap[D]? = some (.deferred (some [])) := (Below.heap_setCell W ⟨w.heap.size, 0, none⟩ _ D hne).trans hK
    refine ⟨by simp, .inl ⟨_, _, rfl, run_takeDeferred hK2, ?_⟩⟩
    have b1 := (a1.put 0 (.bool true)).grown (grownBy_putObj' (W.setCell ⟨w.heap.size, 0, none⟩ (.bool true)) D (.deferred none)) (by simp; omega)
    exact ⟨_, results_c1 rfl _ rfl (loadVar4 (by rw [b1.cell]; rfl)), rfl, (a5.setCell (p := ⟨w.heap.size, 0, none⟩) (Nat.le_refl _) _).grown (grownBy_putObj' _ D (.deferred none)) (by simpa [World.setCell] using a5.size) (row_some (by omega))⟩
  case stop =>
    rintro D c pre W _ hp hh _
    exact absurd hp hh
set_option maxRecDepth 100000 in
theorem AKeys_ok (h : SM w b n r xs) (hT : Tab w) (hR : Rise (its r xs)) :
    Calls Tryz.prog 44 #[.pointer (some ⟨b.s, 0, none⟩)] w fun e w' => e = .returned (.int .i64 0) ∧ Below w.heap.size w w' := by
  have hs := Sorted_ok h hT hR
  clear h
  go_enter Tryz.func44, Tryz.ntmps44
  go_wp2_with fail
  refine hs.mono ?_
  rintro e w1 ⟨rfl, hB⟩
  go_wp2_with fail
  go_ret
  exact ⟨rfl, hB⟩
end
section
variable {w w' : World} {P : PB} {h s : Nat} {r : List Bool} {xs L : List Int}
set_option maxRecDepth 100000 in
theorem arow_ok (hp : PM w P none h r xs) (hT : Tab w) (hR : Rise (its r xs)) (hmx : Lib.maxOf (csV r 0 (2 ^ h)) ≤ 7) (hmn : 1 ≤ Lib.minOf (csV r 0 (2 ^ h))) :
    Calls Tryz.prog 42 #[.pointer (some ⟨P.pp, 0, none⟩), .func (.func 44) #[] #[]] w fun e w' => e = .returned (.int .i64 0) ∧ Below w.heap.size w w' := by
  have hh := hp.hh
  have hs := PSlots_ok hp
  have HP := Lib.hid hp
  clear hp
  go_enter Tryz.func42, Tryz.ntmps42
  go_wp2_with fail
  refine hs.mono ?_
  rintro e w1 ⟨b, rfl, h1, h2, hB1⟩
  have hc := PCounts_ok (HP.out.below hB1)
  have H1 := Lib.hid h1
  clear h1 hs
  go_wp2_with fail
  refine hc.mono ?_
  rintro e w2 ⟨⟨g, cap, rfl, g1, g2, g3⟩, hB2⟩
  have hT2 := (hT.below hB1).below hB2
  have hr := ARow_ok (c := cap) (H1.out.below hB2) hT2 hh.1 hh.2 g3 hmx hmn
  clear hc g3 g2
  generalize 2 ^ h = m at *
  go_wp2_with fail
  refine hr.mono ?_
  rintro e w3 ⟨rfl, hB3⟩
  have hk := AKeys_ok ((H1.out.below hB2).below hB3) (hT2.below hB3) hR
  have hBw := (hB1.trans (hB2.mono hB1.size)).trans (hB3.mono (by have := hB1.size; have := hB2.size; omega))
  go_wp2_with fail
  refine hk.mono ?_
  rintro e w4 ⟨rfl, hB4⟩
  go_wp2_with fail
  go_ret
  exact ⟨rfl, hBw.trans (hB4.mono hBw.size)⟩
set_option maxRecDepth 100000 in
theorem ASet_ok (hm : SetM w s P h r xs L) (hmx : Lib.maxOf (csV r 0 (2 ^ h)) ≤ 7) (hmn : 1 ≤ Lib.minOf (csV r 0 (2 ^ h))) :
    Calls Tryz.prog 17 #[.pointer (some ⟨s, 0, none⟩)] w fun e w' => e = .returned (.int .i64 0) ∧ Below w.heap.size w w' := by
  have hr := SRow_ok hm
  have hT := hm.rp.hT
  have hri := hm.ri
  rw [← hm.rp.its] at hri
  clear hm
  go_enter Tryz.func17, Tryz.ntmps17
  go_wp2_with fail
  refine hr.mono ?_
  rintro e w1 ⟨P', rfl, q1, q2, hB1⟩
  have ha := arow_ok q1 (hT.below hB1) hri hmx hmn
  clear q1 q2 hr hmx hmn
  go_wp2_with fail
  refine ha.mono ?_
  rintro e w2 ⟨rfl, hB2⟩
  go_wp2_with fail
  go_ret
  exact ⟨rfl, hB1.trans (hB2.mono hB1.size)⟩
end
set_option maxRecDepth 100000 in
theorem insF_max : Lib.maxOf (csV (insF 30).1 0 8) ≤ 7 := by decide +kernel
set_option maxRecDepth 100000 in
theorem insF_min : 1 ≤ Lib.minOf (csV (insF 30).1 0 8) := by decide +kernel
end Go.Proofs.YtaonkbfekadalaaGreatDoor
/- The rank by halving, of the example; halving within a block. -/
namespace Go.Proofs.YtaonkbfekadalaaGreatDoor
open Go.RowKit
set_option linter.unusedVariables false

section
variable {w w' : World} {K : List Int} {key : Int}
/-- How many lie before a key. -/
def Cut (K : List Int) (key : Int) (a : Nat) : Prop := a ≤ K.length ∧ (∀ j, j < a → nth K j < key) ∧ (∀ j, a ≤ j → j < K.length → key ≤ nth K j)
set_option maxRecDepth 100000 in
set_option maxHeartbeats 4000000 in
theorem BRank_ok {A : Option Addr} {c n : Nat} (hl : K.length = n) (hR : RI w A K) (hri : Rise K) (hn : n ≤ 4096) :
    Calls Tryz.prog 35 #[.slice A n c, .int .i64 key] w fun e w' => (∃ (a : Nat) (st : Int), e = .returned (.tuple #[.int .i64 a, .int .i64 st, .int .i64 0]) ∧ Cut K key a) ∧ Below w.heap.size w w' := by
  have hrs := Rising_ok (c := c) hl hR hri hn
  have HS := Lib.hid hl
  have HRI := Lib.hid hri
  have HR := Lib.hid hR
  clear hl hri hR
  go_enter Tryz.func35, Tryz.ntmps35
  go_wp2_with fail
  go_step3
  go_wp2_with fail
  refine hrs.mono ?_
  rintro e w1 ⟨rfl, hB⟩
  have HR1 := Lib.hid (HR.out.below hB (Nat.le_refl _))
  go_wp2_with fail
  go_step3
  go_wp2_with fail
  go_loop [7, 8, 9] (fun lo hi st => ∃ a b s : Nat, a ≤ b ∧ b ≤ n ∧ s + (b - a) ≤ n ∧ lo = .int .i64 a ∧ hi = .int .i64 b ∧ st = .int .i64 s ∧ (∀ j, j < a → nth K j < key) ∧ (∀ j, b ≤ j → j < K.length → key ≤ nth K j)) (fun lo hi _ => (intOf hi).toNat - (intOf lo).toNat)
  case atStart => exact ⟨0, n, 0, Nat.zero_le _, Nat.le_refl _, by omega, rfl, rfl, rfl, fun j hj => by omega, fun j h1 h2 => by rw [HS.out] at h2; omega⟩
  case round =>
    obtain ⟨a, b, s, hab, hbn, hs, rfl, rfl, rfl, ha, hb⟩ := hrel
    by_cases hlt : a < b
    · obtain ⟨m, hm⟩ : ∃ m, m = a + (b - a) / 2 := ⟨_, rfl⟩
      obtain ⟨g, off, rfl, hc⟩ := HR1.out (by rw [HS.out]; omega)
      have c0 := hc m (by rw [HS.out]; omega)
      have j0 : ¬ ((b : Int) ≤ (a : Int)) := by omega
      have n1 : IntKind.i64.wrap ((b : Int) - (a : Int)) = ((b - a : Nat) : Int) := by rw [IntWalk.i64_in _ (by omega)]; omega
      have n2 : ((b - a : Nat) : Int).tdiv 2 = (((b - a) / 2 : Nat) : Int) := by rw [Int.tdiv_eq_ediv_of_nonneg (by omega)]; omega
      have n3 : IntKind.i64.wrap (((b - a) / 2 : Nat) : Int) = (((b - a) / 2 : Nat) : Int) := IntWalk.i64_in _ (by omega)
      have n4 : IntKind.i64.wrap ((a : Int) + (((b - a) / 2 : Nat) : Int)) = (m : Int) := by rw [IntWalk.i64_in _ (by omega)]; omega
      have n5 : IntKind.i64.wrap ((s : Int) + 1) = (s : Int) + 1 := IntWalk.i64_in _ (by omega)
      have n6 : IntKind.i64.wrap ((m : Int) + 1) = (m : Int) + 1 := IntWalk.i64_in _ (by omega)
      have j1 : (0 : Int) ≤ (m : Int) := by omega
      have j2 : (m : Int) < (n : Int) := by omega
      have hmono : ∀ i j, i ≤ j → j < K.length → nth K i ≤ nth K j := fun i j h1 h2 => by
        rcases Nat.lt_or_eq_of_le h1 with h | rfl
        · have := HRI.out i j h h2; omega
        · exact Int.le_refl _
      have HQ := Lib.hid (And.intro ha (And.intro hb (And.intro hmono hm)))
      have hm1 : a ≤ m := by omega
      have hm2 : m < b := by omega
      clear ha hb hmono hc hm
      generalize hd : (b - a) / 2 = d at *
      clear hd
      generalize hba : b - a = ba at *
      have HBA := Lib.hid hba
      clear hba
      generalize hk : nth K m = y at *
      have HK := Lib.hid hk
      clear hk
      by_cases hy : y < key
      · go_wp2_with fail
        obtain ⟨ha, hb, hmono, hm⟩ := HQ.out
        have := HBA.out
        refine ⟨⟨m + 1, b, s + 1, by omega, by omega, by omega, by push_cast; rfl, rfl, by push_cast; rfl, fun j hj => ?_, hb⟩, by simp [intOf]; omega⟩
        have := hmono j m (by omega) (by rw [HS.out]; omega)
        have := HK.out
        omega
      · go_wp2_with fail
        obtain ⟨ha, hb, hmono, hm⟩ := HQ.out
        have := HBA.out
        refine ⟨⟨a, m, s + 1, by omega, by omega, by omega, rfl, rfl, by push_cast; rfl, ha, fun j h1 h2 => ?_⟩, by simp [intOf]; omega⟩
        have := hmono m j h1 h2
        have := HK.out
        omega
    · obtain rfl : a = b := by omega
      go_wp2_with fail
      try rw [Exit.noGoto_ret]
      refine bodyPost_ret (results_tmp3 rfl _ _ _) rfl ?_
      exact ⟨⟨a, s, rfl, by rw [HS.out]; exact hbn, ha, hb⟩, hB⟩
theorem Cut.uniq {a b : Nat} (h1 : Cut K key a) (h2 : Cut K key b) : a = b := by
  rcases Nat.lt_trichotomy a b with h | h | h
  · have := h2.2.1 a h
    have := h1.2.2 a (Nat.le_refl _) (by have := h2.1; omega)
    omega
  · exact h
  · have := h1.2.1 b h
    have := h2.2.2 b (Nat.le_refl _) (by have := h1.1; omega)
    omega
set_option maxRecDepth 100000 in
theorem bisectRank_ok {A : Option Addr} {c n : Nat} (hl : K.length = n) (hR : RI w A K) (hri : Rise K) (hn : n ≤ 4096) {a : Nat} (ha : Cut K key a) :
    Calls Tryz.prog 13 #[.slice A n c, .int .i64 key] w fun e w' => e = .returned (.tuple #[.int .i64 a, .bool true]) ∧ Below w.heap.size w w' := by
  have hr := BRank_ok (c := c) (key := key) hl hR hri hn
  clear hR hri
  go_enter Tryz.func13, Tryz.ntmps13
  go_wp2_with fail
  refine hr.mono ?_
  rintro e w1 ⟨⟨b, st, rfl, hb⟩, hB⟩
  obtain rfl := ha.uniq hb
  clear hb ha
  go_wp2_with fail
  go_ret2
  exact ⟨rfl, hB⟩
set_option maxRecDepth 100000 in
set_option maxHeartbeats 4000000 in
theorem bless_ok {A : Option Addr} {c n : Nat} (hl : K.length = n) (hR : RI w A K) (hri : Rise K) (hn : n ≤ 4096) {a0 : Nat} (ha0 : Cut K key a0) :
    Calls Tryz.prog 31 #[.slice A n c, .int .i64 key] w fun e w' => (∃ st : Nat, st ≤ n ∧ e = .returned (.tuple #[.int .i64 a0, .int .i64 st])) ∧ w = w' := by
  have HS := Lib.hid hl
  have HRI := Lib.hid hri
  have HA0 := Lib.hid ha0
  clear hl hri ha0
  go_enter Tryz.func31, Tryz.ntmps31
  go_wp2_with fail
  go_loop [6, 7, 8] (fun lo hi st => ∃ a b s : Nat, a ≤ b ∧ b ≤ n ∧ s + (b - a) ≤ n ∧ lo = .int .i64 a ∧ hi = .int .i64 b ∧ st = .int .i64 s ∧ (∀ j, j < a → nth K j < key) ∧ (∀ j, b ≤ j → j < K.length → key ≤ nth K j)) (fun lo hi _ => (intOf hi).toNat - (intOf lo).toNat)
  case atStart => exact ⟨0, n, 0, Nat.zero_le _, Nat.le_refl _, by omega, rfl, rfl, rfl, fun j hj => by omega, fun j h1 h2 => by rw [HS.out] at h2; omega⟩
  case round =>
    obtain ⟨a, b, s, hab, hbn, hs, rfl, rfl, rfl, ha, hb⟩ := hrel
    by_cases hlt : a < b
    · obtain ⟨m, hm⟩ : ∃ m, m = (a + b) / 2 := ⟨_, rfl⟩
      obtain ⟨g, off, rfl, hc⟩ := hR (by rw [HS.out]; omega)
      have c0 := hc m (by rw [HS.out]; omega)
      have j0 : (a : Int) < (b : Int) := by omega
      have n1 : IntKind.i64.wrap ((a : Int) + (b : Int)) = ((a + b : Nat) : Int) := by rw [IntWalk.i64_in _ (by omega)]; omega
      have n2 : ((a + b : Nat) : Int).tdiv 2 = (m : Int) := by rw [Int.tdiv_eq_ediv_of_nonneg (by omega)]; omega
      have n2' : ((a : Int) + (b : Int)).tdiv 2 = (m : Int) := by rw [Int.tdiv_eq_ediv_of_nonneg (by omega)]; omega
      have n3 : IntKind.i64.wrap (m : Int) = (m : Int) := IntWalk.i64_in _ (by omega)
      have n5 : IntKind.i64.wrap ((s : Int) + 1) = (s : Int) + 1 := IntWalk.i64_in _ (by omega)
      have n6 : IntKind.i64.wrap ((m : Int) + 1) = (m : Int) + 1 := IntWalk.i64_in _ (by omega)
      have j1 : (0 : Int) ≤ (m : Int) := by omega
      have j2 : (m : Int) < (n : Int) := by omega
      have hmono : ∀ i j, i ≤ j → j < K.length → nth K i ≤ nth K j := fun i j h1 h2 => by
        rcases Nat.lt_or_eq_of_le h1 with h | rfl
        · have := HRI.out i j h h2; omega
        · exact Int.le_refl _
      have HQ := Lib.hid (And.intro ha (And.intro hb (And.intro hmono hm)))
      have hm1 : a ≤ m := by omega
      have hm2 : m < b := by omega
      clear ha hb hmono hc hm
      generalize hk : nth K m = y at *
      have HK := Lib.hid hk
      clear hk
      by_cases hy : y < key
      · go_wp2_with fail
        obtain ⟨ha, hb, hmono, hm⟩ := HQ.out
        refine ⟨⟨m + 1, b, s + 1, by omega, by omega, by omega, by push_cast; rfl, rfl, by push_cast; rfl, fun j hj => ?_, hb⟩, by simp [intOf]; omega⟩
        have := hmono j m (by omega) (by rw [HS.out]; omega)
        have := HK.out
        omega
      · go_wp2_with fail
        obtain ⟨ha, hb, hmono, hm⟩ := HQ.out
        refine ⟨⟨a, m, s + 1, by omega, by omega, by omega, rfl, rfl, by push_cast; rfl, ha, fun j h1 h2 => ?_⟩, by simp [intOf]; omega⟩
        have := hmono m j h1 h2
        have := HK.out
        omega
    · obtain rfl : a = b := by omega
      have hcut : Cut K key a := ⟨by rw [HS.out]; exact hbn, ha, hb⟩
      obtain rfl := HA0.out.uniq hcut
      go_wp2_with fail
      go_ret2
      exact ⟨⟨s, by omega, rfl⟩, rfl⟩
end
end Go.Proofs.YtaonkbfekadalaaGreatDoor
/- A layout of thirty keys in blocks of three: what its small functions come to. -/
namespace Go.Proofs.YtaonkbfekadalaaGreatDoor
open Go.RowKit
set_option linter.unusedVariables false

section
variable {w w' : World} {A : Option Addr} {c : Nat}
theorem bright_ok (w : World) : Calls Tryz.prog 26 #[.int .i64 2] w fun e w' => e = .returned (.bool true) ∧ w = w' := by
  go_enter Tryz.func26, Tryz.ntmps26
  go_wp2_with fail
  go_ret
  exact ⟨rfl, rfl⟩
theorem wide_ok (A : Option Addr) (c : Nat) (w : World) : Calls Tryz.prog 81 #[.agg #[.int .i64 2, .slice A 30 c]] w fun e w' => e = .returned (.int .i64 3) ∧ Below w.heap.size w w' := by
  have b0 := Blk.made w 43 #[.int .i64 2, .slice A 30 c]
  have hB : Below w.heap.size w (w.alloc (.cells #[.int .i64 2, .slice A 30 c] 43)) := (Below.refl _ _).alloc (Nat.le_refl _) _
  go_enter Tryz.func81, Tryz.ntmps81
  go_wp2_with fail
  go_ret
  exact ⟨rfl, hB⟩
theorem child_ok (A : Option Addr) (c : Nat) {i : Nat} (hi : i ≤ 1000) (w : World) : Calls Tryz.prog 33 #[.agg #[.int .i64 2, .slice A 30 c], .int .i64 i] w fun e w' => e = .returned (.int .i64 ((i : Int) * 4 + 1)) ∧ Below w.heap.size w w' := by
  have b0 := Blk.made w 43 #[.int .i64 2, .slice A 30 c]
  have hB : Below w.heap.size w (w.alloc (.cells #[.int .i64 2, .slice A 30 c] 43)) := (Below.refl _ _).alloc (Nat.le_refl _) _
  go_enter Tryz.func33, Tryz.ntmps33
  go_wp2_with fail
  go_ret
  exact ⟨rfl, hB⟩
set_option maxRecDepth 100000 in
theorem blocks_ok (A : Option Addr) (c : Nat) (w : World) : Calls Tryz.prog 30 #[.agg #[.int .i64 2, .slice A 30 c]] w fun e w' => e = .returned (.int .i64 10) ∧ Below w.heap.size w w' := by
  have b0 := Blk.made w 43 #[.int .i64 2, .slice A 30 c]
  have hB : Below w.heap.size w (w.alloc (.cells #[.int .i64 2, .slice A 30 c] 43)) := (Below.refl _ _).alloc (Nat.le_refl _) _
  have hlt := b0.lt
  generalize hw0 : w.alloc (.cells #[.int .i64 2, .slice A 30 c] 43) = w0 at *
  have d0 : w0.drew.cell? ⟨w.heap.size, 0, none⟩ = some (.int .i64 2) := by rw [b0.drew.cell]; rfl
  have d1 : w0.drew.cell? ⟨w.heap.size, 1, none⟩ = some (.slice A 30 c) := by rw [b0.drew.cell]; rfl
  have e0 : w0.cell? ⟨w.heap.size, 0, none⟩ = some (.int .i64 2) := d0
  have e1 : w0.cell? ⟨w.heap.size, 1, none⟩ = some (.slice A 30 c) := d1
  have hBd : Below w.heap.size w w0.drew := below_drewN hB 1
  have hc1 := wide_ok A c w0.drew
  have hwide := Lib.hid (fun W => wide_ok A c W)
  go_enter Tryz.func30, Tryz.ntmps30
  go_wp2_with fail
  go_region_held3 (fun W => W.cell? ⟨w.heap.size, 0, none⟩ = some (.int .i64 2) ∧ W.cell? ⟨w.heap.size, 1, none⟩ = some (.slice A 30 c))
    (with_reducible first | exact ⟨d0, d1⟩ | exact ⟨g0, g1⟩ | exact ⟨k0, k1⟩)
    ((go_at_call 81
      first
        | (with_reducible refine hc1.mono ?_
           rintro e w1 ⟨rfl, hB1⟩
           have g0 := cell_below hB1 (Nat.le_refl _) d0
           have g1 := cell_below hB1 (Nat.le_refl _) d1
           have hc2 := hwide.out w1)
        | (with_reducible refine hc2.mono ?_
           rintro e w2 ⟨rfl, hB2⟩
           have k0 := cell_below hB2 (Nat.le_refl _) g0
           have k1 := cell_below hB2 (Nat.le_refl _) g1)))
  all_goals go_wp2_with fail
  all_goals go_ret
  all_goals exact ⟨rfl, (hBd.trans (hB1.mono hBd.size)).trans (hB2.mono (by have := hBd.size; have := hB1.size; omega))⟩
set_option maxRecDepth 100000 in
theorem block_ok (b off c : Nat) {i : Nat} (hi : i < 10) (hc : 30 ≤ c) (hcc : c ≤ 100000) (w : World) : Calls Tryz.prog 32 #[.agg #[.int .i64 2, .slice (some ⟨b, off, none⟩) 30 c], .int .i64 i] w fun e w' => e = .returned (.slice (some ⟨b, off + i * 3, none⟩) 3 3) ∧ Below w.heap.size w w' := by
  have b0 := Blk.made w 43 #[.int .i64 2, .slice (some ⟨b, off, none⟩) 30 c]
  have hB : Below w.heap.size w (w.alloc (.cells #[.int .i64 2, .slice (some ⟨b, off, none⟩) 30 c] 43)) := (Below.refl _ _).alloc (Nat.le_refl _) _
  have hlt := b0.lt
  generalize hw0 : w.alloc (.cells #[.int .i64 2, .slice (some ⟨b, off, none⟩) 30 c] 43) = w0 at *
  have c0 : w0.cell? ⟨w.heap.size, 0, none⟩ = some (.int .i64 2) := by rw [b0.cell]; rfl
  have c1 : w0.cell? ⟨w.heap.size, 1, none⟩ = some (.slice (some ⟨b, off, none⟩) 30 c) := by rw [b0.cell]; rfl
  have hc0 := wide_ok (some ⟨b, off, none⟩) c w0
  have hwide := Lib.hid (fun W => wide_ok (some ⟨b, off, none⟩) c W)
  have n1 : IntKind.i64.wrap ((i : Int) * 3) = (i : Int) * 3 := IntWalk.i64_in _ (by omega)
  have n2 : IntKind.i64.wrap ((i : Int) * 3 + 3) = (i : Int) * 3 + 3 := IntWalk.i64_in _ (by omega)
  go_enter Tryz.func32, Tryz.ntmps32
  go_wp2_with fail
  refine hc0.mono ?_
  rintro e w1 ⟨rfl, hB1⟩
  have e0 : w1.cell? ⟨w.heap.size, 0, none⟩ = some (.int .i64 2) := cell_below hB1 (Nat.le_refl _) c0
  have e1 : w1.cell? ⟨w.heap.size, 1, none⟩ = some (.slice (some ⟨b, off, none⟩) 30 c) := cell_below hB1 (Nat.le_refl _) c1
  have d0 : w1.drew.cell? ⟨w.heap.size, 0, none⟩ = some (.int .i64 2) := e0
  have d1 : w1.drew.cell? ⟨w.heap.size, 1, none⟩ = some (.slice (some ⟨b, off, none⟩) 30 c) := e1
  have hBd : Below w.heap.size w w1.drew := below_drewN (hB.trans (hB1.mono hB.size)) 1
  have hc1 := hwide.out w1.drew
  go_wp2_with fail
  go_region_held3 (fun W => W.cell? ⟨w.heap.size, 0, none⟩ = some (.int .i64 2) ∧ W.cell? ⟨w.heap.size, 1, none⟩ = some (.slice (some ⟨b, off, none⟩) 30 c))
    (with_reducible first | exact ⟨d0, d1⟩ | exact ⟨g0, g1⟩)
    ((go_at_call 81
      refine hc1.mono ?_
      rintro e w2 ⟨rfl, hB2⟩
      have g0 := cell_below hB2 (Nat.le_refl _) d0
      have g1 := cell_below hB2 (Nat.le_refl _) d1))
  all_goals go_wp2_with fail
  all_goals go_ret
  all_goals exact ⟨by rw [show (min ((i : Int) * 3 + 3) 30).toNat - i * 3 = 3 by omega]; rfl, hBd.trans (hB2.mono hBd.size)⟩
set_option maxRecDepth 100000 in
theorem below_stop (A : Option Addr) (c : Nat) {lo hi : Nat} (h : 10 ≤ lo ∨ hi ≤ lo) (w : World) : Calls Tryz.prog 34 #[.agg #[.int .i64 2, .slice A 30 c], .int .i64 lo, .int .i64 hi] w fun e w' => e = .returned (.int .i64 0) ∧ Below w.heap.size w w' := by
  have b0 := Blk.made w 43 #[.int .i64 2, .slice A 30 c]
  have hB : Below w.heap.size w (w.alloc (.cells #[.int .i64 2, .slice A 30 c] 43)) := (Below.refl _ _).alloc (Nat.le_refl _) _
  generalize hw0 : w.alloc (.cells #[.int .i64 2, .slice A 30 c] 43) = w0 at *
  have c0 : w0.cell? ⟨w.heap.size, 0, none⟩ = some (.int .i64 2) := by rw [b0.cell]; rfl
  have c1 : w0.cell? ⟨w.heap.size, 1, none⟩ = some (.slice A 30 c) := by rw [b0.cell]; rfl
  have hb := blocks_ok A c w0
  go_enter Tryz.func34, Tryz.ntmps34
  go_wp2_with fail
  go_loopw [1, 2, 7] (fun l r n wr => l = .int .i64 lo ∧ r = .int .i64 hi ∧ n = .int .i64 0 ∧ wr = w0) (fun _ _ _ _ => 0)
  case atStart => exact ⟨rfl, rfl, rfl, rfl⟩
  case round =>
    obtain ⟨rfl, rfl, rfl, rfl⟩ := hrel
    by_cases h10 : 10 ≤ lo
    · have k1 : ¬ ((lo : Int) < 10) := by omega
      clear h
      go_wp2_with fail
      refine hb.mono ?_
      rintro e w1 ⟨rfl, hB1⟩
      go_wp2_with fail
      go_ret
      exact ⟨rfl, hB.trans (hB1.mono hB.size)⟩
    · have k1 : (lo : Int) < 10 := by omega
      have k2 : ¬ ((lo : Int) < (hi : Int)) := by omega
      clear h
      go_wp2_with fail
      refine hb.mono ?_
      rintro e w1 ⟨rfl, hB1⟩
      go_wp2_with fail
      go_ret
      exact ⟨rfl, hB.trans (hB1.mono hB.size)⟩
set_option maxRecDepth 100000 in
set_option maxHeartbeats 4000000 in
theorem below_once (A : Option Addr) (c : Nat) {lo hi : Nat} (h1 : lo < 10) (h2 : lo < hi) (h3 : hi ≤ 9) (h4 : 3 ≤ lo) (w : World) : Calls Tryz.prog 34 #[.agg #[.int .i64 2, .slice A 30 c], .int .i64 lo, .int .i64 hi] w fun e w' => e = .returned (.int .i64 ((hi : Int) * 3 - (lo : Int) * 3)) ∧ Below w.heap.size w w' := by
  have b0 := Blk.made w 43 #[.int .i64 2, .slice A 30 c]
  have hB : Below w.heap.size w (w.alloc (.cells #[.int .i64 2, .slice A 30 c] 43)) := (Below.refl _ _).alloc (Nat.le_refl _) _
  generalize hw0 : w.alloc (.cells #[.int .i64 2, .slice A 30 c] 43) = w0 at *
  have hwide := Lib.hid (fun W => wide_ok A c W)
  have hchild := Lib.hid (fun (j : Nat) (hj : j ≤ 1000) W => child_ok A c hj W)
  have hblocks := Lib.hid (fun W => blocks_ok A c W)
  go_enter Tryz.func34, Tryz.ntmps34
  go_wp2_with fail
  go_loopw [1, 2, 7] (fun l r n wr => ((l = .int .i64 lo ∧ r = .int .i64 hi ∧ n = .int .i64 0) ∨ (l = .int .i64 ((lo : Int) * 4 + 1) ∧ n = .int .i64 ((hi : Int) * 3 - (lo : Int) * 3))) ∧ Blk wr w.heap.size 43 #[.int .i64 2, .slice A 30 c] ∧ Below w.heap.size w wr) (fun l _ _ _ => 100 - (intOf l).toNat)
  case atStart => exact ⟨.inl ⟨rfl, rfl, rfl⟩, b0, hB⟩
  case round =>
    obtain ⟨hst, hb, hBr⟩ := hrel
    have c0 : wr.cell? ⟨w.heap.size, 0, none⟩ = some (.int .i64 2) := by rw [hb.cell]; rfl
    have c1 : wr.cell? ⟨w.heap.size, 1, none⟩ = some (.slice A 30 c) := by rw [hb.cell]; rfl
    have hbk := hblocks.out wr
    rcases hst with ⟨rfl, rfl, rfl⟩ | ⟨rfl, rfl⟩
    · have k1 : (lo : Int) < 10 := by omega
      have k2 : (lo : Int) < (hi : Int) := by omega
      have HH := Lib.hid (And.intro h1 (And.intro h2 (And.intro h3 (And.intro h4 hBr))))
      have n1 : IntKind.i64.wrap ((hi : Int) * 3) = (hi : Int) * 3 := IntWalk.i64_in _ (by omega)
      have n2 : IntKind.i64.wrap ((lo : Int) * 3) = (lo : Int) * 3 := IntWalk.i64_in _ (by omega)
      have n3 : IntKind.i64.wrap ((hi : Int) * 3 - (lo : Int) * 3) = (hi : Int) * 3 - (lo : Int) * 3 := IntWalk.i64_in _ (by omega)
      have n4 : min ((hi : Int) * 3) 30 = (hi : Int) * 3 := by omega
      clear h1 h2 h3 h4
      go_wp2_with fail
      refine hbk.mono ?_
      rintro e w1 ⟨rfl, hB1⟩
      have b1 := hb.below hB1 hb.lt
      have d0 : w1.drew.cell? ⟨w.heap.size, 0, none⟩ = some (.int .i64 2) := by rw [b1.drew.cell]; rfl
      have d1 : w1.drew.cell? ⟨w.heap.size, 1, none⟩ = some (.slice A 30 c) := by rw [b1.drew.cell]; rfl
      have e0 : w1.cell? ⟨w.heap.size, 0, none⟩ = some (.int .i64 2) := by rw [b1.cell]; rfl
      have e1 : w1.cell? ⟨w.heap.size, 1, none⟩ = some (.slice A 30 c) := by rw [b1.cell]; rfl
      have hBd : Below wr.heap.size wr w1.drew := below_drewN hB1 1
      have hc1 := hwide.out w1.drew
      go_wp2_with fail
      go_region_held3 (fun W => W.cell? ⟨w.heap.size, 0, none⟩ = some (.int .i64 2) ∧ W.cell? ⟨w.heap.size, 1, none⟩ = some (.slice A 30 c))
        (with_reducible first | exact ⟨d0, d1⟩ | exact ⟨g0, g1⟩ | exact ⟨k0, k1⟩)
        ((go_at_call 81
          first
            | (with_reducible refine hc1.mono ?_
               rintro e w2 ⟨rfl, hB2⟩
               have g0 := cell_below hB2 (Nat.le_refl _) d0
               have g1 := cell_below hB2 (Nat.le_refl _) d1
               have hc2 := hwide.out w2)
            | (with_reducible refine hc2.mono ?_
               rintro e w3 ⟨rfl, hB3⟩
               have k0 := cell_below hB3 (Nat.le_refl _) g0
               have k1 := cell_below hB3 (Nat.le_refl _) g1)))
      all_goals go_wp2_with fail
      all_goals (
        have r0 : w3.drew.cell? ⟨w.heap.size, 0, none⟩ = some (.int .i64 2) := k0
        have r1 : w3.drew.cell? ⟨w.heap.size, 1, none⟩ = some (.slice A 30 c) := k1
        have hBd3 : Below wr.heap.size wr w3.drew := below_drewN ((hBd.trans (hB2.mono hBd.size)).trans (hB3.mono (by have := hBd.size; have := hB2.size; omega))) 1
        have hd1 := hchild.out lo (by have := HH.out; omega) w3.drew
        have hhi := hchild.out hi (by have := HH.out; omega))
      all_goals go_region_held3 (fun W => W.cell? ⟨w.heap.size, 0, none⟩ = some (.int .i64 2) ∧ W.cell? ⟨w.heap.size, 1, none⟩ = some (.slice A 30 c))
        (with_reducible first | exact ⟨r0, r1⟩ | exact ⟨s0, s1⟩ | exact ⟨t0, t1⟩)
        ((go_at_call 33
          first
            | (with_reducible refine hd1.mono ?_
               rintro e w4 ⟨rfl, hB4⟩
               have s0 := cell_below hB4 (Nat.le_refl _) r0
               have s1 := cell_below hB4 (Nat.le_refl _) r1
               have hd2 := hhi w4)
            | (with_reducible refine hd2.mono ?_
               rintro e w5 ⟨rfl, hB5⟩
               have t0 := cell_below hB5 (Nat.le_refl _) s0
               have t1 := cell_below hB5 (Nat.le_refl _) s1)))
      all_goals go_wp2_with fail
      all_goals (
        have hBd5 : Below wr.heap.size wr w5 := (hBd3.trans (hB4.mono hBd3.size)).trans (hB5.mono (by have := hBd3.size; have := hB4.size; omega))
        obtain ⟨h1, h2, h3, h4, hBr⟩ := HH.out
        refine ⟨⟨.inr ⟨rfl, rfl⟩, hb.below hBd5 hb.lt, hBr.trans (hBd5.mono hBr.size)⟩, ?_⟩
        simp only [intOf]
        omega)
    · have k1 : ¬ ((lo : Int) * 4 + 1 < 10) := by omega
      clear h1 h2 h3 h4
      go_wp2_with fail
      refine hbk.mono ?_
      rintro e w1 ⟨rfl, hB1⟩
      go_wp2_with fail
      go_ret
      exact ⟨rfl, hBr.trans (hB1.mono hBr.size)⟩
end
end Go.Proofs.YtaonkbfekadalaaGreatDoor
/- The layout of the example: the walk through the blocks in order, and Of. -/
namespace Go.Proofs.YtaonkbfekadalaaGreatDoor
open Go.RowKit
set_option linter.unusedVariables false

/-- What the visit of a place makes of how many were visited and of the places. -/
def putO (K : List Int) (p : Nat) (s : Nat × List Int) : Nat × List Int := (s.1 + 1, s.2.set p (nth K s.1))
def ordJ (K : List Int) (g : Nat → Nat × List Int → Nat × List Int) (i : Nat) : Nat → Nat × List Int → Nat × List Int
  | 0, s => s
  | j + 1, s => putO K (3 * i + j) (g (4 * i + 1 + j) (ordJ K g i j s))
def ordV (K : List Int) : Nat → Nat → Nat × List Int → Nat × List Int
  | 0, _, s => s
  | f + 1, i, s => if 10 ≤ i then s else ordV K f (4 * i + 1 + 3) (ordJ K (ordV K f) i 3 s)
def okF : Nat → Nat → Bool
  | 0, i => decide (10 ≤ i)
  | f + 1, i => decide (10 ≤ i) || (okF f (4 * i + 1) && okF f (4 * i + 1 + 1) && okF f (4 * i + 1 + 2) && okF f (4 * i + 1 + 3))
def cntJ (c : Nat → Nat) (i : Nat) : Nat → Nat
  | 0 => 0
  | j + 1 => cntJ c i j + c (4 * i + 1 + j) + 1
def cntF : Nat → Nat → Nat
  | 0, _ => 0
  | f + 1, i => if 10 ≤ i then 0 else cntJ (cntF f) i 3 + cntF f (4 * i + 1 + 3)
/-- What the visit works on. -/
structure OS (K : List Int) (KA : Option Addr) (kc kb nb lb vb : Nat) (W : World) (n : Nat) (ys : List Int) : Prop where
  hk : Blk W kb 31 #[.slice KA 30 kc]
  hr : RI W KA K
  hn : Blk W nb 3 #[.int .i64 n]
  hl : Blk W lb 43 #[.int .i64 2, .slice (some ⟨vb, 0, none⟩) 30 30]
  hv : BI W vb ys
  hy : ys.length = 30
  hne : vb ≠ nb
  hka : ∀ a, KA = some a → a.block ≠ vb ∧ a.block ≠ nb
section
variable {K : List Int} {KA : Option Addr} {kc kb nb lb vb : Nat} {W W' : World} {n : Nat} {ys : List Int}
theorem OS.below (h : OS K KA kc kb nb lb vb W n ys) (hb : Below W.heap.size W W') : OS K KA kc kb nb lb vb W' n ys :=
  ⟨h.hk.below hb h.hk.lt, h.hr.below hb (Nat.le_refl _), h.hn.below hb h.hn.lt, h.hl.below hb h.hl.lt, h.hv.below hb h.hv.lt, h.hy, h.hne, h.hka⟩
set_option maxRecDepth 100000 in
theorem visit_ok (h : OS K KA kc kb nb lb vb W n ys) (hK : K.length = 30) (hn : n < 30) {p : Nat} (hp : p < 30) :
    Calls Tryz.prog 28 #[.int .i64 p, .pointer (some ⟨kb, 0, none⟩), .pointer (some ⟨nb, 0, none⟩), .pointer (some ⟨lb, 0, none⟩)] W fun e w' => (∃ v, e = .returned v) ∧ OS K KA kc kb nb lb vb w' (n + 1) (ys.set p (nth K n)) ∧ Only (fun i => i = vb ∨ i = nb) W w' := by
  obtain ⟨g, off, rfl, hc⟩ := h.hr (by omega)
  have c0 : W.cell? ⟨kb, 0, none⟩ = some (.slice (some ⟨g, off, none⟩) 30 kc) := by rw [h.hk.cell]; rfl
  have c1 : W.cell? ⟨nb, 0, none⟩ = some (.int .i64 n) := by rw [h.hn.cell]; rfl
  have c2 : W.cell? ⟨lb, 1, none⟩ = some (.slice (some ⟨vb, 0, none⟩) 30 30) := by rw [h.hl.cell]; rfl
  have c3 := hc n (by omega)
  have c4 := h.hv.cell (k := p) (by rw [h.hy]; exact hp)
  have f4 := h.hv.frozen p
  have f1 := h.hn.frozen 0
  have j0 : (0 : Int) ≤ (n : Int) := by omega
  have j1 : (n : Int) < 30 := by omega
  have j2 : (0 : Int) ≤ (p : Int) := by omega
  have j3 : (p : Int) < 30 := by omega
  have n1 : IntKind.i64.wrap ((n : Int) + 1) = (n : Int) + 1 := IntWalk.i64_in _ (by omega)
  have hne' : nb ≠ vb := fun q => h.hne q.symm
  have HH := Lib.hid h
  have HB := Lib.hid (And.intro hp hn)
  clear h hc hp hn
  generalize hx : nth K n = x at *
  have HX := Lib.hid hx
  clear hx
  go_enter Tryz.func28, Tryz.ntmps28
  go_wp2_with fail
  go_region
  all_goals go_wp2_with fail
  all_goals (
    obtain ⟨hk, hr, hn', hl, hv, hy, hne, hka⟩ := HH.out
    have k1 : kb ≠ vb := fun q => (hv.ne_ hk (by decide)) q.symm
    have k2 : kb ≠ nb := hk.ne_ hn' (by decide)
    have k3 : lb ≠ vb := fun q => (hv.ne_ hl (by decide)) q.symm
    have k4 : lb ≠ nb := hl.ne_ hn' (by decide)
    have hO : Only (fun i => i = vb ∨ i = nb) W ((W.setCell ⟨vb, p, none⟩ (.int .i64 x)).setCell ⟨nb, 0, none⟩ (.int .i64 ((n : Int) + 1))).drew :=
      (((Only.refl (fun i => i = vb ∨ i = nb) W).put (p := ⟨vb, p, none⟩) (.inl (.inl rfl)) _).put (p := ⟨nb, 0, none⟩) (.inl (.inr rfl)) _).drew
    have hv1 : BI (W.setCell ⟨vb, p, none⟩ (.int .i64 x)) vb (ys.set p x) := hv.put p x
    have hv2 := hv1.far (p := ⟨nb, 0, none⟩) hne (.int .i64 ((n : Int) + 1))
    have hn1 : Blk (W.setCell ⟨vb, p, none⟩ (.int .i64 x)) nb 3 #[.int .i64 n] := hn'.far hne' _
    have hn2 := hn1.put 0 (.int .i64 ((n : Int) + 1))
    go_end0
    refine ⟨⟨_, rfl⟩, ⟨hk.only hO (fun q => q.elim k1 k2), hr.only_ hO (fun a ha q => q.elim (hka a ha).1 (hka a ha).2), ?_, hl.only hO (fun q => q.elim k3 k4), hv2, by simpa using hy, hne, hka⟩, hO⟩
    push_cast
    exact hn2)
end
end Go.Proofs.YtaonkbfekadalaaGreatDoor
