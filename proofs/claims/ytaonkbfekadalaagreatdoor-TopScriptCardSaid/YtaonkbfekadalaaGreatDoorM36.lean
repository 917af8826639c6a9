/- Joined texts: Mg, Mh. -/
import Derived.Test.YtaonkbfekadalaaGreatDoorM35
/- What the methods of a machine come to that turn something: insert, drop, after, ahead, remove, first. -/
namespace Go.Proofs.YtaonkbfekadalaaGreatDoor
open Go.RowKit
set_option linter.unusedVariables false

theorem An.or_code {x : An} {v : Int} (hx : x.code = 0) : (x.or v).code = v := by
  unfold An.or
  split
  · rename_i h; rw [hx, h]
  · rfl
section
variable {w w' : World} {Z : Nat → Prop} {m s h2 : Nat} {b : TB} {r2 : List Bool} {K L t : List Int}
theorem Blk.cellA {g k : Nat} {ty : TypeId} {cs : Array Value} {v : Value} (hb : Blk w g ty cs) (hv : cs[k]? = some v) (o : Obj) : (w.alloc o).cell? ⟨g, k, none⟩ = some v := by
  rw [(hb.alloc o).cell]; exact hv
theorem Blk.cell4 {g g' k : Nat} {ty : TypeId} {cs : Array Value} {v : Value} (hb : Blk w g ty cs) (hg : g ≠ g') (hv : cs[k]? = some v) (p q c d : Value) : ((((w.setCell ⟨g', 0, none⟩ p).setCell ⟨g', 1, none⟩ q).setCell ⟨g', 2, none⟩ c).setCell ⟨g', 3, none⟩ d).cell? ⟨g, k, none⟩ = some v := by
  rw [(hb.put4far hg p q c d).cell]; exact hv
set_option maxRecDepth 100000 in
set_option maxHeartbeats 4000000 in
theorem mInsert (hM : MacE Z w m s b h2 r2 K L t) (hZ0 : ∀ i, Z i → i ≠ 2) (c : ByteArray) {A C : Int} (hN : K.length < 2560) (hA : inH A) :
    Calls Tryz.prog 49 #[.pointer (some ⟨m, 0, none⟩), cmdV c A C] w fun e w' => (∃ x : An, e = .returned (.agg x.cs) ∧ x.code ≠ 16 ∧ ∃ K', K'.length ≤ K.length + 1 ∧ MacE (ZA Z w) w' m s b h2 r2 K' L t) ∧ Only Z w w' := by
  have hw2 : 2 < w.heap.size := hM.mac.tab.pos
  obtain ⟨W0, hW0, a0, a1, hB0, hz0⟩ := boxed c A C w
  have hE : MacE (fun i => Z i ∧ i < w.heap.size) w m s b h2 r2 K L t := hM.mono fun i q1 q2 => ⟨q2, q1⟩
  have hE0 := hE.below hB0
  have hmlt := hE.blk.lt
  have hZ : ∀ i, (Z i ∧ i < w.heap.size) → i ≠ 2 := fun i q => hZ0 i q.1
  have c0 : W0.cell? ⟨m, 0, none⟩ = some (.pointer (some ⟨s, 0, none⟩)) := by rw [hE0.blk.cell]; rfl
  have c1 : W0.cell? ⟨w.heap.size, 1, none⟩ = some (.int .i64 A) := by rw [a0.cell]; rfl
  have d0 : W0.drew.cell? ⟨m, 0, none⟩ = some (.pointer (some ⟨s, 0, none⟩)) := c0
  have d1 : W0.drew.cell? ⟨w.heap.size, 1, none⟩ = some (.int .i64 A) := c1
  have hBd : Below W0.heap.size W0 W0.drew := below_drewN (Below.refl _ _) 1
  have hBA : Below W0.heap.size W0 (W0.alloc (.cells #[.int .i64 0, .int .i64 0, .int .i64 0, .int .i64 0] 30)).drew := below_drewN ((Below.refl _ W0).alloc (Nat.le_refl _) (.cells #[.int .i64 0, .int .i64 0, .int .i64 0, .int .i64 0] 30)) 1
  have hEd := hE0.below hBd
  have hEA := hE0.below hBA
  have a0d := a0.below hBd a0.lt
  have a1d := a1.below hBd a1.lt
  have a0A := a0.below hBA a0.lt
  have a1A := a1.below hBA a1.lt
  have b7 : Blk (W0.alloc (.cells #[.int .i64 0, .int .i64 0, .int .i64 0, .int .i64 0] 30)).drew W0.heap.size 30 #[.int .i64 0, .int .i64 0, .int .i64 0, .int .i64 0] := Blk.made W0 30 #[.int .i64 0, .int .i64 0, .int .i64 0, .int .i64 0]
  have dA0 : (W0.alloc (.cells #[.int .i64 0, .int .i64 0, .int .i64 0, .int .i64 0] 30)).drew.cell? ⟨m, 0, none⟩ = some (.pointer (some ⟨s, 0, none⟩)) := by rw [hEA.blk.cell]; rfl
  have dA1 : (W0.alloc (.cells #[.int .i64 0, .int .i64 0, .int .i64 0, .int .i64 0] 30)).drew.cell? ⟨w.heap.size, 1, none⟩ = some (.int .i64 A) := by rw [a0A.cell]; rfl
  have hBw : Below w.heap.size w W0.drew := hB0.trans (hBd.mono hB0.size)
  have hBwA : Below w.heap.size w (W0.alloc (.cells #[.int .i64 0, .int .i64 0, .int .i64 0, .int .i64 0] 30)).drew := hB0.trans (hBA.mono hB0.size)
  have hzA : (W0.alloc (.cells #[.int .i64 0, .int .i64 0, .int .i64 0, .int .i64 0] 30)).drew.heap.size = w.heap.size + 3 := by
    have := World.size_alloc W0 (.cells #[.int .i64 0, .int .i64 0, .int .i64 0, .int .i64 0] 30)
    rw [hz0] at this
    exact this
  have n1 : w.heap.size ≠ W0.heap.size := by omega
  have n2 : m ≠ W0.heap.size := by omega
  have hzA1 : w.heap.size + 3 ≤ (W0.alloc (.cells #[.int .i64 0, .int .i64 0, .int .i64 0, .int .i64 0] 30)).drew.heap.size := by omega
  have hzA2 : (W0.alloc (.cells #[.int .i64 0, .int .i64 0, .int .i64 0, .int .i64 0] 30)).drew.heap.size ≤ w.heap.size + 3 := by omega
  have hz1 : w.heap.size + 2 ≤ W0.heap.size := by omega
  have hz2 : W0.heap.size ≤ w.heap.size + 2 := by omega
  have hzd1 : w.heap.size + 2 ≤ W0.drew.heap.size := hz1
  clear hz0 hzA
  unfold cmdV
  unfold an0 anE An.cs at hW0 a1 a1d a1A
  dsimp only at hW0 a1 a1d a1A
  go_enter Tryz.func49, Tryz.ntmps49
  go_wp2_with fail
  go_region_held3 (fun W => W.cell? ⟨m, 0, none⟩ = some (.pointer (some ⟨s, 0, none⟩)) ∧ W.cell? ⟨w.heap.size, 1, none⟩ = some (.int .i64 A))
    (with_reducible first | exact ⟨d0, d1⟩ | exact ⟨dA0, dA1⟩ | exact ⟨g0, g1⟩ | exact ⟨e1'.cellA rfl _, a0'.cellA rfl _⟩ | exact ⟨e1'.cell4 n2 rfl _ _ _ _, a0'.cell4 n1 rfl _ _ _ _⟩)
    ((go_at_call 9
      first
        | (with_reducible refine (cInsert hEd hZ hN hA).mono ?_)
        | (with_reducible refine (cInsert hEA hZ hN hA).mono ?_)
      rintro e w1 ⟨⟨p1, p2, p3, p4, v, rfl, hv, K', hK, hE1⟩, hO1⟩
      have hq := And.intro hv hK
      have e1' := hE1.blk
      first
        | (have hO1a : Only (fun i => Z i ∧ i < w.heap.size) (W0.alloc (.cells #[.int .i64 0, .int .i64 0, .int .i64 0, .int .i64 0] 30)).drew w1 := (by with_reducible exact hO1)
           have a0' := a0A.only hO1a (fun q => by have := q.2; omega)
           have k1 := b7.only hO1a (fun q => by have := q.2; omega)
           obtain ⟨x0, x1, x2, x3⟩ := k1.four
           obtain ⟨f0, f1, f2, f3⟩ := k1.frozens)
        | (have hO1a : Only (fun i => Z i ∧ i < w.heap.size) W0.drew w1 := (by with_reducible exact hO1)
           have a0' := a0d.only hO1a (fun q => by have := q.2; omega))
      have g0 : w1.cell? ⟨m, 0, none⟩ = some (.pointer (some ⟨s, 0, none⟩)) := (by rw [e1'.cell]; rfl)
      have g1 : w1.cell? ⟨w.heap.size, 1, none⟩ = some (.int .i64 A) := (by rw [a0'.cell]; rfl)))
  all_goals (
    have hns : ∀ g, w.heap.size ≤ g → ¬ (Z g ∧ g < w.heap.size) := fun g q1 q2 => by have := q2.2; omega
    first
      | (have hO1' : Only (fun i => Z i ∧ i < w.heap.size) (W0.alloc (.cells #[.int .i64 0, .int .i64 0, .int .i64 0, .int .i64 0] 30)).drew w1 := (by with_reducible exact hO1)
         have hBW := hBwA
         have k1 := b7.only hO1' (hns _ (by omega))
         have b1 := a1A.only hO1' (hns _ (by omega))
         have hlt := hO1'.size
         have k5 := k1.put4 (.int .i64 p1) (.int .i64 p2) (.int .i64 p3) (.int .i64 p4)
         have b5 := b1.put4far (g' := W0.heap.size) (by omega) (.int .i64 p1) (.int .i64 p2) (.int .i64 p3) (.int .i64 p4)
         have hO5 := (Only.refl (fun i => w.heap.size ≤ i ∧ i < (W0.alloc (.cells #[.int .i64 0, .int .i64 0, .int .i64 0, .int .i64 0] 30)).drew.heap.size) w1).put4 (g := W0.heap.size) (.inl ⟨by omega, by omega⟩) (.int .i64 p1) (.int .i64 p2) (.int .i64 p3) (.int .i64 p4)
         have hX : w.heap.size ≤ w.heap.size + 1 ∧ w.heap.size + 1 < (W0.alloc (.cells #[.int .i64 0, .int .i64 0, .int .i64 0, .int .i64 0] 30)).drew.heap.size := ⟨by omega, by omega⟩
         generalize ((((w1.setCell ⟨W0.heap.size, 0, none⟩ (.int .i64 p1)).setCell ⟨W0.heap.size, 1, none⟩ (.int .i64 p2)).setCell ⟨W0.heap.size, 2, none⟩ (.int .i64 p3)).setCell ⟨W0.heap.size, 3, none⟩ (.int .i64 p4)) = W5 at *)
      | (have hO1' : Only (fun i => Z i ∧ i < w.heap.size) W0.drew w1 := (by with_reducible exact hO1)
         have hBW := hBw
         have b1 := a1d.only hO1' (hns _ (by omega))
         have hlt := hO1'.size
         have k5 := Blk.made w1 30 #[.int .i64 p1, .int .i64 p2, .int .i64 p3, .int .i64 p4]
         have b5 := b1.alloc (.cells #[.int .i64 p1, .int .i64 p2, .int .i64 p3, .int .i64 p4] 30)
         have hO5 := (Only.refl (fun i => w.heap.size ≤ i ∧ i < W0.drew.heap.size) w1).alloc (.cells #[.int .i64 p1, .int .i64 p2, .int .i64 p3, .int .i64 p4] 30)
         have hX : w.heap.size ≤ w.heap.size + 1 ∧ w.heap.size + 1 < W0.drew.heap.size := ⟨by omega, by omega⟩)
    obtain ⟨y0, y1, y2, y3⟩ := k5.four
    have han := fun W => answer_any ⟨0, 0, false, p1, p2, p3, p4, none, 0, 0⟩ v W
    obtain ⟨z, hz⟩ : ∃ z, z = An.or ⟨0, 0, false, p1, p2, p3, p4, none, 0, 0⟩ v := ⟨_, rfl⟩
    have hzc : z.code = v := by rw [hz]; exact An.or_code rfl
    rw [← hz] at han
    clear hz
    obtain ⟨z1, z2, z3, z4, z5, z6, z7, z8, z9, z10⟩ := z
    dsimp only at hzc
    subst hzc
    unfold An.cs at han
    dsimp only at han
    have HE1 := Lib.hid hE1
    have HHO := Lib.hid (And.intro hO1' hO5)
    have HQ := Lib.hid hq
    clear hE1 hO1' hO5 hO1 hq)
  all_goals go_wp2_with fail
  all_goals refine (han _).mono ?_
  all_goals rintro e w6 ⟨rfl, hB6⟩
  all_goals (
    have b6 := b5.below hB6 b5.lt
    obtain ⟨y0, y1, y2, y3, y4, y5, y6, y7⟩ := b6.eight
    obtain ⟨f0, f1, f2, f3, f4, f5, f6, f7⟩ := b6.frozen8)
  all_goals go_wp2_with fail
  all_goals refine bodyPost_ret (results_c rfl _ rfl (b6.put8 _ _ _ _ _ _ _ _) Tryz.underlying33 (by kernel_rfl)) rfl ?_
  all_goals (
    obtain ⟨q1, q2⟩ := mac_end HE1.out hBW HHO.out.1 ((HHO.out.2.trans (Only.of_below hB6)).put8 (g := w.heap.size + 1) (.inl hX) (.int .i64 z1) (.int .i64 z2) (.bool z3) (.int .i64 z4) (.int .i64 z5) (.int .i64 z6) (.int .i64 z7) (.slice z8 z9 z10)) hw2
    exact ⟨⟨⟨z1, z2, z3, z4, z5, z6, z7, z8, z9, z10⟩, rfl, HQ.out.1, K', HQ.out.2, q1⟩, q2⟩)
set_option maxRecDepth 100000 in
set_option maxHeartbeats 4000000 in
theorem mDrop (hM : MacE Z w m s b h2 r2 K L t) (hZ0 : ∀ i, Z i → i ≠ 2) (c : ByteArray) {A C : Int} (hN : K.length ≤ 2560) :
    Calls Tryz.prog 50 #[.pointer (some ⟨m, 0, none⟩), cmdV c A C] w fun e w' => (∃ x : An, e = .returned (.agg x.cs) ∧ x.code ≠ 16 ∧ ∃ K', K'.length ≤ K.length + 1 ∧ MacE (ZA Z w) w' m s b h2 r2 K' L t) ∧ Only Z w w' := by
  have hw2 : 2 < w.heap.size := hM.mac.tab.pos
  obtain ⟨W0, hW0, a0, a1, hB0, hz0⟩ := boxed c A C w
  have hE : MacE (fun i => Z i ∧ i < w.heap.size) w m s b h2 r2 K L t := hM.mono fun i q1 q2 => ⟨q2, q1⟩
  have hE0 := hE.below hB0
  have hmlt := hE.blk.lt
  have hZ : ∀ i, (Z i ∧ i < w.heap.size) → i ≠ 2 := fun i q => hZ0 i q.1
  have c0 : W0.cell? ⟨m, 0, none⟩ = some (.pointer (some ⟨s, 0, none⟩)) := by rw [hE0.blk.cell]; rfl
  have c1 : W0.cell? ⟨w.heap.size, 1, none⟩ = some (.int .i64 A) := by rw [a0.cell]; rfl
  have d0 : W0.drew.cell? ⟨m, 0, none⟩ = some (.pointer (some ⟨s, 0, none⟩)) := c0
  have d1 : W0.drew.cell? ⟨w.heap.size, 1, none⟩ = some (.int .i64 A) := c1
  have hBd : Below W0.heap.size W0 W0.drew := below_drewN (Below.refl _ _) 1
  have hBA : Below W0.heap.size W0 (W0.alloc (.cells #[.int .i64 0, .int .i64 0, .int .i64 0, .int .i64 0] 30)).drew := below_drewN ((Below.refl _ W0).alloc (Nat.le_refl _) (.cells #[.int .i64 0, .int .i64 0, .int .i64 0, .int .i64 0] 30)) 1
  have hEd := hE0.below hBd
  have hEA := hE0.below hBA
  have a0d := a0.below hBd a0.lt
  have a1d := a1.below hBd a1.lt
  have a0A := a0.below hBA a0.lt
  have a1A := a1.below hBA a1.lt
  have b7 : Blk (W0.alloc (.cells #[.int .i64 0, .int .i64 0, .int .i64 0, .int .i64 0] 30)).drew W0.heap.size 30 #[.int .i64 0, .int .i64 0, .int .i64 0, .int .i64 0] := Blk.made W0 30 #[.int .i64 0, .int .i64 0, .int .i64 0, .int .i64 0]
  have dA0 : (W0.alloc (.cells #[.int .i64 0, .int .i64 0, .int .i64 0, .int .i64 0] 30)).drew.cell? ⟨m, 0, none⟩ = some (.pointer (some ⟨s, 0, none⟩)) := by rw [hEA.blk.cell]; rfl
  have dA1 : (W0.alloc (.cells #[.int .i64 0, .int .i64 0, .int .i64 0, .int .i64 0] 30)).drew.cell? ⟨w.heap.size, 1, none⟩ = some (.int .i64 A) := by rw [a0A.cell]; rfl
  have hBw : Below w.heap.size w W0.drew := hB0.trans (hBd.mono hB0.size)
  have hBwA : Below w.heap.size w (W0.alloc (.cells #[.int .i64 0, .int .i64 0, .int .i64 0, .int .i64 0] 30)).drew := hB0.trans (hBA.mono hB0.size)
  have hzA : (W0.alloc (.cells #[.int .i64 0, .int .i64 0, .int .i64 0, .int .i64 0] 30)).drew.heap.size = w.heap.size + 3 := by
    have := World.size_alloc W0 (.cells #[.int .i64 0, .int .i64 0, .int .i64 0, .int .i64 0] 30)
    rw [hz0] at this
    exact this
  have n1 : w.heap.size ≠ W0.heap.size := by omega
  have n2 : m ≠ W0.heap.size := by omega
  have hzA1 : w.heap.size + 3 ≤ (W0.alloc (.cells #[.int .i64 0, .int .i64 0, .int .i64 0, .int .i64 0] 30)).drew.heap.size := by omega
  have hzA2 : (W0.alloc (.cells #[.int .i64 0, .int .i64 0, .int .i64 0, .int .i64 0] 30)).drew.heap.size ≤ w.heap.size + 3 := by omega
  have hz1 : w.heap.size + 2 ≤ W0.heap.size := by omega
  have hz2 : W0.heap.size ≤ w.heap.size + 2 := by omega
  have hzd1 : w.heap.size + 2 ≤ W0.drew.heap.size := hz1
  clear hz0 hzA
  unfold cmdV
  unfold an0 anE An.cs at hW0 a1 a1d a1A
  dsimp only at hW0 a1 a1d a1A
  go_enter Tryz.func50, Tryz.ntmps50
  go_wp2_with fail
  go_region_held3 (fun W => W.cell? ⟨m, 0, none⟩ = some (.pointer (some ⟨s, 0, none⟩)) ∧ W.cell? ⟨w.heap.size, 1, none⟩ = some (.int .i64 A))
    (with_reducible first | exact ⟨d0, d1⟩ | exact ⟨dA0, dA1⟩ | exact ⟨g0, g1⟩ | exact ⟨e1'.cellA rfl _, a0'.cellA rfl _⟩ | exact ⟨e1'.cell4 n2 rfl _ _ _ _, a0'.cell4 n1 rfl _ _ _ _⟩)
    ((go_at_call 99
      first
        | (with_reducible refine (cDrop hEd hZ hN).mono ?_)
        | (with_reducible refine (cDrop hEA hZ hN).mono ?_)
      rintro e w1 ⟨⟨p1, p2, p3, p4, v, rfl, hv, K', hK, hE1⟩, hO1⟩
      have hq := And.intro hv hK
      have e1' := hE1.blk
      first
        | (have hO1a : Only (fun i => Z i ∧ i < w.heap.size) (W0.alloc (.cells #[.int .i64 0, .int .i64 0, .int .i64 0, .int .i64 0] 30)).drew w1 := (by with_reducible exact hO1)
           have a0' := a0A.only hO1a (fun q => by have := q.2; omega)
           have k1 := b7.only hO1a (fun q => by have := q.2; omega)
           obtain ⟨x0, x1, x2, x3⟩ := k1.four
           obtain ⟨f0, f1, f2, f3⟩ := k1.frozens)
        | (have hO1a : Only (fun i => Z i ∧ i < w.heap.size) W0.drew w1 := (by with_reducible exact hO1)
           have a0' := a0d.only hO1a (fun q => by have := q.2; omega))
      have g0 : w1.cell? ⟨m, 0, none⟩ = some (.pointer (some ⟨s, 0, none⟩)) := (by rw [e1'.cell]; rfl)
      have g1 : w1.cell? ⟨w.heap.size, 1, none⟩ = some (.int .i64 A) := (by rw [a0'.cell]; rfl)))
  all_goals (
    have hns : ∀ g, w.heap.size ≤ g → ¬ (Z g ∧ g < w.heap.size) := fun g q1 q2 => by have := q2.2; omega
    first
      | (have hO1' : Only (fun i => Z i ∧ i < w.heap.size) (W0.alloc (.cells #[.int .i64 0, .int .i64 0, .int .i64 0, .int .i64 0] 30)).drew w1 := (by with_reducible exact hO1)
         have hBW := hBwA
         have k1 := b7.only hO1' (hns _ (by omega))
         have b1 := a1A.only hO1' (hns _ (by omega))
         have hlt := hO1'.size
         have k5 := k1.put4 (.int .i64 p1) (.int .i64 p2) (.int .i64 p3) (.int .i64 p4)
         have b5 := b1.put4far (g' := W0.heap.size) (by omega) (.int .i64 p1) (.int .i64 p2) (.int .i64 p3) (.int .i64 p4)
         have hO5 := (Only.refl (fun i => w.heap.size ≤ i ∧ i < (W0.alloc (.cells #[.int .i64 0, .int .i64 0, .int .i64 0, .int .i64 0] 30)).drew.heap.size) w1).put4 (g := W0.heap.size) (.inl ⟨by omega, by omega⟩) (.int .i64 p1) (.int .i64 p2) (.int .i64 p3) (.int .i64 p4)
         have hX : w.heap.size ≤ w.heap.size + 1 ∧ w.heap.size + 1 < (W0.alloc (.cells #[.int .i64 0, .int .i64 0, .int .i64 0, .int .i64 0] 30)).drew.heap.size := ⟨by omega, by omega⟩
         generalize ((((w1.setCell ⟨W0.heap.size, 0, none⟩ (.int .i64 p1)).setCell ⟨W0.heap.size, 1, none⟩ (.int .i64 p2)).setCell ⟨W0.heap.size, 2, none⟩ (.int .i64 p3)).setCell ⟨W0.heap.size, 3, none⟩ (.int .i64 p4)) = W5 at *)
      | (have hO1' : Only (fun i => Z i ∧ i < w.heap.size) W0.drew w1 := (by with_reducible exact hO1)
         have hBW := hBw
         have b1 := a1d.only hO1' (hns _ (by omega))
         have hlt := hO1'.size
         have k5 := Blk.made w1 30 #[.int .i64 p1, .int .i64 p2, .int .i64 p3, .int .i64 p4]
         have b5 := b1.alloc (.cells #[.int .i64 p1, .int .i64 p2, .int .i64 p3, .int .i64 p4] 30)
         have hO5 := (Only.refl (fun i => w.heap.size ≤ i ∧ i < W0.drew.heap.size) w1).alloc (.cells #[.int .i64 p1, .int .i64 p2, .int .i64 p3, .int .i64 p4] 30)
         have hX : w.heap.size ≤ w.heap.size + 1 ∧ w.heap.size + 1 < W0.drew.heap.size := ⟨by omega, by omega⟩)
    obtain ⟨y0, y1, y2, y3⟩ := k5.four
    have han := fun W => answer_any ⟨0, 0, false, p1, p2, p3, p4, none, 0, 0⟩ v W
    obtain ⟨z, hz⟩ : ∃ z, z = An.or ⟨0, 0, false, p1, p2, p3, p4, none, 0, 0⟩ v := ⟨_, rfl⟩
    have hzc : z.code = v := by rw [hz]; exact An.or_code rfl
    rw [← hz] at han
    clear hz
    obtain ⟨z1, z2, z3, z4, z5, z6, z7, z8, z9, z10⟩ := z
    dsimp only at hzc
    subst hzc
    unfold An.cs at han
    dsimp only at han
    have HE1 := Lib.hid hE1
    have HHO := Lib.hid (And.intro hO1' hO5)
    have HQ := Lib.hid hq
    clear hE1 hO1' hO5 hO1 hq)
  all_goals go_wp2_with fail
  all_goals refine (han _).mono ?_
  all_goals rintro e w6 ⟨rfl, hB6⟩
  all_goals (
    have b6 := b5.below hB6 b5.lt
    obtain ⟨y0, y1, y2, y3, y4, y5, y6, y7⟩ := b6.eight
    obtain ⟨f0, f1, f2, f3, f4, f5, f6, f7⟩ := b6.frozen8)
  all_goals go_wp2_with fail
  all_goals refine bodyPost_ret (results_c rfl _ rfl (b6.put8 _ _ _ _ _ _ _ _) Tryz.underlying33 (by kernel_rfl)) rfl ?_
  all_goals (
    obtain ⟨q1, q2⟩ := mac_end HE1.out hBW HHO.out.1 ((HHO.out.2.trans (Only.of_below hB6)).put8 (g := w.heap.size + 1) (.inl hX) (.int .i64 z1) (.int .i64 z2) (.bool z3) (.int .i64 z4) (.int .i64 z5) (.int .i64 z6) (.int .i64 z7) (.slice z8 z9 z10)) hw2
    exact ⟨⟨⟨z1, z2, z3, z4, z5, z6, z7, z8, z9, z10⟩, rfl, HQ.out.1, K', HQ.out.2, q1⟩, q2⟩)
set_option maxRecDepth 100000 in
set_option maxHeartbeats 4000000 in
theorem mRemove (hM : MacE Z w m s b h2 r2 K L t) (hZ0 : ∀ i, Z i → i ≠ 2) (c : ByteArray) {A C : Int} (hN : L.length ≤ 2560) (hA : inH A) :
    Calls Tryz.prog 62 #[.pointer (some ⟨m, 0, none⟩), cmdV c A C] w fun e w' => (∃ x : An, e = .returned (.agg x.cs) ∧ x.code ≠ 16 ∧ ∃ h2' r2' L' t', L'.length ≤ L.length ∧ t'.length = t.length ∧ MacE (ZA Z w) w' m s b h2' r2' K L' t') ∧ Only Z w w' := by
  have hw2 : 2 < w.heap.size := hM.mac.tab.pos
  obtain ⟨W0, hW0, a0, a1, hB0, hz0⟩ := boxed c A C w
  have hE : MacE (fun i => Z i ∧ i < w.heap.size) w m s b h2 r2 K L t := hM.mono fun i q1 q2 => ⟨q2, q1⟩
  have hE0 := hE.below hB0
  have hmlt := hE.blk.lt
  have hZ : ∀ i, (Z i ∧ i < w.heap.size) → i ≠ 2 := fun i q => hZ0 i q.1
  have c0 : W0.cell? ⟨m, 1, none⟩ = some (.pointer (some ⟨b.lb, 0, none⟩)) := by rw [hE0.blk.cell]; rfl
  have c1 : W0.cell? ⟨w.heap.size, 1, none⟩ = some (.int .i64 A) := by rw [a0.cell]; rfl
  have d0 : W0.drew.cell? ⟨m, 1, none⟩ = some (.pointer (some ⟨b.lb, 0, none⟩)) := c0
  have d1 : W0.drew.cell? ⟨w.heap.size, 1, none⟩ = some (.int .i64 A) := c1
  have hBd : Below W0.heap.size W0 W0.drew := below_drewN (Below.refl _ _) 1
  have hBA : Below W0.heap.size W0 (W0.alloc (.cells #[.int .i64 0, .int .i64 0, .int .i64 0, .int .i64 0] 30)).drew := below_drewN ((Below.refl _ W0).alloc (Nat.le_refl _) (.cells #[.int .i64 0, .int .i64 0, .int .i64 0, .int .i64 0] 30)) 1
  have hEd := hE0.below hBd
  have hEA := hE0.below hBA
  have a0d := a0.below hBd a0.lt
  have a1d := a1.below hBd a1.lt
  have a0A := a0.below hBA a0.lt
  have a1A := a1.below hBA a1.lt
  have b7 : Blk (W0.alloc (.cells #[.int .i64 0, .int .i64 0, .int .i64 0, .int .i64 0] 30)).drew W0.heap.size 30 #[.int .i64 0, .int .i64 0, .int .i64 0, .int .i64 0] := Blk.made W0 30 #[.int .i64 0, .int .i64 0, .int .i64 0, .int .i64 0]
  have dA0 : (W0.alloc (.cells #[.int .i64 0, .int .i64 0, .int .i64 0, .int .i64 0] 30)).drew.cell? ⟨m, 1, none⟩ = some (.pointer (some ⟨b.lb, 0, none⟩)) := by rw [hEA.blk.cell]; rfl
  have dA1 : (W0.alloc (.cells #[.int .i64 0, .int .i64 0, .int .i64 0, .int .i64 0] 30)).drew.cell? ⟨w.heap.size, 1, none⟩ = some (.int .i64 A) := by rw [a0A.cell]; rfl
  have hBw : Below w.heap.size w W0.drew := hB0.trans (hBd.mono hB0.size)
  have hBwA : Below w.heap.size w (W0.alloc (.cells #[.int .i64 0, .int .i64 0, .int .i64 0, .int .i64 0] 30)).drew := hB0.trans (hBA.mono hB0.size)
  have hzA : (W0.alloc (.cells #[.int .i64 0, .int .i64 0, .int .i64 0, .int .i64 0] 30)).drew.heap.size = w.heap.size + 3 := by
    have := World.size_alloc W0 (.cells #[.int .i64 0, .int .i64 0, .int .i64 0, .int .i64 0] 30)
    rw [hz0] at this
    exact this
  have n1 : w.heap.size ≠ W0.heap.size := by omega
  have n2 : m ≠ W0.heap.size := by omega
  have hzA1 : w.heap.size + 3 ≤ (W0.alloc (.cells #[.int .i64 0, .int .i64 0, .int .i64 0, .int .i64 0] 30)).drew.heap.size := by omega
  have hzA2 : (W0.alloc (.cells #[.int .i64 0, .int .i64 0, .int .i64 0, .int .i64 0] 30)).drew.heap.size ≤ w.heap.size + 3 := by omega
  have hz1 : w.heap.size + 2 ≤ W0.heap.size := by omega
  have hz2 : W0.heap.size ≤ w.heap.size + 2 := by omega
  have hzd1 : w.heap.size + 2 ≤ W0.drew.heap.size := hz1
  clear hz0 hzA
  unfold cmdV
  unfold an0 anE An.cs at hW0 a1 a1d a1A
  dsimp only at hW0 a1 a1d a1A
  go_enter Tryz.func62, Tryz.ntmps62
  go_wp2_with fail
  go_region_held3 (fun W => W.cell? ⟨m, 1, none⟩ = some (.pointer (some ⟨b.lb, 0, none⟩)) ∧ W.cell? ⟨w.heap.size, 1, none⟩ = some (.int .i64 A))
    (with_reducible first | exact ⟨d0, d1⟩ | exact ⟨dA0, dA1⟩ | exact ⟨g0, g1⟩ | exact ⟨e1'.cellA rfl _, a0'.cellA rfl _⟩ | exact ⟨e1'.cell4 n2 rfl _ _ _ _, a0'.cell4 n1 rfl _ _ _ _⟩)
    ((go_at_call 110
      first
        | (with_reducible refine (cRemove hEd hZ hN hA).mono ?_)
        | (with_reducible refine (cRemove hEA hZ hN hA).mono ?_)
      rintro e w1 ⟨⟨p1, p2, p3, p4, v, rfl, hv, h2', r2', L', t', hK, hT, hE1⟩, hO1⟩
      have hq := And.intro hv (And.intro hK hT)
      have e1' := hE1.blk
      first
        | (have hO1a : Only (fun i => Z i ∧ i < w.heap.size) (W0.alloc (.cells #[.int .i64 0, .int .i64 0, .int .i64 0, .int .i64 0] 30)).drew w1 := (by with_reducible exact hO1)
           have a0' := a0A.only hO1a (fun q => by have := q.2; omega)
           have k1 := b7.only hO1a (fun q => by have := q.2; omega)
           obtain ⟨x0, x1, x2, x3⟩ := k1.four
           obtain ⟨f0, f1, f2, f3⟩ := k1.frozens)
        | (have hO1a : Only (fun i => Z i ∧ i < w.heap.size) W0.drew w1 := (by with_reducible exact hO1)
           have a0' := a0d.only hO1a (fun q => by have := q.2; omega))
      have g0 : w1.cell? ⟨m, 1, none⟩ = some (.pointer (some ⟨b.lb, 0, none⟩)) := (by rw [e1'.cell]; rfl)
      have g1 : w1.cell? ⟨w.heap.size, 1, none⟩ = some (.int .i64 A) := (by rw [a0'.cell]; rfl)))
  all_goals (
    have hns : ∀ g, w.heap.size ≤ g → ¬ (Z g ∧ g < w.heap.size) := fun g q1 q2 => by have := q2.2; omega
    first
      | (have hO1' : Only (fun i => Z i ∧ i < w.heap.size) (W0.alloc (.cells #[.int .i64 0, .int .i64 0, .int .i64 0, .int .i64 0] 30)).drew w1 := (by with_reducible exact hO1)
         have hBW := hBwA
         have k1 := b7.only hO1' (hns _ (by omega))
         have b1 := a1A.only hO1' (hns _ (by omega))
         have hlt := hO1'.size
         have k5 := k1.put4 (.int .i64 p1) (.int .i64 p2) (.int .i64 p3) (.int .i64 p4)
         have b5 := b1.put4far (g' := W0.heap.size) (by omega) (.int .i64 p1) (.int .i64 p2) (.int .i64 p3) (.int .i64 p4)
         have hO5 := (Only.refl (fun i => w.heap.size ≤ i ∧ i < (W0.alloc (.cells #[.int .i64 0, .int .i64 0, .int .i64 0, .int .i64 0] 30)).drew.heap.size) w1).put4 (g := W0.heap.size) (.inl ⟨by omega, by omega⟩) (.int .i64 p1) (.int .i64 p2) (.int .i64 p3) (.int .i64 p4)
         have hX : w.heap.size ≤ w.heap.size + 1 ∧ w.heap.size + 1 < (W0.alloc (.cells #[.int .i64 0, .int .i64 0, .int .i64 0, .int .i64 0] 30)).drew.heap.size := ⟨by omega, by omega⟩
         generalize ((((w1.setCell ⟨W0.heap.size, 0, none⟩ (.int .i64 p1)).setCell ⟨W0.heap.size, 1, none⟩ (.int .i64 p2)).setCell ⟨W0.heap.size, 2, none⟩ (.int .i64 p3)).setCell ⟨W0.heap.size, 3, none⟩ (.int .i64 p4)) = W5 at *)
      | (have hO1' : Only (fun i => Z i ∧ i < w.heap.size) W0.drew w1 := (by with_reducible exact hO1)
         have hBW := hBw
         have b1 := a1d.only hO1' (hns _ (by omega))
         have hlt := hO1'.size
         have k5 := Blk.made w1 30 #[.int .i64 p1, .int .i64 p2, .int .i64 p3, .int .i64 p4]
         have b5 := b1.alloc (.cells #[.int .i64 p1, .int .i64 p2, .int .i64 p3, .int .i64 p4] 30)
         have hO5 := (Only.refl (fun i => w.heap.size ≤ i ∧ i < W0.drew.heap.size) w1).alloc (.cells #[.int .i64 p1, .int .i64 p2, .int .i64 p3, .int .i64 p4] 30)
         have hX : w.heap.size ≤ w.heap.size + 1 ∧ w.heap.size + 1 < W0.drew.heap.size := ⟨by omega, by omega⟩)
    obtain ⟨y0, y1, y2, y3⟩ := k5.four
    have han := fun W => answer_any ⟨0, 0, false, p1, p2, p3, p4, none, 0, 0⟩ v W
    obtain ⟨z, hz⟩ : ∃ z, z = An.or ⟨0, 0, false, p1, p2, p3, p4, none, 0, 0⟩ v := ⟨_, rfl⟩
    have hzc : z.code = v := by rw [hz]; exact An.or_code rfl
    rw [← hz] at han
    clear hz
    obtain ⟨z1, z2, z3, z4, z5, z6, z7, z8, z9, z10⟩ := z
    dsimp only at hzc
    subst hzc
    unfold An.cs at han
    dsimp only at han
    have HE1 := Lib.hid hE1
    have HHO := Lib.hid (And.intro hO1' hO5)
    have HQ := Lib.hid hq
    clear hE1 hO1' hO5 hO1 hq)
  all_goals go_wp2_with fail
  all_goals refine (han _).mono ?_
  all_goals rintro e w6 ⟨rfl, hB6⟩
  all_goals (
    have b6 := b5.below hB6 b5.lt
    obtain ⟨y0, y1, y2, y3, y4, y5, y6, y7⟩ := b6.eight
    obtain ⟨f0, f1, f2, f3, f4, f5, f6, f7⟩ := b6.frozen8)
  all_goals go_wp2_with fail
  all_goals refine bodyPost_ret (results_c rfl _ rfl (b6.put8 _ _ _ _ _ _ _ _) Tryz.underlying33 (by kernel_rfl)) rfl ?_
  all_goals (
    obtain ⟨q1, q2⟩ := mac_end HE1.out hBW HHO.out.1 ((HHO.out.2.trans (Only.of_below hB6)).put8 (g := w.heap.size + 1) (.inl hX) (.int .i64 z1) (.int .i64 z2) (.bool z3) (.int .i64 z4) (.int .i64 z5) (.int .i64 z6) (.int .i64 z7) (.slice z8 z9 z10)) hw2
    exact ⟨⟨⟨z1, z2, z3, z4, z5, z6, z7, z8, z9, z10⟩, rfl, HQ.out.1, h2', r2', L', t', HQ.out.2.1, HQ.out.2.2, q1⟩, q2⟩)
set_option maxRecDepth 100000 in
set_option maxHeartbeats 4000000 in
theorem mAfter (hM : MacE Z w m s b h2 r2 K L t) (hZ0 : ∀ i, Z i → i ≠ 2) (c : ByteArray) {A C : Int} (hN : L.length < 2560) (hT : t.length < 1000000) (hA : inH A) :
    Calls Tryz.prog 60 #[.pointer (some ⟨m, 0, none⟩), cmdV c A C] w fun e w' => (∃ x : An, e = .returned (.agg x.cs) ∧ x.code ≠ 16 ∧ ∃ h2' r2' L' t', L'.length ≤ L.length + 1 ∧ t'.length = t.length + (if x.code = 0 then 1 else 0) ∧ MacE (ZA Z w) w' m s b h2' r2' K L' t') ∧ Only Z w w' := by
  have hw2 : 2 < w.heap.size := hM.mac.tab.pos
  obtain ⟨W0, hW0, a0, a1, hB0, hz0⟩ := boxed c A C w
  have hE : MacE (fun i => Z i ∧ i < w.heap.size) w m s b h2 r2 K L t := hM.mono fun i q1 q2 => ⟨q2, q1⟩
  have hE0 := hE.below hB0
  have hmlt := hE.blk.lt
  have hZ : ∀ i, (Z i ∧ i < w.heap.size) → i ≠ 2 := fun i q => hZ0 i q.1
  have c0 : W0.cell? ⟨m, 1, none⟩ = some (.pointer (some ⟨b.lb, 0, none⟩)) := by rw [hE0.blk.cell]; rfl
  have c1 : W0.cell? ⟨w.heap.size, 1, none⟩ = some (.int .i64 A) := by rw [a0.cell]; rfl
  have d0 : W0.drew.cell? ⟨m, 1, none⟩ = some (.pointer (some ⟨b.lb, 0, none⟩)) := c0
  have d1 : W0.drew.cell? ⟨w.heap.size, 1, none⟩ = some (.int .i64 A) := c1
  have hBd : Below W0.heap.size W0 W0.drew := below_drewN (Below.refl _ _) 1
  have hBA : Below W0.heap.size W0 (W0.alloc (.cells #[.int .i64 0, .int .i64 0, .int .i64 0, .int .i64 0] 30)).drew := below_drewN ((Below.refl _ W0).alloc (Nat.le_refl _) (.cells #[.int .i64 0, .int .i64 0, .int .i64 0, .int .i64 0] 30)) 1
  have hEd := hE0.below hBd
  have hEA := hE0.below hBA
  have a0d := a0.below hBd a0.lt
  have a1d := a1.below hBd a1.lt
  have a0A := a0.below hBA a0.lt
  have a1A := a1.below hBA a1.lt
  have b7 : Blk (W0.alloc (.cells #[.int .i64 0, .int .i64 0, .int .i64 0, .int .i64 0] 30)).drew W0.heap.size 30 #[.int .i64 0, .int .i64 0, .int .i64 0, .int .i64 0] := Blk.made W0 30 #[.int .i64 0, .int .i64 0, .int .i64 0, .int .i64 0]
  have dA0 : (W0.alloc (.cells #[.int .i64 0, .int .i64 0, .int .i64 0, .int .i64 0] 30)).drew.cell? ⟨m, 1, none⟩ = some (.pointer (some ⟨b.lb, 0, none⟩)) := by rw [hEA.blk.cell]; rfl
  have dA1 : (W0.alloc (.cells #[.int .i64 0, .int .i64 0, .int .i64 0, .int .i64 0] 30)).drew.cell? ⟨w.heap.size, 1, none⟩ = some (.int .i64 A) := by rw [a0A.cell]; rfl
  have hBw : Below w.heap.size w W0.drew := hB0.trans (hBd.mono hB0.size)
  have hBwA : Below w.heap.size w (W0.alloc (.cells #[.int .i64 0, .int .i64 0, .int .i64 0, .int .i64 0] 30)).drew := hB0.trans (hBA.mono hB0.size)
  have hzA : (W0.alloc (.cells #[.int .i64 0, .int .i64 0, .int .i64 0, .int .i64 0] 30)).drew.heap.size = w.heap.size + 3 := by
    have := World.size_alloc W0 (.cells #[.int .i64 0, .int .i64 0, .int .i64 0, .int .i64 0] 30)
    rw [hz0] at this
    exact this
  have n1 : w.heap.size ≠ W0.heap.size := by omega
  have n2 : m ≠ W0.heap.size := by omega
  have hzA1 : w.heap.size + 3 ≤ (W0.alloc (.cells #[.int .i64 0, .int .i64 0, .int .i64 0, .int .i64 0] 30)).drew.heap.size := by omega
  have hzA2 : (W0.alloc (.cells #[.int .i64 0, .int .i64 0, .int .i64 0, .int .i64 0] 30)).drew.heap.size ≤ w.heap.size + 3 := by omega
  have hz1 : w.heap.size + 2 ≤ W0.heap.size := by omega
  have hz2 : W0.heap.size ≤ w.heap.size + 2 := by omega
  have hzd1 : w.heap.size + 2 ≤ W0.drew.heap.size := hz1
  clear hz0 hzA
  unfold cmdV
  unfold an0 anE An.cs at hW0 a1 a1d a1A
  dsimp only at hW0 a1 a1d a1A
  go_enter Tryz.func60, Tryz.ntmps60
  go_wp2_with fail
  go_region_held3 (fun W => W.cell? ⟨m, 1, none⟩ = some (.pointer (some ⟨b.lb, 0, none⟩)) ∧ W.cell? ⟨w.heap.size, 1, none⟩ = some (.int .i64 A))
    (with_reducible first | exact ⟨d0, d1⟩ | exact ⟨dA0, dA1⟩ | exact ⟨g0, g1⟩ | exact ⟨e1'.cellA rfl _, a0'.cellA rfl _⟩ | exact ⟨e1'.cell4 n2 rfl _ _ _ _, a0'.cell4 n1 rfl _ _ _ _⟩)
    ((go_at_call 108
      first
        | (with_reducible refine (cAfter hEd hZ hN hT hA).mono ?_)
        | (with_reducible refine (cAfter hEA hZ hN hT hA).mono ?_)
      rintro e w1 ⟨⟨n, p1, p2, p3, p4, v, rfl, hv, h2', r2', L', t', hK, hTT, hE1⟩, hO1⟩
      have hq := And.intro hv (And.intro hK hTT)
      have e1' := hE1.blk
      first
        | (have hO1a : Only (fun i => Z i ∧ i < w.heap.size) (W0.alloc (.cells #[.int .i64 0, .int .i64 0, .int .i64 0, .int .i64 0] 30)).drew w1 := (by with_reducible exact hO1)
           have a0' := a0A.only hO1a (fun q => by have := q.2; omega)
           have k1 := b7.only hO1a (fun q => by have := q.2; omega)
           obtain ⟨x0, x1, x2, x3⟩ := k1.four
           obtain ⟨f0, f1, f2, f3⟩ := k1.frozens)
        | (have hO1a : Only (fun i => Z i ∧ i < w.heap.size) W0.drew w1 := (by with_reducible exact hO1)
           have a0' := a0d.only hO1a (fun q => by have := q.2; omega))
      have g0 : w1.cell? ⟨m, 1, none⟩ = some (.pointer (some ⟨b.lb, 0, none⟩)) := (by rw [e1'.cell]; rfl)
      have g1 : w1.cell? ⟨w.heap.size, 1, none⟩ = some (.int .i64 A) := (by rw [a0'.cell]; rfl)))
  all_goals (
    have hns : ∀ g, w.heap.size ≤ g → ¬ (Z g ∧ g < w.heap.size) := fun g q1 q2 => by have := q2.2; omega
    first
      | (have hO1' : Only (fun i => Z i ∧ i < w.heap.size) (W0.alloc (.cells #[.int .i64 0, .int .i64 0, .int .i64 0, .int .i64 0] 30)).drew w1 := (by with_reducible exact hO1)
         have hBW := hBwA
         have k1 := b7.only hO1' (hns _ (by omega))
         have b1 := a1A.only hO1' (hns _ (by omega))
         have hlt := hO1'.size
         have k5 := k1.put4 (.int .i64 p1) (.int .i64 p2) (.int .i64 p3) (.int .i64 p4)
         have b5 := b1.put4far (g' := W0.heap.size) (by omega) (.int .i64 p1) (.int .i64 p2) (.int .i64 p3) (.int .i64 p4)
         have hO5 := (Only.refl (fun i => w.heap.size ≤ i ∧ i < (W0.alloc (.cells #[.int .i64 0, .int .i64 0, .int .i64 0, .int .i64 0] 30)).drew.heap.size) w1).put4 (g := W0.heap.size) (.inl ⟨by omega, by omega⟩) (.int .i64 p1) (.int .i64 p2) (.int .i64 p3) (.int .i64 p4)
         have hX : w.heap.size ≤ w.heap.size + 1 ∧ w.heap.size + 1 < (W0.alloc (.cells #[.int .i64 0, .int .i64 0, .int .i64 0, .int .i64 0] 30)).drew.heap.size := ⟨by omega, by omega⟩
         generalize ((((w1.setCell ⟨W0.heap.size, 0, none⟩ (.int .i64 p1)).setCell ⟨W0.heap.size, 1, none⟩ (.int .i64 p2)).setCell ⟨W0.heap.size, 2, none⟩ (.int .i64 p3)).setCell ⟨W0.heap.size, 3, none⟩ (.int .i64 p4)) = W5 at *)
      | (have hO1' : Only (fun i => Z i ∧ i < w.heap.size) W0.drew w1 := (by with_reducible exact hO1)
         have hBW := hBw
         have b1 := a1d.only hO1' (hns _ (by omega))
         have hlt := hO1'.size
         have k5 := Blk.made w1 30 #[.int .i64 p1, .int .i64 p2, .int .i64 p3, .int .i64 p4]
         have b5 := b1.alloc (.cells #[.int .i64 p1, .int .i64 p2, .int .i64 p3, .int .i64 p4] 30)
         have hO5 := (Only.refl (fun i => w.heap.size ≤ i ∧ i < W0.drew.heap.size) w1).alloc (.cells #[.int .i64 p1, .int .i64 p2, .int .i64 p3, .int .i64 p4] 30)
         have hX : w.heap.size ≤ w.heap.size + 1 ∧ w.heap.size + 1 < W0.drew.heap.size := ⟨by omega, by omega⟩)
    obtain ⟨y0, y1, y2, y3⟩ := k5.four
    have han := fun W => answer_any ⟨0, n, false, p1, p2, p3, p4, none, 0, 0⟩ v W
    obtain ⟨z, hz⟩ : ∃ z, z = An.or ⟨0, n, false, p1, p2, p3, p4, none, 0, 0⟩ v := ⟨_, rfl⟩
    have hzc : z.code = v := by rw [hz]; exact An.or_code rfl
    rw [← hz] at han
    clear hz
    obtain ⟨z1, z2, z3, z4, z5, z6, z7, z8, z9, z10⟩ := z
    dsimp only at hzc
    subst hzc
    unfold An.cs at han
    dsimp only at han
    have HE1 := Lib.hid hE1
    have HHO := Lib.hid (And.intro hO1' hO5)
    have HQ := Lib.hid hq
    clear hE1 hO1' hO5 hO1 hq)
  all_goals go_wp2_with fail
  all_goals refine (han _).mono ?_
  all_goals rintro e w6 ⟨rfl, hB6⟩
  all_goals (
    have b6 := b5.below hB6 b5.lt
    obtain ⟨y0, y1, y2, y3, y4, y5, y6, y7⟩ := b6.eight
    obtain ⟨f0, f1, f2, f3, f4, f5, f6, f7⟩ := b6.frozen8)
  all_goals go_wp2_with fail
  all_goals refine bodyPost_ret (results_c rfl _ rfl (b6.put8 _ _ _ _ _ _ _ _) Tryz.underlying33 (by kernel_rfl)) rfl ?_
  all_goals (
    obtain ⟨q1, q2⟩ := mac_end HE1.out hBW HHO.out.1 ((HHO.out.2.trans (Only.of_below hB6)).put8 (g := w.heap.size + 1) (.inl hX) (.int .i64 z1) (.int .i64 z2) (.bool z3) (.int .i64 z4) (.int .i64 z5) (.int .i64 z6) (.int .i64 z7) (.slice z8 z9 z10)) hw2
    exact ⟨⟨⟨z1, z2, z3, z4, z5, z6, z7, z8, z9, z10⟩, rfl, HQ.out.1, h2', r2', L', t', HQ.out.2.1, HQ.out.2.2, q1⟩, q2⟩)
set_option maxRecDepth 100000 in
set_option maxHeartbeats 4000000 in
theorem mAhead (hM : MacE Z w m s b h2 r2 K L t) (hZ0 : ∀ i, Z i → i ≠ 2) (c : ByteArray) {A C : Int} (hN : L.length < 2560) (hT : t.length < 1000000) (hA : inH A) :
    Calls Tryz.prog 61 #[.pointer (some ⟨m, 0, none⟩), cmdV c A C] w fun e w' => (∃ x : An, e = .returned (.agg x.cs) ∧ x.code ≠ 16 ∧ ∃ h2' r2' L' t', L'.length ≤ L.length + 1 ∧ t'.length = t.length + (if x.code = 0 then 1 else 0) ∧ MacE (ZA Z w) w' m s b h2' r2' K L' t') ∧ Only Z w w' := by
  have hw2 : 2 < w.heap.size := hM.mac.tab.pos
  obtain ⟨W0, hW0, a0, a1, hB0, hz0⟩ := boxed c A C w
  have hE : MacE (fun i => Z i ∧ i < w.heap.size) w m s b h2 r2 K L t := hM.mono fun i q1 q2 => ⟨q2, q1⟩
  have hE0 := hE.below hB0
  have hmlt := hE.blk.lt
  have hZ : ∀ i, (Z i ∧ i < w.heap.size) → i ≠ 2 := fun i q => hZ0 i q.1
  have c0 : W0.cell? ⟨m, 1, none⟩ = some (.pointer (some ⟨b.lb, 0, none⟩)) := by rw [hE0.blk.cell]; rfl
  have c1 : W0.cell? ⟨w.heap.size, 1, none⟩ = some (.int .i64 A) := by rw [a0.cell]; rfl
  have d0 : W0.drew.cell? ⟨m, 1, none⟩ = some (.pointer (some ⟨b.lb, 0, none⟩)) := c0
  have d1 : W0.drew.cell? ⟨w.heap.size, 1, none⟩ = some (.int .i64 A) := c1
  have hBd : Below W0.heap.size W0 W0.drew := below_drewN (Below.refl _ _) 1
  have hBA : Below W0.heap.size W0 (W0.alloc (.cells #[.int .i64 0, .int .i64 0, .int .i64 0, .int .i64 0] 30)).drew := below_drewN ((Below.refl _ W0).alloc (Nat.le_refl _) (.cells #[.int .i64 0, .int .i64 0, .int .i64 0, .int .i64 0] 30)) 1
  have hEd := hE0.below hBd
  have hEA := hE0.below hBA
  have a0d := a0.below hBd a0.lt
  have a1d := a1.below hBd a1.lt
  have a0A := a0.below hBA a0.lt
  have a1A := a1.below hBA a1.lt
  have b7 : Blk (W0.alloc (.cells #[.int .i64 0, .int .i64 0, .int .i64 0, .int .i64 0] 30)).drew W0.heap.size 30 #[.int .i64 0, .int .i64 0, .int .i64 0, .int .i64 0] := Blk.made W0 30 #[.int .i64 0, .int .i64 0, .int .i64 0, .int .i64 0]
  have dA0 : (W0.alloc (.cells #[.int .i64 0, .int .i64 0, .int .i64 0, .int .i64 0] 30)).drew.cell? ⟨m, 1, none⟩ = some (.pointer (some ⟨b.lb, 0, none⟩)) := by rw [hEA.blk.cell]; rfl
  have dA1 : (W0.alloc (.cells #[.int .i64 0, .int .i64 0, .int .i64 0, .int .i64 0] 30)).drew.cell? ⟨w.heap.size, 1, none⟩ = some (.int .i64 A) := by rw [a0A.cell]; rfl
  have hBw : Below w.heap.size w W0.drew := hB0.trans (hBd.mono hB0.size)
  have hBwA : Below w.heap.size w (W0.alloc (.cells #[.int .i64 0, .int .i64 0, .int .i64 0, .int .i64 0] 30)).drew := hB0.trans (hBA.mono hB0.size)
  have hzA : (W0.alloc (.cells #[.int .i64 0, .int .i64 0, .int .i64 0, .int .i64 0] 30)).drew.heap.size = w.heap.size + 3 := by
    have := World.size_alloc W0 (.cells #[.int .i64 0, .int .i64 0, .int .i64 0, .int .i64 0] 30)
    rw [hz0] at this
    exact this
  have n1 : w.heap.size ≠ W0.heap.size := by omega
  have n2 : m ≠ W0.heap.size := by omega
  have hzA1 : w.heap.size + 3 ≤ (W0.alloc (.cells #[.int .i64 0, .int .i64 0, .int .i64 0, .int .i64 0] 30)).drew.heap.size := by omega
  have hzA2 : (W0.alloc (.cells #[.int .i64 0, .int .i64 0, .int .i64 0, .int .i64 0] 30)).drew.heap.size ≤ w.heap.size + 3 := by omega
  have hz1 : w.heap.size + 2 ≤ W0.heap.size := by omega
  have hz2 : W0.heap.size ≤ w.heap.size + 2 := by omega
  have hzd1 : w.heap.size + 2 ≤ W0.drew.heap.size := hz1
  clear hz0 hzA
  unfold cmdV
  unfold an0 anE An.cs at hW0 a1 a1d a1A
  dsimp only at hW0 a1 a1d a1A
  go_enter Tryz.func61, Tryz.ntmps61
  go_wp2_with fail
  go_region_held3 (fun W => W.cell? ⟨m, 1, none⟩ = some (.pointer (some ⟨b.lb, 0, none⟩)) ∧ W.cell? ⟨w.heap.size, 1, none⟩ = some (.int .i64 A))
    (with_reducible first | exact ⟨d0, d1⟩ | exact ⟨dA0, dA1⟩ | exact ⟨g0, g1⟩ | exact ⟨e1'.cellA rfl _, a0'.cellA rfl _⟩ | exact ⟨e1'.cell4 n2 rfl _ _ _ _, a0'.cell4 n1 rfl _ _ _ _⟩)
    ((go_at_call 109
      first
        | (with_reducible refine (cAhead hEd hZ hN hT hA).mono ?_)
        | (with_reducible refine (cAhead hEA hZ hN hT hA).mono ?_)
      rintro e w1 ⟨⟨n, p1, p2, p3, p4, v, rfl, hv, h2', r2', L', t', hK, hTT, hE1⟩, hO1⟩
      have hq := And.intro hv (And.intro hK hTT)
      have e1' := hE1.blk
      first
        | (have hO1a : Only (fun i => Z i ∧ i < w.heap.size) (W0.alloc (.cells #[.int .i64 0, .int .i64 0, .int .i64 0, .int .i64 0] 30)).drew w1 := (by with_reducible exact hO1)
           have a0' := a0A.only hO1a (fun q => by have := q.2; omega)
           have k1 := b7.only hO1a (fun q => by have := q.2; omega)
           obtain ⟨x0, x1, x2, x3⟩ := k1.four
           obtain ⟨f0, f1, f2, f3⟩ := k1.frozens)
        | (have hO1a : Only (fun i => Z i ∧ i < w.heap.size) W0.drew w1 := (by with_reducible exact hO1)
           have a0' := a0d.only hO1a (fun q => by have := q.2; omega))
      have g0 : w1.cell? ⟨m, 1, none⟩ = some (.pointer (some ⟨b.lb, 0, none⟩)) := (by rw [e1'.cell]; rfl)
      have g1 : w1.cell? ⟨w.heap.size, 1, none⟩ = some (.int .i64 A) := (by rw [a0'.cell]; rfl)))
  all_goals (
    have hns : ∀ g, w.heap.size ≤ g → ¬ (Z g ∧ g < w.heap.size) := fun g q1 q2 => by have := q2.2; omega
    first
      | (have hO1' : Only (fun i => Z i ∧ i < w.heap.size) (W0.alloc (.cells #[.int .i64 0, .int .i64 0, .int .i64 0, .int .i64 0] 30)).drew w1 := (by with_reducible exact hO1)
         have hBW := hBwA
         have k1 := b7.only hO1' (hns _ (by omega))
         have b1 := a1A.only hO1' (hns _ (by omega))
         have hlt := hO1'.size
         have k5 := k1.put4 (.int .i64 p1) (.int .i64 p2) (.int .i64 p3) (.int .i64 p4)
         have b5 := b1.put4far (g' := W0.heap.size) (by omega) (.int .i64 p1) (.int .i64 p2) (.int .i64 p3) (.int .i64 p4)
         have hO5 := (Only.refl (fun i => w.heap.size ≤ i ∧ i < (W0.alloc (.cells #[.int .i64 0, .int .i64 0, .int .i64 0, .int .i64 0] 30)).drew.heap.size) w1).put4 (g := W0.heap.size) (.inl ⟨by omega, by omega⟩) (.int .i64 p1) (.int .i64 p2) (.int .i64 p3) (.int .i64 p4)
         have hX : w.heap.size ≤ w.heap.size + 1 ∧ w.heap.size + 1 < (W0.alloc (.cells #[.int .i64 0, .int .i64 0, .int .i64 0, .int .i64 0] 30)).drew.heap.size := ⟨by omega, by omega⟩
         generalize ((((w1.setCell ⟨W0.heap.size, 0, none⟩ (.int .i64 p1)).setCell ⟨W0.heap.size, 1, none⟩ (.int .i64 p2)).setCell ⟨W0.heap.size, 2, none⟩ (.int .i64 p3)).setCell ⟨W0.heap.size, 3, none⟩ (.int .i64 p4)) = W5 at *)
      | (have hO1' : Only (fun i => Z i ∧ i < w.heap.size) W0.drew w1 := (by with_reducible exact hO1)
         have hBW := hBw
         have b1 := a1d.only hO1' (hns _ (by omega))
         have hlt := hO1'.size
         have k5 := Blk.made w1 30 #[.int .i64 p1, .int .i64 p2, .int .i64 p3, .int .i64 p4]
         have b5 := b1.alloc (.cells #[.int .i64 p1, .int .i64 p2, .int .i64 p3, .int .i64 p4] 30)
         have hO5 := (Only.refl (fun i => w.heap.size ≤ i ∧ i < W0.drew.heap.size) w1).alloc (.cells #[.int .i64 p1, .int .i64 p2, .int .i64 p3, .int .i64 p4] 30)
         have hX : w.heap.size ≤ w.heap.size + 1 ∧ w.heap.size + 1 < W0.drew.heap.size := ⟨by omega, by omega⟩)
    obtain ⟨y0, y1, y2, y3⟩ := k5.four
    have han := fun W => answer_any ⟨0, n, false, p1, p2, p3, p4, none, 0, 0⟩ v W
    obtain ⟨z, hz⟩ : ∃ z, z = An.or ⟨0, n, false, p1, p2, p3, p4, none, 0, 0⟩ v := ⟨_, rfl⟩
    have hzc : z.code = v := by rw [hz]; exact An.or_code rfl
    rw [← hz] at han
    clear hz
    obtain ⟨z1, z2, z3, z4, z5, z6, z7, z8, z9, z10⟩ := z
    dsimp only at hzc
    subst hzc
    unfold An.cs at han
    dsimp only at han
    have HE1 := Lib.hid hE1
    have HHO := Lib.hid (And.intro hO1' hO5)
    have HQ := Lib.hid hq
    clear hE1 hO1' hO5 hO1 hq)
  all_goals go_wp2_with fail
  all_goals refine (han _).mono ?_
  all_goals rintro e w6 ⟨rfl, hB6⟩
  all_goals (
    have b6 := b5.below hB6 b5.lt
    obtain ⟨y0, y1, y2, y3, y4, y5, y6, y7⟩ := b6.eight
    obtain ⟨f0, f1, f2, f3, f4, f5, f6, f7⟩ := b6.frozen8)
  all_goals go_wp2_with fail
  all_goals refine bodyPost_ret (results_c rfl _ rfl (b6.put8 _ _ _ _ _ _ _ _) Tryz.underlying33 (by kernel_rfl)) rfl ?_
  all_goals (
    obtain ⟨q1, q2⟩ := mac_end HE1.out hBW HHO.out.1 ((HHO.out.2.trans (Only.of_below hB6)).put8 (g := w.heap.size + 1) (.inl hX) (.int .i64 z1) (.int .i64 z2) (.bool z3) (.int .i64 z4) (.int .i64 z5) (.int .i64 z6) (.int .i64 z7) (.slice z8 z9 z10)) hw2
    exact ⟨⟨⟨z1, z2, z3, z4, z5, z6, z7, z8, z9, z10⟩, rfl, HQ.out.1, h2', r2', L', t', HQ.out.2.1, HQ.out.2.2, q1⟩, q2⟩)
end
end Go.Proofs.YtaonkbfekadalaaGreatDoor
/- What first of a machine comes to. -/
namespace Go.Proofs.YtaonkbfekadalaaGreatDoor
open Go.RowKit
set_option linter.unusedVariables false

section
variable {w w' : World} {Z : Nat → Prop} {m s h2 : Nat} {b : TB} {r2 : List Bool} {K L t : List Int}
set_option maxRecDepth 100000 in
set_option maxHeartbeats 4000000 in
theorem mFirst (hM : MacE Z w m s b h2 r2 K L t) (hZ0 : ∀ i, Z i → i ≠ 2) (c : ByteArray) {A C : Int} (hN : L.length < 2560) (hT : t.length < 1000000) {p1 p2 p3 p4 : Int} (hst : pickV (csV (insB r2 0 0) 0 (2 ^ h2)) 0 h2 = (p1, p2, p3, p4)) :
    Calls Tryz.prog 59 #[.pointer (some ⟨m, 0, none⟩), cmdV c A C] w fun e w' => (e = .returned (.agg (An.mk 0 ((t.length : Int) + 1) false p1 p2 p3 p4 none 0 0).cs) ∧ ∃ h2' r2' t', stepB (insB r2 0 0) 0 h2 = (r2', h2') ∧ t'.length = t.length + 1 ∧ MacE (ZA Z w) w' m s b h2' r2' K (((t.length : Int) + 1) :: L) t') ∧ Only Z w w' := by
  have hw2 : 2 < w.heap.size := hM.mac.tab.pos
  obtain ⟨W0, hW0, a0, a1, hB0, hz0⟩ := boxed c A C w
  have hE : MacE (fun i => Z i ∧ i < w.heap.size) w m s b h2 r2 K L t := hM.mono fun i q1 q2 => ⟨q2, q1⟩
  have hE0 := hE.below hB0
  have hZ : ∀ i, (Z i ∧ i < w.heap.size) → i ≠ 2 := fun i q => hZ0 i q.1
  have c0 : W0.cell? ⟨m, 1, none⟩ = some (.pointer (some ⟨b.lb, 0, none⟩)) := by rw [hE0.blk.cell]; rfl
  have hX : w.heap.size ≤ w.heap.size + 1 ∧ w.heap.size + 1 < W0.heap.size := ⟨by omega, by omega⟩
  have hc := cFirst hE0 hZ hN hT hst
  unfold cmdV
  unfold an0 anE An.cs at hW0 a1
  dsimp only at hW0 a1
  generalize (t.length : Int) + 1 = T at *
  have han := fun W => answer_ok (An.mk 0 T false p1 p2 p3 p4 none 0 0) W
  unfold An.cs at han ⊢
  dsimp only at han ⊢
  have hns : ∀ g, w.heap.size ≤ g → ¬ (Z g ∧ g < w.heap.size) := fun g q1 q2 => by have := q2.2; omega
  have HNS := Lib.hid hns
  clear hM hE hE0 hz0 hns hst
  go_enter Tryz.func59, Tryz.ntmps59
  go_wp2_with fail
  refine hc.mono ?_
  rintro e w1 ⟨⟨rfl, h2', r2', t', q1, q2, hE1⟩, hO1⟩
  have b1 := a1.only hO1 (HNS.out _ (by omega))
  have k5 := Blk.made w1 30 #[.int .i64 p1, .int .i64 p2, .int .i64 p3, .int .i64 p4]
  have b5 := b1.alloc (.cells #[.int .i64 p1, .int .i64 p2, .int .i64 p3, .int .i64 p4] 30)
  have hO5 := (Only.refl (fun i => w.heap.size ≤ i ∧ i < W0.heap.size) w1).alloc (.cells #[.int .i64 p1, .int .i64 p2, .int .i64 p3, .int .i64 p4] 30)
  obtain ⟨y0, y1, y2, y3⟩ := k5.four
  have HE1 := Lib.hid (And.intro hE1 (And.intro q1 q2))
  have HHO := Lib.hid (And.intro hO1 hO5)
  clear hE1 hO1 hO5 q1 q2
  go_wp2_with fail
  refine (han _).mono ?_
  rintro e w6 ⟨rfl, hB6⟩
  have b6 := b5.below hB6 b5.lt
  obtain ⟨y0, y1, y2, y3, y4, y5, y6, y7⟩ := b6.eight
  obtain ⟨f0, f1, f2, f3, f4, f5, f6, f7⟩ := b6.frozen8
  go_wp2_with fail
  refine bodyPost_ret (results_c rfl _ rfl (b6.put8 _ _ _ _ _ _ _ _) Tryz.underlying33 (by kernel_rfl)) rfl ?_
  obtain ⟨q1, q2⟩ := mac_end HE1.out.1 hB0 HHO.out.1 ((HHO.out.2.trans (Only.of_below hB6)).put8 (g := w.heap.size + 1) (.inl hX) (.int .i64 0) (.int .i64 T) (.bool false) (.int .i64 p1) (.int .i64 p2) (.int .i64 p3) (.int .i64 p4) (.slice none 0 0)) hw2
  exact ⟨⟨rfl, h2', r2', t', HE1.out.2.1, HE1.out.2.2, q1⟩, q2⟩
end
end Go.Proofs.YtaonkbfekadalaaGreatDoor
