/- What Do comes to: at a word that there is it is the word's method; else an error. -/
import Derived.Test.YtaonkbfekadalaaGreatDoorM20
import Derived.Test.YtaonkbfekadalaaGreatDoorM36
namespace Go.Proofs.YtaonkbfekadalaaGreatDoor
open Go.RowKit
open Go.MapKept (IsKey)
set_option linter.unusedVariables false

theorem look_word (k : Nat) (hk : k < 17) : Instr.findNow .string (.string (wordK k)) (entA 17).toList 0 = some (some (([0, 1, 2, 3, 4, 5, 6, 10, 11, 12, 13, 14, 15, 16, 7, 8, 9] : List Nat).getD k 0, .func (.func (funK k)) #[] #[])) := by
  rcases (by omega : k = 0 ∨ k = 1 ∨ k = 2 ∨ k = 3 ∨ k = 4 ∨ k = 5 ∨ k = 6 ∨ k = 7 ∨ k = 8 ∨ k = 9 ∨ k = 10 ∨ k = 11 ∨ k = 12 ∨ k = 13 ∨ k = 14 ∨ k = 15 ∨ k = 16) with rfl | rfl | rfl | rfl | rfl | rfl | rfl | rfl | rfl | rfl | rfl | rfl | rfl | rfl | rfl | rfl | rfl <;> kernel_rfl
theorem enter_word (k : Nat) (hk : k < 17) : ∀ args w, (callFunc (funK k) args).run Tryz.prog w = .ok (.enter (funK k) args) w := by
  rcases (by omega : k = 0 ∨ k = 1 ∨ k = 2 ∨ k = 3 ∨ k = 4 ∨ k = 5 ∨ k = 6 ∨ k = 7 ∨ k = 8 ∨ k = 9 ∨ k = 10 ∨ k = 11 ∨ k = 12 ∨ k = 13 ∨ k = 14 ∨ k = 15 ∨ k = 16) with rfl | rfl | rfl | rfl | rfl | rfl | rfl | rfl | rfl | rfl | rfl | rfl | rfl | rfl | rfl | rfl | rfl
  · exact enters_of Tryz.func49 (by kernel_rfl) rfl
  · exact enters_of Tryz.func50 (by kernel_rfl) rfl
  · exact enters_of Tryz.func51 (by kernel_rfl) rfl
  · exact enters_of Tryz.func52 (by kernel_rfl) rfl
  · exact enters_of Tryz.func53 (by kernel_rfl) rfl
  · exact enters_of Tryz.func54 (by kernel_rfl) rfl
  · exact enters_of Tryz.func55 (by kernel_rfl) rfl
  · exact enters_of Tryz.func59 (by kernel_rfl) rfl
  · exact enters_of Tryz.func60 (by kernel_rfl) rfl
  · exact enters_of Tryz.func61 (by kernel_rfl) rfl
  · exact enters_of Tryz.func62 (by kernel_rfl) rfl
  · exact enters_of Tryz.func63 (by kernel_rfl) rfl
  · exact enters_of Tryz.func64 (by kernel_rfl) rfl
  · exact enters_of Tryz.func65 (by kernel_rfl) rfl
  · exact enters_of Tryz.func56 (by kernel_rfl) rfl
  · exact enters_of Tryz.func57 (by kernel_rfl) rfl
  · exact enters_of Tryz.func58 (by kernel_rfl) rfl
theorem run_look {W : World} {g k : Nat} (hb : W.heap[g]? = some (.map (entA 17) 17)) (hk : k < 17) :
    (Instr.lookup 62 (.map (some g)) (.string (wordK k)) true).run Tryz.prog W = .ok (.tuple #[.func (.func (funK k)) #[] #[], .bool true]) W := by
  have hkey : IsKey .string (.string (wordK k)) := trivial
  simp [Instr.lookup, run_underlying Tryz.underlying62, MapKept.run_getObj_map hb, MapKept.run_checkKey Tryz.underlying9 hkey, MapKept.run_findKey Tryz.underlying9 (look_word k hk), Result.andThen]
section
variable {w w' : World} {m k : Nat} {s : ByteArray} {A B : Int}
set_option maxRecDepth 100000 in
set_option maxHeartbeats 4000000 in
theorem Do_no (hs : s.size ≤ 40) (iA : inH A) (iB : inH B) (hT : Tab10 w) (hw1 : 1 < w.heap.size) (hno : ¬ ∃ k, okW s A B k) :
    Calls Tryz.prog 6 #[.pointer (some ⟨m, 0, none⟩), cmdV s A B] w fun e w' => (∃ code, e = .returned (.agg (anE code).cs) ∧ (code = 13 ∨ code = 1)) ∧ Below w.heap.size w w' := by
  obtain ⟨W0, hW0, a0, a1, hB0, hz0⟩ := boxed s A B w
  have g0 := Blk.made W0 24 #[.string s, .int .i64 A, .int .i64 B]
  have hBg : Below W0.heap.size W0 (W0.alloc (.cells #[.string s, .int .i64 A, .int .i64 B] 24)) := (Below.refl _ W0).alloc (Nat.le_refl _) _
  have hBw : Below w.heap.size w (W0.alloc (.cells #[.string s, .int .i64 A, .int .i64 B] 24)) := hB0.trans (hBg.mono hB0.size)
  have hpr := Print_one (c := 1) g0 hs iA iB (hT.below hBw hw1) (by have := hBw.size; omega)
  have c0 : W0.cell? ⟨w.heap.size, 0, none⟩ = some (.string s) := by rw [a0.cell]; rfl
  have c1 : W0.cell? ⟨w.heap.size, 1, none⟩ = some (.int .i64 A) := by rw [a0.cell]; rfl
  have c2 : W0.cell? ⟨w.heap.size, 2, none⟩ = some (.int .i64 B) := by rw [a0.cell]; rfl
  have a1g := a1.below hBg a1.lt
  have HNO := Lib.hid hno
  have hz1 : w.heap.size + 2 ≤ W0.heap.size := by omega
  unfold cmdV
  unfold an0 anE An.cs at hW0 a1 a1g
  dsimp only at hW0 a1 a1g
  clear hno hT g0 hz0
  go_enter Tryz.func6, Tryz.ntmps6
  go_wp2_with fail
  refine hpr.mono ?_
  rintro e w1 ⟨⟨str, n, code, rfl, hc⟩, hB1⟩
  have b1 := a1g.below hB1 a1g.lt
  obtain ⟨y0, y1, y2, y3, y4, y5, y6, y7⟩ := b1.eight
  obtain ⟨f0, f1, f2, f3, f4, f5, f6, f7⟩ := b1.frozen8
  rcases hc with ⟨_, hok⟩ | ⟨hc, _⟩
  · exact absurd hok HNO.out
  · have t1 : (code != 0) = true := by rcases hc with rfl | rfl <;> rfl
    have HC := Lib.hid hc
    clear hc
    go_wp2_with fail
    refine bodyPost_ret (results_c rfl _ rfl (b1.put8 _ _ _ _ _ _ _ _) Tryz.underlying33 (by kernel_rfl)) rfl ?_
    exact ⟨⟨code, rfl, HC.out⟩, below_put8 (hBw.trans (hB1.mono hBw.size)) (by omega) _ _ _ _ _ _ _ _⟩
set_option maxRecDepth 100000 in
set_option maxHeartbeats 4000000 in
theorem Do_word {R : An → World → World → Prop} {Zc : Nat → Prop} (hok : okW s A B k) (hs : s.size ≤ 40) (iA : inH A) (iB : inH B) (hT : Tab10 w) (hw1 : 1 < w.heap.size) (hZc : ∀ i, Zc i → i < w.heap.size)
    (hmeth : ∀ W, Below w.heap.size w W → w.heap.size + 2 ≤ W.heap.size → Calls Tryz.prog (funK k) #[.pointer (some ⟨m, 0, none⟩), cmdV s A B] W fun e w' => (∃ x : An, e = .returned (.agg x.cs) ∧ R x W w') ∧ Only Zc W w') :
    Calls Tryz.prog 6 #[.pointer (some ⟨m, 0, none⟩), cmdV s A B] w fun e w' => ∃ (x : An) (W w1 : World), e = .returned (.agg x.cs) ∧ R x W w1 ∧ Below w.heap.size w W ∧ w.heap.size + 2 ≤ W.heap.size ∧ Only Zc W w1 ∧ Only (fun i => i = w.heap.size + 1) w1 w' := by
  obtain ⟨W0, hW0, a0, a1, hB0, hz0⟩ := boxed s A B w
  have g0 := Blk.made W0 24 #[.string s, .int .i64 A, .int .i64 B]
  have hBg : Below W0.heap.size W0 (W0.alloc (.cells #[.string s, .int .i64 A, .int .i64 B] 24)) := (Below.refl _ W0).alloc (Nat.le_refl _) _
  have hBw : Below w.heap.size w (W0.alloc (.cells #[.string s, .int .i64 A, .int .i64 B] 24)) := hB0.trans (hBg.mono hB0.size)
  have hpr := Print_one (c := 1) g0 hs iA iB (hT.below hBw hw1) (by have := hBw.size; omega)
  have c0 : W0.cell? ⟨w.heap.size, 0, none⟩ = some (.string s) := by rw [a0.cell]; rfl
  have c1 : W0.cell? ⟨w.heap.size, 1, none⟩ = some (.int .i64 A) := by rw [a0.cell]; rfl
  have c2 : W0.cell? ⟨w.heap.size, 2, none⟩ = some (.int .i64 B) := by rw [a0.cell]; rfl
  have a0g := a0.below hBg a0.lt
  have a1g := a1.below hBg a1.lt
  have HOK := Lib.hid hok
  have HM := Lib.hid hmeth
  have HZ := Lib.hid hZc
  have hz1 : w.heap.size + 2 ≤ W0.heap.size := by omega
  unfold cmdV
  unfold an0 anE An.cs at hW0 a1 a1g
  dsimp only at hW0 a1 a1g
  clear hok hmeth hT g0 hz0 hZc
  go_enter Tryz.func6, Tryz.ntmps6
  go_wp2_with fail
  refine hpr.mono ?_
  rintro e w1 ⟨⟨str, n, code, rfl, hc⟩, hB1⟩
  have a0' := a0g.below hB1 a0g.lt
  have a1' := a1g.below hB1 a1g.lt
  have hBw1 := hBw.trans (hB1.mono hBw.size)
  rcases hc with ⟨rfl, _⟩ | ⟨_, hno⟩
  · have d0 : w1.cell? ⟨w.heap.size, 0, none⟩ = some (.string s) := by rw [a0'.cell]; rfl
    have d0d : w1.drew.cell? ⟨w.heap.size, 0, none⟩ = some (.string s) := d0
    have hws := HOK.out.2.1
    have hmw := mwords_ok w1.drew
    have hbm : (w1.drew.alloc (.map (entA 17) 17)).heap[w1.heap.size]? = some (.map (entA 17) 17) := World.alloc_heap_new w1.drew _
    have hlk := run_look hbm HOK.out.1
    rw [hws] at hlk
    have hBm : Below w1.heap.size w1 (w1.drew.alloc (.map (entA 17) 17)) := (below_drewN (Below.refl _ w1) 1).alloc (Nat.le_refl _) _
    have hszm : w1.heap.size + 1 ≤ (w1.drew.alloc (.map (entA 17) 17)).heap.size := by
      have q := World.size_alloc w1.drew (.map (entA 17) 17)
      have q2 : w1.drew.heap.size = w1.heap.size := rfl
      omega
    have a0m := a0'.below hBm a0'.lt
    have a1m := a1'.below hBm a1'.lt
    have hBwm := hBw1.trans (hBm.mono hBw1.size)
    have hsz1 := hBw1.size
    have hlt1 := a1'.lt
    have d1 : (w1.drew.alloc (.map (entA 17) 17)).cell? ⟨w.heap.size, 0, none⟩ = some (.string s) := by rw [a0m.cell]; rfl
    have d2 : (w1.drew.alloc (.map (entA 17) 17)).cell? ⟨w.heap.size, 1, none⟩ = some (.int .i64 A) := by rw [a0m.cell]; rfl
    have d3 : (w1.drew.alloc (.map (entA 17) 17)).cell? ⟨w.heap.size, 2, none⟩ = some (.int .i64 B) := by rw [a0m.cell]; rfl
    have hme := HM.out (w1.drew.alloc (.map (entA 17) 17)) hBwm (by omega)
    unfold cmdV at hme
    have hent := enter_word k HOK.out.1
    have hmx : Tryz.prog.follows .mixedOrders = true := by kernel_rfl
    clear hws
    generalize hME : (w1.drew.alloc (.map (entA 17) 17)) = W2 at *
    generalize hF : funK k = F at *
    have HF := Lib.hid hF
    clear hF
    go_wp2_with fail
    go_region_held3 (fun W => W.cell? ⟨w.heap.size, 0, none⟩ = some (.string s))
      (first | exact d0d | exact d0 | exact d1)
      ((go_at_call 20; refine hmw.mono ?_; rintro e w2 ⟨rfl, rfl⟩))
    all_goals go_wp2_with fail
    refine hme.mono ?_
    rintro e w3 ⟨⟨x, rfl, hR⟩, hO3⟩
    have b3 := a1m.only hO3 (fun q => by have := HZ.out _ q; omega)
    obtain ⟨y0, y1, y2, y3, y4, y5, y6, y7⟩ := b3.eight
    obtain ⟨f0, f1, f2, f3, f4, f5, f6, f7⟩ := b3.frozen8
    have HR := Lib.hid (And.intro hR (And.intro hBwm hO3))
    clear hR hO3
    obtain ⟨z1, z2, z3, z4, z5, z6, z7, z8, z9, z10⟩ := x
    unfold An.cs
    dsimp only
    go_wp2_with fail
    refine bodyPost_ret (results_c rfl _ rfl (b3.put8 _ _ _ _ _ _ _ _) Tryz.underlying33 (by kernel_rfl)) rfl ?_
    exact ⟨⟨z1, z2, z3, z4, z5, z6, z7, z8, z9, z10⟩, W2, w3, rfl, HR.out.1, HR.out.2.1, by omega, HR.out.2.2, (Only.refl (fun i => i = w.heap.size + 1) w3).put8 (g := w.heap.size + 1) (.inl rfl) _ _ _ _ _ _ _ _⟩
  · exact absurd ⟨k, HOK.out⟩ hno
end
end Go.Proofs.YtaonkbfekadalaaGreatDoor
