/- What Places and Place come to. -/
import Derived.Test.YtahmhnbjpgkbbaaIt
namespace Go.Proofs.Ytahmhnbjpgkbbaa
open Go.RowKit Go.Shelf
attribute [local go_sem] Oper.semAt_some
set_option linter.unusedVariables false

theorem places_any (n first segs : Int) (w : World) :
    Calls Try.prog 25 #[.int .i64 n, .int .i64 first, .int .i64 segs] w fun e w' => e = .returned (.func (.func 31) #[] #[.pointer (some ⟨w.heap.size, 0, none⟩), .pointer (some ⟨w.heap.size + 2, 0, none⟩), .pointer (some ⟨w.heap.size + 1, 0, none⟩)]) ∧
      ((w.alloc (.cells #[.int .i64 n] 3)).alloc (.cells #[.int .i64 first] 3)).alloc (.cells #[.int .i64 segs] 3) = w' := by
  have hmf : ∀ (fn : Fn) (first cap : Array Value) (w : World), (Instr.makeFunc fn first cap).run Try.prog w = .ok (.func fn first cap) w := fun _ _ _ _ => rfl
  go_enter Try.func25, Try.ntmps25
  go_wp2
  go_ret
  exact ⟨rfl, rfl⟩

theorem places_stops (n first segs : Int) (hok : okB n segs = true) (hf : 0 ≤ first ∧ first ≤ 512) (m : Nat) (bn bs bf : Nat) (X : Nat → Prop) (w : World)
    (hn : Blk w bn 3 #[.int .i64 n]) (hs : Blk w bs 3 #[.int .i64 segs]) (hfi : Blk w bf 3 #[.int .i64 first]) (xn : ¬ X bn) (xs : ¬ X bs) (xf : ¬ X bf) (hX : ∀ g, X g → g < w.heap.size) :
    SeqStopsK Fence.wide m Try.prog 31 #[.pointer (some ⟨bn, 0, none⟩), .pointer (some ⟨bs, 0, none⟩), .pointer (some ⟨bf, 0, none⟩)] (fun x : Int => #[Value.int .i64 x]) (Kx X) (fun ys => ys = pl n first segs) (fun pre => pre <+: pl n first segs) (pl n first segs).length w :=
  fun l J Jx W hW hJ hJx hY h0 =>
    places1_in n first segs hok hf m l bn bs bf X W (hn.below hW hn.lt) (hs.below hW hs.lt) (hfi.below hW hfi.lt) xn xs xf (fun g hg => Nat.lt_of_lt_of_le (hX g hg) hW.size) J Jx hJ hJx hY h0

theorem Try.infoI1 : (Try.prog.info? 3).map (fun i => (i.zero, i.size, i.bytes)) = some (some (.int .i64 0), 1, 8) := by kernel_rfl
theorem make_room (N : Nat) (hn : N ≤ 4398046511104) (W : World) :
    (Instr.makeSlice 22 (.int .i64 0) (.int .i64 (N : Int))).run Try.prog W = .ok (.slice (some ⟨W.heap.size, 0, none⟩) 0 N) (W.alloc (.cells (cells (zeros N)) 3)) := by
  obtain ⟨i0, hi, hz0, hz1, hz2⟩ := info_parts Try.infoI1
  have h := run_make (P := Try.prog) W 22 3 i0 (.int .i64 0) Try.underlying22 hi hz0 .i64 .i64 0 (N : Int) (by omega) (by omega) (by rw [hz2]; omega) (by omega)
  rw [h, hz1]
  simp only [Int.toNat_natCast, Value.cells, made_zeros]
  rfl

theorem Places_arg (n first segs : Int) (w : World) (h : okB n segs = false) :
    Calls Try.prog 9 #[.int .i64 n, .int .i64 first, .int .i64 segs] w fun e w' => e = .returned (.tuple #[.slice none 0 0, .int .i64 1]) ∧ w = w' := by
  go_enter Try.func9, Try.ntmps9
  go_wp2_with (go_at_call 24; refine (check_arg _ _ _ _ h).mono ?_; rintro e w' ⟨rfl, rfl⟩)
  go_ret2
  exact ⟨rfl, rfl⟩
theorem Places_range (n first segs : Int) (w : World) (h : okB n segs = true) (hr : ¬ (0 ≤ first ∧ first ≤ 512 - segs)) :
    Calls Try.prog 9 #[.int .i64 n, .int .i64 first, .int .i64 segs] w fun e w' => e = .returned (.tuple #[.slice none 0 0, .int .i64 10]) ∧ w = w' := by
  have HR := Lib.hid hr
  clear hr
  go_enter Try.func9, Try.ntmps9
  go_wp2_with (go_at_call 24; refine (check_range _ _ _ _ h HR.out).mono ?_; rintro e w' ⟨rfl, rfl⟩)
  go_ret2
  exact ⟨rfl, rfl⟩

theorem own_ne {w : World} {base : Nat} {e : TypeId} {size n : Nat} {v : Value} {xs : List Value} {row : Option Nat} (h : w.ownsRow base e size v n xs) (hr : ∀ r, row = some r → ∃ o : Obj, w.heap[r]? = some o ∧ o.isCells = false) : v.ownBlock = none ∨ v.ownBlock ≠ row := by
  rcases h.2 with ⟨rfl, _⟩ | ⟨g, cap, cur, rfl, _, hh, _⟩
  · exact .inl rfl
  · refine .inr fun e => ?_
    obtain ⟨o, ho, hc⟩ := hr g e.symm
    rw [hh] at ho
    injection ho with ho
    subst ho
    cases hc
theorem own_cells {w : World} {base : Nat} {e : TypeId} {size n g l c : Nat} {xs : List Value} {o : Obj} (h : w.ownsRow base e size (.slice (some ⟨g, 0, none⟩) l c) n xs) (ho : w.heap[g]? = some o) : o.isCells = true := by
  rcases h.2 with ⟨h, _⟩ | ⟨g', cap, cur, hv, _, hh, _⟩
  · cases h
  · injection hv with hv
    injection hv with hv
    injection hv with hv
    subst hv
    rw [hh] at ho
    injection ho with ho
    subst ho
    rfl
theorem blk_ne {w : World} {g : Nat} {t : TypeId} {cs : Array Value} {row : Option Nat} (h : Blk w g t cs) (hr : ∀ r, row = some r → ∃ o : Obj, w.heap[r]? = some o ∧ o.isCells = false) : some g ≠ row := fun e => by
  obtain ⟨o, ho, hc⟩ := hr g e.symm
  unfold Blk at h
  rw [h] at ho
  injection ho with ho
  subst ho
  cases hc
theorem one_new (W : World) (v : Value) (e : TypeId) : ∀ j u, [v][j]? = some u → (W.alloc (.cells #[v] e)).cell? ((⟨W.heap.size, 0, none⟩ : Addr).add j) = some u := by
  intro j u hj
  match j, hj with
  | 0, hj =>
    simp at hj
    subst hj
    simp [Addr.add]

theorem RI_of_own {w : World} {base : Nat} {g cap : Nat} {xs : List Int} {n : Nat} (h : w.ownsRow base 3 1 (.slice (some ⟨g, 0, none⟩) n cap) n (xs.map (Value.int .i64))) (hn : xs.length = n) : RI w (some ⟨g, 0, none⟩) xs := by
  intro hp
  refine ⟨g, 0, rfl, fun k hk => ?_⟩
  have := h.cells (g := g) rfl k (.int .i64 (nth xs k)) (by rw [List.getElem?_map, List.getElem?_eq_getElem hk, nth_eq hk]; rfl)
  have e : (⟨g, 0, none⟩ : Addr).add k = ⟨g, 0 + k, none⟩ := by unfold Addr.add; split <;> simp_all
  rwa [e] at this

set_option maxRecDepth 100000 in
set_option maxHeartbeats 2000000 in
theorem Places_ok (N : Nat) (first segs : Int) (w : World) (h : okB (N : Int) segs = true) (hr : 0 ≤ first ∧ first ≤ 512 - segs) :
    Calls Try.prog 9 #[.int .i64 N, .int .i64 first, .int .i64 segs] w fun e w' => e = .returned (.tuple #[.slice (some ⟨w.heap.size, 0, none⟩) N N, .int .i64 0]) ∧
      RI w' (some ⟨w.heap.size, 0, none⟩) (pl N first segs) ∧ Below w.heap.size w w' := by
  obtain ⟨p1, p2, p3, p4⟩ := okB_true h
  have hmk := make_room N (by omega)
  refine (callsIn_wide (n := 3)).1 ?_
  refine callsIn_of_wp_marks Try.func9 rfl trivial ?_ rfl
  simp only [Try.ntmps9, List.size_toArray, List.length_cons, List.length_nil, Nat.reduceAdd, Nat.reduceSub, Array.replicate_succ, Array.replicate_zero, List.push_toArray, List.append_toArray, List.nil_append, List.cons_append]
  gi_wp2_with fail
  refine ⟨trivial, ?_⟩
  refine (callsIn_wide.2 (check_ok N first segs _ h hr)).mono ?_
  rintro e w' ⟨rfl, rfl⟩
  gi_wp2_with fail
  refine ⟨trivial, ?_⟩
  refine (callsIn_wide.2 (places_any N first segs _)).mono ?_
  rintro e w' ⟨rfl, rfl⟩
  gi_wp2_with fail
  have hl : (pl (N : Int) first segs).length = N := by have := pl_length (first := first) h; omega
  have HL := Lib.hid hl
  clear hl
  obtain ⟨i0, hi, hz0, hz1, hz2⟩ := info_parts Try.infoI1
  have q0 := Blk.made w 3 (cells (zeros N))
  have q1 := Blk.made (w.alloc (.cells (cells (zeros N)) 3)) 22 #[.slice (some ⟨w.heap.size, 0, none⟩) 0 N]
  have q2 := Blk.made ((w.alloc (.cells (cells (zeros N)) 3)).alloc (.cells #[.slice (some ⟨w.heap.size, 0, none⟩) 0 N] 22)) 3 #[.int .i64 (N : Int)]
  have q3 := Blk.made (((w.alloc (.cells (cells (zeros N)) 3)).alloc (.cells #[.slice (some ⟨w.heap.size, 0, none⟩) 0 N] 22)).alloc (.cells #[.int .i64 (N : Int)] 3)) 3 #[.int .i64 first]
  have q4 := Blk.made ((((w.alloc (.cells (cells (zeros N)) 3)).alloc (.cells #[.slice (some ⟨w.heap.size, 0, none⟩) 0 N] 22)).alloc (.cells #[.int .i64 (N : Int)] 3)).alloc (.cells #[.int .i64 first] 3)) 3 #[.int .i64 segs]
  simp only [World.size_alloc] at q1 q2 q3 q4
  replace q0 := (((q0.alloc (.cells #[.slice (some ⟨w.heap.size, 0, none⟩) 0 N] 22)).alloc (.cells #[.int .i64 (N : Int)] 3)).alloc (.cells #[.int .i64 first] 3)).alloc (.cells #[.int .i64 segs] 3)
  replace q1 := ((q1.alloc (.cells #[.int .i64 (N : Int)] 3)).alloc (.cells #[.int .i64 first] 3)).alloc (.cells #[.int .i64 segs] 3)
  replace q2 := (q2.alloc (.cells #[.int .i64 first] 3)).alloc (.cells #[.int .i64 segs] 3)
  replace q3 := q3.alloc (.cells #[.int .i64 segs] 3)
  have hB0 : Below w.heap.size w (((((w.alloc (.cells (cells (zeros N)) 3)).alloc (.cells #[.slice (some ⟨w.heap.size, 0, none⟩) 0 N] 22)).alloc (.cells #[.int .i64 (N : Int)] 3)).alloc (.cells #[.int .i64 first] 3)).alloc (.cells #[.int .i64 segs] 3)) :=
    (((((Below.refl w.heap.size w).alloc (Nat.le_refl _) _).alloc (by simp) _).alloc (by simp; omega) _).alloc (by simp; omega) _).alloc (by simp; omega) _
  have hsz : (((((w.alloc (.cells (cells (zeros N)) 3)).alloc (.cells #[.slice (some ⟨w.heap.size, 0, none⟩) 0 N] 22)).alloc (.cells #[.int .i64 (N : Int)] 3)).alloc (.cells #[.int .i64 first] 3)).alloc (.cells #[.int .i64 segs] 3)).heap.size = w.heap.size + 5 := by simp
  generalize (((((w.alloc (.cells (cells (zeros N)) 3)).alloc (.cells #[.slice (some ⟨w.heap.size, 0, none⟩) 0 N] 22)).alloc (.cells #[.int .i64 (N : Int)] 3)).alloc (.cells #[.int .i64 first] 3)).alloc (.cells #[.int .i64 segs] 3)) = W0 at q0 q1 q2 q3 q4 hB0 hsz ⊢
  have hown : W0.ownsRow w.heap.size 3 1 (.slice (some ⟨w.heap.size, 0, none⟩) 0 N) 0 [] := ⟨by simp, .inr ⟨w.heap.size, N, cells (zeros N), rfl, Nat.le_refl _, q0, Nat.zero_le _, by unfold maxLen; omega, by simp [cells, zeros], by simp⟩⟩
  refine wpIn_rangeFunc_ownF rfl (by decide) (gf := 31) (lb := #[.pointer (some ⟨w.heap.size + 1 + 1, 0, none⟩), .pointer (some ⟨w.heap.size + 1 + 1 + 2, 0, none⟩), .pointer (some ⟨w.heap.size + 1 + 1 + 1, 0, none⟩)]) rfl trivial (enters_of Try.func31 (by kernel_rfl) rfl)
    (places_stops N first segs h ⟨hr.1, by omega⟩ _ (w.heap.size + 1 + 1) (w.heap.size + 1 + 1 + 2) (w.heap.size + 1 + 1 + 1) (fun g => g = w.heap.size ∨ g = w.heap.size + 1) W0 q2 q4 q3 (by omega) (by omega) (by omega) (by intro g hg; omega))
    Kx.trans (fun W l o o' _ hl ho _ => Kx.putObj W l o o' hl ho) (Below.refl _ _) (fun _ => rfl)
    (fun pre W => (W.ownsRow w.heap.size 3 1 (.slice (some ⟨w.heap.size, 0, none⟩) pre.length N) pre.length (pre.map (Value.int .i64)) ∧ Blk W (w.heap.size + 1) 22 #[.slice (some ⟨w.heap.size, 0, none⟩) pre.length N]) ∧ Below w.heap.size w W)
    (fun _ _ _ => False)
    (OwnFrom.and (Own.from (fun s A B row hs hg hrw => ⟨hs.1.kept hg (own_ne hs.1 hrw), hs.2.grown hg (blk_ne hs.2 hrw)⟩) _) (ownFrom_below (Nat.le_refl _) (by omega)))
    (fun _ _ _ _ _ hs _ _ => hs)
    ⟨⟨hown, q1⟩, hB0⟩
    (fun x => { tmps := #[.int .i64 N, .int .i64 first, .int .i64 segs, undef, undef, undef, .slice none 0 0, .int .i64 0, .int .i64 0, .pointer (some ⟨w.heap.size + 1, 0, none⟩), .int .i64 x, .int .i64 N, .int .i64 first, .int .i64 segs, .int .i64 0, .int .i64 0, .bool false, undef, .int .i64 N, .slice (some ⟨w.heap.size, 0, none⟩) 0 N, .int .i64 N, .int .i64 first, .int .i64 segs,
      .func (.func 31) #[] #[.pointer (some ⟨w.heap.size + 1 + 1, 0, none⟩), .pointer (some ⟨w.heap.size + 1 + 1 + 2, 0, none⟩), .pointer (some ⟨w.heap.size + 1 + 1 + 1, 0, none⟩)], .int .i64 x, undef, undef, undef, undef, undef], defers := [] }) ?assign ?body ?done ?stop
  case assign =>
    intro l x W K hK
    gi_wp2
    exact hK
  case body =>
    rintro l pre x W ⟨⟨ho, hk⟩, hB⟩ hlt
    rw [HL.out] at hlt
    have hc1 : W.cell? ⟨w.heap.size + 1, 0, none⟩ = some (.slice (some ⟨w.heap.size, 0, none⟩) pre.length N) := by rw [hk.cell]; rfl
    have hWz := hk.lt
    gi_wp2_with (gi_at_builtin; refine wpListIn_append_fits _ rfl _ _ 22 rfl w.heap.size 3 i0 1 Try.underlying22 hi hz1 w.heap.size pre.length N (pre.map (Value.int .i64)) rfl (ho.alloc _) ⟨W.heap.size, 0, none⟩ 1 1 [.int .i64 x] rfl rfl (one_new W _ 3) (by intro u hu; simp at hu; subst hu; rfl) (by omega) ?_; intro w1 ho1 hg1; have hk1 := (hk.alloc (.cells #[.int .i64 x] 3)).grown hg1 (by simp); have hd1 : w1.cell? ⟨w.heap.size + 1, 0, none⟩ = some (.slice (some ⟨w.heap.size, 0, none⟩) pre.length N) := (by rw [hk1.cell]; rfl); have hf1 := hk1.frozen 0)
    have hg2 := grown_more (w := w1) (d := w.heap.size + 1) (a := w1) (World.grownBy.refl w1 _) (p := ⟨w.heap.size + 1, 0, none⟩) (.inl rfl) (.slice (some ⟨w.heap.size, 0, none⟩) (pre.length + 1) N)
    have hk2 := hk1.put 0 (.slice (some ⟨w.heap.size, 0, none⟩) (pre.length + 1) N)
    refine ⟨?_, ?_, ⟨?_, ?_⟩, ?_⟩
    · refine (KeepsOthers.alloc W (.cells #[.int .i64 x] 3)).trans ((KeepsOthers.of_grownBy hg1 ?_).trans (KeepsOthers.setCell _ _ _))
      intro j o e hj
      injection e with e
      subst e
      exact own_cells (ho.alloc (.cells #[.int .i64 x] 3)) hj
    · refine (((Kx.refl _ W).alloc (.cells #[.int .i64 x] 3)).trans (Kx.of_grown hg1 ?_)).trans (Kx.of_grown hg2 ?_)
      · intro r e; injection e with e; exact .inl e.symm
      · intro r e; injection e with e; exact .inr e.symm
    · have := ho1.kept hg2 (.inr (by simp [Value.ownBlock]))
      simpa using this
    · simpa using hk2
    · exact (((hB.alloc hB.size (.cells #[.int .i64 x] 3)).grown hg1 (by simp; omega) (row_some (Nat.le_refl _)))).setCell (p := ⟨w.heap.size + 1, 0, none⟩) (by simp) _
  case done =>
    rintro D ys W hD rfl ⟨⟨ho, hk⟩, hB⟩ hK
    have hc1 : W.cell? ⟨w.heap.size + 1, 0, none⟩ = some (.slice (some ⟨w.heap.size, 0, none⟩) (pl (N : Int) first segs).length N) := by rw [hk.cell]; rfl
    rw [HL.out] at hc1
    gi_wp2
    refine ⟨by simp, .inl ⟨_, _, rfl, run_takeDeferred hK, ?_⟩⟩
    refine ⟨_, results_tmp2 rfl _ _ _, rfl, ?_, ?_⟩
    · rw [HL.out] at ho
      refine RI_of_own (base := w.heap.size) (cap := N) ?_ HL.out
      exact ho.kept (grownBy_putObj' W D (.deferred none)) (own_ne ho (fun r e => by cases e; exact ⟨_, hK, rfl⟩))
    · exact hB.grown (grownBy_putObj' W D (.deferred none)) hB.size (row_some (by omega))
  case stop =>
    rintro D c pre W _ _ hh _
    exact hh.elim
end Go.Proofs.Ytahmhnbjpgkbbaa
