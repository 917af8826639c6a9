/- Lists of their own in memory; the list of the live handles. -/
import Derived.Test.YtggnboieenknfaaHb
import Derived.Test.YtggnboieenknfaaHs
import Derived.RangeFuncNested
import Derived.RangeFuncBound
import Derived.RangeFuncCalls
import Derived.RangeFuncLeaves
import Derived.RangeFuncBox
import Derived.Sort.OwnSorted
import Derived.Maps.AppendAt
import Derived.OwnWalk
namespace Go.Proofs.Ytggnboieenknfaa
open Go.RowKit Go.Maps Go.Sort
set_option linter.unusedVariables false

theorem make_room (N : Nat) (hn : N ≤ 4398046511104) (W : World) :
    (Instr.makeSlice 27 (.int .i64 0) (.int .i64 (N : Int))).run Try.prog W = .ok (.slice (some ⟨W.heap.size, 0, none⟩) 0 N) (W.alloc (.cells (cells (zeros N)) 3)) := by
  obtain ⟨i0, hi, hz0, hz1, hz2⟩ := info_parts Try.infoI
  have h := run_make (P := Try.prog) W 27 3 i0 (.int .i64 0) Try.underlying27 hi hz0 .i64 .i64 0 (N : Int) (by omega) (by omega) (by rw [hz2]; omega) (by omega)
  rw [h, hz1]
  simp only [Int.toNat_natCast, Value.cells, made_zeros]
  rfl

theorem own_ne {w : World} {base : Nat} {e : TypeId} {size n : Nat} {v : Value} {xs : List Value} {row : Option Nat} (h : w.ownsRow base e size v n xs) (hr : ∀ r, row = some r → ∃ o : Obj, w.heap[r]? = some o ∧ o.isCells = false) : v.ownBlock = none ∨ v.ownBlock ≠ row := by
  rcases h.2 with ⟨rfl, _⟩ | ⟨g, cap, cur, rfl, _, hh, _⟩
  · exact .inl rfl
  · refine .inr fun e => ?_
    obtain ⟨o, ho, hc⟩ := hr g e.symm
    rw [hh] at ho
    injection ho with ho
    subst ho
    cases hc

theorem own_cells {w : World} {base : Nat} {e : TypeId} {size n g l c : Nat} {xs : List Value} {o : Obj} (h : w.ownsRow base e size (.slice (some ⟨g, 0, none⟩) l c) n xs) (ho : w.heap[g]? = some o) : o.isCells = true := by
  rcases h.2 with ⟨h, _⟩ | ⟨g', cap, cur, hv, _, hh, _⟩
  · cases h
  · injection hv with hv
    injection hv with hv
    injection hv with hv
    subst hv
    rw [hh] at ho
    injection ho with ho
    subst ho
    rfl

theorem blk_ne {w : World} {g : Nat} {t : TypeId} {cs : Array Value} {row : Option Nat} (h : Blk w g t cs) (hr : ∀ r, row = some r → ∃ o : Obj, w.heap[r]? = some o ∧ o.isCells = false) : some g ≠ row := fun e => by
  obtain ⟨o, ho, hc⟩ := hr g e.symm
  unfold Blk at h
  rw [h] at ho
  injection ho with ho
  subst ho
  cases hc

theorem one_new (W : World) (v : Value) (e : TypeId) : ∀ j u, [v][j]? = some u → (W.alloc (.cells #[v] e)).cell? ((⟨W.heap.size, 0, none⟩ : Addr).add j) = some u := by
  intro j u hj
  match j, hj with
  | 0, hj =>
    simp at hj
    subst hj
    simp [Addr.add]

theorem RI_of_own {w : World} {base : Nat} {g cap : Nat} {xs : List Int} {n : Nat} (h : w.ownsRow base 3 1 (.slice (some ⟨g, 0, none⟩) n cap) n (xs.map (Value.int .i64))) (hn : xs.length = n) : RI w (some ⟨g, 0, none⟩) xs := by
  intro hp
  refine ⟨g, 0, rfl, fun k hk => ?_⟩
  have := h.cells (g := g) rfl k (.int .i64 (nth xs k)) (by rw [List.getElem?_map, List.getElem?_eq_getElem hk, nth_eq hk]; rfl)
  have e : (⟨g, 0, none⟩ : Addr).add k = ⟨g, 0 + k, none⟩ := by unfold Addr.add; split <;> simp_all
  rwa [e] at this

/-- The slice v is a list of its own (its block is base or above), and holds the numbers xs. -/
def OL (w : World) (base : Nat) (v : Value) (xs : List Int) : Prop := w.ownsRow base 3 1 v xs.length (xs.map (Value.int .i64))
theorem OL.nil (w : World) (base : Nat) : OL w base (.slice none 0 0) [] := World.ownsRow_nil w base 3 1
theorem OL.form {w : World} {base : Nat} {v : Value} {xs : List Int} (h : OL w base v xs) : ∃ A cap, v = .slice A xs.length cap ∧ RI w A xs := by
  rcases h.2 with ⟨hv, hn⟩ | ⟨g, cap, cur, hv, _, _, _⟩
  · refine ⟨none, 0, by rw [hv, hn], ?_⟩
    have : xs = [] := List.length_eq_zero_iff.1 hn
    rw [this]; exact RI_nil _ _
  · subst hv
    exact ⟨_, cap, rfl, RI_of_own h rfl⟩
theorem OL.below {w w' : World} {base : Nat} {v : Value} {xs : List Int} (h : OL w base v xs) (hb : Below w.heap.size w w') : OL w' base v xs :=
  World.ownsRow.kept h (grown_of_below hb none) (by
    rcases h.2 with ⟨hv, hn⟩ | ⟨g, cap, cur, hv, _, _, _⟩
    · exact .inl (by rw [hv]; rfl)
    · exact .inr (by rw [hv]; simp [Value.ownBlock]))
theorem OL.grow {w : World} {base : Nat} {v : Value} {xs : List Int} {x : Int} (h : w.ownsRow base 3 1 v (xs.length + 1) (xs.map (Value.int .i64) ++ [.int .i64 x])) : OL w base v (xs ++ [x]) := by
  unfold OL
  simpa using h
theorem OL.base_le {w : World} {base : Nat} {v : Value} {xs : List Int} (h : OL w base v xs) : ∀ k, v.ownBlock = some k → base ≤ k := fun k hk => (World.ownsRow.lt h k hk).1


/-- The live handles up to k, rising. -/
def liveTo (r : List Int) (k : Nat) : List Int := ((List.range k).map fun (i : Nat) => (i : Int) + 1).filter (live r)
def liveL (r : List Int) : List Int := liveTo r r.length
theorem liveTo_succ (r : List Int) (k : Nat) : liveTo r (k + 1) = liveTo r k ++ (if live r ((k : Int) + 1) then [(k : Int) + 1] else []) := by
  unfold liveTo
  rw [List.range_succ, List.map_append, List.filter_append]
  congr 1
  cases hl : live r ((k : Int) + 1) <;> simp [hl]
theorem liveTo_mem {r : List Int} {k : Nat} {x : Int} : x ∈ liveTo r k ↔ (1 ≤ x ∧ x ≤ (k : Int)) ∧ live r x = true := by
  unfold liveTo
  rw [List.mem_filter, List.mem_map]
  constructor
  · rintro ⟨⟨i, hi, rfl⟩, h⟩
    rw [List.mem_range] at hi
    exact ⟨by omega, h⟩
  · rintro ⟨h1, h2⟩
    exact ⟨⟨(x - 1).toNat, by rw [List.mem_range]; omega, by omega⟩, h2⟩
theorem liveL_mem {r : List Int} {x : Int} : x ∈ liveL r ↔ live r x = true := by
  unfold liveL
  rw [liveTo_mem]
  refine ⟨fun h => h.2, fun h => ⟨?_, h⟩⟩
  obtain ⟨k, rfl, hk, _⟩ := live_true h
  omega
theorem liveTo_rises (r : List Int) (k : Nat) : (liveTo r k).Pairwise (fun a b => a < b) := by
  unfold liveTo
  refine List.Pairwise.filter _ ?_
  rw [List.pairwise_map]
  exact (List.pairwise_lt_range (n := k)).imp (by intro a b h; omega)
theorem liveTo_length_le (r : List Int) (k : Nat) : (liveTo r k).length ≤ k := by
  have := List.length_filter_le (live r) ((List.range k).map fun (i : Nat) => (i : Int) + 1)
  unfold liveTo
  rwa [List.length_map, List.length_range] at this
theorem liveTo_nodup (r : List Int) (k : Nat) : (liveTo r k).Nodup := (liveTo_rises r k).imp (fun h => by omega)
theorem liveL_length (r : List Int) : (liveL r).length = cntL r := by
  have gen : ∀ (n : Nat), n ≤ r.length → (liveTo r n).length = cntL (r.take n) := by
    intro n
    induction n with
    | zero => intro _; rfl
    | succ n ih =>
      intro h
      have e : r.take (n + 1) = r.take n ++ [nth r n] := by
        rw [List.take_add_one, List.getElem?_eq_getElem (by omega : n < r.length), ← nth_eq (by omega : n < r.length)]
        rfl
      rw [liveTo_succ, List.length_append, ih (by omega), e, cntL_snoc, live_nat]
      have h1 : n < r.length := by omega
      by_cases h2 : 0 ≤ nth r n <;> simp [h1, h2]
  have := gen r.length (Nat.le_refl _)
  rwa [List.take_length] at this

theorem sorted_eq {D : DataW Unit} {r : List Int} (h : MD D r) (hk : ∀ es, D = .map es → ∀ p ∈ es, ∃ x, p.1 = .int .i64 x) {ss : List Int} (hp : ss.Perm (intKeys D)) : ss.mergeSort leI = liveL r := by
  obtain ⟨es, rfl, hpw⟩ := h.tidy
  have h1 : (liveL r).Perm (intKeys (.map es)) := perm_intKeys hpw (hk es rfl) (liveTo_nodup r _) (fun x => by rw [liveL_mem, h.has])
  rw [mergeSort_of_perm_i (hp.trans h1.symm)]
  refine List.mergeSort_of_pairwise ?_
  refine (liveTo_rises r _).imp ?_
  intro a b h
  simp only [leI, decide_eq_true_eq]
  omega
theorem own_keys {w : World} {b n : Nat} {D : DataW Unit} {R : Value → Option (DataW Unit × List MemPlace)} (hown : w.ownsMap Try.prog 3 R b n D) : ∀ es, D = .map es → ∀ p ∈ es, ∃ x, p.1 = .int .i64 x := by
  intro es he p hp
  obtain ⟨es', hD', hko⟩ := hown.keysOf
  rw [he] at hD'
  obtain rfl : es = es' := by simpa using hD'
  obtain ⟨v, hv⟩ := hko p hp
  obtain ⟨x, _, hx, _⟩ := Maps.keyOf_i64 Try.underlying3 hv
  exact ⟨x, hx⟩
end Go.Proofs.Ytggnboieenknfaa
