/- The memory words that all laws of this seat use: a block that is known whole, a slice that reads as a list of numbers, and the function ints that compares two of them. -/
import Derived.Test.YtjbljdjokgamdaaProg
import Derived.WalkKit
import Derived.BigQuiet
import Derived.Deep.QuietTactic
import Derived.Outline
import Derived.KernelRfl
import Derived.Deep.Draws
import Derived.Laws.OwnMore
import Derived.Laws.Rows
import Derived.Below
import Derived.Lib.Hide
namespace Go.Proofs.Ytjbljdjokgamdaa
open Go.RowKit
set_option linter.unusedVariables false

theorem ret_bool {a b : Bool} (h : a = b) : Ending.returned (.bool a) = .returned (.bool b) := by rw [h]

/-- The k-th number of a list (0 beyond its end); simp does not open it. -/
def nth (xs : List Int) (k : Nat) : Int := xs.getD k 0

theorem nth_eq {xs : List Int} {k : Nat} (h : k < xs.length) : nth xs k = xs[k] := by
  unfold nth
  simp [h]

/-- A slice of xs.length numbers at address A reads as xs. -/
def RI (w : World) (A : Option Addr) (xs : List Int) : Prop :=
  0 < xs.length → ∃ b off, A = some ⟨b, off, none⟩ ∧ ∀ k, k < xs.length → w.cell? ⟨b, off + k, none⟩ = some (.int .i64 (nth xs k))

theorem take_eq_snoc {xs ys : List Int} {k : Nat} (h : xs.take k = ys.take k) (hx : k < xs.length) (hy : k < ys.length) (e : nth xs k = nth ys k) :
    xs.take (k + 1) = ys.take (k + 1) := by
  rw [List.take_succ_eq_append_getElem hx, List.take_succ_eq_append_getElem hy, h, ← nth_eq hx, ← nth_eq hy, e]

theorem ne_of_nth {xs ys : List Int} {k : Nat} (e : ¬ nth xs k = nth ys k) : ¬ xs = ys := fun h => e (by rw [h])

theorem eq_of_take {xs ys : List Int} {k : Nat} (h : xs.take k = ys.take k) (hx : xs.length ≤ k) (hy : ys.length ≤ k) : xs = ys := by
  rwa [List.take_of_length_le hx, List.take_of_length_le hy] at h

set_option maxHeartbeats 400000 in
theorem ints_any (A B : Option Addr) (ca cb : Nat) (xs ys : List Int) (w : World) (hA : RI w A xs) (hB : RI w B ys) (hx : xs.length ≤ 4611686018427387904) (hy : ys.length ≤ 4611686018427387904) :
    Calls Try.prog 11 #[.slice A xs.length ca, .slice B ys.length cb] w fun e w' => e = .returned (.bool (decide (xs = ys))) ∧ ∃ n, w' = w.drewN n := by
  by_cases hl : xs.length = ys.length
  · have HL := Lib.hid hl
    have hl1 : xs.length ≤ ys.length := by omega
    have hl2 : ys.length ≤ xs.length := by omega
    have hne : (((xs.length : Nat) : Int) != ((ys.length : Nat) : Int)) = false := by simp [hl]
    clear hl
    go_enter Try.func11, Try.ntmps11
    go_wp2
    clear hne
    go_loopw [5] (fun i wr => ∃ k d : Nat, k ≤ xs.length ∧ i = .int .i64 k ∧ xs.take k = ys.take k ∧ wr = w.drewN d) (fun i _ => xs.length - (intOf i).toNat)
    case atStart => exact ⟨0, 0, Nat.zero_le _, rfl, rfl, by simp [World.drewN]⟩
    case round =>
      obtain ⟨k, d, hk, rfl, ht, rfl⟩ := hrel
      have HT := Lib.hid ht
      clear ht
      by_cases hlt : k < xs.length
      · obtain ⟨b, off, rfl, hc⟩ := hA (by omega)
        obtain ⟨b', off', rfl, hc'⟩ := hB (by omega)
        have h1 := hc k hlt
        have h2 := hc' k (by omega)
        clear hc hc'
        have i1 : (0 : Int) ≤ (k : Int) := by omega
        have i2 : (k : Int) < (xs.length : Int) := by omega
        have i3 : (k : Int) < (ys.length : Int) := by omega
        by_cases he : nth xs k = nth ys k
        · have hne : (nth xs k != nth ys k) = false := by simp [he]
          have HE := Lib.hid he
          clear he
          go_wp2
          go_quiet (fail)
          go_wp2
          go_roundw
          case rel => exact ⟨k + 1, d + nq, by omega, by go_num, take_eq_snoc HT.out hlt (by omega) HE.out, rfl⟩
          case measure => simp [intOf]; omega
        · have hne : (nth xs k != nth ys k) = true := by simp [he]
          have HE := Lib.hid he
          clear he
          go_wp2
          go_quiet (fail)
          go_wp2
          go_ret
          exact ⟨ret_bool (by rw [decide_eq_false (ne_of_nth HE.out)]), d + nq, by rw [World.drewN_drewN]⟩
      · go_wp2
        go_ret
        exact ⟨ret_bool (by rw [decide_eq_true (eq_of_take HT.out (by omega) (by omega))]), _, rfl⟩
  · have hne : (((xs.length : Nat) : Int) != ((ys.length : Nat) : Int)) = true := by simp; omega
    have HL := Lib.hid hl
    clear hl
    go_enter Try.func11, Try.ntmps11
    go_wp2
    go_ret
    have := HL.out
    exact ⟨ret_bool (by rw [decide_eq_false (fun e => this (by rw [e]))]), 0, by simp [World.drewN]⟩
end Go.Proofs.Ytjbljdjokgamdaa
