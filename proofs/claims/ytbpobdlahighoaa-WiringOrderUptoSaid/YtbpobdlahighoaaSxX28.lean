/- slices.Reverse at two types. -/
import Derived.Test.YtbpobdlahighoaaSxX26
namespace Go.Proofs.Ytbpobdlahighoaa.Sx
open Go
set_option linter.unusedVariables false
set_option linter.unusedSimpArgs false
set_option maxRecDepth 100000

/-- Behind i swaps from both ends. -/
def revI {α : Type} (xs : List α) (i : Nat) (ys : List α) : Prop := ys.length = xs.length ∧ ∀ k, k < xs.length → ys[k]? = if k < i ∨ xs.length ≤ k + i then xs[xs.length - 1 - k]? else xs[k]?
theorem revI_0 {α : Type} (xs : List α) : revI xs 0 xs := ⟨rfl, fun k hk => by rw [if_neg (by omega)]⟩
theorem revI_step {α : Type} {xs ys : List α} {i : Nat} {x y : α} (h : revI xs i ys) (hi : i + i + 1 < xs.length) (hx : ys[i]? = some x) (hy : ys[xs.length - 1 - i]? = some y) : revI xs (i + 1) ((ys.set i y).set (xs.length - 1 - i) x) := by
  refine ⟨by simp [h.1], fun k hk => ?_⟩
  have hl := h.1
  have e1 := h.2 i (by omega)
  have e2 := h.2 (xs.length - 1 - i) (by omega)
  rw [if_neg (by omega)] at e1 e2
  rw [List.getElem?_set, List.getElem?_set]
  by_cases h1 : xs.length - 1 - i = k
  · rw [if_pos h1, if_pos (by simp; omega), if_pos (by omega), show xs.length - 1 - k = i by omega, ← e1, hx]
  · rw [if_neg h1]
    by_cases h2 : i = k
    · rw [if_pos h2, if_pos (by omega), if_pos (by omega), ← h2, ← e2, hy]
    · rw [if_neg h2, h.2 k hk]
      by_cases h3 : k < i ∨ xs.length ≤ k + i
      · rw [if_pos h3, if_pos (by omega)]
      · rw [if_neg h3, if_neg (by omega)]
theorem revI_end {α : Type} {xs ys : List α} {i : Nat} (h : revI xs i ys) (hi : xs.length ≤ i + i + 1) : ys = xs.reverse := by
  refine List.ext_getElem? (fun k => ?_)
  rcases Nat.lt_or_ge k xs.length with hlt | hge
  · rw [h.2 k hlt, List.getElem?_reverse hlt]
    split
    · rfl
    · rw [show xs.length - 1 - k = k by omega]
  · rw [List.getElem?_eq_none (by rw [h.1]; exact hge), List.getElem?_eq_none (by simpa using hge)]
/-- slices.Reverse at []api.Port -/
theorem t_revT (xs : List Prt) (hl : xs.length ≤ 1048576) : TriF Pr 21 [.h 0] [.sl 6 ePrt xs] [] (.tup []) [.sl 6 ePrt xs.reverse] := by
  refine tri_fn Try.f21 [] [] [] 1000 (by kernel_rfl) (by kernel_rfl) (by kernel_rfl) (by kernel_rfl) (by kernel_rfl) (by kernel_rfl) (Nat.le_of_ble_eq_true rfl) ?_
  simp -implicitDefEqProofs only [go_sem, Try.f21]
  refine ⟨⟨by omega, by omega⟩, ?_⟩
  refine loopR (ι := Nat × Int × List Prt) (fun a => revI xs a.1 a.2.2 ∧ a.2.1 = (xs.length : Int) - 1 - a.1 ∧ a.1 ≤ xs.length) [0] (fun a => [(2, .v (.int .i64 a.1)), (3, .v (.int .i64 a.2.1))]) (fun a => [(0, .sl 6 ePrt a.2.2)]) [] (fun a => xs.length - a.1) (0, (xs.length : Int) - 1, xs) ⟨revI_0 xs, by simp, by simp⟩ ⟨rfl, rfl, trivial⟩ ⟨rfl, trivial⟩ (fun _ h => h) (fun i => rfl) (fun i => rfl) ?_
  rintro ⟨i, j, ys⟩ ⟨hI, hj, hi⟩ E hE
  simp only at hI hj hi
  have hyl := hI.1
  by_cases hlt : (i : Int) < j
  · obtain ⟨jn, rfl⟩ : ∃ jn : Nat, j = (jn : Int) := ⟨xs.length - 1 - i, by omega⟩
    have hjn : jn = xs.length - 1 - i := by omega
    obtain ⟨x, hx⟩ := get_lt (l := ys) (i := i) (by omega)
    obtain ⟨y, hy⟩ := get_lt (l := ys) (i := jn) (by omega)
    have hy' : (ys.set i y)[jn]? = some y := by rw [List.getElem?_set_ne (by omega)]; exact hy
    have hR : revI xs (i + 1) ((ys.set i y).set jn x) := by
      subst hjn
      exact revI_step hI (by omega) hx hy
    simp -implicitDefEqProofs only [go_sem, hlt, encAt_some hx, encAt_some hy, ePrt]
    refine ⟨by omega, by omega, by omega, y, ⟨by omega, rfl⟩, by rw [List.length_set]; omega, x, ⟨by rw [List.length_set]; omega, by rw [encAt_some hy']; rfl⟩, inI64_nat hi hl, ⟨by omega, by omega⟩, hE _ (i + 1, (jn : Int) - 1, (ys.set i y).set jn x) ⟨hR, by simp only; omega, by simp only; omega⟩ (by show xs.length - (i + 1) < xs.length - i; omega) ⟨rfl, rfl, rfl, trivial⟩ ⟨rfl, trivial⟩ (fun _ h => h)⟩
  · simp -implicitDefEqProofs only [go_sem, hlt]
    have := revI_end hI (by omega)
    subst this
    exact retS [0] (.tup []) [.sl 6 ePrt xs.reverse] (by simp -implicitDefEqProofs only [go_sem])
/-- slices.Reverse at []uint16 -/
theorem t_rev16 (xs : List Int) (hl : xs.length ≤ 1048576) : TriF Pr 22 [.h 0] [.sl 1 eI16 xs] [] (.tup []) [.sl 1 eI16 xs.reverse] := by
  refine tri_fn Try.f22 [] [] [] 1000 (by kernel_rfl) (by kernel_rfl) (by kernel_rfl) (by kernel_rfl) (by kernel_rfl) (by kernel_rfl) (Nat.le_of_ble_eq_true rfl) ?_
  simp -implicitDefEqProofs only [go_sem, Try.f22]
  refine ⟨⟨by omega, by omega⟩, ?_⟩
  refine loopR (ι := Nat × Int × List Int) (fun a => revI xs a.1 a.2.2 ∧ a.2.1 = (xs.length : Int) - 1 - a.1 ∧ a.1 ≤ xs.length) [0] (fun a => [(2, .v (.int .i64 a.1)), (3, .v (.int .i64 a.2.1))]) (fun a => [(0, .sl 1 eI16 a.2.2)]) [] (fun a => xs.length - a.1) (0, (xs.length : Int) - 1, xs) ⟨revI_0 xs, by simp, by simp⟩ ⟨rfl, rfl, trivial⟩ ⟨rfl, trivial⟩ (fun _ h => h) (fun i => rfl) (fun i => rfl) ?_
  rintro ⟨i, j, ys⟩ ⟨hI, hj, hi⟩ E hE
  simp only at hI hj hi
  have hyl := hI.1
  by_cases hlt : (i : Int) < j
  · obtain ⟨jn, rfl⟩ : ∃ jn : Nat, j = (jn : Int) := ⟨xs.length - 1 - i, by omega⟩
    have hjn : jn = xs.length - 1 - i := by omega
    obtain ⟨x, hx⟩ := get_lt (l := ys) (i := i) (by omega)
    obtain ⟨y, hy⟩ := get_lt (l := ys) (i := jn) (by omega)
    have hy' : (ys.set i y)[jn]? = some y := by rw [List.getElem?_set_ne (by omega)]; exact hy
    have hR : revI xs (i + 1) ((ys.set i y).set jn x) := by
      subst hjn
      exact revI_step hI (by omega) hx hy
    simp -implicitDefEqProofs only [go_sem, hlt, encAt_some hx, encAt_some hy, eI16]
    refine ⟨by omega, by omega, by omega, y, ⟨by omega, rfl⟩, by rw [List.length_set]; omega, x, ⟨by rw [List.length_set]; omega, by rw [encAt_some hy']; rfl⟩, inI64_nat hi hl, ⟨by omega, by omega⟩, hE _ (i + 1, (jn : Int) - 1, (ys.set i y).set jn x) ⟨hR, by simp only; omega, by simp only; omega⟩ (by show xs.length - (i + 1) < xs.length - i; omega) ⟨rfl, rfl, rfl, trivial⟩ ⟨rfl, trivial⟩ (fun _ h => h)⟩
  · simp -implicitDefEqProofs only [go_sem, hlt]
    have := revI_end hI (by omega)
    subst this
    exact retS [0] (.tup []) [.sl 1 eI16 xs.reverse] (by simp -implicitDefEqProofs only [go_sem])
end Go.Proofs.Ytbpobdlahighoaa.Sx
