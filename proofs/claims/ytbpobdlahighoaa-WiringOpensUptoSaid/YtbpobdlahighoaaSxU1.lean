/- slices.Sort at []uint16: comparison, insertion sort, exchange. -/
import Derived.Test.YtbpobdlahighoaaSxV
import Derived.Sort.AssemblyPlain
namespace Go.Proofs.Ytbpobdlahighoaa.Sx
open Go
set_option linter.unusedVariables false
set_option linter.unusedSimpArgs false
set_option maxRecDepth 100000

theorem ag16 {d : Array Int} {i : Nat} (h : i < d.size) : d.toList[i]? = some d[i]! := by simp [h]
theorem aswp {d : Array Int} {i j : Nat} : (d.toList.set i d[j]!).set j d[i]! = (Sort.swp d i j).toList := by simp [Sort.swp]
theorem row16 {xs : List Int} {j : Nat} {x : Int} (h : j < xs.length) : SV.v (.int .u16 x) :: List.drop 1 (encAt eI16 xs j) = eI16 x := by
  rw [encAt_some (List.getElem?_eq_getElem h)]; rfl
theorem t_isNaN16 (x : Int) : TriF Pr 109 [.v (.int .u16 x)] [] [] (.v (.bool false)) [] := by
  refine tri_fn Try.f109 [] [] [] 1000 (by kernel_rfl) (by kernel_rfl) (by kernel_rfl) (by kernel_rfl) (by kernel_rfl) (by kernel_rfl) (Nat.le_of_ble_eq_true rfl) ?_
  simp -implicitDefEqProofs only [go_sem, Try.f109]
  exact ret0 rfl (by simp -implicitDefEqProofs only [go_sem])
theorem t_less16 (x y : Int) : TriF Pr 102 [.v (.int .u16 x), .v (.int .u16 y)] [] [] (.v (.bool (decide (x < y)))) [] := by
  refine tri_fn Try.f102 [] [] [] 1000 (by kernel_rfl) (by kernel_rfl) (by kernel_rfl) (by kernel_rfl) (by kernel_rfl) (by kernel_rfl) (Nat.le_of_ble_eq_true rfl) ?_
  simp -implicitDefEqProofs only [go_sem, Try.f102]
  refine call0 (t_isNaN16 x) rfl rfl ?_
  simp -implicitDefEqProofs only [go_sem]
  exact ret0 rfl (by simp -implicitDefEqProofs only [go_sem])
abbrev U16 (d : Array Int) : Res := .sl 1 eI16 d.toList
theorem t_ins16 (d : Array Int) (a b : Nat) (hab : a ≤ b) (hb : b ≤ d.size) (hs : d.size ≤ 1048576) :
    TriF Pr 96 [.h 0, .v (.int .i64 a), .v (.int .i64 b)] [U16 d] [] (.tup []) [U16 (Sort.insertionSort Sort.ltInt d a b)] := by
  refine tri_fn Try.f96 [] [] [] 1000 (by kernel_rfl) (by kernel_rfl) (by kernel_rfl) (by kernel_rfl) (by kernel_rfl) (by kernel_rfl) (Nat.le_of_ble_eq_true rfl) ?_
  simp -implicitDefEqProofs only [go_sem, Try.f96]
  refine ⟨⟨by omega, by omega⟩, ?_⟩
  refine loopR (ι := Nat × Array Int) (fun p => a + 1 ≤ p.1 ∧ (p.1 ≤ b ∨ p.1 = a + 1) ∧ p.2.size = d.size ∧ Sort.insOuter Sort.ltInt a b p.1 p.2 = Sort.insOuter Sort.ltInt a b (a + 1) d) [0, 1, 2] (fun p => [(6, .v (.int .i64 p.1))]) (fun p => [(0, U16 p.2)]) [] (fun p => b - p.1) (a + 1, d) ⟨Nat.le_refl _, .inr rfl, rfl, rfl⟩ ⟨by simp [lk], trivial⟩ ⟨rfl, trivial⟩ (fun _ h => h) (fun i => rfl) (fun i => rfl) ?_
  rintro ⟨i, dk⟩ ⟨h1, h2, h3, h4⟩ E hE
  simp only at h1 h2 h3 h4
  by_cases hlt : (i : Int) < b
  · simp -implicitDefEqProofs only [go_sem, hlt]
    refine loopR (ι := Nat × Array Int) (fun p => p.1 ≤ i ∧ p.2.size = d.size ∧ Sort.insInner Sort.ltInt a p.1 p.2 = Sort.insInner Sort.ltInt a i dk) [0, 1, 2, 6] (fun p => [(7, .v (.int .i64 p.1))]) (fun p => [(0, U16 p.2)]) [] (fun p => p.1) (i, dk) ⟨Nat.le_refl _, h3, rfl⟩ ⟨rfl, trivial⟩ ⟨rfl, trivial⟩ (fun _ h => h) (fun i => rfl) (fun i => rfl) ?_
    rintro ⟨j, dj⟩ ⟨k1, k2, k3⟩ E2 hE2
    simp only at k1 k2 k3
    have hout : Sort.insInner Sort.ltInt a i dk = dj → a + 1 ≤ i + 1 ∧ (i + 1 ≤ b ∨ i + 1 = a + 1) ∧ dj.size = d.size ∧ Sort.insOuter Sort.ltInt a b (i + 1) dj = Sort.insOuter Sort.ltInt a b (a + 1) d := fun e => by
      have h5 : Sort.insOuter Sort.ltInt a b i dk = Sort.insOuter Sort.ltInt a b (i + 1) (Sort.insInner Sort.ltInt a i dk) := by rw [Sort.insOuter, if_pos (by omega)]
      exact ⟨by omega, .inl (by omega), k2, by rw [← h4, h5, e]⟩
    have hi64 : inI64 ((i : Int) + 1) := inI64_nat (n := d.size) (by omega) hs
    cases j with
    | zero =>
      have hja : ¬ (a : Int) < ((0 : Nat) : Int) := by omega
      simp -implicitDefEqProofs only [go_sem, hja]
      exact ⟨hi64, hE _ (i + 1, dj) (hout (by rw [← k3]; rfl)) (by show b - (i + 1) < b - i; omega) ⟨rfl, rfl, rfl, rfl, trivial⟩ ⟨rfl, trivial⟩ (fun _ h => h)⟩
    | succ j =>
      by_cases hja : (a : Int) < ((j + 1 : Nat) : Int)
      · have hm : ((j + 1 : Nat) : Int) - 1 = (j : Int) := by omega
        simp -implicitDefEqProofs only [go_sem, hja, hm, encAt_some (ag16 (d := dj) (i := j + 1) (by omega)), encAt_some (ag16 (d := dj) (i := j) (by omega)), eI16]
        refine ⟨⟨by omega, by rw [Array.length_toList]; omega⟩, ⟨by omega, by omega⟩, ⟨by omega, by rw [Array.length_toList]; omega⟩, ?_⟩
        refine call0 (t_less16 _ _) rfl rfl ?_
        by_cases hc : dj[j + 1]! < dj[j]!
        · have e2 : (dj.toList.set (j + 1) dj[j]!)[j]? = some dj[j]! := by rw [List.getElem?_set_ne (by omega)]; exact ag16 (by omega)
          simp -implicitDefEqProofs only [go_sem, hc, hm, encAt_some (ag16 (d := dj) (i := j + 1) (by omega)), encAt_some (ag16 (d := dj) (i := j) (by omega)), eI16]
          have hsw : Sort.insInner Sort.ltInt a j (Sort.swp dj (j + 1) j) = Sort.insInner Sort.ltInt a i dk := by
            rw [← k3, Sort.insInner, if_pos (by simp [Sort.ltInt, hc]; omega)]
          have hl : dj.toList.length = dj.size := Array.length_toList
          have hl2 : (dj.toList.set (j + 1) dj[j]!).length = dj.size := by rw [List.length_set, hl]
          refine ⟨⟨by omega, by omega⟩, ⟨by omega, by omega⟩, ⟨by omega, by omega⟩, ⟨by omega, by omega⟩, ⟨by omega, by omega⟩, dj[j]!, ⟨by omega, rfl⟩, ⟨by omega, by omega⟩, dj[j + 1]!, ⟨by omega, row16 (by omega)⟩, ⟨by omega, by omega⟩, ?_⟩
          exact hE2 _ (j, Sort.swp dj (j + 1) j) ⟨by simp only; omega, by rw [Sort.size_swp]; exact k2, hsw⟩ (by show j < j + 1; omega) ⟨rfl, rfl, rfl, rfl, rfl, trivial⟩ ⟨by rw [aswp]; rfl, trivial⟩ (fun _ h => h)
        · simp -implicitDefEqProofs only [go_sem, hc]
          have : Sort.insInner Sort.ltInt a i dk = dj := by rw [← k3, Sort.insInner, if_neg (by simp [Sort.ltInt]; omega)]
          exact ⟨hi64, hE _ (i + 1, dj) (hout this) (by show b - (i + 1) < b - i; omega) ⟨rfl, rfl, rfl, rfl, trivial⟩ ⟨rfl, trivial⟩ (fun _ h => h)⟩
      · simp -implicitDefEqProofs only [go_sem, hja]
        have : Sort.insInner Sort.ltInt a i dk = dj := by rw [← k3, Sort.insInner, if_neg (by simp; omega)]
        exact ⟨hi64, hE _ (i + 1, dj) (hout this) (by show b - (i + 1) < b - i; omega) ⟨rfl, rfl, rfl, rfl, trivial⟩ ⟨rfl, trivial⟩ (fun _ h => h)⟩
  · simp -implicitDefEqProofs only [go_sem, hlt]
    have : Sort.insertionSort Sort.ltInt d a b = dk := by
      unfold Sort.insertionSort
      rw [← h4, Sort.insOuter, if_neg (by omega)]
    rw [this]
    exact retS [0] (.tup []) [U16 dk] (by simp -implicitDefEqProofs only [go_sem])
end Go.Proofs.Ytbpobdlahighoaa.Sx
/- slices.Sort at []uint16: the heap; turning a range around. -/
namespace Go.Proofs.Ytbpobdlahighoaa.Sx
open Go
set_option linter.unusedVariables false
set_option linter.unusedSimpArgs false
set_option maxRecDepth 100000

theorem t_rev16r (d : Array Int) (a b : Nat) (hab : a < b) (hb : b ≤ d.size) (hs : d.size ≤ 1048576) :
    TriF Pr 100 [.h 0, .v (.int .i64 a), .v (.int .i64 b)] [U16 d] [] (.tup []) [U16 (Sort.reverseRange d a b)] := by
  refine tri_fn Try.f100 [] [] [] 1000 (by kernel_rfl) (by kernel_rfl) (by kernel_rfl) (by kernel_rfl) (by kernel_rfl) (by kernel_rfl) (Nat.le_of_ble_eq_true rfl) ?_
  simp -implicitDefEqProofs only [go_sem, Try.f100]
  refine ⟨⟨by omega, by omega⟩, ?_⟩
  have hb1 : ((b : Int) - 1) = ((b - 1 : Nat) : Int) := by omega
  refine loopR (ι := Nat × Nat × Array Int) (fun p => a ≤ p.1 ∧ p.1 ≤ b ∧ p.2.1 < b ∧ p.2.2.size = d.size ∧ Sort.reverseLoop p.1 p.2.1 p.2.2 = Sort.reverseLoop a (b - 1) d) [0, 1, 2] (fun p => [(6, .v (.int .i64 p.1)), (7, .v (.int .i64 p.2.1))]) (fun p => [(0, U16 p.2.2)]) [] (fun p => p.2.1 - p.1) (a, b - 1, d) ⟨Nat.le_refl _, by omega, by simp only; omega, rfl, rfl⟩ ⟨by simp [lk], by simp [lk, hb1], trivial⟩ ⟨rfl, trivial⟩ (fun _ h => h) (fun i => rfl) (fun i => rfl) ?_
  rintro ⟨i, j, dk⟩ ⟨h1, h2, h3, h4, h5⟩ E hE
  simp only at h1 h2 h3 h4 h5
  by_cases hlt : (i : Int) < j
  · have hl : dk.toList.length = dk.size := Array.length_toList
    have hl2 : (dk.toList.set i dk[j]!).length = dk.size := by rw [List.length_set, hl]
    have hm : ((j : Int) - 1) = ((j - 1 : Nat) : Int) := by omega
    simp -implicitDefEqProofs only [go_sem, hlt, hm, encAt_some (ag16 (d := dk) (i := i) (by omega)), encAt_some (ag16 (d := dk) (i := j) (by omega)), eI16]
    refine ⟨⟨by omega, by omega⟩, ⟨by omega, by omega⟩, ⟨by omega, by omega⟩, dk[j]!, ⟨by omega, rfl⟩, ⟨by omega, by omega⟩, dk[i]!, ⟨by omega, row16 (by omega)⟩, ⟨by omega, by omega⟩, ⟨by omega, by omega⟩, ?_⟩
    have hsw : Sort.reverseLoop (i + 1) (j - 1) (Sort.swp dk i j) = Sort.reverseLoop a (b - 1) d := by rw [← h5, Sort.reverseLoop.eq_def i, if_pos (by omega)]
    exact hE _ (i + 1, j - 1, Sort.swp dk i j) ⟨by simp only; omega, by simp only; omega, by simp only; omega, by rw [Sort.size_swp]; exact h4, hsw⟩ (by show (j - 1) - (i + 1) < j - i; omega) ⟨rfl, rfl, rfl, rfl, rfl, trivial⟩ ⟨by rw [aswp]; rfl, trivial⟩ (fun _ h => h)
  · simp -implicitDefEqProofs only [go_sem, hlt]
    have : Sort.reverseRange d a b = dk := by unfold Sort.reverseRange; rw [← h5, Sort.reverseLoop, if_neg (by omega)]
    rw [this]
    exact retS [0] (.tup []) [U16 dk] (by simp -implicitDefEqProofs only [go_sem])
theorem t_sift16 (d : Array Int) (lo hi first : Nat) (hb : first + hi ≤ d.size) (hlo : lo ≤ 1048576) (hs : d.size ≤ 1048576) :
    TriF Pr 106 [.h 0, .v (.int .i64 lo), .v (.int .i64 hi), .v (.int .i64 first)] [U16 d] [] (.tup []) [U16 (Sort.siftDown Sort.ltInt hi first lo d)] := by
  refine tri_fn Try.f106 [] [] [] 1000 (by kernel_rfl) (by kernel_rfl) (by kernel_rfl) (by kernel_rfl) (by kernel_rfl) (by kernel_rfl) (Nat.le_of_ble_eq_true rfl) ?_
  simp -implicitDefEqProofs only [go_sem, Try.f106]
  refine loopR (ι := Nat × Array Int) (fun p => p.1 ≤ 1048576 ∧ p.2.size = d.size ∧ Sort.siftDown Sort.ltInt hi first p.1 p.2 = Sort.siftDown Sort.ltInt hi first lo d) [0, 1, 2, 3] (fun p => [(8, .v (.int .i64 p.1))]) (fun p => [(0, U16 p.2)]) [] (fun p => hi - p.1) (lo, d) ⟨hlo, rfl, rfl⟩ ⟨rfl, trivial⟩ ⟨rfl, trivial⟩ (fun _ h => h) (fun i => rfl) (fun i => rfl) ?_
  rintro ⟨r, dk⟩ ⟨h1, h2', h3⟩ E hE
  simp only at h1 h2' h3
  have hl : dk.toList.length = dk.size := Array.length_toList
  have hc0 : ((2 : Int) * r + 1) = ((2 * r + 1 : Nat) : Int) := by omega
  have hc1 : (((2 * r + 1 : Nat) : Int) + 1) = ((2 * r + 2 : Nat) : Int) := by omega
  by_cases hge : ((hi : Int)) ≤ ((2 * r + 1 : Nat) : Int)
  · simp -implicitDefEqProofs only [go_sem, hc0, hge]
    have e : Sort.siftDown Sort.ltInt hi first r dk = dk := by rw [Sort.siftDown, dif_pos (by omega)]
    rw [← h3, e]
    exact ⟨⟨by omega, by omega⟩, ⟨by omega, by omega⟩, retS [0] (.tup []) [U16 dk] (by simp -implicitDefEqProofs only [go_sem])⟩
  · have hf1 : ((first : Int) + ((2 * r + 1 : Nat) : Int)) = ((first + (2 * r + 1) : Nat) : Int) := by omega
    have hf2 : ((first : Int) + ((2 * r + 2 : Nat) : Int)) = ((first + (2 * r + 2) : Nat) : Int) := by omega
    have hf3 : (((first + (2 * r + 1) : Nat) : Int) + 1) = ((first + (2 * r + 2) : Nat) : Int) := by omega
    have hfr : ((first : Int) + (r : Int)) = ((first + r : Nat) : Int) := by omega
    simp -implicitDefEqProofs only [go_sem, hc0, hge]
    refine ⟨⟨by omega, by omega⟩, ⟨by omega, by omega⟩, ?_⟩
    obtain ⟨c, hc, hchi, hsift⟩ : ∃ c : Nat, ((c = 2 * r + 2 ∧ dk[first + (2 * r + 1)]! < dk[first + (2 * r + 2)]!) ∨ (c = 2 * r + 1 ∧ (2 * r + 2 < hi → ¬ dk[first + (2 * r + 1)]! < dk[first + (2 * r + 2)]!))) ∧ c < hi ∧
        Sort.siftDown Sort.ltInt hi first r dk = if dk[first + r]! < dk[first + c]! then Sort.siftDown Sort.ltInt hi first c (Sort.swp dk (first + r) (first + c)) else dk := by
      by_cases h : 2 * r + 2 < hi ∧ dk[first + (2 * r + 1)]! < dk[first + (2 * r + 2)]!
      · refine ⟨2 * r + 2, .inl ⟨rfl, h.2⟩, h.1, ?_⟩
        rw [Sort.siftDown, dif_neg (by omega), if_pos (by simp [Sort.ltInt, h.2, show first + (2 * r + 1) + 1 = first + (2 * r + 2) by omega]; exact h.1)]
        by_cases h2 : dk[first + r]! < dk[first + (2 * r + 2)]!
        · rw [if_neg (by simp [Sort.ltInt, h2]), dif_pos h.1, if_pos h2]
        · rw [if_pos (by simp [Sort.ltInt]; omega), if_neg h2]
      · refine ⟨2 * r + 1, .inr ⟨rfl, fun h1 h2 => h ⟨h1, h2⟩⟩, by omega, ?_⟩
        rw [Sort.siftDown, dif_neg (by omega), if_neg (by simp [Sort.ltInt, show first + (2 * r + 1) + 1 = first + (2 * r + 2) by omega]; intro h1; exact Int.not_lt.1 (fun h2 => h ⟨h1, h2⟩))]
        by_cases h2 : dk[first + r]! < dk[first + (2 * r + 1)]!
        · rw [if_neg (by simp [Sort.ltInt, h2]), if_pos h2]
        · rw [if_pos (by simp [Sort.ltInt]; omega), if_neg h2]
    have hrc : r < c := by omega
    have hfc : ((first : Int) + (c : Int)) = ((first + c : Nat) : Int) := by omega
    have hec := encAt_some (enc := eI16) (ag16 (d := dk) (i := first + c) (by omega))
    have her := encAt_some (enc := eI16) (ag16 (d := dk) (i := first + r) (by omega))
    have hl2 : ∀ y, (dk.toList.set (first + r) y).length = dk.size := fun y => by rw [List.length_set, hl]
    by_cases hlt : ((2 * r + 2 : Nat) : Int) < (hi : Int)
    · simp -implicitDefEqProofs only [go_sem, hc1, hlt, hf1, hf2, hf3, encAt_some (ag16 (d := dk) (i := first + (2 * r + 1)) (by omega)), encAt_some (ag16 (d := dk) (i := first + (2 * r + 2)) (by omega)), eI16]
      refine ⟨⟨by omega, by omega⟩, ⟨by omega, by omega⟩, ⟨by omega, by omega⟩, ⟨by omega, by omega⟩, ⟨by omega, by omega⟩, ⟨by omega, by omega⟩, call0 (t_less16 _ _) rfl rfl ?_⟩
      rcases hc with ⟨e, hd⟩ | ⟨e, hd⟩
      · have hcc : ((2 * r + 2 : Nat) : Int) = (c : Int) := by omega
        simp -implicitDefEqProofs only [go_sem, hd, hc1, hcc, hfc, hfr, hec, her, eI16]
        refine ⟨⟨by omega, by omega⟩, ⟨by omega, by omega⟩, ⟨by omega, by omega⟩, ⟨by omega, by omega⟩, ⟨by omega, by omega⟩, call0 (t_less16 _ _) rfl rfl ?_⟩
        by_cases h2 : dk[first + r]! < dk[first + c]!
        · simp -implicitDefEqProofs only [go_sem, h2, hfc, hfr, hec, her, eI16]
          rw [if_pos h2] at hsift
          refine ⟨⟨by omega, by omega⟩, ⟨by omega, by omega⟩, ⟨by omega, by omega⟩, ⟨by omega, by omega⟩, ⟨by omega, by omega⟩, ⟨by omega, by omega⟩, ⟨by omega, by omega⟩, dk[first + c]!, ⟨by omega, rfl⟩, ⟨by omega, by rw [hl2]; omega⟩, dk[first + r]!, ⟨by rw [hl2]; omega, row16 (by rw [hl2]; omega)⟩, ?_⟩
          exact hE _ (c, Sort.swp dk (first + r) (first + c)) ⟨by simp only; omega, by rw [Sort.size_swp]; exact h2', by rw [← h3, hsift]⟩ (by show hi - c < hi - r; omega) ⟨rfl, rfl, rfl, rfl, rfl, trivial⟩ ⟨by rw [aswp]; rfl, trivial⟩ (fun _ h => h)
        · simp -implicitDefEqProofs only [go_sem, h2]
          rw [if_neg h2] at hsift
          rw [← h3, hsift]
          exact retS [0] (.tup []) [U16 dk] (by simp -implicitDefEqProofs only [go_sem])
      · have hd := hd (by omega)
        have hcc : ((2 * r + 1 : Nat) : Int) = (c : Int) := by omega
        simp -implicitDefEqProofs only [go_sem, hd, hcc, hfc, hfr, hec, her, eI16]
        refine ⟨⟨by omega, by omega⟩, ⟨by omega, by omega⟩, ⟨by omega, by omega⟩, ⟨by omega, by omega⟩, call0 (t_less16 _ _) rfl rfl ?_⟩
        by_cases h2 : dk[first + r]! < dk[first + c]!
        · simp -implicitDefEqProofs only [go_sem, h2, hfc, hfr, hec, her, eI16]
          rw [if_pos h2] at hsift
          refine ⟨⟨by omega, by omega⟩, ⟨by omega, by omega⟩, ⟨by omega, by omega⟩, ⟨by omega, by omega⟩, ⟨by omega, by omega⟩, ⟨by omega, by omega⟩, ⟨by omega, by omega⟩, dk[first + c]!, ⟨by omega, rfl⟩, ⟨by omega, by rw [hl2]; omega⟩, dk[first + r]!, ⟨by rw [hl2]; omega, row16 (by rw [hl2]; omega)⟩, ?_⟩
          exact hE _ (c, Sort.swp dk (first + r) (first + c)) ⟨by simp only; omega, by rw [Sort.size_swp]; exact h2', by rw [← h3, hsift]⟩ (by show hi - c < hi - r; omega) ⟨rfl, rfl, rfl, rfl, rfl, trivial⟩ ⟨by rw [aswp]; rfl, trivial⟩ (fun _ h => h)
        · simp -implicitDefEqProofs only [go_sem, h2]
          rw [if_neg h2] at hsift
          rw [← h3, hsift]
          exact retS [0] (.tup []) [U16 dk] (by simp -implicitDefEqProofs only [go_sem])
    · have hcc : ((2 * r + 1 : Nat) : Int) = (c : Int) := by omega
      have hcc1 : (c : Int) + 1 = ((2 * r + 2 : Nat) : Int) := by omega
      simp -implicitDefEqProofs only [go_sem, hcc, hcc1, hlt, hfc, hfr, hec, her, eI16]
      refine ⟨⟨by omega, by omega⟩, ⟨by omega, by omega⟩, ⟨by omega, by omega⟩, ⟨by omega, by omega⟩, ⟨by omega, by omega⟩, call0 (t_less16 _ _) rfl rfl ?_⟩
      by_cases h2 : dk[first + r]! < dk[first + c]!
      · simp -implicitDefEqProofs only [go_sem, h2, hfc, hfr, hec, her, eI16]
        rw [if_pos h2] at hsift
        refine ⟨⟨by omega, by omega⟩, ⟨by omega, by omega⟩, ⟨by omega, by omega⟩, ⟨by omega, by omega⟩, ⟨by omega, by omega⟩, ⟨by omega, by omega⟩, ⟨by omega, by omega⟩, dk[first + c]!, ⟨by omega, rfl⟩, ⟨by omega, by rw [hl2]; omega⟩, dk[first + r]!, ⟨by rw [hl2]; omega, row16 (by rw [hl2]; omega)⟩, ?_⟩
        exact hE _ (c, Sort.swp dk (first + r) (first + c)) ⟨by simp only; omega, by rw [Sort.size_swp]; exact h2', by rw [← h3, hsift]⟩ (by show hi - c < hi - r; omega) ⟨rfl, rfl, rfl, rfl, rfl, trivial⟩ ⟨by rw [aswp]; rfl, trivial⟩ (fun _ h => h)
      · simp -implicitDefEqProofs only [go_sem, h2]
        rw [if_neg h2] at hsift
        rw [← h3, hsift]
        exact retS [0] (.tup []) [U16 dk] (by simp -implicitDefEqProofs only [go_sem])
end Go.Proofs.Ytbpobdlahighoaa.Sx
/- slices.Sort at []uint16: heap sort; the two partitions. -/
namespace Go.Proofs.Ytbpobdlahighoaa.Sx
open Go
set_option linter.unusedVariables false
set_option linter.unusedSimpArgs false
set_option maxRecDepth 100000

theorem callU {P : Program} {np n : Nat} {f : FuncId} {args args' : List SV} {d : Option Nat} {K : St → Prop} {st : St} {D D' : Array Int} {r : SV} (hT : TriF P f args' [U16 D] [] r [U16 D']) (h2 : ∀ t ∈ [0], (rlk st.res t).isSome = true)
    (ha : ∀ ρ, SV.handL st.res [] ρ [0] args = args') (hp : ∀ ρ, preOf st.res [] ρ [0] [0] = [U16 D]) (hK : vput n d (r.ren (tagOf [0] st.nx)) K { st.kills [] with res := rsets (st.kills []).res (tagOf [0] st.nx) [U16 D'] 0, nx := st.nx + 0, mv := st.mv }) : CallVC P np n f args d K st := by
  refine callS [0] [] hT (by simp) h2 ha hp ?_
  rintro r' post ⟨rfl, rfl⟩
  simpa only [movd_nil, List.filter_nil, List.nil_append, List.length_cons, List.length_nil, Nat.sub_self] using hK
theorem sift_size (hi first root : Nat) (d : Array Int) : (Sort.siftDown Sort.ltInt hi first root d).size = d.size := by
  fun_induction Sort.siftDown Sort.ltInt hi first root d <;> simp_all [Sort.size_swp]
theorem t_heap16 (d : Array Int) (a b : Nat) (hab : a ≤ b) (hb : b ≤ d.size) (hs : d.size ≤ 1048576) :
    TriF Pr 97 [.h 0, .v (.int .i64 a), .v (.int .i64 b)] [U16 d] [] (.tup []) [U16 (Sort.heapSort Sort.ltInt d a b)] := by
  refine tri_fn Try.f97 [] [] [] 1000 (by kernel_rfl) (by kernel_rfl) (by kernel_rfl) (by kernel_rfl) (by kernel_rfl) (by kernel_rfl) (Nat.le_of_ble_eq_true rfl) ?_
  have hhi : (b : Int) - (a : Int) = ((b - a : Nat) : Int) := by omega
  obtain ⟨hi, hhi2⟩ : ∃ hi, hi = b - a := ⟨_, rfl⟩
  rw [← hhi2] at hhi
  have hq : IntKind.i64.wrap (((hi : Int) - 1).tdiv 2) = (((hi - 1) / 2 + 1 : Nat) : Int) - 1 := by
    have h1 : ((hi : Int) - 1).tdiv 2 = (((hi - 1) / 2 : Nat) : Int) := by
      rcases Nat.eq_zero_or_pos hi with h | h
      · subst h; rfl
      · rw [Int.tdiv_eq_ediv_of_nonneg (by omega)]; omega
    rw [h1, wrap_in ⟨by omega, by omega⟩]; omega
  simp -implicitDefEqProofs only [go_sem, Try.f97, hhi, hq]
  refine ⟨⟨by omega, by omega⟩, ⟨by omega, by omega⟩, ?_⟩
  refine loopR (ι := Nat × Array Int) (fun p => p.1 ≤ (hi - 1) / 2 + 1 ∧ p.2.size = d.size ∧ Sort.heapBuild Sort.ltInt hi a p.1 p.2 = Sort.heapBuild Sort.ltInt hi a ((hi - 1) / 2 + 1) d) [0, 6, 7, 8] (fun p => [(9, .v (.int .i64 ((p.1 : Int) - 1)))]) (fun p => [(0, U16 p.2)]) [] (fun p => p.1) ((hi - 1) / 2 + 1, d) ⟨Nat.le_refl _, rfl, rfl⟩ ⟨rfl, trivial⟩ ⟨rfl, trivial⟩ (fun _ h => h) (fun i => rfl) (fun i => rfl) ?_
  rintro ⟨k, dk⟩ ⟨h1, h2, h3⟩ E hE
  simp only at h1 h2 h3
  cases k with
  | succ k =>
    have hk : ((k + 1 : Nat) : Int) - 1 = (k : Int) := by omega
    have hge : (0 : Int) ≤ (k : Int) := by omega
    simp -implicitDefEqProofs only [go_sem, hk, hge]
    refine callU (t_sift16 dk k hi a (by omega) (by omega) (by omega)) (by simp -implicitDefEqProofs only [go_sem]; simp) (fun ρ => rfl) (fun ρ => rfl) ?_
    simp -implicitDefEqProofs only [go_sem]
    exact ⟨⟨by omega, by omega⟩, hE _ (k, Sort.siftDown Sort.ltInt hi a k dk) ⟨by simp only; omega, by rw [sift_size]; exact h2, h3⟩ (by show k < k + 1; omega) ⟨rfl, rfl, rfl, rfl, rfl, trivial⟩ ⟨rfl, trivial⟩ (fun _ h => h)⟩
  | zero =>
    have hge : ¬ (0 : Int) ≤ ((0 : Nat) : Int) - 1 := by omega
    have h4 : dk = Sort.heapBuild Sort.ltInt hi a ((hi - 1) / 2 + 1) d := h3
    simp -implicitDefEqProofs only [go_sem, hge]
    refine ⟨⟨by omega, by omega⟩, ?_⟩
    refine loopR (ι := Nat × Array Int) (fun p => p.1 ≤ hi ∧ p.2.size = d.size ∧ Sort.heapPop Sort.ltInt a p.1 p.2 = Sort.heapPop Sort.ltInt a hi dk) [0, 6, 7] (fun p => [(10, .v (.int .i64 ((p.1 : Int) - 1)))]) (fun p => [(0, U16 p.2)]) [] (fun p => p.1) (hi, dk) ⟨Nat.le_refl _, h2, rfl⟩ ⟨rfl, trivial⟩ ⟨rfl, trivial⟩ (fun _ h => h) (fun i => rfl) (fun i => rfl) ?_
    rintro ⟨k, dj⟩ ⟨k1, k2, k3⟩ E2 hE2
    simp only at k1 k2 k3
    have hl : dj.toList.length = dj.size := Array.length_toList
    cases k with
    | succ k =>
      have hk : ((k + 1 : Nat) : Int) - 1 = (k : Int) := by omega
      have hge : (0 : Int) ≤ (k : Int) := by omega
      have hak : (a : Int) + (k : Int) = ((a + k : Nat) : Int) := by omega
      have hl2 : ∀ y, (dj.toList.set a y).length = dj.size := fun y => by rw [List.length_set, hl]
      simp -implicitDefEqProofs only [go_sem, hk, hge, hak, encAt_some (ag16 (d := dj) (i := a) (by omega)), encAt_some (ag16 (d := dj) (i := a + k) (by omega)), eI16]
      refine ⟨⟨by omega, by omega⟩, ⟨by omega, by omega⟩, ⟨by omega, by omega⟩, ⟨by omega, by omega⟩, ⟨by omega, by omega⟩, dj[a + k]!, ⟨by omega, rfl⟩, ⟨by omega, by rw [hl2]; omega⟩, dj[a]!, ⟨by rw [hl2]; omega, row16 (by rw [hl2]; omega)⟩, ?_⟩
      rw [aswp]
      refine callU (t_sift16 (Sort.swp dj a (a + k)) 0 k a (by rw [Sort.size_swp]; omega) (by omega) (by rw [Sort.size_swp]; omega)) (by simp -implicitDefEqProofs only [go_sem]; simp) (fun ρ => rfl) (fun ρ => rfl) ?_
      simp -implicitDefEqProofs only [go_sem]
      exact ⟨⟨by omega, by omega⟩, hE2 _ (k, Sort.siftDown Sort.ltInt k a 0 (Sort.swp dj a (a + k))) ⟨by simp only; omega, by rw [sift_size, Sort.size_swp]; exact k2, k3⟩ (by show k < k + 1; omega) ⟨rfl, rfl, rfl, rfl, trivial⟩ ⟨rfl, trivial⟩ (fun _ h => h)⟩
    | zero =>
      have hge : ¬ (0 : Int) ≤ ((0 : Nat) : Int) - 1 := by omega
      simp -implicitDefEqProofs only [go_sem, hge]
      have : Sort.heapSort Sort.ltInt d a b = dj := by
        unfold Sort.heapSort
        rw [← hhi2, ← h4, ← k3]; rfl
      rw [this]
      exact retS [0] (.tup []) [U16 dj] (by simp -implicitDefEqProofs only [go_sem])
theorem t_part16 (d : Array Int) (a b p : Nat) (hap : a ≤ p) (hpb : p < b) (hb : b ≤ d.size) (hs : d.size ≤ 1048576) :
    TriF Pr 104 [.h 0, .v (.int .i64 a), .v (.int .i64 b), .v (.int .i64 p)] [U16 d] [] (.tup [.v (.int .i64 (Sort.partition Sort.ltInt d a b p).1), .v (.bool (Sort.partition Sort.ltInt d a b p).2.1)]) [U16 (Sort.partition Sort.ltInt d a b p).2.2] := by
  refine tri_fn Try.f104 [] [] [3, 5, 13, 15] 1000 (by kernel_rfl) (by kernel_rfl) (by kernel_rfl) (by kernel_rfl) (by kernel_rfl) (by kernel_rfl) (Nat.le_of_ble_eq_true rfl) ?_
  have hb1 : ((b : Int) - 1) = ((b - 1 : Nat) : Int) := by omega
  have hl : d.toList.length = d.size := Array.length_toList
  simp -implicitDefEqProofs only [go_sem, Try.f104, hb1, encAt_some (ag16 (d := d) (i := a) (by omega)), encAt_some (ag16 (d := d) (i := p) (by omega)), eI16]
  refine ⟨⟨by omega, by omega⟩, ⟨by omega, by omega⟩, ⟨by omega, by omega⟩, d[p]!, ⟨by omega, rfl⟩, ⟨by omega, by rw [List.length_set]; omega⟩, d[a]!, ⟨by rw [List.length_set]; omega, row16 (by rw [List.length_set]; omega)⟩, ⟨by omega, by omega⟩, ⟨by omega, by omega⟩, ?_⟩
  rw [aswp]
  have hPdef : Sort.partition Sort.ltInt d a b p = (if Sort.scanUp (fun x => Sort.ltInt x (Sort.swp d a p)[a]!) (Sort.swp d a p) (b - 1) (a + 1) > Sort.scanDown (fun x => !Sort.ltInt x (Sort.swp d a p)[a]!) (Sort.swp d a p) (Sort.scanUp (fun x => Sort.ltInt x (Sort.swp d a p)[a]!) (Sort.swp d a p) (b - 1) (a + 1)) (b - 1) then (Sort.scanDown (fun x => !Sort.ltInt x (Sort.swp d a p)[a]!) (Sort.swp d a p) (Sort.scanUp (fun x => Sort.ltInt x (Sort.swp d a p)[a]!) (Sort.swp d a p) (b - 1) (a + 1)) (b - 1), true, Sort.swp (Sort.swp d a p) (Sort.scanDown (fun x => !Sort.ltInt x (Sort.swp d a p)[a]!) (Sort.swp d a p) (Sort.scanUp (fun x => Sort.ltInt x (Sort.swp d a p)[a]!) (Sort.swp d a p) (b - 1) (a + 1)) (b - 1)) a)
      else let r := Sort.partLoop Sort.ltInt a (Sort.scanUp (fun x => Sort.ltInt x (Sort.swp d a p)[a]!) (Sort.swp d a p) (b - 1) (a + 1) + 1) (Sort.scanDown (fun x => !Sort.ltInt x (Sort.swp d a p)[a]!) (Sort.swp d a p) (Sort.scanUp (fun x => Sort.ltInt x (Sort.swp d a p)[a]!) (Sort.swp d a p) (b - 1) (a + 1)) (b - 1) - 1) (Sort.swp (Sort.swp d a p) (Sort.scanUp (fun x => Sort.ltInt x (Sort.swp d a p)[a]!) (Sort.swp d a p) (b - 1) (a + 1)) (Sort.scanDown (fun x => !Sort.ltInt x (Sort.swp d a p)[a]!) (Sort.swp d a p) (Sort.scanUp (fun x => Sort.ltInt x (Sort.swp d a p)[a]!) (Sort.swp d a p) (b - 1) (a + 1)) (b - 1))); (r.1, false, Sort.swp r.2 r.1 a)) := rfl
  obtain ⟨d1, hd1⟩ : ∃ d1, d1 = Sort.swp d a p := ⟨_, rfl⟩
  have hs1 : d1.size = d.size := by rw [hd1, Sort.size_swp]
  rw [← hd1] at hPdef
  rw [← hd1]
  have hl1 : d1.toList.length = d1.size := Array.length_toList
  obtain ⟨bb, hbb⟩ : ∃ bb, bb = b - 1 := ⟨_, rfl⟩
  rw [← hbb] at hPdef hb1
  simp -implicitDefEqProofs only [← hbb]
  refine loop0 (fun u => (a + 1) ≤ u ∧ u ≤ bb + 1 ∧ Sort.scanUp (fun x => Sort.ltInt x d1[a]!) d1 bb u = Sort.scanUp (fun x => Sort.ltInt x d1[a]!) d1 bb (a + 1)) [11, 0, 1, 2, 3] (fun u => [(10, .v (.int .i64 u))]) (fun u => bb + 1 - u) (a + 1) ⟨Nat.le_refl _, by omega, rfl⟩ ⟨by simp [lk], trivial⟩ (fun u => rfl) rfl ?_
  rintro u ⟨u1, u2, u3⟩ Eu hEu
  simp -implicitDefEqProofs only [go_sem]
  refine ⟨Bool, fun z => z = (decide (u ≤ bb) && (fun x => Sort.ltInt x d1[a]!) d1[u]!), fun z => ⟨[(43, .v (.bool z)), (10, .v (.int .i64 u)), (11, .v (.int .i64 bb)), (0, .h 0), (1, .v (.int .i64 a)), (2, .v (.int .i64 b)), (3, .v (.int .i64 p))], [(0, U16 d1)], 1, []⟩, ?_, fun z hzu => ?_⟩
  · by_cases hltu : ((u : Nat) : Int) ≤ ((bb : Nat) : Int)
    · simp -implicitDefEqProofs only [go_sem, hltu, encAt_some (ag16 (d := d1) (i := u) (by omega)), encAt_some (ag16 (d := d1) (i := a) (by omega)), eI16]
      refine ⟨⟨by omega, by omega⟩, ⟨by omega, by omega⟩, call0 (t_less16 _ _) rfl rfl ?_⟩
      by_cases hcu : d1[u]! < d1[a]!
      · simp -implicitDefEqProofs only [go_sem, hcu]
        exact ⟨true, by simp [Sort.ltInt, hcu]; omega, ⟨rfl, rfl, rfl, rfl, rfl, rfl, rfl, trivial⟩, ⟨rfl, trivial⟩, rfl, fun _ h => h⟩
      · simp -implicitDefEqProofs only [go_sem, hcu]
        exact ⟨false, by simp [Sort.ltInt]; omega, ⟨rfl, rfl, rfl, rfl, rfl, rfl, rfl, trivial⟩, ⟨rfl, trivial⟩, rfl, fun _ h => h⟩
    · simp -implicitDefEqProofs only [go_sem, hltu]
      exact ⟨false, by simp; omega, ⟨rfl, rfl, rfl, rfl, rfl, rfl, rfl, trivial⟩, ⟨rfl, trivial⟩, rfl, fun _ h => h⟩
  cases z with
  | true =>
    have hz2u := hzu.symm
    rw [Bool.and_eq_true, decide_eq_true_eq] at hz2u
    simp -implicitDefEqProofs only [go_sem]
    have hs1u : Sort.scanUp (fun x => Sort.ltInt x d1[a]!) d1 bb (u + 1) = Sort.scanUp (fun x => Sort.ltInt x d1[a]!) d1 bb (a + 1) := by rw [← u3, Sort.scanUp.eq_def _ _ _ u, if_pos hzu.symm]
    exact ⟨⟨by omega, by omega⟩, hEu _ (u + 1) ⟨by omega, by omega, hs1u⟩ (by omega) ⟨rfl, rfl, rfl, rfl, rfl, rfl, trivial⟩ ⟨rfl, trivial⟩ (fun _ h => h)⟩
  | false =>
    simp -implicitDefEqProofs only [go_sem]
    have hz3u : ¬ ((decide (u ≤ bb) && (fun x => Sort.ltInt x d1[a]!) d1[u]!) = true) := by rw [← hzu]; decide
    have heu : Sort.scanUp (fun x => Sort.ltInt x d1[a]!) d1 bb (a + 1) = u := by rw [← u3, Sort.scanUp, if_neg hz3u]
    refine loop0 (fun w => u ≤ w + 1 ∧ w ≤ bb ∧ Sort.scanDown (fun x => !Sort.ltInt x d1[a]!) d1 u w = Sort.scanDown (fun x => !Sort.ltInt x d1[a]!) d1 u bb) [10, 0, 1, 2, 3] (fun w => [(11, .v (.int .i64 w))]) (fun w => w) bb ⟨by omega, Nat.le_refl _, rfl⟩ ⟨by simp [lk], trivial⟩ (fun w => rfl) rfl ?_
    rintro w ⟨w1, w2, w3⟩ Ew hEw
    simp -implicitDefEqProofs only [go_sem]
    refine ⟨Bool, fun z => z = (decide (u ≤ w) && (fun x => !Sort.ltInt x d1[a]!) d1[w]!), fun z => ⟨[(60, .v (.bool z)), (11, .v (.int .i64 w)), (10, .v (.int .i64 u)), (0, .h 0), (1, .v (.int .i64 a)), (2, .v (.int .i64 b)), (3, .v (.int .i64 p))], [(0, U16 d1)], 1, []⟩, ?_, fun z hzw => ?_⟩
    · by_cases hltw : ((u : Nat) : Int) ≤ ((w : Nat) : Int)
      · simp -implicitDefEqProofs only [go_sem, hltw, encAt_some (ag16 (d := d1) (i := w) (by omega)), encAt_some (ag16 (d := d1) (i := a) (by omega)), eI16]
        refine ⟨⟨by omega, by omega⟩, ⟨by omega, by omega⟩, call0 (t_less16 _ _) rfl rfl ?_⟩
        by_cases hcw : d1[w]! < d1[a]!
        · simp -implicitDefEqProofs only [go_sem, hcw]
          exact ⟨false, by simp [Sort.ltInt, hcw], ⟨rfl, rfl, rfl, rfl, rfl, rfl, rfl, trivial⟩, ⟨rfl, trivial⟩, rfl, fun _ h => h⟩
        · simp -implicitDefEqProofs only [go_sem, hcw]
          exact ⟨true, by simp [Sort.ltInt]; omega, ⟨rfl, rfl, rfl, rfl, rfl, rfl, rfl, trivial⟩, ⟨rfl, trivial⟩, rfl, fun _ h => h⟩
      · simp -implicitDefEqProofs only [go_sem, hltw]
        exact ⟨false, by simp; omega, ⟨rfl, rfl, rfl, rfl, rfl, rfl, rfl, trivial⟩, ⟨rfl, trivial⟩, rfl, fun _ h => h⟩
    cases z with
    | true =>
      have hz2w := hzw.symm
      rw [Bool.and_eq_true, decide_eq_true_eq] at hz2w
      simp -implicitDefEqProofs only [go_sem]
      obtain ⟨m, rfl⟩ : ∃ m, w = m + 1 := ⟨w - 1, by omega⟩
      have hm : ((m + 1 : Nat) : Int) - 1 = (m : Int) := by omega
      have hs1w : Sort.scanDown (fun x => !Sort.ltInt x d1[a]!) d1 u m = Sort.scanDown (fun x => !Sort.ltInt x d1[a]!) d1 u bb := by rw [← w3, Sort.scanDown.eq_def _ _ _ (m + 1)]; simp only; rw [if_pos hzw.symm]
      simp -implicitDefEqProofs only [hm]
      exact ⟨⟨by omega, by omega⟩, hEw _ m ⟨by omega, by omega, hs1w⟩ (by omega) ⟨rfl, rfl, rfl, rfl, rfl, rfl, trivial⟩ ⟨rfl, trivial⟩ (fun _ h => h)⟩
    | false =>
      simp -implicitDefEqProofs only [go_sem]
      have hz3w : ¬ ((decide (u ≤ w) && (fun x => !Sort.ltInt x d1[a]!) d1[w]!) = true) := by rw [← hzw]; decide
      have hew : Sort.scanDown (fun x => !Sort.ltInt x d1[a]!) d1 u bb = w := by rw [← w3]; cases w with | zero => rfl | succ m => rw [Sort.scanDown, if_neg hz3w]
      by_cases hgt : ((w : Nat) : Int) < ((u : Nat) : Int)
      · simp -implicitDefEqProofs only [go_sem, hgt, encAt_some (ag16 (d := d1) (i := a) (by omega)), encAt_some (ag16 (d := d1) (i := w) (by omega)), eI16]
        refine ⟨⟨by omega, by omega⟩, ⟨by omega, by omega⟩, ⟨by omega, by omega⟩, d1[a]!, ⟨by omega, rfl⟩, ⟨by omega, by rw [List.length_set]; omega⟩, d1[w]!, ⟨by rw [List.length_set]; omega, row16 (by rw [List.length_set]; omega)⟩, ?_⟩
        rw [aswp]
        rw [heu, hew, if_pos (by omega)] at hPdef
        rw [hPdef]
        exact retS [0] (.tup [.v (.int .i64 w), .v (.bool true)]) [U16 (Sort.swp d1 w a)] (by simp -implicitDefEqProofs only [go_sem])
      · have hne : u ≠ w := by rintro rfl; simp [Sort.ltInt] at hz3u hz3w; omega
        have hm1 : ((w : Nat) : Int) - 1 = ((w - 1 : Nat) : Int) := by omega
        have hP3 := hPdef
        rw [heu, hew, if_neg (by omega)] at hP3
        simp -implicitDefEqProofs only [go_sem, hgt, hm1, encAt_some (ag16 (d := d1) (i := u) (by omega)), encAt_some (ag16 (d := d1) (i := w) (by omega)), eI16]
        refine ⟨⟨by omega, by omega⟩, ⟨by omega, by omega⟩, ⟨by omega, by omega⟩, d1[w]!, ⟨by omega, rfl⟩, ⟨by omega, by rw [List.length_set]; omega⟩, d1[u]!, ⟨by rw [List.length_set]; omega, row16 (by rw [List.length_set]; omega)⟩, ⟨by omega, by omega⟩, ⟨by omega, by omega⟩, ?_⟩
        rw [aswp]
        refine loopR (ι := Nat × Nat × Array Int) (fun q => a + 1 ≤ q.1 ∧ q.1 ≤ q.2.1 + 1 ∧ q.2.1 < b ∧ q.2.2.size = d.size ∧ Sort.partLoop Sort.ltInt a q.1 q.2.1 q.2.2 = Sort.partLoop Sort.ltInt a (u + 1) (w - 1) (Sort.swp d1 u w)) [0, 1, 2, 3] (fun q => [(10, .v (.int .i64 q.1)), (11, .v (.int .i64 q.2.1))]) (fun q => [(0, U16 q.2.2)]) [] (fun q => q.2.1 + 1 - q.1) (u + 1, w - 1, Sort.swp d1 u w) ⟨by simp only; omega, by simp only; omega, by simp only; omega, by rw [Sort.size_swp]; exact hs1, rfl⟩ ⟨by simp [lk], by simp [lk], trivial⟩ ⟨rfl, trivial⟩ (fun _ h => h) (fun i => rfl) (fun i => rfl) ?_
        rintro ⟨i, j, dk⟩ ⟨h1, h2, h3, h4, h5⟩ E hE
        simp only at h1 h2 h3 h4 h5
        have hl2 : dk.toList.length = dk.size := Array.length_toList
        simp -implicitDefEqProofs only [go_sem]
        refine loop0 (fun u2 => i ≤ u2 ∧ u2 ≤ j + 1 ∧ Sort.scanUp (fun x => Sort.ltInt x dk[a]!) dk j u2 = Sort.scanUp (fun x => Sort.ltInt x dk[a]!) dk j i) [11, 0, 1, 2, 3] (fun u2 => [(10, .v (.int .i64 u2))]) (fun u2 => j + 1 - u2) i ⟨Nat.le_refl _, by omega, rfl⟩ ⟨by simp [lk], trivial⟩ (fun u2 => rfl) rfl ?_
        rintro u2 ⟨u21, u22, u23⟩ Eu2 hEu2
        simp -implicitDefEqProofs only [go_sem]
        refine ⟨Bool, fun z => z = (decide (u2 ≤ j) && (fun x => Sort.ltInt x dk[a]!) dk[u2]!), fun z => ⟨[(112, .v (.bool z)), (10, .v (.int .i64 u2)), (11, .v (.int .i64 j)), (0, .h 0), (1, .v (.int .i64 a)), (2, .v (.int .i64 b)), (3, .v (.int .i64 p))], [(0, U16 dk)], 1, []⟩, ?_, fun z hzu2 => ?_⟩
        · by_cases hltu2 : ((u2 : Nat) : Int) ≤ ((j : Nat) : Int)
          · simp -implicitDefEqProofs only [go_sem, hltu2, encAt_some (ag16 (d := dk) (i := u2) (by omega)), encAt_some (ag16 (d := dk) (i := a) (by omega)), eI16]
            refine ⟨⟨by omega, by omega⟩, ⟨by omega, by omega⟩, call0 (t_less16 _ _) rfl rfl ?_⟩
            by_cases hcu2 : dk[u2]! < dk[a]!
            · simp -implicitDefEqProofs only [go_sem, hcu2]
              exact ⟨true, by simp [Sort.ltInt, hcu2]; omega, ⟨rfl, rfl, rfl, rfl, rfl, rfl, rfl, trivial⟩, ⟨rfl, trivial⟩, rfl, fun _ h => h⟩
            · simp -implicitDefEqProofs only [go_sem, hcu2]
              exact ⟨false, by simp [Sort.ltInt]; omega, ⟨rfl, rfl, rfl, rfl, rfl, rfl, rfl, trivial⟩, ⟨rfl, trivial⟩, rfl, fun _ h => h⟩
          · simp -implicitDefEqProofs only [go_sem, hltu2]
            exact ⟨false, by simp; omega, ⟨rfl, rfl, rfl, rfl, rfl, rfl, rfl, trivial⟩, ⟨rfl, trivial⟩, rfl, fun _ h => h⟩
        cases z with
        | true =>
          have hz2u2 := hzu2.symm
          rw [Bool.and_eq_true, decide_eq_true_eq] at hz2u2
          simp -implicitDefEqProofs only [go_sem]
          have hs1u2 : Sort.scanUp (fun x => Sort.ltInt x dk[a]!) dk j (u2 + 1) = Sort.scanUp (fun x => Sort.ltInt x dk[a]!) dk j i := by rw [← u23, Sort.scanUp.eq_def _ _ _ u2, if_pos hzu2.symm]
          exact ⟨⟨by omega, by omega⟩, hEu2 _ (u2 + 1) ⟨by omega, by omega, hs1u2⟩ (by omega) ⟨rfl, rfl, rfl, rfl, rfl, rfl, trivial⟩ ⟨rfl, trivial⟩ (fun _ h => h)⟩
        | false =>
          simp -implicitDefEqProofs only [go_sem]
          have hz3u2 : ¬ ((decide (u2 ≤ j) && (fun x => Sort.ltInt x dk[a]!) dk[u2]!) = true) := by rw [← hzu2]; decide
          have heu2 : Sort.scanUp (fun x => Sort.ltInt x dk[a]!) dk j i = u2 := by rw [← u23, Sort.scanUp, if_neg hz3u2]
          refine loop0 (fun w2 => u2 ≤ w2 + 1 ∧ w2 ≤ j ∧ Sort.scanDown (fun x => !Sort.ltInt x dk[a]!) dk u2 w2 = Sort.scanDown (fun x => !Sort.ltInt x dk[a]!) dk u2 j) [10, 0, 1, 2, 3] (fun w2 => [(11, .v (.int .i64 w2))]) (fun w2 => w2) j ⟨by omega, Nat.le_refl _, rfl⟩ ⟨by simp [lk], trivial⟩ (fun w2 => rfl) rfl ?_
          rintro w2 ⟨w21, w22, w23⟩ Ew2 hEw2
          simp -implicitDefEqProofs only [go_sem]
          refine ⟨Bool, fun z => z = (decide (u2 ≤ w2) && (fun x => !Sort.ltInt x dk[a]!) dk[w2]!), fun z => ⟨[(129, .v (.bool z)), (11, .v (.int .i64 w2)), (10, .v (.int .i64 u2)), (0, .h 0), (1, .v (.int .i64 a)), (2, .v (.int .i64 b)), (3, .v (.int .i64 p))], [(0, U16 dk)], 1, []⟩, ?_, fun z hzw2 => ?_⟩
          · by_cases hltw2 : ((u2 : Nat) : Int) ≤ ((w2 : Nat) : Int)
            · simp -implicitDefEqProofs only [go_sem, hltw2, encAt_some (ag16 (d := dk) (i := w2) (by omega)), encAt_some (ag16 (d := dk) (i := a) (by omega)), eI16]
              refine ⟨⟨by omega, by omega⟩, ⟨by omega, by omega⟩, call0 (t_less16 _ _) rfl rfl ?_⟩
              by_cases hcw2 : dk[w2]! < dk[a]!
              · simp -implicitDefEqProofs only [go_sem, hcw2]
                exact ⟨false, by simp [Sort.ltInt, hcw2], ⟨rfl, rfl, rfl, rfl, rfl, rfl, rfl, trivial⟩, ⟨rfl, trivial⟩, rfl, fun _ h => h⟩
              · simp -implicitDefEqProofs only [go_sem, hcw2]
                exact ⟨true, by simp [Sort.ltInt]; omega, ⟨rfl, rfl, rfl, rfl, rfl, rfl, rfl, trivial⟩, ⟨rfl, trivial⟩, rfl, fun _ h => h⟩
            · simp -implicitDefEqProofs only [go_sem, hltw2]
              exact ⟨false, by simp; omega, ⟨rfl, rfl, rfl, rfl, rfl, rfl, rfl, trivial⟩, ⟨rfl, trivial⟩, rfl, fun _ h => h⟩
          cases z with
          | true =>
            have hz2w2 := hzw2.symm
            rw [Bool.and_eq_true, decide_eq_true_eq] at hz2w2
            simp -implicitDefEqProofs only [go_sem]
            obtain ⟨m, rfl⟩ : ∃ m, w2 = m + 1 := ⟨w2 - 1, by omega⟩
            have hm : ((m + 1 : Nat) : Int) - 1 = (m : Int) := by omega
            have hs1w2 : Sort.scanDown (fun x => !Sort.ltInt x dk[a]!) dk u2 m = Sort.scanDown (fun x => !Sort.ltInt x dk[a]!) dk u2 j := by rw [← w23, Sort.scanDown.eq_def _ _ _ (m + 1)]; simp only; rw [if_pos hzw2.symm]
            simp -implicitDefEqProofs only [hm]
            exact ⟨⟨by omega, by omega⟩, hEw2 _ m ⟨by omega, by omega, hs1w2⟩ (by omega) ⟨rfl, rfl, rfl, rfl, rfl, rfl, trivial⟩ ⟨rfl, trivial⟩ (fun _ h => h)⟩
          | false =>
            simp -implicitDefEqProofs only [go_sem]
            have hz3w2 : ¬ ((decide (u2 ≤ w2) && (fun x => !Sort.ltInt x dk[a]!) dk[w2]!) = true) := by rw [← hzw2]; decide
            have hew2 : Sort.scanDown (fun x => !Sort.ltInt x dk[a]!) dk u2 j = w2 := by rw [← w23]; cases w2 with | zero => rfl | succ m => rw [Sort.scanDown, if_neg hz3w2]
            by_cases hgt : ((w2 : Nat) : Int) < ((u2 : Nat) : Int)
            · simp -implicitDefEqProofs only [go_sem, hgt, encAt_some (ag16 (d := dk) (i := a) (by omega)), encAt_some (ag16 (d := dk) (i := w2) (by omega)), eI16]
              refine ⟨⟨by omega, by omega⟩, ⟨by omega, by omega⟩, ⟨by omega, by omega⟩, dk[a]!, ⟨by omega, rfl⟩, ⟨by omega, by rw [List.length_set]; omega⟩, dk[w2]!, ⟨by rw [List.length_set]; omega, row16 (by rw [List.length_set]; omega)⟩, ?_⟩
              rw [aswp]
              have e1 : Sort.partLoop Sort.ltInt a (u + 1) (w - 1) (Sort.swp d1 u w) = (w2, dk) := by rw [← h5, Sort.partLoop_eq, heu2, hew2, if_pos (by omega)]
              rw [e1] at hP3
              have e2 : Sort.partition Sort.ltInt d a b p = (w2, false, Sort.swp dk w2 a) := hP3
              rw [e2]
              exact retS [0] (.tup [.v (.int .i64 w2), .v (.bool false)]) [U16 (Sort.swp dk w2 a)] (by simp -implicitDefEqProofs only [go_sem])
            · have hne : u2 ≠ w2 := by rintro rfl; simp [Sort.ltInt] at hz3u2 hz3w2; omega
              have hm2 : ((w2 : Nat) : Int) - 1 = ((w2 - 1 : Nat) : Int) := by omega
              simp -implicitDefEqProofs only [go_sem, hgt, hm2, encAt_some (ag16 (d := dk) (i := u2) (by omega)), encAt_some (ag16 (d := dk) (i := w2) (by omega)), eI16]
              refine ⟨⟨by omega, by omega⟩, ⟨by omega, by omega⟩, ⟨by omega, by omega⟩, dk[w2]!, ⟨by omega, rfl⟩, ⟨by omega, by rw [List.length_set]; omega⟩, dk[u2]!, ⟨by rw [List.length_set]; omega, row16 (by rw [List.length_set]; omega)⟩, ⟨by omega, by omega⟩, ⟨by omega, by omega⟩, ?_⟩
              have e1 : Sort.partLoop Sort.ltInt a (u2 + 1) (w2 - 1) (Sort.swp dk u2 w2) = Sort.partLoop Sort.ltInt a (u + 1) (w - 1) (Sort.swp d1 u w) := by rw [← h5, Sort.partLoop_eq _ _ i, heu2, hew2, if_neg (by omega)]
              exact hE _ (u2 + 1, w2 - 1, Sort.swp dk u2 w2) ⟨by simp only; omega, by simp only; omega, by simp only; omega, by rw [Sort.size_swp]; exact h4, e1⟩ (by show w2 - 1 + 1 - (u2 + 1) < j + 1 - i; omega) ⟨rfl, rfl, rfl, rfl, rfl, rfl, trivial⟩ ⟨by rw [aswp]; rfl, trivial⟩ (fun _ h => h)
theorem t_parteq16 (d : Array Int) (a b p : Nat) (hap : a ≤ p) (hpb : p < b) (hb : b ≤ d.size) (hs : d.size ≤ 1048576) :
    TriF Pr 103 [.h 0, .v (.int .i64 a), .v (.int .i64 b), .v (.int .i64 p)] [U16 d] [] (.v (.int .i64 (Sort.partitionEqual Sort.ltInt d a b p).1)) [U16 (Sort.partitionEqual Sort.ltInt d a b p).2] := by
  refine tri_fn Try.f103 [] [] [3, 5] 1000 (by kernel_rfl) (by kernel_rfl) (by kernel_rfl) (by kernel_rfl) (by kernel_rfl) (by kernel_rfl) (Nat.le_of_ble_eq_true rfl) ?_
  have hb1 : ((b : Int) - 1) = ((b - 1 : Nat) : Int) := by omega
  have hl : d.toList.length = d.size := Array.length_toList
  simp -implicitDefEqProofs only [go_sem, Try.f103, hb1, encAt_some (ag16 (d := d) (i := a) (by omega)), encAt_some (ag16 (d := d) (i := p) (by omega)), eI16]
  refine ⟨⟨by omega, by omega⟩, ⟨by omega, by omega⟩, ⟨by omega, by omega⟩, d[p]!, ⟨by omega, rfl⟩, ⟨by omega, by rw [List.length_set]; omega⟩, d[a]!, ⟨by rw [List.length_set]; omega, row16 (by rw [List.length_set]; omega)⟩, ⟨by omega, by omega⟩, ⟨by omega, by omega⟩, ?_⟩
  rw [aswp]
  refine loopR (ι := Nat × Nat × Array Int) (fun q => a + 1 ≤ q.1 ∧ q.1 ≤ q.2.1 + 1 ∧ q.2.1 < b ∧ q.2.2.size = d.size ∧ Sort.partEqLoop Sort.ltInt a q.1 q.2.1 q.2.2 = Sort.partitionEqual Sort.ltInt d a b p) [0, 1, 2, 3] (fun q => [(9, .v (.int .i64 q.1)), (10, .v (.int .i64 q.2.1))]) (fun q => [(0, U16 q.2.2)]) [] (fun q => q.2.1 + 1 - q.1) (a + 1, b - 1, Sort.swp d a p) ⟨by simp only; omega, by simp only; omega, by simp only; omega, by rw [Sort.size_swp], rfl⟩ ⟨by simp [lk], by simp [lk], trivial⟩ ⟨rfl, trivial⟩ (fun _ h => h) (fun i => rfl) (fun i => rfl) ?_
  rintro ⟨i, j, dk⟩ ⟨h1, h2, h3, h4, h5⟩ E hE
  simp only at h1 h2 h3 h4 h5
  have hl2 : dk.toList.length = dk.size := Array.length_toList
  simp -implicitDefEqProofs only [go_sem]
  refine loop0 (fun u => i ≤ u ∧ u ≤ j + 1 ∧ Sort.scanUp (fun x => !Sort.ltInt dk[a]! x) dk j u = Sort.scanUp (fun x => !Sort.ltInt dk[a]! x) dk j i) [10, 0, 1, 2, 3] (fun u => [(9, .v (.int .i64 u))]) (fun u => j + 1 - u) i ⟨Nat.le_refl _, by omega, rfl⟩ ⟨by simp [lk], trivial⟩ (fun u => rfl) rfl ?_
  rintro u ⟨u1, u2, u3⟩ Eu hEu
  simp -implicitDefEqProofs only [go_sem]
  refine ⟨Bool, fun z => z = (decide (u ≤ j) && (fun x => !Sort.ltInt dk[a]! x) dk[u]!), fun z => ⟨[(43, .v (.bool z)), (9, .v (.int .i64 u)), (10, .v (.int .i64 j)), (0, .h 0), (1, .v (.int .i64 a)), (2, .v (.int .i64 b)), (3, .v (.int .i64 p))], [(0, U16 dk)], 1, []⟩, ?_, fun z hzu => ?_⟩
  · by_cases hltu : ((u : Nat) : Int) ≤ ((j : Nat) : Int)
    · simp -implicitDefEqProofs only [go_sem, hltu, encAt_some (ag16 (d := dk) (i := u) (by omega)), encAt_some (ag16 (d := dk) (i := a) (by omega)), eI16]
      refine ⟨⟨by omega, by omega⟩, ⟨by omega, by omega⟩, call0 (t_less16 _ _) rfl rfl ?_⟩
      by_cases hcu : dk[a]! < dk[u]!
      · simp -implicitDefEqProofs only [go_sem, hcu]
        exact ⟨false, by simp [Sort.ltInt, hcu], ⟨rfl, rfl, rfl, rfl, rfl, rfl, rfl, trivial⟩, ⟨rfl, trivial⟩, rfl, fun _ h => h⟩
      · simp -implicitDefEqProofs only [go_sem, hcu]
        exact ⟨true, by simp [Sort.ltInt]; omega, ⟨rfl, rfl, rfl, rfl, rfl, rfl, rfl, trivial⟩, ⟨rfl, trivial⟩, rfl, fun _ h => h⟩
    · simp -implicitDefEqProofs only [go_sem, hltu]
      exact ⟨false, by simp; omega, ⟨rfl, rfl, rfl, rfl, rfl, rfl, rfl, trivial⟩, ⟨rfl, trivial⟩, rfl, fun _ h => h⟩
  cases z with
  | true =>
    have hz2u := hzu.symm
    rw [Bool.and_eq_true, decide_eq_true_eq] at hz2u
    simp -implicitDefEqProofs only [go_sem]
    have hs1u : Sort.scanUp (fun x => !Sort.ltInt dk[a]! x) dk j (u + 1) = Sort.scanUp (fun x => !Sort.ltInt dk[a]! x) dk j i := by rw [← u3, Sort.scanUp.eq_def _ _ _ u, if_pos hzu.symm]
    exact ⟨⟨by omega, by omega⟩, hEu _ (u + 1) ⟨by omega, by omega, hs1u⟩ (by omega) ⟨rfl, rfl, rfl, rfl, rfl, rfl, trivial⟩ ⟨rfl, trivial⟩ (fun _ h => h)⟩
  | false =>
    simp -implicitDefEqProofs only [go_sem]
    have hz3u : ¬ ((decide (u ≤ j) && (fun x => !Sort.ltInt dk[a]! x) dk[u]!) = true) := by rw [← hzu]; decide
    have heu : Sort.scanUp (fun x => !Sort.ltInt dk[a]! x) dk j i = u := by rw [← u3, Sort.scanUp, if_neg hz3u]
    refine loop0 (fun w => u ≤ w + 1 ∧ w ≤ j ∧ Sort.scanDown (fun x => Sort.ltInt dk[a]! x) dk u w = Sort.scanDown (fun x => Sort.ltInt dk[a]! x) dk u j) [9, 0, 1, 2, 3] (fun w => [(10, .v (.int .i64 w))]) (fun w => w) j ⟨by omega, Nat.le_refl _, rfl⟩ ⟨by simp [lk], trivial⟩ (fun w => rfl) rfl ?_
    rintro w ⟨w1, w2, w3⟩ Ew hEw
    simp -implicitDefEqProofs only [go_sem]
    refine ⟨Bool, fun z => z = (decide (u ≤ w) && (fun x => Sort.ltInt dk[a]! x) dk[w]!), fun z => ⟨[(59, .v (.bool z)), (10, .v (.int .i64 w)), (9, .v (.int .i64 u)), (0, .h 0), (1, .v (.int .i64 a)), (2, .v (.int .i64 b)), (3, .v (.int .i64 p))], [(0, U16 dk)], 1, []⟩, ?_, fun z hzw => ?_⟩
    · by_cases hltw : ((u : Nat) : Int) ≤ ((w : Nat) : Int)
      · simp -implicitDefEqProofs only [go_sem, hltw, encAt_some (ag16 (d := dk) (i := w) (by omega)), encAt_some (ag16 (d := dk) (i := a) (by omega)), eI16]
        refine ⟨⟨by omega, by omega⟩, ⟨by omega, by omega⟩, call0 (t_less16 _ _) rfl rfl ?_⟩
        by_cases hcw : dk[a]! < dk[w]!
        · simp -implicitDefEqProofs only [go_sem, hcw]
          exact ⟨true, by simp [Sort.ltInt, hcw]; omega, ⟨rfl, rfl, rfl, rfl, rfl, rfl, rfl, trivial⟩, ⟨rfl, trivial⟩, rfl, fun _ h => h⟩
        · simp -implicitDefEqProofs only [go_sem, hcw]
          exact ⟨false, by simp [Sort.ltInt]; omega, ⟨rfl, rfl, rfl, rfl, rfl, rfl, rfl, trivial⟩, ⟨rfl, trivial⟩, rfl, fun _ h => h⟩
      · simp -implicitDefEqProofs only [go_sem, hltw]
        exact ⟨false, by simp; omega, ⟨rfl, rfl, rfl, rfl, rfl, rfl, rfl, trivial⟩, ⟨rfl, trivial⟩, rfl, fun _ h => h⟩
    cases z with
    | true =>
      have hz2w := hzw.symm
      rw [Bool.and_eq_true, decide_eq_true_eq] at hz2w
      simp -implicitDefEqProofs only [go_sem]
      obtain ⟨m, rfl⟩ : ∃ m, w = m + 1 := ⟨w - 1, by omega⟩
      have hm : ((m + 1 : Nat) : Int) - 1 = (m : Int) := by omega
      have hs1w : Sort.scanDown (fun x => Sort.ltInt dk[a]! x) dk u m = Sort.scanDown (fun x => Sort.ltInt dk[a]! x) dk u j := by rw [← w3, Sort.scanDown.eq_def _ _ _ (m + 1)]; simp only; rw [if_pos hzw.symm]
      simp -implicitDefEqProofs only [hm]
      exact ⟨⟨by omega, by omega⟩, hEw _ m ⟨by omega, by omega, hs1w⟩ (by omega) ⟨rfl, rfl, rfl, rfl, rfl, rfl, trivial⟩ ⟨rfl, trivial⟩ (fun _ h => h)⟩
    | false =>
      simp -implicitDefEqProofs only [go_sem]
      have hz3w : ¬ ((decide (u ≤ w) && (fun x => Sort.ltInt dk[a]! x) dk[w]!) = true) := by rw [← hzw]; decide
      have hew : Sort.scanDown (fun x => Sort.ltInt dk[a]! x) dk u j = w := by rw [← w3]; cases w with | zero => rfl | succ m => rw [Sort.scanDown, if_neg hz3w]
      by_cases hgt : ((w : Nat) : Int) < ((u : Nat) : Int)
      · simp -implicitDefEqProofs only [go_sem, hgt]
        have e1 : Sort.partitionEqual Sort.ltInt d a b p = (u, dk) := by rw [← h5, Sort.partEqLoop_eq, heu, hew, if_pos (by omega)]
        rw [e1]
        exact retS [0] (.v (.int .i64 u)) [U16 dk] (by simp -implicitDefEqProofs only [go_sem])
      · have hne : u ≠ w := by rintro rfl; simp [Sort.ltInt] at hz3u hz3w; omega
        have hm2 : ((w : Nat) : Int) - 1 = ((w - 1 : Nat) : Int) := by omega
        simp -implicitDefEqProofs only [go_sem, hgt, hm2, encAt_some (ag16 (d := dk) (i := u) (by omega)), encAt_some (ag16 (d := dk) (i := w) (by omega)), eI16]
        refine ⟨⟨by omega, by omega⟩, ⟨by omega, by omega⟩, ⟨by omega, by omega⟩, dk[w]!, ⟨by omega, rfl⟩, ⟨by omega, by rw [List.length_set]; omega⟩, dk[u]!, ⟨by rw [List.length_set]; omega, row16 (by rw [List.length_set]; omega)⟩, ⟨by omega, by omega⟩, ⟨by omega, by omega⟩, ?_⟩
        have e1 : Sort.partEqLoop Sort.ltInt a (u + 1) (w - 1) (Sort.swp dk u w) = Sort.partitionEqual Sort.ltInt d a b p := by rw [← h5, Sort.partEqLoop_eq _ _ i, heu, hew, if_neg (by omega)]
        exact hE _ (u + 1, w - 1, Sort.swp dk u w) ⟨by simp only; omega, by simp only; omega, by simp only; omega, by rw [Sort.size_swp]; exact h4, e1⟩ (by show w - 1 + 1 - (u + 1) < j + 1 - i; omega) ⟨rfl, rfl, rfl, rfl, rfl, rfl, trivial⟩ ⟨by rw [aswp]; rfl, trivial⟩ (fun _ h => h)
end Go.Proofs.Ytbpobdlahighoaa.Sx
/- slices.Sort at []uint16: the bits, the pattern breaking, the pivot. -/
namespace Go.Proofs.Ytbpobdlahighoaa.Sx
open Go
set_option linter.unusedVariables false
set_option linter.unusedSimpArgs false
set_option maxRecDepth 100000

/-- n has m bits. -/
def bitsQ (x n : Nat) : Prop := x < 2 ^ n ∧ 2 ^ n ≤ 2 * x + 1
theorem bitsQ_shift {x s n : Nat} (h : bitsQ (x / 2 ^ s) n) (hp : 0 < x / 2 ^ s) : bitsQ x (s + n) := by
  have h2 : 0 < 2 ^ s := Nat.two_pow_pos s
  obtain ⟨h3, h4⟩ := h
  have h5 : x / 2 ^ s * 2 ^ s ≤ x := Nat.div_mul_le_self x (2 ^ s)
  have h6 : 2 ^ n ≤ 2 * (x / 2 ^ s) := by
    cases n with
    | zero => simp at h3; omega
    | succ n => rw [Nat.pow_succ] at h4 ⊢; omega
  refine ⟨?_, ?_⟩
  · rw [Nat.pow_add]
    rw [Nat.mul_comm]
    exact (Nat.div_lt_iff_lt_mul h2).1 h3
  · rw [Nat.pow_add]
    have : 2 ^ s * 2 ^ n ≤ 2 ^ s * (2 * (x / 2 ^ s)) := Nat.mul_le_mul_left _ h6
    have e : 2 ^ s * (2 * (x / 2 ^ s)) = 2 * (x / 2 ^ s * 2 ^ s) := by rw [Nat.mul_left_comm, Nat.mul_comm (2 ^ s)]
    omega
theorem wrap_u8 {n : Nat} (h : n < 256) : IntKind.u8.wrap (n : Int) = n := by
  simp only [IntKind.wrap, IntKind.bits, IntKind.signed]
  simp
  omega
theorem t_len64 (x : Nat) (hx : x ≤ 1048576) : Tri Pr 87 [.v (.int .u64 x)] [] [] fun r post => ((∃ n : Nat, r = .v (.int .i64 n) ∧ bitsQ x n ∧ n ≤ 40) ∧ r.lt 0 = true) ∧ post = [] := by
  refine tri_fn Try.f87 [] [] [] 1000 (by kernel_rfl) (by kernel_rfl) (by kernel_rfl) (by kernel_rfl) (by kernel_rfl) (by kernel_rfl) (Nat.le_of_ble_eq_true rfl) ?_
  have h32 : ¬ (4294967296 : Int) ≤ (x : Int) := by omega
  have e16 : ((x : Int)).fdiv (2 ^ min 16 64) = ((x / 65536 : Nat) : Int) := by
    rw [show (2 : Int) ^ min 16 64 = 65536 from by decide, Int.fdiv_eq_ediv_of_nonneg _ (by omega)]; omega
  have e8 : ((x : Int)).fdiv (2 ^ min 8 64) = ((x / 256 : Nat) : Int) := by
    rw [show (2 : Int) ^ min 8 64 = 256 from by decide, Int.fdiv_eq_ediv_of_nonneg _ (by omega)]; omega
  -- the end, with y what is left and s what has been shifted away
  have fin : ∀ (T : ByteArray) (s y : Nat), T.size = 256 → (∀ i, i < 256 → 0 ≤ bAt T i ∧ bAt T i ≤ 8 ∧ bitsQ i (bAt T i).toNat) → y < 256 → y = x / 2 ^ s → s ≤ 16 → (s = 0 ∨ 0 < y) →
      (0 ≤ (y : Int) ∧ (y : Int) < (T.size : Int)) ∧ inI64 ((s : Int) + IntKind.i64.wrap (bAt T ((y : Int)).toNat)) ∧ ∃ n : Nat, (s : Int) + IntKind.i64.wrap (bAt T ((y : Int)).toNat) = (n : Int) ∧ bitsQ x n ∧ n ≤ 40 := by
    intro T s y hsz htab hy hys hs hp
    obtain ⟨k1, k2, k3⟩ := htab y hy
    rw [Int.toNat_natCast, wrap_in ⟨by omega, by omega⟩]
    refine ⟨⟨by omega, by omega⟩, ⟨by omega, by omega⟩, s + (bAt T y).toNat, by omega, ?_, by omega⟩
    rcases hp with rfl | hp
    · simp only [Nat.pow_zero, Nat.div_one] at hys
      subst hys
      rw [Nat.zero_add]; exact k3
    · rw [hys] at k3 hp
      exact bitsQ_shift (by rw [← hys] at k3 ⊢; exact k3) hp
  simp -implicitDefEqProofs only [go_sem, Try.f87, h32]
  generalize hT : (ByteArray.mk _) = T
  have hsz : T.size = 256 := by rw [← hT]; rfl
  have htab : ∀ i, i < 256 → 0 ≤ bAt T i ∧ bAt T i ≤ 8 ∧ bitsQ i (bAt T i).toNat := by
    rw [← hT]; unfold bitsQ; decide +kernel
  clear hT
  simp -implicitDefEqProofs only [e16, e8]
  refine ⟨fun h16 => ⟨⟨by omega, by omega⟩, fun h8 => ?_, fun h8 => ?_⟩, fun h16 => ⟨fun h8 => ⟨⟨by omega, by omega⟩, ?_⟩, fun h8 => ?_⟩⟩
  · simp only [decide_eq_true_eq] at h16 h8; omega
  · simp only [decide_eq_true_eq] at h16
    have hy : x / 65536 < 256 := by omega
    obtain ⟨a1, a2, n, hn, b1, b2⟩ := fin T 16 (x / 65536) hsz htab hy rfl (by omega) (.inr (by omega))
    simp -implicitDefEqProofs only [wrap_u8 hy]
    refine ⟨a1, a2, ret0 rfl ?_⟩
    simp -implicitDefEqProofs only [go_sem]
    exact ⟨n, congrArg (fun z => SV.v (.int .i64 z)) hn, b1, b2⟩
  · simp only [decide_eq_false_iff_not] at h16
    simp only [decide_eq_true_eq] at h8
    have hy : x / 256 < 256 := by omega
    obtain ⟨a1, a2, n, hn, b1, b2⟩ := fin T 8 (x / 256) hsz htab hy rfl (by omega) (.inr (by omega))
    simp -implicitDefEqProofs only [wrap_u8 hy]
    refine ⟨a1, a2, ret0 rfl ?_⟩
    simp -implicitDefEqProofs only [go_sem]
    exact ⟨n, congrArg (fun z => SV.v (.int .i64 z)) hn, b1, b2⟩
  · simp only [decide_eq_false_iff_not] at h16 h8
    have hy : x < 256 := by omega
    obtain ⟨a1, a2, n, hn, b1, b2⟩ := fin T 0 x hsz htab hy (by simp) (by omega) (.inl rfl)
    simp -implicitDefEqProofs only [wrap_u8 hy]
    refine ⟨a1, a2, ret0 rfl ?_⟩
    simp -implicitDefEqProofs only [go_sem]
    exact ⟨n, congrArg (fun z => SV.v (.int .i64 z)) hn, b1, b2⟩
theorem wrap_u64 {n : Nat} (h : n < 18446744073709551616) : IntKind.u64.wrap (n : Int) = n := by
  simp only [IntKind.wrap, IntKind.bits, IntKind.signed]
  simp
  omega
theorem t_bitsLen (x : Nat) (hx : x ≤ 1048576) : Tri Pr 73 [.v (.int .u64 x)] [] [] fun r post => ((∃ n : Nat, r = .v (.int .i64 n) ∧ bitsQ x n ∧ n ≤ 40) ∧ r.lt 0 = true) ∧ post = [] := by
  refine tri_fn Try.f73 [] [] [] 1000 (by kernel_rfl) (by kernel_rfl) (by kernel_rfl) (by kernel_rfl) (by kernel_rfl) (by kernel_rfl) (Nat.le_of_ble_eq_true rfl) ?_
  simp -implicitDefEqProofs only [go_sem, Try.f73]
  refine call0Q (Q := fun r => ∃ n : Nat, r = .v (.int .i64 n) ∧ bitsQ x n ∧ n ≤ 40) (t_len64 x hx) rfl ?_
  rintro _ ⟨n, rfl, h1, h2⟩
  simp -implicitDefEqProofs only [go_sem]
  refine ret0 rfl ?_
  simp -implicitDefEqProofs only [go_sem]
  exact ⟨n, rfl, h1, h2⟩
theorem t_npot (x : Nat) (hx : x ≤ 1048576) (h0 : 0 < x) : Tri Pr 91 [.v (.int .i64 x)] [] [] fun r post => ((∃ m : Nat, r = .v (.int .u64 m) ∧ x < m ∧ m ≤ 2 * x) ∧ r.lt 0 = true) ∧ post = [] := by
  refine tri_fn Try.f91 [] [] [] 1000 (by kernel_rfl) (by kernel_rfl) (by kernel_rfl) (by kernel_rfl) (by kernel_rfl) (by kernel_rfl) (Nat.le_of_ble_eq_true rfl) ?_
  simp -implicitDefEqProofs only [go_sem, Try.f91, wrap_u64 (show x < 18446744073709551616 by omega)]
  refine call0Q (Q := fun r => ∃ n : Nat, r = .v (.int .i64 n) ∧ bitsQ x n ∧ n ≤ 40) (t_bitsLen x hx) rfl ?_
  rintro _ ⟨n, rfl, ⟨h1, h2⟩, h3⟩
  have e : IntKind.u64.wrap (1 * 2 ^ min n 64) = ((2 ^ n : Nat) : Int) := by
    rw [show min n 64 = n from Nat.min_eq_left (by omega), Int.one_mul, ← wrap_u64 (n := 2 ^ n) (by omega)]
    norm_cast
  simp -implicitDefEqProofs only [go_sem, e]
  refine ⟨by omega, ret0 rfl ?_⟩
  simp -implicitDefEqProofs only [go_sem]
  refine ⟨2 ^ n, rfl, h1, ?_⟩
  cases n with
  | zero => simp at h1; omega
  | succ n => rw [Nat.pow_succ] at h2 ⊢; omega
theorem t_xnext (x : Int) : Tri Pr 92 [.ptr 0 0] [.cells [.v (.int .u64 x)]] [] fun r post => ∃ y z : Int, r = .v (.int .u64 z) ∧ post = [.cells [.v (.int .u64 y)]] := by
  refine tri_fn Try.f92 [] [] [1, 2, 3] 1000 (by kernel_rfl) (by kernel_rfl) (by kernel_rfl) (by kernel_rfl) (by kernel_rfl) (by kernel_rfl) (Nat.le_of_ble_eq_true rfl) ?_
  simp -implicitDefEqProofs only [go_sem, Try.f92]
  refine ⟨Int, fun _ => True, fun z => ⟨[(0, .ptr 0 0)], [(0, .cells [.v (.int .u64 z)])], 1, []⟩, ?_, fun x1 _ => ?_⟩
  · simp -implicitDefEqProofs only [go_sem]
    exact ⟨_, ⟨rfl, trivial⟩, ⟨rfl, trivial⟩, rfl, fun _ h => h⟩
  simp -implicitDefEqProofs only [go_sem]
  refine ⟨Int, fun _ => True, fun z => ⟨[(0, .ptr 0 0)], [(0, .cells [.v (.int .u64 z)])], 1, []⟩, ?_, fun x2 _ => ?_⟩
  · simp -implicitDefEqProofs only [go_sem]
    exact ⟨_, ⟨rfl, trivial⟩, ⟨rfl, trivial⟩, rfl, fun _ h => h⟩
  simp -implicitDefEqProofs only [go_sem]
  refine ⟨Int, fun _ => True, fun z => ⟨[(0, .ptr 0 0)], [(0, .cells [.v (.int .u64 z)])], 1, []⟩, ?_, fun x3 _ => ?_⟩
  · simp -implicitDefEqProofs only [go_sem]
    exact ⟨_, ⟨rfl, trivial⟩, ⟨rfl, trivial⟩, rfl, fun _ h => h⟩
  simp -implicitDefEqProofs only [go_sem]
  exact retS [0] (.v (.int .u64 x3)) [.cells [.v (.int .u64 x3)]] (by simp -implicitDefEqProofs only [go_sem]; exact ⟨x3, x3, rfl, rfl⟩)
theorem and_le {z : Int} {m : Nat} (hm : m < 18446744073709551616) : ∃ k : Nat, bitsOp .and .u64 z (m : Int) = (k : Int) ∧ k ≤ m := by
  refine ⟨(BitVec.ofInt 64 z &&& BitVec.ofInt 64 (m : Int)).toNat, ?_, ?_⟩
  · show IntKind.u64.wrap _ = _
    exact wrap_u64 (BitVec.isLt _)
  · rw [BitVec.toNat_and]
    refine Nat.le_trans Nat.and_le_right ?_
    rw [BitVec.ofInt_natCast, BitVec.toNat_ofNat]
    exact Nat.mod_le _ _
theorem tdivw {x k : Nat} (hk : 0 < k) (hx : x ≤ 1048576) : IntKind.i64.wrap ((x : Int).tdiv (k : Int)) = ((x / k : Nat) : Int) := by
  have : ((x : Int).tdiv (k : Int)) = ((x / k : Nat) : Int) := by
    rw [Int.tdiv_eq_ediv_of_nonneg (by omega)]; rfl
  have h2 : x / k ≤ x := Nat.div_le_self x k
  rw [this]
  generalize x / k = y at h2
  exact wrap_in ⟨by omega, by omega⟩
theorem t_break16 (d : Array Int) (a b : Nat) (hab : a < b) (hb : b ≤ d.size) (hs : d.size ≤ 1048576) :
    Tri Pr 98 [.h 0, .v (.int .i64 a), .v (.int .i64 b)] [U16 d] [] fun r post => r = .tup [] ∧ ∃ d', Sort.PermIn a b d d' ∧ post = [U16 d'] := by
  refine tri_fn Try.f98 [] [] [] 1000 (by kernel_rfl) (by kernel_rfl) (by kernel_rfl) (by kernel_rfl) (by kernel_rfl) (by kernel_rfl) (Nat.le_of_ble_eq_true rfl) ?_
  obtain ⟨L, hL⟩ : ∃ L, L = b - a := ⟨_, rfl⟩
  have hLi : (b : Int) - (a : Int) = (L : Int) := by omega
  by_cases h8 : (8 : Int) ≤ (L : Int)
  · have h4 : IntKind.i64.wrap ((L : Int).tdiv 4) = ((L / 4 : Nat) : Int) := tdivw (k := 4) (x := L) (by omega) (by omega)
    have hu : IntKind.u64.wrap (L : Int) = (L : Int) := wrap_u64 (by omega)
    simp -implicitDefEqProofs only [go_sem, Try.f98, hLi, h8, hu]
    refine ⟨⟨by omega, by omega⟩, call0Q (Q := fun r => ∃ m : Nat, r = .v (.int .u64 m) ∧ L < m ∧ m ≤ 2 * L) (t_npot L (by omega) (by omega)) rfl ?_⟩
    rintro _ ⟨m, rfl, hm1, hm2⟩
    have hM : (a : Int) + ((L / 4 : Nat) : Int) * 2 = ((a + L / 4 * 2 : Nat) : Int) := by omega
    obtain ⟨M, hMd⟩ : ∃ M, M = a + L / 4 * 2 := ⟨_, rfl⟩
    rw [← hMd] at hM
    have hM1 : (M : Int) - 1 = ((M - 1 : Nat) : Int) := by omega
    simp -implicitDefEqProofs only [go_sem, h4, hM, hM1]
    refine ⟨⟨by omega, by omega⟩, ⟨by omega, by omega⟩, ⟨by omega, by omega⟩, ?_⟩
    refine loopR (ι := Nat × Array Int × Int) (fun p => M - 1 ≤ p.1 ∧ p.1 ≤ M + 2 ∧ Sort.PermIn a b d p.2.1) [0, 1, 2, 6, 7, 8] (fun p => [(9, .v (.int .i64 p.1))]) (fun p => [(0, U16 p.2.1), (1, .cells [.v (.int .u64 p.2.2)])]) [] (fun p => M + 2 - p.1) (M - 1, d, (L : Int)) ⟨Nat.le_refl _, by simp only; omega, Sort.permIn_refl _ _ _⟩ ⟨rfl, trivial⟩ ⟨rfl, rfl, trivial⟩ (fun _ h => h) (fun i => rfl) (fun i => rfl) ?_
    rintro ⟨i, dk, y⟩ ⟨h1, h2, h3⟩ E hE
    simp only at h1 h2 h3
    have hsz : dk.size = d.size := h3.1
    have hl : dk.toList.length = dk.size := Array.length_toList
    have hM2 : (M : Int) + 1 = ((M + 1 : Nat) : Int) := by omega
    by_cases hlt : (i : Int) ≤ ((M + 1 : Nat) : Int)
    · simp -implicitDefEqProofs only [go_sem, h4, hM, hM2, hlt]
      refine ⟨⟨by omega, by omega⟩, ⟨by omega, by omega⟩, ⟨by omega, by omega⟩, ?_⟩
      refine callS [1] [] (t_xnext y) (by simp) (by simp -implicitDefEqProofs only [go_sem]; simp) (fun ρ => rfl) (fun ρ => rfl) ?_
      rintro _ _ ⟨y2, z, rfl, rfl⟩
      have hm3 : IntKind.u64.wrap ((m : Int) - 1) = ((m - 1 : Nat) : Int) := by rw [← wrap_u64 (n := m - 1) (by omega)]; congr 1; omega
      obtain ⟨k, hk1, hk2⟩ := and_le (z := z) (m := m - 1) (by omega)
      have hk3 : IntKind.i64.wrap (k : Int) = (k : Int) := wrap_in ⟨by omega, by omega⟩
      by_cases hge : (L : Int) ≤ (k : Int)
      · obtain ⟨o, ho⟩ : ∃ o, o = k - L := ⟨_, rfl⟩
        have hok : (k : Int) - (L : Int) = (o : Int) := by omega
        have hak : (a : Int) + (o : Int) = ((a + o : Nat) : Int) := by omega
        simp -implicitDefEqProofs only [go_sem, hm3, hk1, hk3, hge, hok]
        refine ⟨⟨by omega, by omega⟩, ?_⟩
        simp -implicitDefEqProofs only [go_sem, hak, encAt_some (ag16 (d := dk) (i := i) (by omega)), encAt_some (ag16 (d := dk) (i := a + o) (by omega)), eI16]
        refine ⟨⟨by omega, by omega⟩, ⟨by omega, by omega⟩, ⟨by omega, by omega⟩, ⟨by omega, by omega⟩, ⟨by omega, by omega⟩, dk[a + o]!, ⟨by omega, rfl⟩, ⟨by omega, by rw [List.length_set]; omega⟩, dk[i]!, ⟨by rw [List.length_set]; omega, row16 (by rw [List.length_set]; omega)⟩, ⟨by omega, by omega⟩, ?_⟩
        exact hE _ (i + 1, Sort.swp dk i (a + o), y2) ⟨by simp only; omega, by simp only; omega, Sort.permIn_trans _ _ _ _ _ h3 (Sort.swp_permIn dk a b i (a + o) (by omega) (by omega) (by omega) (by omega) (by omega))⟩ (by show M + 2 - (i + 1) < M + 2 - i; omega) ⟨rfl, rfl, rfl, rfl, rfl, rfl, rfl, trivial⟩ ⟨rfl, by rw [aswp]; rfl, trivial⟩ (fun _ h => h)
      · obtain ⟨o, rfl⟩ : ∃ o, o = k := ⟨_, rfl⟩
        have hak : (a : Int) + (o : Int) = ((a + o : Nat) : Int) := by omega
        simp -implicitDefEqProofs only [go_sem, hm3, hk1, hk3, hge]
        simp -implicitDefEqProofs only [go_sem, hak, encAt_some (ag16 (d := dk) (i := i) (by omega)), encAt_some (ag16 (d := dk) (i := a + o) (by omega)), eI16]
        refine ⟨⟨by omega, by omega⟩, ⟨by omega, by omega⟩, ⟨by omega, by omega⟩, ⟨by omega, by omega⟩, ⟨by omega, by omega⟩, dk[a + o]!, ⟨by omega, rfl⟩, ⟨by omega, by rw [List.length_set]; omega⟩, dk[i]!, ⟨by rw [List.length_set]; omega, row16 (by rw [List.length_set]; omega)⟩, ⟨by omega, by omega⟩, ?_⟩
        exact hE _ (i + 1, Sort.swp dk i (a + o), y2) ⟨by simp only; omega, by simp only; omega, Sort.permIn_trans _ _ _ _ _ h3 (Sort.swp_permIn dk a b i (a + o) (by omega) (by omega) (by omega) (by omega) (by omega))⟩ (by show M + 2 - (i + 1) < M + 2 - i; omega) ⟨rfl, rfl, rfl, rfl, rfl, rfl, rfl, trivial⟩ ⟨rfl, by rw [aswp]; rfl, trivial⟩ (fun _ h => h)
    · simp -implicitDefEqProofs only [go_sem, h4, hM, hM2, hlt]
      refine ⟨⟨by omega, by omega⟩, ⟨by omega, by omega⟩, ⟨by omega, by omega⟩, ?_⟩
      exact retS [0] (.tup []) [U16 dk] (by simp -implicitDefEqProofs only [go_sem]; exact ⟨dk, h3, rfl⟩)
  · simp -implicitDefEqProofs only [go_sem, Try.f98, hLi, h8]
    exact ⟨⟨by omega, by omega⟩, retS [0] (.tup []) [U16 d] (by simp -implicitDefEqProofs only [go_sem]; exact ⟨d, Sort.permIn_refl _ _ _, rfl⟩)⟩
abbrev I64 (n : Nat) : SV := .v (.int .i64 n)
def ordQ (d : Array Int) (a b s : Nat) (r : SV) (post : List Res) : Prop := ∃ x y t : Nat, r = .tup [I64 x, I64 y] ∧ post = [U16 d, .cells [I64 t]] ∧ ((x = a ∧ y = b) ∨ (x = b ∧ y = a)) ∧ t ≤ s + 1
theorem t_order2 (d : Array Int) (a b s : Nat) (ha : a < d.size) (hb : b < d.size) (hs : d.size ≤ 1048576) (hss : s ≤ 1000) :
    Tri Pr 110 [.h 0, I64 a, I64 b, .ptr 1 0] [U16 d, .cells [I64 s]] [] (ordQ d a b s) := by
  refine tri_fn Try.f110 [] [] [] 1000 (by kernel_rfl) (by kernel_rfl) (by kernel_rfl) (by kernel_rfl) (by kernel_rfl) (by kernel_rfl) (Nat.le_of_ble_eq_true rfl) ?_
  have hl : d.toList.length = d.size := Array.length_toList
  simp -implicitDefEqProofs only [go_sem, Try.f110, encAt_some (ag16 ha), encAt_some (ag16 hb), eI16]
  refine ⟨⟨by omega, by omega⟩, ⟨by omega, by omega⟩, call0 (t_less16 _ _) rfl rfl ?_⟩
  by_cases hc : d[b]! < d[a]!
  · have hs1 : (s : Int) + 1 = ((s + 1 : Nat) : Int) := by omega
    simp -implicitDefEqProofs only [go_sem, hc, hs1]
    refine ⟨⟨by omega, by omega⟩, retS [0, 1] (.tup [I64 b, I64 a]) [U16 d, .cells [I64 (s + 1)]] ?_⟩
    simp -implicitDefEqProofs only [go_sem]
    exact ⟨b, a, s + 1, rfl, rfl, .inr ⟨rfl, rfl⟩, Nat.le_refl _⟩
  · simp -implicitDefEqProofs only [go_sem, hc]
    refine retS [0, 1] (.tup [I64 a, I64 b]) [U16 d, .cells [I64 s]] ?_
    simp -implicitDefEqProofs only [go_sem]
    exact ⟨a, b, s, rfl, rfl, .inl ⟨rfl, rfl⟩, Nat.le_succ _⟩
def medQ (d : Array Int) (l : List Nat) (s : Nat) (r : SV) (post : List Res) : Prop := ∃ x t : Nat, r = I64 x ∧ post = [U16 d, .cells [I64 t]] ∧ x ∈ l ∧ t ≤ s + 3
theorem t_median (d : Array Int) (a b c s : Nat) (ha : a < d.size) (hb : b < d.size) (hc : c < d.size) (hs : d.size ≤ 1048576) (hss : s ≤ 990) :
    Tri Pr 108 [.h 0, I64 a, I64 b, I64 c, .ptr 1 0] [U16 d, .cells [I64 s]] [] (medQ d [a, b, c] s) := by
  refine tri_fn Try.f108 [] [] [] 1000 (by kernel_rfl) (by kernel_rfl) (by kernel_rfl) (by kernel_rfl) (by kernel_rfl) (by kernel_rfl) (Nat.le_of_ble_eq_true rfl) ?_
  simp -implicitDefEqProofs only [go_sem, Try.f108]
  refine callS [0, 1] [] (t_order2 d a b s ha hb hs (by omega)) (by simp) (by simp -implicitDefEqProofs only [go_sem]; simp) (fun ρ => rfl) (fun ρ => rfl) ?_
  rintro _ _ ⟨x1, y1, s1, rfl, rfl, h1, h2⟩
  simp -implicitDefEqProofs only [go_sem]
  refine callS [0, 1] [] (t_order2 d y1 c s1 (by omega) hc hs (by omega)) (by simp) (by simp -implicitDefEqProofs only [go_sem]; simp) (fun ρ => rfl) (fun ρ => rfl) ?_
  rintro _ _ ⟨x2, y2, s2, rfl, rfl, h3, h4⟩
  simp -implicitDefEqProofs only [go_sem]
  refine callS [0, 1] [] (t_order2 d x1 x2 s2 (by omega) (by omega) hs (by omega)) (by simp) (by simp -implicitDefEqProofs only [go_sem]; simp) (fun ρ => rfl) (fun ρ => rfl) ?_
  rintro _ _ ⟨x3, y3, s3, rfl, rfl, h5, h6⟩
  simp -implicitDefEqProofs only [go_sem]
  refine retS [0, 1] (I64 y3) [U16 d, .cells [I64 s3]] ?_
  simp -implicitDefEqProofs only [go_sem]
  exact ⟨y3, s3, rfl, rfl, by simp; omega, by omega⟩
theorem t_medadj (d : Array Int) (a s : Nat) (ha : 0 < a) (hb : a + 1 < d.size) (hs : d.size ≤ 1048576) (hss : s ≤ 990) :
    Tri Pr 107 [.h 0, I64 a, .ptr 1 0] [U16 d, .cells [I64 s]] [] (medQ d [a - 1, a, a + 1] s) := by
  refine tri_fn Try.f107 [] [] [] 1000 (by kernel_rfl) (by kernel_rfl) (by kernel_rfl) (by kernel_rfl) (by kernel_rfl) (by kernel_rfl) (Nat.le_of_ble_eq_true rfl) ?_
  have h1 : (a : Int) - 1 = ((a - 1 : Nat) : Int) := by omega
  have h2 : (a : Int) + 1 = ((a + 1 : Nat) : Int) := by omega
  simp -implicitDefEqProofs only [go_sem, Try.f107, h1, h2]
  refine ⟨⟨by omega, by omega⟩, ⟨by omega, by omega⟩, ?_⟩
  refine callS [0, 1] [] (t_median d (a - 1) a (a + 1) s (by omega) (by omega) hb hs hss) (by simp) (by simp -implicitDefEqProofs only [go_sem]; simp) (fun ρ => rfl) (fun ρ => rfl) ?_
  rintro _ _ ⟨x, t, rfl, rfl, h3, h4⟩
  simp -implicitDefEqProofs only [go_sem]
  refine retS [0, 1] (I64 x) [U16 d, .cells [I64 t]] ?_
  simp -implicitDefEqProofs only [go_sem]
  exact ⟨x, t, rfl, rfl, h3, h4⟩
set_option maxHeartbeats 1000000 in
theorem t_pivot16 (d : Array Int) (a b : Nat) (hab : a < b) (hb : b ≤ d.size) (hs : d.size ≤ 1048576) :
    Tri Pr 99 [.h 0, I64 a, I64 b] [U16 d] [] fun r post => ∃ (p : Nat) (h : Int), r = .tup [I64 p, .v (.int .i64 h)] ∧ post = [U16 d] ∧ a ≤ p ∧ p < b := by
  refine tri_fn Try.f99 [] [] [] 1000 (by kernel_rfl) (by kernel_rfl) (by kernel_rfl) (by kernel_rfl) (by kernel_rfl) (by kernel_rfl) (Nat.le_of_ble_eq_true rfl) ?_
  obtain ⟨L, hL⟩ : ∃ L, L = b - a := ⟨_, rfl⟩
  have hLi : (b : Int) - (a : Int) = (L : Int) := by omega
  have h4 : IntKind.i64.wrap ((L : Int).tdiv 4) = ((L / 4 : Nat) : Int) := tdivw (k := 4) (x := L) (by omega) (by omega)
  have hq : L / 4 * 4 ≤ L := Nat.div_mul_le_self L 4
  obtain ⟨q, hqd⟩ : ∃ q, q = L / 4 := ⟨_, rfl⟩
  rw [← hqd] at h4 hq
  have e1 : (a : Int) + (q : Int) * 1 = ((a + q : Nat) : Int) := by omega
  have e2 : (a : Int) + (q : Int) * 2 = ((a + q * 2 : Nat) : Int) := by omega
  have e3 : (a : Int) + (q : Int) * 3 = ((a + q * 3 : Nat) : Int) := by omega
  simp -implicitDefEqProofs only [go_sem, Try.f99, hLi, h4, e1, e2, e3]
  refine ⟨⟨by omega, by omega⟩, ⟨by omega, by omega⟩, ⟨by omega, by omega⟩, ⟨by omega, by omega⟩, ⟨by omega, by omega⟩, ⟨by omega, by omega⟩, ⟨by omega, by omega⟩, fun h8 => ⟨fun h50 => ?_, fun h50 => ?_⟩, fun h8 => ?_⟩
  · simp only [decide_eq_true_eq] at h50
    refine callS [0, 1] [] (t_medadj d (a + q) 0 (by omega) (by omega) hs (by omega)) (by simp) (by simp -implicitDefEqProofs only [go_sem]; simp) (fun ρ => rfl) (fun ρ => rfl) ?_
    rintro _ _ ⟨x1, t1, rfl, rfl, m1, n1⟩
    simp only [List.mem_cons, List.not_mem_nil, or_false] at m1
    simp -implicitDefEqProofs only [go_sem]
    refine callS [0, 1] [] (t_medadj d (a + q * 2) t1 (by omega) (by omega) hs (by omega)) (by simp) (by simp -implicitDefEqProofs only [go_sem]; simp) (fun ρ => rfl) (fun ρ => rfl) ?_
    rintro _ _ ⟨x2, t2, rfl, rfl, m2, n2⟩
    simp only [List.mem_cons, List.not_mem_nil, or_false] at m2
    simp -implicitDefEqProofs only [go_sem]
    refine callS [0, 1] [] (t_medadj d (a + q * 3) t2 (by omega) (by omega) hs (by omega)) (by simp) (by simp -implicitDefEqProofs only [go_sem]; simp) (fun ρ => rfl) (fun ρ => rfl) ?_
    rintro _ _ ⟨x3, t3, rfl, rfl, m3, n3⟩
    simp only [List.mem_cons, List.not_mem_nil, or_false] at m3
    simp -implicitDefEqProofs only [go_sem]
    refine callS [0, 1] [] (t_median d x1 x2 x3 t3 (by omega) (by omega) (by omega) hs (by omega)) (by simp) (by simp -implicitDefEqProofs only [go_sem]; simp) (fun ρ => rfl) (fun ρ => rfl) ?_
    rintro _ _ ⟨x, t, rfl, rfl, m4, n4⟩
    simp only [List.mem_cons, List.not_mem_nil, or_false] at m4
    simp -implicitDefEqProofs only [go_sem]
    refine ⟨fun _ => retS [0] (.tup [I64 x, .v (.int .i64 1)]) [U16 d] ?_, fun _ => ⟨fun _ => retS [0] (.tup [I64 x, .v (.int .i64 2)]) [U16 d] ?_, fun _ => retS [0] (.tup [I64 x, .v (.int .i64 0)]) [U16 d] ?_⟩⟩
    · simp -implicitDefEqProofs only [go_sem]
      exact ⟨x, 1, rfl, by omega, by omega⟩
    · simp -implicitDefEqProofs only [go_sem]
      exact ⟨x, 2, rfl, by omega, by omega⟩
    · simp -implicitDefEqProofs only [go_sem]
      exact ⟨x, 0, rfl, by omega, by omega⟩
  · simp only [decide_eq_true_eq] at h8
    refine callS [0, 1] [] (t_median d (a + q) (a + q * 2) (a + q * 3) 0 (by omega) (by omega) (by omega) hs (by omega)) (by simp) (by simp -implicitDefEqProofs only [go_sem]; simp) (fun ρ => rfl) (fun ρ => rfl) ?_
    rintro _ _ ⟨x, t, rfl, rfl, m4, n4⟩
    simp only [List.mem_cons, List.not_mem_nil, or_false] at m4
    simp -implicitDefEqProofs only [go_sem]
    refine ⟨fun _ => retS [0] (.tup [I64 x, .v (.int .i64 1)]) [U16 d] ?_, fun _ => ⟨fun _ => retS [0] (.tup [I64 x, .v (.int .i64 2)]) [U16 d] ?_, fun _ => retS [0] (.tup [I64 x, .v (.int .i64 0)]) [U16 d] ?_⟩⟩
    · simp -implicitDefEqProofs only [go_sem]
      exact ⟨x, 1, rfl, by omega, by omega⟩
    · simp -implicitDefEqProofs only [go_sem]
      exact ⟨x, 2, rfl, by omega, by omega⟩
    · simp -implicitDefEqProofs only [go_sem]
      exact ⟨x, 0, rfl, by omega, by omega⟩
  · refine retS [0] (.tup [I64 (a + q * 2), .v (.int .i64 1)]) [U16 d] ?_
    simp -implicitDefEqProofs only [go_sem]
    exact ⟨a + q * 2, 1, rfl, by omega, by omega⟩
end Go.Proofs.Ytbpobdlahighoaa.Sx
/- slices.Sort at []uint16: the partial insertion sort. -/
namespace Go.Proofs.Ytbpobdlahighoaa.Sx
open Go
set_option linter.unusedVariables false
set_option linter.unusedSimpArgs false
set_option maxRecDepth 100000

theorem shiftDown_size : ∀ (j : Nat) (d : Array Int), (Sort.shiftDown Sort.ltInt j d).size = d.size
  | 0, d => rfl
  | j + 1, d => by
    unfold Sort.shiftDown
    split
    · rfl
    · rw [shiftDown_size j, Sort.size_swp]
theorem shiftUp_size (b j : Nat) (d : Array Int) : (Sort.shiftUp Sort.ltInt b j d).size = d.size := by
  fun_induction Sort.shiftUp Sort.ltInt b j d <;> simp_all [Sort.size_swp]
def pinsRes (D : Array Int) (b : Nat) (x : Array Int × Bool) : Prop := D.size = x.1.size
set_option maxHeartbeats 2000000 in
theorem t_pins16 (d : Array Int) (a b : Nat) (hab : a < b) (hb : b ≤ d.size) (hs : d.size ≤ 1048576) :
    TriF Pr 101 [.h 0, I64 a, I64 b] [U16 d] [] (.v (.bool (Sort.partialInsertionSort Sort.ltInt d a b).2)) [U16 (Sort.partialInsertionSort Sort.ltInt d a b).1] := by
  refine tri_fn Try.f101 [] [] [5] 1000 (by kernel_rfl) (by kernel_rfl) (by kernel_rfl) (by kernel_rfl) (by kernel_rfl) (by kernel_rfl) (Nat.le_of_ble_eq_true rfl) ?_
  have ha1 : (a : Int) + 1 = ((a + 1 : Nat) : Int) := by omega
  obtain ⟨L, hL⟩ : ∃ L, L = b - a := ⟨_, rfl⟩
  have hLi : (b : Int) - (a : Int) = (L : Int) := by omega
  simp -implicitDefEqProofs only [go_sem, Try.f101, ha1]
  refine ⟨⟨by omega, by omega⟩, ?_⟩
  refine loopR (ι := Nat × Nat × Array Int) (fun p => p.1 ≤ 5 ∧ a + 1 ≤ p.2.1 ∧ p.2.1 ≤ b ∧ p.2.2.size = d.size ∧ Sort.partialIns Sort.ltInt a b p.1 p.2.1 p.2.2 = Sort.partialInsertionSort Sort.ltInt d a b) [0, 1, 2] (fun p => [(8, .v (.int .i64 (5 - (p.1 : Int)))), (7, I64 p.2.1)]) (fun p => [(0, U16 p.2.2)]) [] (fun p => p.1) (5, a + 1, d) ⟨Nat.le_refl _, Nat.le_refl _, by simp only; omega, rfl, rfl⟩ ⟨rfl, rfl, trivial⟩ ⟨rfl, trivial⟩ (fun _ h => h) (fun i => rfl) (fun i => rfl) ?_
  rintro ⟨s, i0, dk⟩ ⟨h1, h2, h3, h4, h5⟩ E hE
  simp only at h1 h2 h3 h4 h5
  cases s with
  | zero =>
    have hlt : ¬ (5 - ((0 : Nat) : Int)) < 5 := by omega
    simp -implicitDefEqProofs only [go_sem, hlt]
    have e : Sort.partialInsertionSort Sort.ltInt d a b = (dk, false) := by rw [← h5]; rfl
    rw [e]
    exact retS [0] (.v (.bool false)) [U16 dk] (by simp -implicitDefEqProofs only [go_sem])
  | succ s =>
    have hlt : (5 - ((s + 1 : Nat) : Int)) < 5 := by omega
    have hs5 : 5 - ((s + 1 : Nat) : Int) + 1 = 5 - (s : Int) := by omega
    have hl : dk.toList.length = dk.size := Array.length_toList
    simp -implicitDefEqProofs only [go_sem, hlt]
    -- the scan
    refine loop0 (fun q => i0 ≤ q ∧ q ≤ b ∧ Sort.scanSorted Sort.ltInt dk b q = Sort.scanSorted Sort.ltInt dk b i0) [0, 1, 2, 8] (fun q => [(7, I64 q)]) (fun q => b - q) i0 ⟨Nat.le_refl _, h3, rfl⟩ ⟨rfl, trivial⟩ (fun q => rfl) rfl ?_
    rintro i ⟨q1, q2, q3⟩ E2 hE2
    have him : (i : Int) - 1 = ((i - 1 : Nat) : Int) := by omega
    simp -implicitDefEqProofs only [go_sem]
    refine ⟨Bool, fun z => z = (decide (i < b) && !Sort.ltInt dk[i]! dk[i - 1]!), fun z => ⟨[(32, .v (.bool z)), (7, I64 i), (8, .v (.int .i64 (5 - ((s + 1 : Nat) : Int)))), (0, .h 0), (1, I64 a), (2, I64 b)], [(0, U16 dk)], 1, []⟩, ?_, fun z hz => ?_⟩
    · by_cases hib : (i : Int) < (b : Int)
      · simp -implicitDefEqProofs only [go_sem, hib, him, encAt_some (ag16 (d := dk) (i := i) (by omega)), encAt_some (ag16 (d := dk) (i := i - 1) (by omega)), eI16]
        refine ⟨⟨by omega, by omega⟩, ⟨by omega, by omega⟩, ⟨by omega, by omega⟩, call0 (t_less16 _ _) rfl rfl ?_⟩
        by_cases hc : dk[i]! < dk[i - 1]!
        · simp -implicitDefEqProofs only [go_sem, hc]
          exact ⟨false, by simp [Sort.ltInt, hc], ⟨rfl, rfl, rfl, rfl, rfl, rfl, trivial⟩, ⟨rfl, trivial⟩, rfl, fun _ h => h⟩
        · simp -implicitDefEqProofs only [go_sem, hc]
          exact ⟨true, by simp [Sort.ltInt]; omega, ⟨rfl, rfl, rfl, rfl, rfl, rfl, trivial⟩, ⟨rfl, trivial⟩, rfl, fun _ h => h⟩
      · simp -implicitDefEqProofs only [go_sem, hib]
        exact ⟨false, by simp; omega, ⟨rfl, rfl, rfl, rfl, rfl, rfl, trivial⟩, ⟨rfl, trivial⟩, rfl, fun _ h => h⟩
    cases z with
    | true =>
      have hz2 := hz.symm
      rw [Bool.and_eq_true, decide_eq_true_eq] at hz2
      simp -implicitDefEqProofs only [go_sem]
      have hs1 : Sort.scanSorted Sort.ltInt dk b (i + 1) = Sort.scanSorted Sort.ltInt dk b i0 := by rw [← q3, Sort.scanSorted.eq_def _ _ _ i, if_pos hz.symm]
      exact ⟨⟨by omega, by omega⟩, hE2 _ (i + 1) ⟨by omega, by omega, hs1⟩ (by omega) ⟨rfl, rfl, rfl, rfl, rfl, trivial⟩ ⟨rfl, trivial⟩ (fun _ h => h)⟩
    | false =>
      have hz3 : ¬ ((decide (i < b) && !Sort.ltInt dk[i]! dk[i - 1]!) = true) := by rw [← hz]; decide
      have he : Sort.scanSorted Sort.ltInt dk b i0 = i := by rw [← q3, Sort.scanSorted, if_neg hz3]
      have hstep := h5
      rw [Sort.partialIns_succ, he] at hstep
      by_cases hib : (i : Int) = (b : Int)
      · simp -implicitDefEqProofs only [go_sem, hib]
        have e : Sort.partialInsertionSort Sort.ltInt d a b = (dk, true) := by rw [← hstep, if_pos (by omega)]
        rw [e]
        exact retS [0] (.v (.bool true)) [U16 dk] (by simp -implicitDefEqProofs only [go_sem])
      rw [if_neg (by omega)] at hstep
      by_cases h50 : (L : Int) < 50
      · simp -implicitDefEqProofs only [go_sem, hib, hLi, h50]
        have e : Sort.partialInsertionSort Sort.ltInt d a b = (dk, false) := by rw [← hstep, if_pos (by omega)]
        rw [e]
        exact ⟨⟨by omega, by omega⟩, retS [0] (.v (.bool false)) [U16 dk] (by simp -implicitDefEqProofs only [go_sem])⟩
      rw [if_neg (by omega)] at hstep
      obtain ⟨IA, hIA⟩ : ∃ IA, IA = i - a := ⟨_, rfl⟩
      have hIAi : (i : Int) - (a : Int) = (IA : Int) := by omega
      obtain ⟨BI, hBI⟩ : ∃ BI, BI = b - i := ⟨_, rfl⟩
      have hBIi : (b : Int) - (i : Int) = (BI : Int) := by omega
      simp -implicitDefEqProofs only [go_sem, hib, hLi, h50, him, encAt_some (ag16 (d := dk) (i := i) (by omega)), encAt_some (ag16 (d := dk) (i := i - 1) (by omega)), eI16]
      refine ⟨⟨by omega, by omega⟩, ⟨by omega, by omega⟩, ⟨by omega, by omega⟩, ⟨by omega, by omega⟩, ⟨by omega, by omega⟩, ⟨by omega, by omega⟩, dk[i - 1]!, ⟨by omega, rfl⟩, ⟨by omega, by rw [List.length_set]; omega⟩, dk[i]!, ⟨by rw [List.length_set]; omega, row16 (by rw [List.length_set]; omega)⟩, ?_⟩
      rw [aswp]
      obtain ⟨d1, hd1⟩ : ∃ d1, d1 = Sort.swp dk i (i - 1) := ⟨_, rfl⟩
      have hz1 : d1.size = d.size := by rw [hd1, Sort.size_swp]; exact h4
      rw [← hd1]
      simp only [← hd1] at hstep
      by_cases ha2 : (2 : Int) ≤ (IA : Int)
      · rw [show Sort.fixDown Sort.ltInt a i d1 = Sort.shiftDown Sort.ltInt (i - 1) d1 from by unfold Sort.fixDown; rw [if_pos (by omega)]] at hstep
        simp -implicitDefEqProofs only [go_sem, hIAi, ha2, him]
        refine ⟨⟨by omega, by omega⟩, ⟨by omega, by omega⟩, ?_⟩
        refine loopR (ι := Nat × Array Int) (fun p => p.1 ≤ i - 1 ∧ p.2.size = d.size ∧ Sort.shiftDown Sort.ltInt p.1 p.2 = Sort.shiftDown Sort.ltInt (i - 1) d1) [0, 1, 2, 7, 8] (fun p => [(9, I64 p.1)]) (fun p => [(0, U16 p.2)]) [] (fun p => p.1) (i - 1, d1) ⟨Nat.le_refl _, hz1, rfl⟩ ⟨rfl, trivial⟩ ⟨rfl, trivial⟩ (fun _ h => h) (fun i => rfl) (fun i => rfl) ?_
        rintro ⟨j, d2⟩ ⟨m1, m2, m3⟩ E4 hE4
        simp only at m1 m2 m3
        have hl2 : d2.toList.length = d2.size := Array.length_toList
        cases j with
        | zero =>
          have hj1 : ¬ (1 : Int) ≤ ((0 : Nat) : Int) := by omega
          simp -implicitDefEqProofs only [go_sem, hj1]
          have hst := hstep
          rw [← m3, show Sort.shiftDown Sort.ltInt 0 d2 = d2 from rfl] at hst
          by_cases hb2 : (2 : Int) ≤ (BI : Int)
          · rw [show Sort.fixUp Sort.ltInt b i d2 = Sort.shiftUp Sort.ltInt b (i + 1) d2 from by unfold Sort.fixUp; rw [if_pos (by omega)]] at hst
            simp -implicitDefEqProofs only [go_sem, hBIi, hb2]
            refine ⟨⟨by omega, by omega⟩, ⟨by omega, by omega⟩, ?_⟩
            refine loopR (ι := Nat × Array Int) (fun p => i + 1 ≤ p.1 ∧ p.1 ≤ b ∧ p.2.size = d.size ∧ Sort.shiftUp Sort.ltInt b p.1 p.2 = Sort.shiftUp Sort.ltInt b (i + 1) d2) [0, 1, 2, 7, 8] (fun p => [(10, I64 p.1)]) (fun p => [(0, U16 p.2)]) [] (fun p => b - p.1) (i + 1, d2) ⟨Nat.le_refl _, by simp only; omega, m2, rfl⟩ ⟨rfl, trivial⟩ ⟨rfl, trivial⟩ (fun _ h => h) (fun i => rfl) (fun i => rfl) ?_
            rintro ⟨j, dj⟩ ⟨k1, k2, k3, k4⟩ E3 hE3
            simp only at k1 k2 k3 k4
            have hlj : dj.toList.length = dj.size := Array.length_toList
            have hjm : (j : Int) - 1 = ((j - 1 : Nat) : Int) := by omega
            by_cases hjb : (j : Int) < (b : Int)
            · simp -implicitDefEqProofs only [go_sem, hjb, hjm, encAt_some (ag16 (d := dj) (i := j) (by omega)), encAt_some (ag16 (d := dj) (i := j - 1) (by omega)), eI16]
              refine ⟨⟨by omega, by omega⟩, ⟨by omega, by omega⟩, ⟨by omega, by omega⟩, call0 (t_less16 _ _) rfl rfl ?_⟩
              by_cases hc : dj[j]! < dj[j - 1]!
              · simp -implicitDefEqProofs only [go_sem, hc, hjm, encAt_some (ag16 (d := dj) (i := j) (by omega)), encAt_some (ag16 (d := dj) (i := j - 1) (by omega)), eI16]
                have e : Sort.shiftUp Sort.ltInt b (j + 1) (Sort.swp dj j (j - 1)) = Sort.shiftUp Sort.ltInt b (i + 1) d2 := by rw [← k4, Sort.shiftUp.eq_def _ _ j, if_pos (by omega), if_neg (by simp [Sort.ltInt, hc])]
                refine ⟨⟨by omega, by omega⟩, ⟨by omega, by omega⟩, ⟨by omega, by omega⟩, ⟨by omega, by omega⟩, ⟨by omega, by omega⟩, dj[j - 1]!, ⟨by omega, rfl⟩, ⟨by omega, by rw [List.length_set]; omega⟩, dj[j]!, ⟨by rw [List.length_set]; omega, row16 (by rw [List.length_set]; omega)⟩, ⟨by omega, by omega⟩, ?_⟩
                exact hE3 _ (j + 1, Sort.swp dj j (j - 1)) ⟨by simp only; omega, by simp only; omega, by rw [Sort.size_swp]; exact k3, e⟩ (by show b - (j + 1) < b - j; omega) ⟨rfl, rfl, rfl, rfl, rfl, rfl, trivial⟩ ⟨by rw [aswp]; rfl, trivial⟩ (fun _ h => h)
              · simp -implicitDefEqProofs only [go_sem, hc, hs5]
                have e : Sort.shiftUp Sort.ltInt b (i + 1) d2 = dj := by rw [← k4, Sort.shiftUp.eq_def _ _ j, if_pos (by omega), if_pos (by simp [Sort.ltInt]; omega)]
                have hst2 := hst
                rw [e] at hst2
                exact ⟨⟨by omega, by omega⟩, hE _ (s, i, dj) ⟨by simp only; omega, by simp only; omega, by simp only; omega, by simp only; exact k3, hst2⟩ (by show s < s + 1; omega) ⟨rfl, rfl, rfl, rfl, rfl, trivial⟩ ⟨rfl, trivial⟩ (fun _ h => h)⟩
            · simp -implicitDefEqProofs only [go_sem, hjb, hs5]
              have e : Sort.shiftUp Sort.ltInt b (i + 1) d2 = dj := by rw [← k4, Sort.shiftUp.eq_def _ _ j, if_neg (by omega)]
              have hst2 := hst
              rw [e] at hst2
              exact ⟨⟨by omega, by omega⟩, hE _ (s, i, dj) ⟨by simp only; omega, by simp only; omega, by simp only; omega, by simp only; exact k3, hst2⟩ (by show s < s + 1; omega) ⟨rfl, rfl, rfl, rfl, rfl, trivial⟩ ⟨rfl, trivial⟩ (fun _ h => h)⟩
          · rw [show Sort.fixUp Sort.ltInt b i d2 = d2 from by unfold Sort.fixUp; rw [if_neg (by omega)]] at hst
            simp -implicitDefEqProofs only [go_sem, hBIi, hb2, hs5]
            have hst2 := hst
            exact ⟨⟨by omega, by omega⟩, ⟨by omega, by omega⟩, hE _ (s, i, d2) ⟨by simp only; omega, by simp only; omega, by simp only; omega, by simp only; exact m2, hst2⟩ (by show s < s + 1; omega) ⟨rfl, rfl, rfl, rfl, rfl, trivial⟩ ⟨rfl, trivial⟩ (fun _ h => h)⟩
        | succ j =>
          have hj1 : (1 : Int) ≤ ((j + 1 : Nat) : Int) := by omega
          have hjm : ((j + 1 : Nat) : Int) - 1 = (j : Int) := by omega
          simp -implicitDefEqProofs only [go_sem, hj1, hjm, encAt_some (ag16 (d := d2) (i := j + 1) (by omega)), encAt_some (ag16 (d := d2) (i := j) (by omega)), eI16]
          refine ⟨⟨by omega, by omega⟩, ⟨by omega, by omega⟩, ⟨by omega, by omega⟩, call0 (t_less16 _ _) rfl rfl ?_⟩
          by_cases hc : d2[j + 1]! < d2[j]!
          · simp -implicitDefEqProofs only [go_sem, hc, hjm, encAt_some (ag16 (d := d2) (i := j + 1) (by omega)), encAt_some (ag16 (d := d2) (i := j) (by omega)), eI16]
            have e : Sort.shiftDown Sort.ltInt j (Sort.swp d2 (j + 1) j) = Sort.shiftDown Sort.ltInt (i - 1) d1 := by rw [← m3, Sort.shiftDown.eq_def _ (j + 1)]; simp [Sort.ltInt, hc]
            refine ⟨⟨by omega, by omega⟩, ⟨by omega, by omega⟩, ⟨by omega, by omega⟩, ⟨by omega, by omega⟩, ⟨by omega, by omega⟩, d2[j]!, ⟨by omega, rfl⟩, ⟨by omega, by rw [List.length_set]; omega⟩, d2[j + 1]!, ⟨by rw [List.length_set]; omega, row16 (by rw [List.length_set]; omega)⟩, ⟨by omega, by omega⟩, ?_⟩
            exact hE4 _ (j, Sort.swp d2 (j + 1) j) ⟨by simp only; omega, by rw [Sort.size_swp]; exact m2, e⟩ (by show j < j + 1; omega) ⟨rfl, rfl, rfl, rfl, rfl, rfl, trivial⟩ ⟨by rw [aswp]; rfl, trivial⟩ (fun _ h => h)
          · simp -implicitDefEqProofs only [go_sem, hc]
            have e : Sort.shiftDown Sort.ltInt (i - 1) d1 = d2 := by rw [← m3, Sort.shiftDown.eq_def _ (j + 1)]; simp [Sort.ltInt]; omega
            have hst := hstep
            rw [e] at hst
            by_cases hb2 : (2 : Int) ≤ (BI : Int)
            · rw [show Sort.fixUp Sort.ltInt b i d2 = Sort.shiftUp Sort.ltInt b (i + 1) d2 from by unfold Sort.fixUp; rw [if_pos (by omega)]] at hst
              simp -implicitDefEqProofs only [go_sem, hBIi, hb2]
              refine ⟨⟨by omega, by omega⟩, ⟨by omega, by omega⟩, ?_⟩
              refine loopR (ι := Nat × Array Int) (fun p => i + 1 ≤ p.1 ∧ p.1 ≤ b ∧ p.2.size = d.size ∧ Sort.shiftUp Sort.ltInt b p.1 p.2 = Sort.shiftUp Sort.ltInt b (i + 1) d2) [0, 1, 2, 7, 8] (fun p => [(10, I64 p.1)]) (fun p => [(0, U16 p.2)]) [] (fun p => b - p.1) (i + 1, d2) ⟨Nat.le_refl _, by simp only; omega, m2, rfl⟩ ⟨rfl, trivial⟩ ⟨rfl, trivial⟩ (fun _ h => h) (fun i => rfl) (fun i => rfl) ?_
              rintro ⟨j, dj⟩ ⟨k1, k2, k3, k4⟩ E3 hE3
              simp only at k1 k2 k3 k4
              have hlj : dj.toList.length = dj.size := Array.length_toList
              have hjm : (j : Int) - 1 = ((j - 1 : Nat) : Int) := by omega
              by_cases hjb : (j : Int) < (b : Int)
              · simp -implicitDefEqProofs only [go_sem, hjb, hjm, encAt_some (ag16 (d := dj) (i := j) (by omega)), encAt_some (ag16 (d := dj) (i := j - 1) (by omega)), eI16]
                refine ⟨⟨by omega, by omega⟩, ⟨by omega, by omega⟩, ⟨by omega, by omega⟩, call0 (t_less16 _ _) rfl rfl ?_⟩
                by_cases hc : dj[j]! < dj[j - 1]!
                · simp -implicitDefEqProofs only [go_sem, hc, hjm, encAt_some (ag16 (d := dj) (i := j) (by omega)), encAt_some (ag16 (d := dj) (i := j - 1) (by omega)), eI16]
                  have e : Sort.shiftUp Sort.ltInt b (j + 1) (Sort.swp dj j (j - 1)) = Sort.shiftUp Sort.ltInt b (i + 1) d2 := by rw [← k4, Sort.shiftUp.eq_def _ _ j, if_pos (by omega), if_neg (by simp [Sort.ltInt, hc])]
                  refine ⟨⟨by omega, by omega⟩, ⟨by omega, by omega⟩, ⟨by omega, by omega⟩, ⟨by omega, by omega⟩, ⟨by omega, by omega⟩, dj[j - 1]!, ⟨by omega, rfl⟩, ⟨by omega, by rw [List.length_set]; omega⟩, dj[j]!, ⟨by rw [List.length_set]; omega, row16 (by rw [List.length_set]; omega)⟩, ⟨by omega, by omega⟩, ?_⟩
                  exact hE3 _ (j + 1, Sort.swp dj j (j - 1)) ⟨by simp only; omega, by simp only; omega, by rw [Sort.size_swp]; exact k3, e⟩ (by show b - (j + 1) < b - j; omega) ⟨rfl, rfl, rfl, rfl, rfl, rfl, trivial⟩ ⟨by rw [aswp]; rfl, trivial⟩ (fun _ h => h)
                · simp -implicitDefEqProofs only [go_sem, hc, hs5]
                  have e : Sort.shiftUp Sort.ltInt b (i + 1) d2 = dj := by rw [← k4, Sort.shiftUp.eq_def _ _ j, if_pos (by omega), if_pos (by simp [Sort.ltInt]; omega)]
                  have hst2 := hst
                  rw [e] at hst2
                  exact ⟨⟨by omega, by omega⟩, hE _ (s, i, dj) ⟨by simp only; omega, by simp only; omega, by simp only; omega, by simp only; exact k3, hst2⟩ (by show s < s + 1; omega) ⟨rfl, rfl, rfl, rfl, rfl, trivial⟩ ⟨rfl, trivial⟩ (fun _ h => h)⟩
              · simp -implicitDefEqProofs only [go_sem, hjb, hs5]
                have e : Sort.shiftUp Sort.ltInt b (i + 1) d2 = dj := by rw [← k4, Sort.shiftUp.eq_def _ _ j, if_neg (by omega)]
                have hst2 := hst
                rw [e] at hst2
                exact ⟨⟨by omega, by omega⟩, hE _ (s, i, dj) ⟨by simp only; omega, by simp only; omega, by simp only; omega, by simp only; exact k3, hst2⟩ (by show s < s + 1; omega) ⟨rfl, rfl, rfl, rfl, rfl, trivial⟩ ⟨rfl, trivial⟩ (fun _ h => h)⟩
            · rw [show Sort.fixUp Sort.ltInt b i d2 = d2 from by unfold Sort.fixUp; rw [if_neg (by omega)]] at hst
              simp -implicitDefEqProofs only [go_sem, hBIi, hb2, hs5]
              have hst2 := hst
              exact ⟨⟨by omega, by omega⟩, ⟨by omega, by omega⟩, hE _ (s, i, d2) ⟨by simp only; omega, by simp only; omega, by simp only; omega, by simp only; exact m2, hst2⟩ (by show s < s + 1; omega) ⟨rfl, rfl, rfl, rfl, rfl, trivial⟩ ⟨rfl, trivial⟩ (fun _ h => h)⟩
      · rw [show Sort.fixDown Sort.ltInt a i d1 = d1 from by unfold Sort.fixDown; rw [if_neg (by omega)]] at hstep
        simp -implicitDefEqProofs only [go_sem, hIAi, ha2]
        have hst := hstep
        refine ⟨⟨by omega, by omega⟩, ?_⟩
        by_cases hb2 : (2 : Int) ≤ (BI : Int)
        · rw [show Sort.fixUp Sort.ltInt b i d1 = Sort.shiftUp Sort.ltInt b (i + 1) d1 from by unfold Sort.fixUp; rw [if_pos (by omega)]] at hst
          simp -implicitDefEqProofs only [go_sem, hBIi, hb2]
          refine ⟨⟨by omega, by omega⟩, ⟨by omega, by omega⟩, ?_⟩
          refine loopR (ι := Nat × Array Int) (fun p => i + 1 ≤ p.1 ∧ p.1 ≤ b ∧ p.2.size = d.size ∧ Sort.shiftUp Sort.ltInt b p.1 p.2 = Sort.shiftUp Sort.ltInt b (i + 1) d1) [0, 1, 2, 7, 8] (fun p => [(10, I64 p.1)]) (fun p => [(0, U16 p.2)]) [] (fun p => b - p.1) (i + 1, d1) ⟨Nat.le_refl _, by simp only; omega, hz1, rfl⟩ ⟨rfl, trivial⟩ ⟨rfl, trivial⟩ (fun _ h => h) (fun i => rfl) (fun i => rfl) ?_
          rintro ⟨j, dj⟩ ⟨k1, k2, k3, k4⟩ E3 hE3
          simp only at k1 k2 k3 k4
          have hlj : dj.toList.length = dj.size := Array.length_toList
          have hjm : (j : Int) - 1 = ((j - 1 : Nat) : Int) := by omega
          by_cases hjb : (j : Int) < (b : Int)
          · simp -implicitDefEqProofs only [go_sem, hjb, hjm, encAt_some (ag16 (d := dj) (i := j) (by omega)), encAt_some (ag16 (d := dj) (i := j - 1) (by omega)), eI16]
            refine ⟨⟨by omega, by omega⟩, ⟨by omega, by omega⟩, ⟨by omega, by omega⟩, call0 (t_less16 _ _) rfl rfl ?_⟩
            by_cases hc : dj[j]! < dj[j - 1]!
            · simp -implicitDefEqProofs only [go_sem, hc, hjm, encAt_some (ag16 (d := dj) (i := j) (by omega)), encAt_some (ag16 (d := dj) (i := j - 1) (by omega)), eI16]
              have e : Sort.shiftUp Sort.ltInt b (j + 1) (Sort.swp dj j (j - 1)) = Sort.shiftUp Sort.ltInt b (i + 1) d1 := by rw [← k4, Sort.shiftUp.eq_def _ _ j, if_pos (by omega), if_neg (by simp [Sort.ltInt, hc])]
              refine ⟨⟨by omega, by omega⟩, ⟨by omega, by omega⟩, ⟨by omega, by omega⟩, ⟨by omega, by omega⟩, ⟨by omega, by omega⟩, dj[j - 1]!, ⟨by omega, rfl⟩, ⟨by omega, by rw [List.length_set]; omega⟩, dj[j]!, ⟨by rw [List.length_set]; omega, row16 (by rw [List.length_set]; omega)⟩, ⟨by omega, by omega⟩, ?_⟩
              exact hE3 _ (j + 1, Sort.swp dj j (j - 1)) ⟨by simp only; omega, by simp only; omega, by rw [Sort.size_swp]; exact k3, e⟩ (by show b - (j + 1) < b - j; omega) ⟨rfl, rfl, rfl, rfl, rfl, rfl, trivial⟩ ⟨by rw [aswp]; rfl, trivial⟩ (fun _ h => h)
            · simp -implicitDefEqProofs only [go_sem, hc, hs5]
              have e : Sort.shiftUp Sort.ltInt b (i + 1) d1 = dj := by rw [← k4, Sort.shiftUp.eq_def _ _ j, if_pos (by omega), if_pos (by simp [Sort.ltInt]; omega)]
              have hst2 := hst
              rw [e] at hst2
              exact ⟨⟨by omega, by omega⟩, hE _ (s, i, dj) ⟨by simp only; omega, by simp only; omega, by simp only; omega, by simp only; exact k3, hst2⟩ (by show s < s + 1; omega) ⟨rfl, rfl, rfl, rfl, rfl, trivial⟩ ⟨rfl, trivial⟩ (fun _ h => h)⟩
          · simp -implicitDefEqProofs only [go_sem, hjb, hs5]
            have e : Sort.shiftUp Sort.ltInt b (i + 1) d1 = dj := by rw [← k4, Sort.shiftUp.eq_def _ _ j, if_neg (by omega)]
            have hst2 := hst
            rw [e] at hst2
            exact ⟨⟨by omega, by omega⟩, hE _ (s, i, dj) ⟨by simp only; omega, by simp only; omega, by simp only; omega, by simp only; exact k3, hst2⟩ (by show s < s + 1; omega) ⟨rfl, rfl, rfl, rfl, rfl, trivial⟩ ⟨rfl, trivial⟩ (fun _ h => h)⟩
        · rw [show Sort.fixUp Sort.ltInt b i d1 = d1 from by unfold Sort.fixUp; rw [if_neg (by omega)]] at hst
          simp -implicitDefEqProofs only [go_sem, hBIi, hb2, hs5]
          have hst2 := hst
          exact ⟨⟨by omega, by omega⟩, ⟨by omega, by omega⟩, hE _ (s, i, d1) ⟨by simp only; omega, by simp only; omega, by simp only; omega, by simp only; exact hz1, hst2⟩ (by show s < s + 1; omega) ⟨rfl, rfl, rfl, rfl, rfl, trivial⟩ ⟨rfl, trivial⟩ (fun _ h => h)⟩
end Go.Proofs.Ytbpobdlahighoaa.Sx
/- slices.Sort at []uint16: the whole. -/
namespace Go.Proofs.Ytbpobdlahighoaa.Sx
open Go
set_option linter.unusedVariables false
set_option linter.unusedSimpArgs false
set_option maxRecDepth 100000

/-- What is still to do, on a smaller part. -/
def Goes (a b : Nat) (d : Array Int) (a' b' : Nat) (dk : Array Int) : Prop := ∀ R, Sort.PermIn a' b' dk R → Sort.SortedIn Sort.ltInt a' b' R → Sort.PermIn a b d R ∧ Sort.SortedIn Sort.ltInt a b R
structure PI (a b : Nat) (d : Array Int) (a' b' : Nat) (dk : Array Int) (lim : Nat) : Prop where
  h1 : a ≤ a'
  h2 : a' ≤ b'
  h3 : b' ≤ b
  size : dk.size = d.size
  lim : lim ≤ 64
  below : Sort.Below Sort.ltInt a' b' dk
  goes : Goes a b d a' b' dk
theorem Goes.perm {a b a' b' : Nat} {d dk d1 : Array Int} (h : Goes a b d a' b' dk) (hp : Sort.PermIn a' b' dk d1) : Goes a b d a' b' d1 := fun R h1 h2 => h R (Sort.permIn_trans _ _ _ a' b' hp h1) h2
theorem PI.perm {a b a' b' lim lim' : Nat} {d dk d1 : Array Int} (h : PI a b d a' b' dk lim) (hb : b ≤ d.size) (hp : Sort.PermIn a' b' dk d1) (hl : lim' ≤ 64) : PI a b d a' b' d1 lim' :=
  ⟨h.h1, h.h2, h.h3, hp.1.trans h.size, hl, h.below.perm (by have := h.h3; have := h.size; omega) hp, h.goes.perm hp⟩
def pdqQ (a b : Nat) (d : Array Int) (r : SV) (post : List Res) : Prop := r = .tup [] ∧ ∃ d', Sort.PermIn a b d d' ∧ Sort.SortedIn Sort.ltInt a b d' ∧ post = [U16 d']
theorem cutR {run : List VI → St → Prop} {x y : Code} {k : List VI} {st : St} {ι : Type} (I : ι → Prop) (S : ι → St) (h1 : ∀ E : St → Prop, (∀ st' i, I i → matE st'.env (S i).env → matR st'.res (S i).res → st'.nx = (S i).nx → (∀ t ∈ st'.mv, t ∈ (S i).mv) → E st') → run (.code x :: .loop E :: .code y :: k) st)
    (h2 : ∀ i, I i → run (.code y :: k) (S i)) : CutVC run x y k st := ⟨ι, I, S, fun E hE => h1 E (fun st' i a b c d e => hE st' ⟨i, a, b, c, d, e⟩), h2⟩
set_option maxHeartbeats 2000000 in
theorem t_pdq16 : ∀ (N : Nat) (d : Array Int) (a b lim : Nat), b - a < N → a ≤ b → b ≤ d.size → d.size ≤ 1048576 → lim ≤ 64 → Sort.Below Sort.ltInt a b d →
    Tri Pr 89 [.h 0, I64 a, I64 b, I64 lim] [U16 d] [] (pdqQ a b d)
  | 0, d, a, b, lim, hN, _, _, _, _, _ => by omega
  | N + 1, d, a, b, lim, hN, hab, hb, hs, hlim, hbelow => by
    have IH := t_pdq16 N
    refine tri_fn Try.f89 [] [] [1010, 1015, 1017, 17] 1000 (by kernel_rfl) (by kernel_rfl) (by kernel_rfl) (by kernel_rfl) (by kernel_rfl) (by kernel_rfl) (Nat.le_of_ble_eq_true rfl) ?_
    simp -implicitDefEqProofs only [go_sem, Try.f89]
    refine loopR (ι := Nat × Nat × Array Int × Nat × Bool × Bool) (fun i => PI a b d i.1 i.2.1 i.2.2.1 i.2.2.2.1) [0] (fun i => [(1, I64 i.1), (2, I64 i.2.1), (3, I64 i.2.2.2.1), (8, .v (.bool i.2.2.2.2.1)), (9, .v (.bool i.2.2.2.2.2))]) (fun i => [(0, U16 i.2.2.1)]) [] (fun i => i.2.1 - i.1) (a, b, d, lim, true, true)
      ⟨Nat.le_refl _, hab, Nat.le_refl _, rfl, hlim, hbelow, fun R h1 h2 => ⟨h1, h2⟩⟩ ⟨rfl, rfl, rfl, rfl, rfl, trivial⟩ ⟨rfl, trivial⟩ (fun _ h => h) (fun i => rfl) (fun i => rfl) ?_
    rintro ⟨a', b', dk, lm, wb, wp⟩ hI E hE
    simp only at hI hE
    obtain ⟨g1, g2, g3, g4, g5, g6, g7⟩ := hI
    have hI : PI a b d a' b' dk lm := ⟨g1, g2, g3, g4, g5, g6, g7⟩
    obtain ⟨L, hL⟩ : ∃ L, L = b' - a' := ⟨_, rfl⟩
    have hLi : (b' : Int) - (a' : Int) = (L : Int) := by omega
    by_cases h12 : (L : Int) ≤ 12
    · simp -implicitDefEqProofs only [go_sem, hLi, h12]
      refine ⟨⟨by omega, by omega⟩, callU (t_ins16 dk a' b' g2 (by omega) (by omega)) (by simp -implicitDefEqProofs only [go_sem]; simp) (fun ρ => rfl) (fun ρ => rfl) ?_⟩
      simp -implicitDefEqProofs only [go_sem]
      have hh := Sort.insertionSort_holds (lt := Sort.ltInt) Sort.swo_ltInt dk a' b' g2 (by omega)
      obtain ⟨q1, q2⟩ := g7 _ hh.1 hh.2
      exact retS [0] (.tup []) [U16 (Sort.insertionSort Sort.ltInt dk a' b')] (by simp -implicitDefEqProofs only [go_sem]; exact ⟨rfl, _, q1, q2, rfl⟩)
    by_cases hl0 : (lm : Int) = 0
    · simp -implicitDefEqProofs only [go_sem, hLi, h12, hl0]
      refine ⟨⟨by omega, by omega⟩, callU (t_heap16 dk a' b' g2 (by omega) (by omega)) (by simp -implicitDefEqProofs only [go_sem]; simp) (fun ρ => rfl) (fun ρ => rfl) ?_⟩
      simp -implicitDefEqProofs only [go_sem]
      have hh := Sort.heapSort_holds (lt := Sort.ltInt) Sort.swo_ltInt dk a' b' g2 (by omega)
      obtain ⟨q1, q2⟩ := g7 _ hh.1 hh.2
      exact retS [0] (.tup []) [U16 (Sort.heapSort Sort.ltInt dk a' b')] (by simp -implicitDefEqProofs only [go_sem]; exact ⟨rfl, _, q1, q2, rfl⟩)
    simp -implicitDefEqProofs only [go_sem, hLi, h12, hl0]
    refine ⟨⟨by omega, by omega⟩, ?_⟩
    refine cutR (ι := Array Int × Nat) (fun p => Sort.PermIn a' b' dk p.1 ∧ p.2 ≤ 64) (fun p => ⟨[(0, .h 0), (1, I64 a'), (2, I64 b'), (3, I64 p.2), (8, .v (.bool wb)), (9, .v (.bool wp)), (10, I64 L)], [(0, U16 p.1)], 1, []⟩) (fun E1 hE1 => ?_) ?_
    · cases wb with
      | true =>
        simp -implicitDefEqProofs only [go_sem]
        exact hE1 _ (dk, lm) ⟨Sort.permIn_refl _ _ _, g5⟩ ⟨rfl, rfl, rfl, rfl, rfl, rfl, rfl, trivial⟩ ⟨rfl, trivial⟩ rfl (fun _ h => h)
      | false =>
        have hlm : (lm : Int) - 1 = ((lm - 1 : Nat) : Int) := by omega
        simp -implicitDefEqProofs only [go_sem]
        refine callS [0] [] (t_break16 dk a' b' (by omega) (by omega) (by omega)) (by simp) (by simp -implicitDefEqProofs only [go_sem]; simp) (fun ρ => rfl) (fun ρ => rfl) ?_
        rintro _ _ ⟨rfl, d1, hp, rfl⟩
        simp -implicitDefEqProofs only [go_sem, hlm]
        exact ⟨⟨by omega, by omega⟩, hE1 _ (d1, lm - 1) ⟨hp, by simp only; omega⟩ ⟨rfl, rfl, rfl, rfl, rfl, rfl, rfl, trivial⟩ ⟨rfl, trivial⟩ rfl (fun _ h => h)⟩
    rintro ⟨d1, lm1⟩ ⟨p1, p2⟩
    simp only at p1 p2 ⊢
    have hI1 := hI.perm hb p1 p2
    have hz1 := hI1.size
    simp -implicitDefEqProofs only [go_sem]
    refine callS [0] [] (t_pivot16 d1 a' b' (by omega) (by omega) (by omega)) (by simp) (by simp -implicitDefEqProofs only [go_sem]; simp) (fun ρ => rfl) (fun ρ => rfl) ?_
    rintro _ _ ⟨pv, hint, rfl, rfl, v1, v2⟩
    simp -implicitDefEqProofs only [go_sem]
    refine cutR (ι := Array Int × Nat × Int) (fun p => Sort.PermIn a' b' d1 p.1 ∧ a' ≤ p.2.1 ∧ p.2.1 < b') (fun p => ⟨[(0, .h 0), (1, I64 a'), (2, I64 b'), (3, I64 lm1), (8, .v (.bool wb)), (9, .v (.bool wp)), (10, I64 L), (11, I64 p.2.1), (12, .v (.int .i64 p.2.2))], [(0, U16 p.1)], 1, []⟩) (fun E2 hE2 => ?_) ?_
    · by_cases hh2 : hint = 2
      · obtain ⟨pn, hpn⟩ : ∃ pn, pn = b' - 1 - (pv - a') := ⟨_, rfl⟩
        have hp1 : (b' : Int) - 1 = ((b' - 1 : Nat) : Int) := by omega
        have hp2 : (pv : Int) - (a' : Int) = ((pv - a' : Nat) : Int) := by omega
        have hp3 : ((b' - 1 : Nat) : Int) - ((pv - a' : Nat) : Int) = (pn : Int) := by omega
        simp -implicitDefEqProofs only [go_sem, hh2]
        refine callU (t_rev16r d1 a' b' (by omega) (by omega) (by omega)) (by simp -implicitDefEqProofs only [go_sem]; simp) (fun ρ => rfl) (fun ρ => rfl) ?_
        simp -implicitDefEqProofs only [go_sem, hp1, hp2, hp3]
        exact ⟨⟨by omega, by omega⟩, ⟨by omega, by omega⟩, ⟨by omega, by omega⟩, hE2 _ (Sort.reverseRange d1 a' b', pn, 1) ⟨Sort.reverseRange_holds d1 a' b' g2 (by omega), by simp only; omega, by simp only; omega⟩ ⟨rfl, rfl, rfl, rfl, rfl, rfl, rfl, rfl, rfl, trivial⟩ ⟨rfl, trivial⟩ rfl (fun _ h => h)⟩
      · simp -implicitDefEqProofs only [go_sem, hh2]
        exact hE2 _ (d1, pv, hint) ⟨Sort.permIn_refl _ _ _, v1, v2⟩ ⟨rfl, rfl, rfl, rfl, rfl, rfl, rfl, rfl, rfl, trivial⟩ ⟨rfl, trivial⟩ rfl (fun _ h => h)
    rintro ⟨d2, pv2, hint2⟩ ⟨w1, w2, w3⟩
    simp only at w1 w2 w3 ⊢
    have hI2 := hI1.perm hb w1 p2
    have hz2 := hI2.size
    simp -implicitDefEqProofs only [go_sem]
    refine cutR (ι := Array Int) (fun p => Sort.PermIn a' b' d2 p) (fun p => ⟨[(0, .h 0), (1, I64 a'), (2, I64 b'), (3, I64 lm1), (8, .v (.bool wb)), (9, .v (.bool wp)), (10, I64 L), (11, I64 pv2)], [(0, U16 p)], 1, []⟩) (fun E3 hE3 => ?_) ?_
    · have plain : ∀ st' : St, matE st'.env [(0, .h 0), (1, I64 a'), (2, I64 b'), (3, I64 lm1), (8, .v (.bool wb)), (9, .v (.bool wp)), (10, I64 L), (11, I64 pv2)] → matR st'.res [(0, U16 d2)] → st'.nx = 1 → (∀ t ∈ st'.mv, t ∈ ([] : List Nat)) → E3 st' := fun st' e1 e2 e3 e4 => hE3 st' d2 (Sort.permIn_refl _ _ _) e1 e2 e3 e4
      cases wb with
      | false =>
        simp -implicitDefEqProofs only [go_sem]
        exact plain _ ⟨rfl, rfl, rfl, rfl, rfl, rfl, rfl, rfl, trivial⟩ ⟨rfl, trivial⟩ rfl (fun _ h => h)
      | true =>
        cases wp with
        | false =>
          simp -implicitDefEqProofs only [go_sem]
          exact plain _ ⟨rfl, rfl, rfl, rfl, rfl, rfl, rfl, rfl, trivial⟩ ⟨rfl, trivial⟩ rfl (fun _ h => h)
        | true =>
          by_cases hh1 : hint2 = 1
          · simp -implicitDefEqProofs only [go_sem, hh1]
            have hpi := Sort.partialInsertionSort_holds (lt := Sort.ltInt) Sort.swo_ltInt d2 a' b' (by omega) (by omega) hI2.below
            refine callU (t_pins16 d2 a' b' (by omega) (by omega) (by omega)) (by simp -implicitDefEqProofs only [go_sem]; simp) (fun ρ => rfl) (fun ρ => rfl) ?_
            generalize Sort.partialInsertionSort Sort.ltInt d2 a' b' = X at hpi
            obtain ⟨d3, fin⟩ := X
            simp only at hpi
            cases fin with
            | true =>
              simp -implicitDefEqProofs only [go_sem]
              obtain ⟨q1, q2⟩ := hI2.goes _ hpi.1 (hpi.2 rfl)
              exact retS [0] (.tup []) [U16 d3] (by simp -implicitDefEqProofs only [go_sem]; exact ⟨rfl, _, q1, q2, rfl⟩)
            | false =>
              simp -implicitDefEqProofs only [go_sem]
              exact hE3 _ d3 hpi.1 ⟨rfl, rfl, rfl, rfl, rfl, rfl, rfl, rfl, trivial⟩ ⟨rfl, trivial⟩ rfl (fun _ h => h)
          · simp -implicitDefEqProofs only [go_sem, hh1]
            exact plain _ ⟨rfl, rfl, rfl, rfl, rfl, rfl, rfl, rfl, trivial⟩ ⟨rfl, trivial⟩ rfl (fun _ h => h)
    rintro d3 s3
    have hI3 := hI2.perm hb s3 p2
    have hz3 := hI3.size
    have hB3 := hI3.below
    -- the rest of the round
    have hlen3 : d3.toList.length = d3.size := Array.length_toList
    simp -implicitDefEqProofs only [go_sem]
    refine ⟨Bool, fun z => z = (decide (0 < a') && !Sort.ltInt d3[a' - 1]! d3[pv2]!), fun z => ⟨[(87, .v (.bool z)), (0, .h 0), (1, I64 a'), (2, I64 b'), (3, I64 lm1), (8, .v (.bool wb)), (9, .v (.bool wp)), (10, I64 L), (11, I64 pv2)], [(0, U16 d3)], 1, []⟩, ?_, fun z hz => ?_⟩
    · by_cases ha0 : (0 : Int) < (a' : Int)
      · have hm1 : (a' : Int) - 1 = ((a' - 1 : Nat) : Int) := by omega
        simp -implicitDefEqProofs only [go_sem, ha0, hm1, encAt_some (ag16 (d := d3) (i := a' - 1) (by omega)), encAt_some (ag16 (d := d3) (i := pv2) (by omega)), eI16]
        refine ⟨⟨by omega, by omega⟩, ⟨by omega, by omega⟩, ⟨by omega, by omega⟩, call0 (t_less16 _ _) rfl rfl ?_⟩
        by_cases hc : d3[a' - 1]! < d3[pv2]!
        · simp -implicitDefEqProofs only [go_sem, hc]
          exact ⟨false, by simp [Sort.ltInt, hc], ⟨rfl, rfl, rfl, rfl, rfl, rfl, rfl, rfl, rfl, trivial⟩, ⟨rfl, trivial⟩, rfl, fun _ h => h⟩
        · simp -implicitDefEqProofs only [go_sem, hc]
          exact ⟨true, by simp [Sort.ltInt]; omega, ⟨rfl, rfl, rfl, rfl, rfl, rfl, rfl, rfl, rfl, trivial⟩, ⟨rfl, trivial⟩, rfl, fun _ h => h⟩
      · simp -implicitDefEqProofs only [go_sem, ha0]
        exact ⟨false, by simp; omega, ⟨rfl, rfl, rfl, rfl, rfl, rfl, rfl, rfl, rfl, trivial⟩, ⟨rfl, trivial⟩, rfl, fun _ h => h⟩
    cases z with
    | true =>
      have hz' := hz.symm
      rw [Bool.and_eq_true, decide_eq_true_eq, Bool.not_eq_true'] at hz'
      simp -implicitDefEqProofs only [go_sem]
      refine callU (t_parteq16 d3 a' b' pv2 w2 w3 (by omega) (by omega)) (by simp -implicitDefEqProofs only [go_sem]; simp) (fun ρ => rfl) (fun ρ => rfl) ?_
      have hre := fun mid d4 => Sort.round_eq (lt := Sort.ltInt) (mid := mid) (d4 := d4) Sort.swo_ltInt (Sort.partitionEqual_holds _) hz'.1 w2 w3 (by omega) hB3 hz'.2
      generalize Sort.partitionEqual Sort.ltInt d3 a' b' pv2 = X at hre
      obtain ⟨mid, d4⟩ := X
      obtain ⟨r1, r2, r3, r4, r5⟩ := hre mid d4 rfl
      simp -implicitDefEqProofs only [go_sem]
      exact hE _ (mid, b', d4, lm1, wb, wp) ⟨by simp only; omega, r2, g3, r3.trans hz3, p2, r4, fun R e1 e2 => by obtain ⟨e3, e4⟩ := r5 R e1 e2; exact hI3.goes R e3 e4⟩ (by simp only; omega) ⟨rfl, rfl, rfl, rfl, rfl, rfl, trivial⟩ ⟨rfl, trivial⟩ (fun _ h => h)
    | false =>
      simp -implicitDefEqProofs only [go_sem]
      refine callU (t_part16 d3 a' b' pv2 w2 w3 (by omega) (by omega)) (by simp -implicitDefEqProofs only [go_sem]; simp) (fun ρ => rfl) (fun ρ => rfl) ?_
      have hrp := fun mid ap d4 => Sort.round_part (lt := Sort.ltInt) (mid := mid) (ap := ap) (d4 := d4) Sort.swo_ltInt (Sort.partition_holds _) w2 w3 (by omega) hB3
      generalize Sort.partition Sort.ltInt d3 a' b' pv2 = X at hrp
      obtain ⟨mid, ap, d4⟩ := X
      obtain ⟨r1, r2, r3, r4, r5, r6, r7⟩ := hrp mid ap d4 rfl
      have hm1 : (mid : Int) + 1 = ((mid + 1 : Nat) : Int) := by omega
      have hz4 : d4.size = d.size := r3.trans hz3
      by_cases hlt : (mid : Int) - (a' : Int) < (b' : Int) - (mid : Int)
      · simp -implicitDefEqProofs only [go_sem, hlt]
        refine ⟨⟨by omega, by omega⟩, ⟨by omega, by omega⟩, ?_⟩
        refine callS [0] [] (IH d4 a' mid lm1 (by omega) r1 (by omega) (by omega) p2 r4) (by simp) (by simp -implicitDefEqProofs only [go_sem]; simp) (fun ρ => rfl) (fun ρ => rfl) ?_
        rintro _ _ ⟨rfl, d5, q1, q2, rfl⟩
        obtain ⟨u1, u2⟩ := r6 d5 q1 q2
        simp -implicitDefEqProofs only [go_sem, hm1]
        exact ⟨⟨by omega, by omega⟩, hE _ (mid + 1, b', d5, lm1, _, ap) ⟨by simp only; omega, by simp only; omega, g3, q1.1.trans hz4, p2, u1, fun R e1 e2 => by obtain ⟨e3, e4⟩ := u2 R e1 e2; exact hI3.goes R e3 e4⟩ (by simp only; omega) ⟨rfl, rfl, rfl, rfl, rfl, rfl, trivial⟩ ⟨rfl, trivial⟩ (fun _ h => h)⟩
      · simp -implicitDefEqProofs only [go_sem, hlt, hm1]
        refine ⟨⟨by omega, by omega⟩, ⟨by omega, by omega⟩, ⟨by omega, by omega⟩, ?_⟩
        refine callS [0] [] (IH d4 (mid + 1) b' lm1 (by omega) (by omega) (by omega) (by omega) p2 r5) (by simp) (by simp -implicitDefEqProofs only [go_sem]; simp) (fun ρ => rfl) (fun ρ => rfl) ?_
        rintro _ _ ⟨rfl, d5, q1, q2, rfl⟩
        obtain ⟨u1, u2⟩ := r7 d5 q1 q2
        simp -implicitDefEqProofs only [go_sem]
        exact hE _ (a', mid, d5, lm1, _, ap) ⟨g1, r1, by simp only; omega, q1.1.trans hz4, p2, u1, fun R e1 e2 => by obtain ⟨e3, e4⟩ := u2 R e1 e2; exact hI3.goes R e3 e4⟩ (by simp only; omega) ⟨rfl, rfl, rfl, rfl, rfl, rfl, trivial⟩ ⟨rfl, trivial⟩ (fun _ h => h)
end Go.Proofs.Ytbpobdlahighoaa.Sx
