/- slices.Sort and slices.Sorted at uint16. -/
import Derived.Test.YtbpobdlahighoaaSxU1
import Derived.Test.YtbpobdlahighoaaSxY4
namespace Go.Proofs.Ytbpobdlahighoaa.Sx
open Go
set_option linter.unusedVariables false
set_option linter.unusedSimpArgs false
set_option maxRecDepth 100000

/-- A list in order. -/
def srt16 (xs : List Int) : List Int := xs.mergeSort fun x y => !Sort.ltInt y x
theorem t_sort16 (xs : List Int) (hx : xs.length ≤ 1048576) : TriF Pr 75 [.h 0] [.sl 1 eI16 xs] [] (.tup []) [.sl 1 eI16 (srt16 xs)] := by
  refine tri_fn Try.f75 [] [] [] 1000 (by kernel_rfl) (by kernel_rfl) (by kernel_rfl) (by kernel_rfl) (by kernel_rfl) (by kernel_rfl) (Nat.le_of_ble_eq_true rfl) ?_
  simp -implicitDefEqProofs only [go_sem, Try.f75, wrap_u64 (show xs.length < 18446744073709551616 by omega)]
  refine call0Q (Q := fun r => ∃ n : Nat, r = .v (.int .i64 n) ∧ bitsQ xs.length n ∧ n ≤ 40) (t_bitsLen xs.length hx) rfl ?_
  rintro _ ⟨n, rfl, _, hn⟩
  simp -implicitDefEqProofs only [go_sem]
  have h := t_pdq16 (xs.toArray.size + 1) xs.toArray 0 xs.toArray.size n (by omega) (by omega) (by omega) (by simpa using hx) (by omega) (.inl rfl)
  refine callS [0] [] h (by simp) (by simp -implicitDefEqProofs only [go_sem]; simp) (fun ρ => by simp -implicitDefEqProofs only [go_sem]; simp) (fun ρ => rfl) ?_
  rintro _ _ ⟨rfl, d', h1, h2, rfl⟩
  have e := Sort.sorted_unique_holds (lt := Sort.ltInt) Sort.swo_ltInt (fun x y h1 h2 => by simp [Sort.ltInt] at h1 h2; omega) xs.toArray d' h1 h2
  have e' : d'.toList = srt16 xs := e
  simp -implicitDefEqProofs only [go_sem, U16, e']
  exact retS [0] (.tup []) [.sl 1 eI16 (srt16 xs)] (by simp -implicitDefEqProofs only [go_sem])
theorem srt16_perm (xs : List Int) : (srt16 xs).Perm xs := List.mergeSort_perm _ _
theorem srt16_sorted (xs : List Int) : (srt16 xs).Pairwise (fun x y => x ≤ y) := by
  have := List.pairwise_mergeSort (le := fun x y => !Sort.ltInt y x) (fun a b c h1 h2 => by simp [Sort.ltInt] at h1 h2 ⊢; omega) (fun a b => by simp [Sort.ltInt]; omega) xs
  exact this.imp (fun h => by simpa [Sort.ltInt] using h)
/-- slices.Sorted of a map's keys -/
theorem t_sorted (S : Value → Prop) (kv : List (Value × Value)) (keys : List Int) (hl : keys.length ≤ 1048576) (hk : kv.map (·.1) = keys.map fun x => .int .u16 x) :
    Tri Pr 51 [.fn 76 [] [.rop [.rom S kv]]] [] [] (fun r post => r = .h 0 ∧ ∃ xs : List Int, xs.Perm keys ∧ xs.Pairwise (fun x y => x ≤ y) ∧ post = [.sl 1 eI16 xs]) := by
  refine tri_fn Try.f51 [] [] [] 100 (by kernel_rfl) (by kernel_rfl) (by kernel_rfl) (by kernel_rfl) (by kernel_rfl) (by kernel_rfl) (Nat.le_of_ble_eq_true rfl) ?_
  simp -implicitDefEqProofs only [go_sem, Try.f51]
  refine callS [] [] (t_collect S kv keys hl hk) (by simp) (by simp) (fun ρ => rfl) (fun ρ => rfl) ?_
  rintro r post ⟨rfl, xs, hx, rfl⟩
  simp -implicitDefEqProofs only [go_sem]
  have hxl := hx.length_eq
  refine callS [0] [] (t_sort16 xs (by omega)) (by simp) (by simp -implicitDefEqProofs only [go_sem]; simp) (fun ρ => rfl) (fun ρ => rfl) ?_
  rintro r post ⟨rfl, rfl⟩
  simp -implicitDefEqProofs only [go_sem]
  exact retS [0] (.h 0) [.sl 1 eI16 (srt16 xs)] (by simp -implicitDefEqProofs only [go_sem]; exact ⟨_, (srt16_perm xs).trans hx, srt16_sorted xs, rfl⟩)
end Go.Proofs.Ytbpobdlahighoaa.Sx
