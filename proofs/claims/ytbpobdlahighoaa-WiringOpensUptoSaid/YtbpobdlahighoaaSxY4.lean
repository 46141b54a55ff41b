/- maps.Keys, slices.AppendSeq and slices.Collect over uint16. -/
import Derived.Test.YtbpobdlahighoaaSxY3
import Derived.Test.YtbpobdlahighoaaSxU1
namespace Go.Proofs.Ytbpobdlahighoaa.Sx
open Go
set_option linter.unusedVariables false
set_option linter.unusedSimpArgs false
set_option maxRecDepth 100000

/-- maps.Keys over a map that is written no more -/
theorem t_keys (S : Value → Prop) (kv : List (Value × Value)) : TriF Pr 52 [.rom S kv] [] [] (.fn 76 [] [.rop [.rom S kv]]) [] := by
  refine tri_fn Try.f52 [] [1] [] 100 (by kernel_rfl) (by kernel_rfl) (by kernel_rfl) (by kernel_rfl) (by kernel_rfl) (by kernel_rfl) (Nat.le_of_ble_eq_true rfl) ?_
  simp -implicitDefEqProofs only [go_sem, Try.f52]
  exact ret0 rfl (by simp -implicitDefEqProofs only [go_sem])
/-- slices.AppendSeq to nil -/
theorem t_appSeq (g : FuncId) (cap : List SV) (hrd : cap.all rd = true) (keys : List Int) (hl : keys.length ≤ 1048576) (hit : IterOk Pr g cap eI16 (fun pre x => ∃ r, (pre ++ x :: r).Perm keys) (fun xs => xs.Perm keys) (fun _ => True)) :
    Tri Pr 88 [.v (.slice none 0 0), .fn g [] cap] [] [] (fun r post => r = .h 0 ∧ ∃ xs : List Int, xs.Perm keys ∧ post = [.sl 1 eI16 xs]) := by
  refine tri_fnG Try.f88 [] [] [] [1] 100 (by kernel_rfl) (by kernel_rfl) (by kernel_rfl) (by kernel_rfl) (by kernel_rfl) (by kernel_rfl) (Nat.le_of_ble_eq_true rfl) ?_
  simp -implicitDefEqProofs only [go_sem, Try.f88]
  refine ⟨[.nilc 0 0], ?_⟩
  simp -implicitDefEqProofs only [go_sem]
  refine ⟨Int, 1, eI16, ?_⟩
  refine rangeR (ι := List Int) (fun pre xs => xs = pre ∧ ∃ r, (pre ++ r).Perm keys) (fun xs => [(1, .sl 1 eI16 xs)]) [1] [] hit rfl hrd (fun x => rfl) (fun p h => by simp at h; subst h; exact Nat.le_of_ble_eq_true rfl) ⟨rfl, keys, .refl _⟩ ⟨rfl, trivial⟩ (fun i => rfl) ?_ ?_
  · rintro pre x xs ⟨rfl, _⟩ ⟨r, hr⟩ E hE _ _
    have hlen := hr.length_eq
    simp only [List.length_append, List.length_cons] at hlen
    have hfit : appFit eI16 [x] xs.length 2 := ⟨fun z _ => rfl, by simp; omega, by simp; omega⟩
    simp -implicitDefEqProofs only [go_sem, eI16]
    refine ⟨[x], ⟨rfl, ⟨[], rfl, rfl, rfl⟩⟩, hfit, hE _ (xs ++ [x]) ⟨rfl, r, by simpa using hr⟩ ⟨rfl, rfl, trivial⟩ (fun t h => h)⟩
  · rintro ys xs hys ⟨rfl, _⟩
    simp -implicitDefEqProofs only [go_sem]
    exact retS [1] (.h 0) [.sl 1 eI16 xs] (by simp -implicitDefEqProofs only [go_sem]; exact ⟨⟨xs, hys, rfl⟩, fun t _ h => absurd h (Nat.not_lt_zero t)⟩)
/-- slices.Collect of a map's keys -/
theorem t_collect (S : Value → Prop) (kv : List (Value × Value)) (keys : List Int) (hl : keys.length ≤ 1048576) (hk : kv.map (·.1) = keys.map fun x => .int .u16 x) :
    Tri Pr 74 [.fn 76 [] [.rop [.rom S kv]]] [] [] (fun r post => r = .h 0 ∧ ∃ xs : List Int, xs.Perm keys ∧ post = [.sl 1 eI16 xs]) := by
  refine tri_fn Try.f74 [] [] [] 100 (by kernel_rfl) (by kernel_rfl) (by kernel_rfl) (by kernel_rfl) (by kernel_rfl) (by kernel_rfl) (Nat.le_of_ble_eq_true rfl) ?_
  simp -implicitDefEqProofs only [go_sem, Try.f74]
  refine callS [] [] (t_appSeq 76 [.rop [.rom S kv]] rfl keys hl (keys_iter hk)) (by simp) (by simp) (fun ρ => rfl) (fun ρ => rfl) ?_
  rintro r post ⟨rfl, xs, hx, rfl⟩
  simp -implicitDefEqProofs only [go_sem]
  exact retS [0] (.h 0) [.sl 1 eI16 xs] (by simp -implicitDefEqProofs only [go_sem]; exact ⟨xs, hx, rfl⟩)
end Go.Proofs.Ytbpobdlahighoaa.Sx
