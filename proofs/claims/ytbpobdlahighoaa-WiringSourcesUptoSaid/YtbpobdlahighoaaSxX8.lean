/- slices.Clone. -/
import Derived.Test.YtbpobdlahighoaaSxX7
namespace Go.Proofs.Ytbpobdlahighoaa.Sx
open Go
set_option linter.unusedVariables false
set_option linter.unusedSimpArgs false
set_option maxRecDepth 100000

attribute [go_sem] List.size_toArray
def eInt (x : Int) : List SV := [.v (.int .i64 x)]
/-- A slice that is told by memory that nobody writes is nil only where it is empty. -/
theorem tri_ro {P : Program} {f : FuncId} {args : List SV} {pre : List Res} {mv : List Nat} {Q : SV → List Res → Prop} {α : Type} {sz : Nat} {enc : α → List SV} {xs : List α} {v : Value} (hc : callable P f)
    (h : (isNilV v = true → xs = []) → Tri P f (.ro sz enc xs v :: args) pre mv Q) : Tri P f (.ro sz enc xs v :: args) pre mv Q := by
  refine ⟨hc, fun w ν H F vs h1 h2 h3 h4 h5 => ?_⟩
  refine (h ?_).2 w ν H F vs h1 h2 h3 h4 h5
  cases h3 with
  | cons hd _ =>
    obtain ⟨rfl, hr⟩ := hd.ro_inv
    intro hn
    cases hr with
    | ro cs k1 k2 k3 k4 =>
      cases xs with
      | nil => rfl
      | cons x xs =>
        obtain ⟨_, b, o, e, _⟩ := k2 0 (by simp)
        subst e
        simp [isNilV] at hn
theorem t_clone (xs : List Int) (hx : xs.length ≤ 1048576) (v : Value) : TriF Pr 46 [.ro 1 eInt xs v] [] [] (.h 0) [.sl 1 eInt xs] := by
  refine tri_ro (callable_of (fn := Try.f46) (by kernel_rfl) (by kernel_rfl) (by kernel_rfl)) fun hn => ?_
  refine tri_fnG Try.f46 [] [] [] [2] 1000 (by kernel_rfl) (by kernel_rfl) (by kernel_rfl) (by kernel_rfl) (by kernel_rfl) (by kernel_rfl) (Nat.le_of_ble_eq_true rfl) ?_
  by_cases hv : isNilV v = true
  · have := hn hv
    subst this
    simp -implicitDefEqProofs only [go_sem, Try.f46, hv]
    refine ⟨[.nil 2], ?_⟩
    simp -implicitDefEqProofs only [go_sem]
    refine ⟨Int, 1, eInt, retS [0] (.h 0) [.sl 1 eInt []] ?_⟩
    simp -implicitDefEqProofs only [go_sem]
  · have hv' : isNilV v = false := by simpa using hv
    simp -implicitDefEqProofs only [go_sem, Try.f46, hv']
    refine ⟨Int, eInt, xs, rfl, ⟨fun z _ => rfl, by omega, by omega⟩, ?_⟩
    refine retS [0] (.h 0) [.sl 1 eInt xs] ?_
    simp -implicitDefEqProofs only [go_sem]
    omega
end Go.Proofs.Ytbpobdlahighoaa.Sx
