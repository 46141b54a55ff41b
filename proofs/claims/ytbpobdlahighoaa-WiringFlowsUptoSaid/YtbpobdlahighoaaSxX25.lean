/- The law WiringFlows, walked. -/
import Derived.Test.YtbpobdlahighoaaSxX24
namespace Go.Proofs.Ytbpobdlahighoaa.Sx
open Go
set_option linter.unusedVariables false
set_option linter.unusedSimpArgs false
set_option maxRecDepth 100000

/-- fenestralaw18.WiringFlows -/
theorem t_flows (c : Cfg) (hc : c.ok) (a b : Int) : TriF Pr 7 [sCfg c, .v (.int .u16 a), .v (.int .u16 b)] [] [] (.v (.bool true)) [] := by
  refine tri_fn Try.f7 [(13, .op 0 (.op 1 (.op 3 (.op 4 (.op 7 (.op 8 (.ro 2 (.ro 6 (.op 5 (.op 9 (.op 10 (.op 11 (.op 12 (.nil))))))))))))))] [3] [] 1000 (by kernel_rfl) (by kernel_rfl) (by kernel_rfl) (by kernel_rfl) (by kernel_rfl) (by kernel_rfl) (Nat.le_of_ble_eq_true rfl) ?_
  have hpl := hc.parts
  simp -implicitDefEqProofs only [go_sem, Try.f7, sCfg, eCfg]
  refine call0 (t_lright c hc) rfl rfl ?_
  cases hr : (fewR c && rightR c) with
  | false =>
    simp -implicitDefEqProofs only [go_sem]
    refine call0 t_alive rfl rfl ?_
    simp -implicitDefEqProofs only [go_sem]
    exact ret0 rfl (by simp -implicitDefEqProofs only [go_sem])
  | true =>
    have hR : RightP c := right_of (by simp only [Bool.and_eq_true] at hr; exact hr.2)
    simp -implicitDefEqProofs only [go_sem]
    refine call0Q (t_wMatrix c hc hR.wired) rfl ?_
    rintro r ⟨vs, v, hvl, rfl⟩
    rw [mat_eq hR]
    simp -implicitDefEqProofs only [go_sem]
    refine call0Q (t_rMatrix c hc hR.linked) rfl ?_
    rintro r ⟨ws, w, hwl, rfl⟩
    have hz1 : ((mtR c).zip vs).length = c.parts.length := by simp [mtR, hvl]
    have hz2 : ((mtR c).zip ws).length = c.parts.length := by simp [mtR, hwl]
    simp -implicitDefEqProofs only [go_sem, hz1, hz2]
    refine loop0 (fun i => i ≤ c.parts.length) [1, 2, 3, 7, 8, 24] (fun i => [(25, .v (.int .i64 i))]) (fun i => c.parts.length - i) 0 (by omega) ⟨rfl, trivial⟩ (fun i => rfl) rfl ?_
    intro i hi E hE
    by_cases hlt : (i : Int) < c.parts.length
    · obtain ⟨p, hp⟩ := get_lt hlt
      have hm : (mtR c)[i]? = some (rowR c p c.parts.length) := by unfold mtR; rw [List.getElem?_map, hp]; rfl
      obtain ⟨v', hv'⟩ : ∃ w, vs[i]? = some w := ⟨_, List.getElem?_eq_getElem (by omega)⟩
      obtain ⟨w', hw'⟩ : ∃ w, ws[i]? = some w := ⟨_, List.getElem?_eq_getElem (by omega)⟩
      have hv : ((mtR c).zip vs)[i]? = some (rowR c p c.parts.length, v') := by rw [List.getElem?_zip_eq_some]; exact ⟨hm, hv'⟩
      have hw : ((mtR c).zip ws)[i]? = some (rowR c p c.parts.length, w') := by rw [List.getElem?_zip_eq_some]; exact ⟨hm, hw'⟩
      have hrl := rowR_len c p c.parts.length
      have heq := t_equalI (rowR c p c.parts.length) (rowR c p c.parts.length) (by omega) v' w'
      rw [decide_eq_true rfl] at heq
      simp -implicitDefEqProofs only [go_sem, hlt, encAt_some hv, encAt_some hw, hz1, hz2]
      refine ⟨by omega, by omega, call0 heq rfl rfl ?_⟩
      simp -implicitDefEqProofs only [go_sem]
      exact ⟨inI64_nat hi hpl, hE _ (i + 1) (by omega) (by omega) ⟨rfl, rfl, rfl, rfl, rfl, rfl, rfl, trivial⟩ trivial (fun _ h => h)⟩
    · simp -implicitDefEqProofs only [go_sem, hlt]
      refine call0 t_alive rfl rfl ?_
      simp -implicitDefEqProofs only [go_sem]
      refine call0 (t_flowB c hc hR.wired a b) rfl rfl ?_
      simp -implicitDefEqProofs only [go_sem]
      refine call0 (t_rFlow c hc hR a b) rfl rfl ?_
      simp -implicitDefEqProofs only [go_sem]
      exact ret0 rfl (by simp -implicitDefEqProofs only [go_sem])
end Go.Proofs.Ytbpobdlahighoaa.Sx
