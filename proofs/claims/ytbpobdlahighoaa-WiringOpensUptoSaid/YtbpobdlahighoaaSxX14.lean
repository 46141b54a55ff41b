/- The law WiringChecks, walked. -/
import Derived.Test.YtbpobdlahighoaaSxX13
namespace Go.Proofs.Ytbpobdlahighoaa.Sx
open Go
set_option linter.unusedVariables false
set_option linter.unusedSimpArgs false
set_option maxRecDepth 100000

/-- fits -/
theorem t_fits (c : Cfg) (hc : c.ok) : TriF Pr 9 [sCfg c] [] [] (.v (.bool (fewR c && uniqR c))) [] := by
  refine tri_fn Try.f9 [] [1] [] 1000 (by kernel_rfl) (by kernel_rfl) (by kernel_rfl) (by kernel_rfl) (by kernel_rfl) (by kernel_rfl) (Nat.le_of_ble_eq_true rfl) ?_
  simp -implicitDefEqProofs only [go_sem, Try.f9, sCfg, eCfg]
  refine call0 (t_few c hc) rfl rfl ?_
  cases hf : fewR c with
  | true =>
    simp -implicitDefEqProofs only [go_sem, hf]
    refine call0 (t_unique c hc) rfl rfl ?_
    simp -implicitDefEqProofs only [go_sem]
    exact ret0 rfl (by simp -implicitDefEqProofs only [go_sem])
  | false =>
    simp -implicitDefEqProofs only [go_sem, hf]
    exact ret0 rfl (by simp -implicitDefEqProofs only [go_sem, Bool.false_and])
theorem portsF_zero (c : Cfg) : ∀ (l : List Prt) (i : Nat), (portsF c i l).1 = 0 → (portsF c i l).2 = 0
  | [], i, _ => by rw [portsF_nil]
  | p :: l, i, h => by
    rw [portsF_cons] at h ⊢
    by_cases h0 : portE c p = 0
    · rw [if_pos h0] at h ⊢; exact portsF_zero c l (i + 1) h
    · rw [if_neg h0] at h; exact absurd h h0
theorem chansF_zero (c : Cfg) : ∀ (l : List Chan) (u : List (Int × Bool)) (i : Nat), (chansF c u i l).1 = 0 → (chansF c u i l).2.1 = 0
  | [], u, i, _ => by rw [chansF_nil]
  | x :: l, u, i, h => by
    rw [chansF_cons] at h ⊢
    by_cases h0 : (chanF c u x).1 = 0
    · rw [if_pos h0] at h ⊢; exact chansF_zero c l _ (i + 1) h
    · rw [if_neg h0] at h; exact absurd h h0
/-- fenestralaw18.WiringChecks -/
theorem t_checks (c : Cfg) (hc : c.ok) : TriF Pr 3 [sCfg c] [] [] (.v (.bool true)) [] := by
  refine tri_fnG Try.f3 [(10, .op 0 (.op 1 (.op 2 (.ro 4 (.op 3 (.op 5 (.op 6 (.op 7 (.op 8 (.ro 10 (.op 9 (.op 11 (.op 12 (.op 13 (.nil)))))))))))))))] [1] [] [8, 9] 1000 (by kernel_rfl) (by kernel_rfl) (by kernel_rfl) (by kernel_rfl) (by kernel_rfl) (by kernel_rfl) (Nat.le_of_ble_eq_true rfl) ?_
  simp -implicitDefEqProofs only [go_sem, Try.f3, sCfg, eCfg]
  refine call0 (t_fits c hc) rfl rfl ?_
  cases hfit : (fewR c && uniqR c) with
  | false =>
    simp -implicitDefEqProofs only [go_sem, hfit]
    refine call0 t_alive rfl rfl ?_
    simp -implicitDefEqProofs only [go_sem]
    exact ret0 rfl (by simp -implicitDefEqProofs only [go_sem])
  | true =>
    simp -implicitDefEqProofs only [go_sem, hfit]
    refine call0 (t_rPorts c hc) rfl rfl ?_
    rw [ports_eq c]
    have hz1 := portsF_zero c c.ports 0
    have hw1 := t_wPorts c hc
    generalize portsF c 0 c.ports = F at hz1 hw1 ⊢
    obtain ⟨e, i⟩ := F
    simp -implicitDefEqProofs only [go_sem]
    refine call0 (t_rChannels c hc) rfl rfl ?_
    rw [chans_eq c]
    have hz2 := chansF_zero c c.chans [] 0
    have hw2 := t_wChannels c hc
    generalize chansF c [] 0 c.chans = G at hz2 hw2 ⊢
    obtain ⟨f, k, u⟩ := G
    simp only [] at hz1 hz2 hw1 hw2
    have hc0 : ((0 : Nat) : Int) = 0 := rfl
    by_cases he : e = 0
    · have hi := hz1 he
      subst he; subst hi
      by_cases hf : f = 0
      · have hk := hz2 hf
        subst hf; subst hk
        simp -implicitDefEqProofs only [go_sem, hc0]
        refine ⟨[.frz 0, .frz 1], ?_⟩
        simp -implicitDefEqProofs only [go_sem]
        refine call0 t_alive rfl rfl ?_
        simp -implicitDefEqProofs only [go_sem]
        refine call0 hw1 rfl rfl ?_
        simp -implicitDefEqProofs only [go_sem, sFault, hc0]
        refine call0 hw2 rfl rfl ?_
        simp -implicitDefEqProofs only [go_sem, sFault, hc0]
        exact ret0 rfl (by simp -implicitDefEqProofs only [go_sem])
      · simp -implicitDefEqProofs only [go_sem, hc0, hf]
        refine ⟨[.frz 0], ?_⟩
        simp -implicitDefEqProofs only [go_sem, hf]
        refine ⟨[.frz 1], ?_⟩
        simp -implicitDefEqProofs only [go_sem]
        refine call0 t_alive rfl rfl ?_
        simp -implicitDefEqProofs only [go_sem]
        refine call0 hw1 rfl rfl ?_
        simp -implicitDefEqProofs only [go_sem, sFault, hc0, hf]
        refine call0 hw2 rfl rfl ?_
        simp -implicitDefEqProofs only [go_sem, sFault, hc0, hf]
        exact ret0 rfl (by simp -implicitDefEqProofs only [go_sem])
    · by_cases hf : f = 0
      · have hk := hz2 hf
        subst hf; subst hk
        simp -implicitDefEqProofs only [go_sem, hc0, he]
        refine ⟨[.frz 0, .frz 1], ?_⟩
        simp -implicitDefEqProofs only [go_sem]
        refine call0 t_alive rfl rfl ?_
        simp -implicitDefEqProofs only [go_sem]
        refine call0 hw1 rfl rfl ?_
        simp -implicitDefEqProofs only [go_sem, sFault, hc0, he]
        refine call0 hw2 rfl rfl ?_
        simp -implicitDefEqProofs only [go_sem, sFault, hc0, he]
        exact ret0 rfl (by simp -implicitDefEqProofs only [go_sem])
      · simp -implicitDefEqProofs only [go_sem, hc0, he, hf]
        refine ⟨[.frz 0], ?_⟩
        simp -implicitDefEqProofs only [go_sem, hf]
        refine ⟨[.frz 1], ?_⟩
        simp -implicitDefEqProofs only [go_sem]
        refine call0 t_alive rfl rfl ?_
        simp -implicitDefEqProofs only [go_sem]
        refine call0 hw1 rfl rfl ?_
        simp -implicitDefEqProofs only [go_sem, sFault, hc0, he, hf]
        refine call0 hw2 rfl rfl ?_
        simp -implicitDefEqProofs only [go_sem, sFault, hc0, he, hf]
        exact ret0 rfl (by simp -implicitDefEqProofs only [go_sem])
end Go.Proofs.Ytbpobdlahighoaa.Sx
