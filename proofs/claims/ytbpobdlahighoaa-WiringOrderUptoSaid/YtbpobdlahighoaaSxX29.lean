/- The law WiringOrder, walked. -/
import Derived.Test.YtbpobdlahighoaaSxX28
import Derived.Test.YtbpobdlahighoaaSxX14
namespace Go.Proofs.Ytbpobdlahighoaa.Sx
open Go
set_option linter.unusedVariables false
set_option linter.unusedSimpArgs false
set_option maxRecDepth 100000

def ordI (c : Cfg) (a : Nat × Int × List Chan) : Prop := a.1 ≤ c.chans.length ∧ a.2.1 = (a.1 : Int) - 1 ∧ a.2.2.map core3 = (c.chans.drop a.1).reverse.map flip3
/-- fenestralaw18.WiringOrder -/
theorem t_order (c : Cfg) (hc : c.ok) : TriF Pr 6 [sCfg c] [] [] (.v (.bool true)) [] := by
  refine tri_fnG Try.f6 [] [1] [] [6, 12, 15] 1000 (by kernel_rfl) (by kernel_rfl) (by kernel_rfl) (by kernel_rfl) (by kernel_rfl) (by kernel_rfl) (Nat.le_of_ble_eq_true rfl) ?_
  have hpl := hc.ports
  simp -implicitDefEqProofs only [go_sem, Try.f6, sCfg, eCfg]
  refine call0 (t_fits c hc) rfl rfl ?_
  cases hr : (fewR c && uniqR c) with
  | false =>
    simp -implicitDefEqProofs only [go_sem]
    refine call0 t_alive rfl rfl ?_
    simp -implicitDefEqProofs only [go_sem]
    exact ret0 rfl (by simp -implicitDefEqProofs only [go_sem])
  | true =>
    have hu : uniqR c = true := by simp only [Bool.and_eq_true] at hr; exact hr.2
    have hcl := hc.chans
    have hfit : appFit ePrt c.ports 0 32 := ⟨fun z _ => rfl, by omega, by omega⟩
    simp -implicitDefEqProofs only [go_sem]
    refine ⟨Prt, ePrt, c.ports, rfl, hfit, ?_⟩
    refine callS [1] [] (t_revT c.ports hc.ports) (by simp) (by simp -implicitDefEqProofs only [go_sem]; simp) (fun ρ => rfl) (fun ρ => rfl) ?_
    rintro r post ⟨rfl, rfl⟩
    simp -implicitDefEqProofs only [go_sem]
    refine ⟨[.nilc 0 5], ?_⟩
    simp -implicitDefEqProofs only [go_sem]
    refine ⟨Chan, 3, eChan, ⟨by omega, by omega⟩, ?_⟩
    refine loopR (ι := Nat × Int × List Chan) (ordI c) [1, 3] (fun a => [(4, .v (.int .i64 a.2.1))]) (fun a => [(2, .sl 3 eChan a.2.2)]) [0, 1, 2, 3, 4, 5] (fun a => a.1) (c.chans.length, (c.chans.length : Int) - 1, []) ⟨Nat.le_refl _, rfl, by simp⟩ ⟨rfl, trivial⟩ ⟨rfl, trivial⟩ (fun t h => by simp at h ⊢; omega) (fun i => rfl) (fun i => rfl) ?_
    rintro ⟨m, j, ys⟩ ⟨hm, hj, hys⟩ E hE
    simp only at hm hj hys
    cases m with
    | succ m =>
      obtain rfl : j = (m : Int) := by omega
      obtain ⟨x, hx⟩ := get_lt (l := c.chans) (i := m) (by omega)
      have hxd := hc.dests x (List.mem_of_getElem? hx)
      have hge : (0 : Int) ≤ (m : Int) := by omega
      have hfit2 : appFit eI16 x.dests 0 2 := ⟨fun z _ => rfl, by omega, by omega⟩
      simp -implicitDefEqProofs only [go_sem, hge, encAt_some hx, eChan]
      refine ⟨by omega, Int, eI16, x.dests, rfl, hfit2, ?_⟩
      refine callS [4] [] (t_rev16 x.dests hxd) (by simp) (by simp -implicitDefEqProofs only [go_sem]; simp) (fun ρ => rfl) (fun ρ => rfl) ?_
      rintro r post ⟨rfl, rfl⟩
      simp -implicitDefEqProofs only [go_sem]
      refine ⟨[.frz 4], ?_⟩
      simp -implicitDefEqProofs only [go_sem]
      intro v
      have hyl : ys.length + (m + 1) = c.chans.length := by
        have := congrArg List.length hys
        simp only [List.length_map, List.length_reverse, List.length_drop] at this
        omega
      have hfit3 : appFit eChan [(⟨x.id, x.source, x.dests.reverse, v⟩ : Chan)] ys.length 32 := ⟨fun z _ => rfl, by simp; omega, by simp; omega⟩
      refine ⟨[⟨x.id, x.source, x.dests.reverse, v⟩], ⟨rfl, ⟨[], rfl, rfl, rfl⟩⟩, hfit3, ?_⟩
      refine ⟨⟨by omega, by omega⟩, hE _ (m, (m : Int) - 1, ys ++ [⟨x.id, x.source, x.dests.reverse, v⟩]) ⟨by simp only; omega, rfl, ?_⟩ (by show m < m + 1; omega) ⟨rfl, rfl, rfl, trivial⟩ ⟨rfl, rfl, rfl, trivial⟩ (fun t h => by simp at h ⊢; omega)⟩
      have hxl := (List.getElem?_eq_some_iff.1 hx)
      simp only
      rw [List.map_append, hys, List.drop_eq_getElem_cons hxl.1, hxl.2, List.reverse_cons, List.map_append]
      rfl
    | zero =>
      obtain rfl : j = -1 := by omega
      have hge : ¬ (0 : Int) ≤ -1 := by omega
      simp -implicitDefEqProofs only [go_sem, hge]
      obtain ⟨e, he⟩ : ∃ e, e = (fe (epR c) c.ports.length).1 := ⟨_, rfl⟩
      obtain ⟨f, hf⟩ : ∃ f, f = (fe (ecR c) c.chans.length).1 := ⟨_, rfl⟩
      have hP := t_rPorts c hc
      have hC := t_rChannels c hc
      rw [← he] at hP
      rw [← hf] at hC
      refine call0 hP rfl rfl ?_
      simp -implicitDefEqProofs only [go_sem]
      refine call0 hC rfl rfl ?_
      simp -implicitDefEqProofs only [go_sem]
      refine ⟨[.frz 1, .frz 2, .frz 0], ?_⟩
      simp -implicitDefEqProofs only [go_sem]
      intro v1 v2
      have hflip : flipped c { c with ports := c.ports.reverse, chans := ys, tv := v1, cv := v2 } := ⟨rfl, rfl, by simpa using hys⟩
      have hok : Cfg.ok { c with ports := c.ports.reverse, chans := ys, tv := v1, cv := v2 } := by
        have hyl : ys.length = c.chans.length := by
          have := congrArg List.length hys
          simpa using this
        refine ⟨hc.parts, hc.wins, hc.regs, by simpa using hc.ports, by simp only; omega, fun y hy => ?_⟩
        simp only at hy
        have hm2 : core3 y ∈ ys.map core3 := List.mem_map.2 ⟨y, hy, rfl⟩
        rw [hys] at hm2
        obtain ⟨x, hx, e3⟩ := List.mem_map.1 hm2
        simp only [List.drop_zero, List.mem_reverse] at hx
        have hxd := hc.dests x hx
        simp only [core3, flip3, Prod.mk.injEq] at e3
        rw [← e3.2.2, List.length_reverse]
        exact hxd
      have hPe := hflip.ports_ok
      have hCe := hflip.chans_ok hu
      rw [← he, ports_eq] at hPe
      rw [← hf, chans_eq] at hCe
      have hw1 := t_wPorts _ hok
      have hw2 := t_wChannels _ hok
      have hz1 := portsF_zero { c with ports := c.ports.reverse, chans := ys, tv := v1, cv := v2 } c.ports.reverse 0
      have hz2 := chansF_zero { c with ports := c.ports.reverse, chans := ys, tv := v1, cv := v2 } ys [] 0
      simp only at hPe hCe hw1 hw2
      generalize portsF { c with ports := c.ports.reverse, chans := ys, tv := v1, cv := v2 } 0 c.ports.reverse = F at hz1 hw1 hPe
      generalize chansF { c with ports := c.ports.reverse, chans := ys, tv := v1, cv := v2 } [] 0 ys = G at hz2 hw2 hCe
      obtain ⟨a, ai⟩ := F
      obtain ⟨b, bi, u⟩ := G
      simp only at hz1 hz2 hw1 hw2 hPe hCe
      have hc0 : ((0 : Nat) : Int) = 0 := rfl
      refine call0 t_alive rfl rfl ?_
      simp -implicitDefEqProofs only [go_sem]
      refine call0 hw1 rfl rfl ?_
      by_cases ha : a = 0
      · have hai := hz1 ha
        have he0 := hPe.1 ha
        subst ha; subst hai; subst he0
        simp -implicitDefEqProofs only [go_sem, sFault, hc0]
        refine call0 hw2 rfl rfl ?_
        by_cases hb : b = 0
        · have hbi := hz2 hb
          have hf0 := hCe.1 hb
          subst hb; subst hbi; subst hf0
          simp -implicitDefEqProofs only [go_sem, sFault, hc0]
          exact ret0 rfl (by simp -implicitDefEqProofs only [go_sem])
        · have hf0 : f ≠ 0 := fun h => hb (hCe.2 h)
          simp -implicitDefEqProofs only [go_sem, sFault, hc0, hb, hf0, Bool.false_and]
          exact ret0 rfl (by simp -implicitDefEqProofs only [go_sem])
      · have he0 : e ≠ 0 := fun h => ha (hPe.2 h)
        simp -implicitDefEqProofs only [go_sem, sFault, hc0, ha, he0, Bool.false_and]
        refine call0 hw2 rfl rfl ?_
        by_cases hb : b = 0
        · have hbi := hz2 hb
          have hf0 := hCe.1 hb
          subst hb; subst hbi; subst hf0
          simp -implicitDefEqProofs only [go_sem, sFault, hc0]
          exact ret0 rfl (by simp -implicitDefEqProofs only [go_sem])
        · have hf0 : f ≠ 0 := fun h => hb (hCe.2 h)
          simp -implicitDefEqProofs only [go_sem, sFault, hc0, hb, hf0, Bool.false_and]
          exact ret0 rfl (by simp -implicitDefEqProofs only [go_sem])
end Go.Proofs.Ytbpobdlahighoaa.Sx
