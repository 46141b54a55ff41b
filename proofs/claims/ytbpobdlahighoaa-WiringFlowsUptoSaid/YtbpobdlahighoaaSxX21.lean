/- The law WiringChains, walked. -/
import Derived.Test.YtbpobdlahighoaaSxX20
namespace Go.Proofs.Ytbpobdlahighoaa.Sx
open Go
set_option linter.unusedVariables false
set_option linter.unusedSimpArgs false
set_option maxRecDepth 100000

theorem tri_mono {P : Program} {f : FuncId} {args : List SV} {pre : List Res} {mv : List Nat} {Q Q' : SV → List Res → Prop} (hT : Tri P f args pre mv Q) (h : ∀ r post, Q r post → Q' r post) : Tri P f args pre mv Q' :=
  ⟨hT.1, fun w ν H F vs a b d e g => (hT.2 w ν H F vs a b d e g).mono fun x w' ⟨r, post, ν', H', y, h1, h2, h3⟩ => ⟨r, post, ν', H', y, h1, h _ _ h2, h3⟩⟩
open Classical in
noncomputable def flowB (c : Cfg) (a b : Int) : Bool := decide (FlowP c a b)
theorem flowB_true {c : Cfg} {a b : Int} : flowB c a b = true ↔ FlowP c a b := by unfold flowB; simp
theorem t_flowB (c : Cfg) (hc : c.ok) (hw : wired c) (a b : Int) : TriF Pr 20 [sCfg c, .v (.int .u16 a), .v (.int .u16 b)] [] [] (.v (.bool (flowB c a b))) [] := by
  refine tri_mono (t_wFlow c hc hw a b) ?_
  rintro r post ⟨⟨⟨q, rfl, hq⟩, _⟩, rfl⟩
  have : q = flowB c a b := by rw [Bool.eq_iff_iff, hq, flowB_true]
  rw [this]
  exact ⟨rfl, rfl⟩
/-- fenestralaw18.WiringChains -/
theorem t_chains (c : Cfg) (hc : c.ok) : TriF Pr 5 [sCfg c] [] [] (.v (.bool true)) [] := by
  refine tri_fnG Try.f5 [] [1] [] [6, 15, 18] 1000 (by kernel_rfl) (by kernel_rfl) (by kernel_rfl) (by kernel_rfl) (by kernel_rfl) (by kernel_rfl) (Nat.le_of_ble_eq_true rfl) ?_
  have hpl := hc.parts
  simp -implicitDefEqProofs only [go_sem, Try.f5, sCfg, eCfg]
  refine call0 (t_lright c hc) rfl rfl ?_
  cases hr : (fewR c && rightR c) with
  | false =>
    simp -implicitDefEqProofs only [go_sem]
    refine call0 t_alive rfl rfl ?_
    simp -implicitDefEqProofs only [go_sem]
    exact ret0 rfl (by simp -implicitDefEqProofs only [go_sem])
  | true =>
    have hR : RightP c := right_of (by simp only [Bool.and_eq_true] at hr; exact hr.2)
    simp -implicitDefEqProofs only [go_sem]
    refine ⟨fun _ => ?_, fun _ => ?_⟩
    · refine call0 t_alive rfl rfl ?_
      simp -implicitDefEqProofs only [go_sem]
      exact ret0 rfl (by simp -implicitDefEqProofs only [go_sem])
    · refine call0Q (t_rMatrix c hc hR.linked) rfl ?_
      rintro r ⟨vs, v, hvl, rfl⟩
      simp -implicitDefEqProofs only [go_sem]
      refine loop0 (fun i => i ≤ c.parts.length) [1, 3, 25, 26] (fun i => [(27, .v (.int .i64 i))]) (fun i => c.parts.length - i) 0 (by omega) ⟨rfl, trivial⟩ (fun i => rfl) rfl ?_
      intro i hi E hE
      by_cases hlt : (i : Int) < c.parts.length
      · obtain ⟨p, hp⟩ := get_lt hlt
        have hm : (mtR c)[i]? = some (rowR c p c.parts.length) := by unfold mtR; rw [List.getElem?_map, hp]; rfl
        obtain ⟨w, hw⟩ : ∃ w, vs[i]? = some w := ⟨_, List.getElem?_eq_getElem (by omega)⟩
        have hz : ((mtR c).zip vs)[i]? = some (rowR c p c.parts.length, w) := by rw [List.getElem?_zip_eq_some]; exact ⟨hm, hw⟩
        have hzl : ((mtR c).zip vs).length = c.parts.length := by simp [mtR, hvl]
        simp -implicitDefEqProofs only [go_sem, hlt, encAt_some hp, ePart]
        refine ⟨by omega, [.frz 0], ?_⟩
        simp -implicitDefEqProofs only [go_sem, encAt_some hz]
        refine ⟨by omega, ?_⟩
        have hrl := rowR_len c p c.parts.length
        refine loop0 (fun k => k ≤ (rowR c p c.parts.length).length) [1, 3, 5, 25, 26, 27, 35, 36] (fun k => [(37, .v (.int .i64 k))]) (fun k => (rowR c p c.parts.length).length - k) 0 (by omega) ⟨rfl, trivial⟩ (fun i => rfl) rfl ?_
        intro k hk E2 hE2
        by_cases hlt2 : (k : Int) < (rowR c p c.parts.length).length
        · obtain ⟨kk, hkk⟩ := get_lt hlt2
          obtain ⟨kn, rfl, hkn⟩ := rowR_nat (List.mem_of_getElem? hkk)
          obtain ⟨_, q, hq, hs⟩ := (rowR_mem (Nat.le_refl _)).1 (List.mem_of_getElem? hkk)
          have hf : flowB c p.id q.id = true := flowB_true.2 (FlowP.sent hR hp hq hs)
          have hft := t_flowB c hc hR.wired p.id q.id
          rw [hf] at hft
          simp -implicitDefEqProofs only [go_sem, hlt2, encAt_some hkk, eInt, encAt_some hq, ePart]
          refine ⟨by omega, ⟨by omega, by omega⟩, call0 hft rfl rfl ?_⟩
          simp -implicitDefEqProofs only [go_sem]
          exact ⟨inI64_nat hk (by omega), hE2 _ (k + 1) (by omega) (by omega) ⟨rfl, rfl, rfl, rfl, rfl, rfl, rfl, rfl, rfl, trivial⟩ ⟨rfl, trivial⟩ (fun _ h => h)⟩
        · simp -implicitDefEqProofs only [go_sem, hlt2]
          refine loop0 (fun j => j ≤ c.parts.length) [1, 3, 5, 25, 26, 27, 54, 55] (fun j => [(56, .v (.int .i64 j))]) (fun j => c.parts.length - j) 0 (by omega) ⟨rfl, trivial⟩ (fun i => rfl) rfl ?_
          intro j hj E3 hE3
          by_cases hlt3 : (j : Int) < c.parts.length
          · obtain ⟨q, hq⟩ := get_lt hlt3
            simp -implicitDefEqProofs only [go_sem, hlt3, encAt_some hq, ePart]
            refine ⟨by omega, [.frz 1], ?_⟩
            simp -implicitDefEqProofs only [go_sem]
            refine loop0 (fun l => l ≤ c.parts.length) [1, 3, 5, 9, 25, 26, 27, 54, 55, 56, 61, 62] (fun l => [(63, .v (.int .i64 l))]) (fun l => c.parts.length - l) 0 (by omega) ⟨rfl, trivial⟩ (fun i => rfl) rfl ?_
            intro l hl E4 hE4
            by_cases hlt4 : (l : Int) < c.parts.length
            · obtain ⟨r, hr'⟩ := get_lt hlt4
              simp -implicitDefEqProofs only [go_sem, hlt4, encAt_some hr', ePart]
              refine ⟨by omega, [.frz 2], ?_⟩
              simp -implicitDefEqProofs only [go_sem]
              refine call0 (t_flowB c hc hR.wired p.id q.id) rfl rfl ?_
              cases hpq : flowB c p.id q.id with
              | false =>
                simp -implicitDefEqProofs only [go_sem]
                exact ⟨inI64_nat hl hpl, hE4 _ (l + 1) (by omega) (by omega) ⟨rfl, rfl, rfl, rfl, rfl, rfl, rfl, rfl, rfl, rfl, rfl, rfl, rfl, trivial⟩ ⟨rfl, rfl, trivial⟩ (fun _ h => h)⟩
              | true =>
                simp -implicitDefEqProofs only [go_sem]
                refine call0 (t_flowB c hc hR.wired q.id r.id) rfl rfl ?_
                cases hqr : flowB c q.id r.id with
                | false =>
                  simp -implicitDefEqProofs only [go_sem]
                  exact ⟨inI64_nat hl hpl, hE4 _ (l + 1) (by omega) (by omega) ⟨rfl, rfl, rfl, rfl, rfl, rfl, rfl, rfl, rfl, rfl, rfl, rfl, rfl, trivial⟩ ⟨rfl, rfl, trivial⟩ (fun _ h => h)⟩
                | true =>
                  have hpr : flowB c p.id r.id = true := flowB_true.2 ((flowB_true.1 hpq).trans (flowB_true.1 hqr))
                  simp -implicitDefEqProofs only [go_sem]
                  refine call0 (t_flowB c hc hR.wired p.id r.id) rfl rfl ?_
                  rw [hpr]
                  simp -implicitDefEqProofs only [go_sem]
                  exact ⟨inI64_nat hl hpl, hE4 _ (l + 1) (by omega) (by omega) ⟨rfl, rfl, rfl, rfl, rfl, rfl, rfl, rfl, rfl, rfl, rfl, rfl, rfl, trivial⟩ ⟨rfl, rfl, trivial⟩ (fun _ h => h)⟩
            · simp -implicitDefEqProofs only [go_sem, hlt4]
              exact ⟨inI64_nat hj hpl, hE3 _ (j + 1) (by omega) (by omega) ⟨rfl, rfl, rfl, rfl, rfl, rfl, rfl, rfl, rfl, trivial⟩ ⟨rfl, trivial⟩ (fun _ h => h)⟩
          · simp -implicitDefEqProofs only [go_sem, hlt3]
            exact ⟨inI64_nat hi hpl, hE _ (i + 1) (by omega) (by omega) ⟨rfl, rfl, rfl, rfl, rfl, trivial⟩ trivial (fun _ h => h)⟩
      · simp -implicitDefEqProofs only [go_sem, hlt]
        refine call0 t_alive rfl rfl ?_
        simp -implicitDefEqProofs only [go_sem]
        exact ret0 rfl (by simp -implicitDefEqProofs only [go_sem])
end Go.Proofs.Ytbpobdlahighoaa.Sx
