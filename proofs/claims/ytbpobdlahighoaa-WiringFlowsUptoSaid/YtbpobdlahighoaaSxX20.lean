/- ref18.Matrix. -/
import Derived.Test.YtbpobdlahighoaaSxX18
namespace Go.Proofs.Ytbpobdlahighoaa.Sx
open Go
set_option linter.unusedVariables false
set_option linter.unusedSimpArgs false
set_option maxRecDepth 100000

abbrev eRow : List Int × Value → List SV := fun p => [.ro 1 eInt p.1 p.2]
theorem zip_back {α β : Type} : ∀ l : List (α × β), (l.map (·.1)).zip (l.map (·.2)) = l
  | [] => rfl
  | p :: l => by simp only [List.map_cons, List.zip_cons_cons, zip_back l]
def mI (c : Cfg) (a : Nat × List (List Int × Value)) : Prop := a.1 ≤ c.parts.length ∧ a.2.map (·.1) = (mtR c).take a.1
theorem t_rMatrix (c : Cfg) (hc : c.ok) (hl : linked c) : Tri Pr 19 [sCfg c] [] [] fun r post => ((∃ (vs : List Value) (v : Value), vs.length = c.parts.length ∧ r = .ro 1 (fun p : List Int × Value => [.ro 1 eInt p.1 p.2]) ((mtR c).zip vs) v) ∧ r.lt 0 = true) ∧ post = [] := by
  refine tri_fnG Try.f19 [] [1] [] [1, 5, 7, 12] 1000 (by kernel_rfl) (by kernel_rfl) (by kernel_rfl) (by kernel_rfl) (by kernel_rfl) (by kernel_rfl) (Nat.le_of_ble_eq_true rfl) ?_
  have hpl := hc.parts
  simp -implicitDefEqProofs only [go_sem, Try.f19, sCfg, eCfg]
  refine ⟨[.nil 3], ?_⟩
  simp -implicitDefEqProofs only [go_sem]
  refine ⟨List Int × Value, 1, eRow, ?_⟩
  refine loopR (ι := Nat × List (List Int × Value)) (mI c) [1] (fun a => [(4, .v (.int .i64 a.1)), (3, .h 0)]) (fun a => [(0, .sl 1 eRow a.2)]) [0, 1] (fun a => c.parts.length - a.1) (0, []) ⟨by simp, by simp⟩ ⟨rfl, rfl, trivial⟩ ⟨rfl, trivial⟩ (fun _ h => by cases h) (fun i => rfl) (fun i => rfl) ?_
  rintro ⟨i, zs⟩ hI E hE
  have hi : i ≤ c.parts.length := hI.1
  by_cases hlt : (i : Int) < c.parts.length
  · obtain ⟨p, hp⟩ := get_lt hlt
    simp -implicitDefEqProofs only [go_sem, hlt]
    refine ⟨[.nil 5], ?_⟩
    simp -implicitDefEqProofs only [go_sem]
    refine ⟨Int, 1, eInt, ?_⟩
    refine loopR (ι := Nat) (fun k => k ≤ c.parts.length) [1, 3, 4] (fun k => [(6, .v (.int .i64 k)), (5, .h 1)]) (fun k => [(1, .sl 1 eInt (rowR c p k)), (0, .sl 1 eRow zs)]) [0, 1] (fun k => c.parts.length - k) 0 (by simp) ⟨rfl, rfl, trivial⟩ ⟨rfl, rfl, trivial⟩ (fun _ h => h) (fun i => rfl) (fun i => rfl) ?_
    intro k hk E2 hE2
    by_cases hlt2 : (k : Int) < c.parts.length
    · obtain ⟨q, hq⟩ := get_lt hlt2
      simp -implicitDefEqProofs only [go_sem, hlt2]
      refine ⟨[], ?_⟩
      simp -implicitDefEqProofs only [go_sem, encAt_some hp, encAt_some hq, ePart]
      have hrl := rowR_len c p k
      refine ⟨⟨by omega, hlt⟩, ⟨by omega, hlt2⟩, call0 (t_sends c hc hl p.id q.id) rfl rfl ?_⟩
      cases hs : sendsR c p.id q.id with
      | true =>
        have hfit : appFit eInt [(k : Int)] (rowR c p k).length 8 := ⟨fun z _ => rfl, by simp; omega, by simp; omega⟩
        simp -implicitDefEqProofs only [go_sem]
        refine ⟨[(k : Int)], ⟨rfl, ⟨[], rfl, rfl, rfl⟩⟩, hfit, inI64_nat hk hpl, hE2 _ (k + 1) (by omega) (by omega) ⟨rfl, rfl, rfl, rfl, rfl, trivial⟩ ?_ (fun t h => by simp at h ⊢; omega)⟩
        rw [rowR_succ hq, if_pos hs]
        exact ⟨rfl, rfl, trivial⟩
      | false =>
        simp -implicitDefEqProofs only [go_sem]
        refine ⟨inI64_nat hk hpl, hE2 _ (k + 1) (by omega) (by omega) ⟨rfl, rfl, rfl, rfl, rfl, trivial⟩ ?_ (fun t h => by simp at h ⊢; omega)⟩
        rw [rowR_succ hq, hs, if_neg (by decide), List.append_nil]
        exact ⟨rfl, rfl, trivial⟩
    · have : k = c.parts.length := by omega
      subst this
      simp -implicitDefEqProofs only [go_sem, hlt2]
      refine ⟨[.frz 1], ?_⟩
      simp -implicitDefEqProofs only [go_sem]
      intro v
      have hzl : zs.length = i := by
        have := congrArg List.length hI.2
        simp only [List.length_map, List.length_take] at this
        have h2 : (mtR c).length = c.parts.length := by simp [mtR]
        omega
      have hfit : appFit eRow [(rowR c p c.parts.length, v)] zs.length 24 := ⟨fun z _ => rfl, by simp; omega, by simp; omega⟩
      refine ⟨[(rowR c p c.parts.length, v)], ⟨rfl, ⟨[], rfl, rfl, rfl⟩⟩, hfit, inI64_nat hi hpl, hE _ (i + 1, zs ++ [(rowR c p c.parts.length, v)]) ⟨by simp only; omega, ?_⟩ (by show c.parts.length - (i + 1) < c.parts.length - i; omega) ⟨rfl, rfl, rfl, trivial⟩ ⟨rfl, trivial⟩ (fun t h => by simp at h ⊢; omega)⟩
      have hm : (mtR c)[i]? = some (rowR c p c.parts.length) := by unfold mtR; rw [List.getElem?_map, hp]; rfl
      simp only [List.map_append, List.map_cons, List.map_nil]
      rw [hI.2, List.take_add_one, hm]
      rfl
  · have : i = c.parts.length := by omega
    subst this
    simp -implicitDefEqProofs only [go_sem, hlt]
    refine ⟨[.frz 0], ?_⟩
    simp -implicitDefEqProofs only [go_sem]
    intro v
    refine ret0 rfl ?_
    simp -implicitDefEqProofs only [go_sem]
    have hz : zs.map (·.1) = mtR c := by
      have := hI.2
      have h2 : (mtR c).length = c.parts.length := by simp [mtR]
      simp only at this
      rw [← h2, List.take_length] at this
      exact this
    refine ⟨zs.map (·.2), v, ?_, ?_⟩
    · have := congrArg List.length hz
      simp only [List.length_map] at this ⊢
      rw [this]; simp [mtR]
    · rw [← hz, zip_back]
end Go.Proofs.Ytbpobdlahighoaa.Sx
