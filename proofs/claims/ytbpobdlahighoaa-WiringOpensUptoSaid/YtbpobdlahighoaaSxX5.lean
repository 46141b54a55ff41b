/- The checker of channels. -/
import Derived.Test.YtbpobdlahighoaaSxX4
namespace Go.Proofs.Ytbpobdlahighoaa.Sx
open Go
set_option linter.unusedVariables false
set_option linter.unusedSimpArgs false
set_option maxRecDepth 100000

theorem t_fitT (p : Prt) : TriF Pr 58 [.agg (ePrt p)] [] [] (.v (.bool true)) [] := by
  refine tri_fn Try.f58 [] [] [] 1000 (by kernel_rfl) (by kernel_rfl) (by kernel_rfl) (by kernel_rfl) (by kernel_rfl) (by kernel_rfl) (Nat.le_of_ble_eq_true rfl) ?_
  simp -implicitDefEqProofs only [go_sem, Try.f58, ePrt]
  exact ret0 rfl (by simp -implicitDefEqProofs only [go_sem])
def sameF (s p : Prt) : Bool := decide (p.queuing = s.queuing) && decide (p.size = s.size)
theorem t_fitS (s p : Prt) : TriF Pr 59 [.agg (ePrt p), .rop (ePrt s)] [] [] (.v (.bool (sameF s p))) [] := by
  refine tri_fn Try.f59 [] [2] [] 1000 (by kernel_rfl) (by kernel_rfl) (by kernel_rfl) (by kernel_rfl) (by kernel_rfl) (by kernel_rfl) (Nat.le_of_ble_eq_true rfl) ?_
  simp -implicitDefEqProofs only [go_sem, Try.f59, ePrt]
  by_cases h1 : p.queuing = s.queuing
  · simp -implicitDefEqProofs only [go_sem, h1]
    exact ret0 rfl (by simp -implicitDefEqProofs only [go_sem, sameF, h1])
  · simp -implicitDefEqProofs only [go_sem, h1]
    exact ret0 rfl (by simp -implicitDefEqProofs only [go_sem, sameF, h1, Bool.false_and])
def destsF (c : Cfg) (s : Prt) : List (Int × Bool) → List Int → Int × List (Int × Bool)
  | u, [] => (0, u)
  | u, d :: l => if (endF c u d false (sameF s)).2.1 = 0 then destsF c s (endF c u d false (sameF s)).2.2 l else ((endF c u d false (sameF s)).2.1, (endF c u d false (sameF s)).2.2)
theorem destsF_nil (c : Cfg) (s : Prt) (u : List (Int × Bool)) : destsF c s u [] = (0, u) := by unfold destsF; rfl
theorem destsF_cons (c : Cfg) (s : Prt) (u : List (Int × Bool)) (d : Int) (l : List Int) : destsF c s u (d :: l) = if (endF c u d false (sameF s)).2.1 = 0 then destsF c s (endF c u d false (sameF s)).2.2 l else ((endF c u d false (sameF s)).2.1, (endF c u d false (sameF s)).2.2) := by rw [destsF]
def chanF (c : Cfg) (u : List (Int × Bool)) (x : Chan) : Int × List (Int × Bool) :=
  if (endF c u x.source true (fun _ => true)).2.1 = 0 then if x.dests.length = 0 then (28, (endF c u x.source true (fun _ => true)).2.2) else destsF c (endF c u x.source true (fun _ => true)).1 (endF c u x.source true (fun _ => true)).2.2 x.dests
  else ((endF c u x.source true (fun _ => true)).2.1, (endF c u x.source true (fun _ => true)).2.2)
/-- checker.channel -/
theorem t_chan1 (c : Cfg) (u : List (Int × Bool)) (x : Chan) (hx : x.dests.length ≤ 1048576) : TriF Pr 37 [.ptr 0 0, .agg (eChan x)] (chk c u) [] (.v (.int .i64 (chanF c u x).1)) (chk c (chanF c u x).2) := by
  refine tri_fnG Try.f37 [] [3] [] [1] 1000 (by kernel_rfl) (by kernel_rfl) (by kernel_rfl) (by kernel_rfl) (by kernel_rfl) (by kernel_rfl) (Nat.le_of_ble_eq_true rfl) ?_
  simp -implicitDefEqProofs only [go_sem, Try.f37, chk, eChan, eCfg, sIdx]
  refine callS [0, 1] [] (t_end c u x.source true (fun _ => true) 58 [] rfl t_fitT) (by simp) (by simp -implicitDefEqProofs only [go_sem]; simp) (fun ρ => rfl) (fun ρ => rfl) ?_
  rintro r post ⟨rfl, rfl⟩
  generalize hE : endF c u x.source true (fun _ => true) = E
  obtain ⟨s, e, u1⟩ := E
  simp -implicitDefEqProofs only [go_sem, chk, ePrt, eCfg, sIdx]
  refine ⟨[.frz 2], ?_⟩
  by_cases he : e = 0
  · by_cases hl : (x.dests.length : Int) = 0
    · have hl' : x.dests.length = 0 := by omega
      simp -implicitDefEqProofs only [go_sem, he, hl]
      refine retS [0, 1] (.v (.int .i64 28)) (chk c u1) ?_
      simp -implicitDefEqProofs only [go_sem, chk, eCfg, sIdx, chanF, hE, he, hl']
    · have hl' : ¬ x.dests.length = 0 := by omega
      simp -implicitDefEqProofs only [go_sem, he, hl]
      refine loopR (ι := Nat × List (Int × Bool)) (fun i => i.1 ≤ x.dests.length ∧ destsF c s u1 x.dests = destsF c s i.2 (x.dests.drop i.1)) [0, 7, 28, 29] (fun i => [(30, .v (.int .i64 i.1))]) (fun i => [(1, .mp SU (kvB i.2))]) [] (fun i => x.dests.length - i.1) (0, u1) ⟨by simp, rfl⟩ ⟨rfl, trivial⟩ ⟨rfl, trivial⟩ (fun _ h => h) (fun i => rfl) (fun i => rfl) ?_
      rintro ⟨i, u2⟩ ⟨hi, hd⟩ E hE2
      by_cases hlt : (i : Int) < x.dests.length
      · obtain ⟨y, hy⟩ := get_lt hlt
        have hdr : x.dests.drop i = y :: x.dests.drop (i + 1) := by
          rw [List.drop_eq_getElem_cons (by omega)]
          rw [List.getElem?_eq_getElem (by omega)] at hy
          injection hy with hy; rw [hy]
        simp -implicitDefEqProofs only [go_sem, hlt, encAt_some hy, eI16]
        refine ⟨by omega, callS [0, 1] [] (t_end c u2 y false (sameF s) 59 [.rop (ePrt s)] rfl (t_fitS s)) (by simp) (by simp -implicitDefEqProofs only [go_sem]; simp) (fun ρ => rfl) (fun ρ => rfl) ?_⟩
        rintro r post ⟨rfl, rfl⟩
        rw [hdr, destsF_cons] at hd
        generalize hF : endF c u2 y false (sameF s) = F at hd ⊢
        obtain ⟨q, e2, u3⟩ := F
        by_cases he2 : e2 = 0
        · simp -implicitDefEqProofs only [go_sem, chk, ePrt, eCfg, sIdx, he2]
          exact ⟨inI64_nat hi hx, hE2 _ (i + 1, u3) ⟨by simp only; omega, by rw [hd, if_pos he2]⟩ (by simp only; omega) ⟨rfl, rfl, rfl, rfl, rfl, trivial⟩ ⟨rfl, rfl, rfl, trivial⟩ (fun _ h => h)⟩
        · simp -implicitDefEqProofs only [go_sem, chk, ePrt, eCfg, sIdx, he2]
          refine retS [0, 1] (.v (.int .i64 e2)) (chk c u3) ?_
          rw [if_neg he2] at hd
          simp -implicitDefEqProofs only [go_sem, chk, eCfg, sIdx, chanF, hE, he, hl', hd]
      · have : i = x.dests.length := by simp only at hi; omega
        subst this
        simp -implicitDefEqProofs only [go_sem, hlt]
        refine retS [0, 1] (.v (.int .i64 0)) (chk c u2) ?_
        rw [List.drop_length, destsF_nil] at hd
        simp -implicitDefEqProofs only [go_sem, chk, eCfg, sIdx, chanF, hE, he, hl', hd]
  · simp -implicitDefEqProofs only [go_sem, he]
    refine retS [0, 1] (.v (.int .i64 e)) (chk c u1) ?_
    simp -implicitDefEqProofs only [go_sem, chk, eCfg, sIdx, chanF, hE, he]
end Go.Proofs.Ytbpobdlahighoaa.Sx
