/- The checker of ports and channels. -/
import Derived.Test.YtbpobdlahighoaaSxX3
namespace Go.Proofs.Ytbpobdlahighoaa.Sx
open Go
set_option linter.unusedVariables false
set_option linter.unusedSimpArgs false
set_option maxRecDepth 100000

abbrev gB (b : Bool) : Value := .bool b
/-- The ports that are used: a set. -/
abbrev kvB (l : List (Int × Bool)) : List (Value × Value) := kvOf kU gB l
def chk (c : Cfg) (l : List (Int × Bool)) : List Res := [.cells (eCfg c ++ [sIdx c, .h 1]), .mp SU (kvB l)]
theorem t_of (c : Cfg) (hc : c.ok) : TriF Pr 34 [sCfg c] [] [] (.ptr 0 0) (chk c []) := by
  refine tri_fn Try.f34 [(1, .op 1 (.ro 0 (.alt (.op 2 (.op 3 (.op 4 (.op 5 (.op 6 (.nil)))))) (.op 3 (.op 2 (.op 4 (.op 5 (.op 6 (.nil)))))))))] [1] [] 1000 (by kernel_rfl) (by kernel_rfl) (by kernel_rfl) (by kernel_rfl) (by kernel_rfl) (by kernel_rfl) (Nat.le_of_ble_eq_true rfl) ?_
  simp -implicitDefEqProofs only [go_sem, Try.f34, sCfg, eCfg]
  refine ⟨call0 (t_new c hc) rfl rfl ?_, ?_⟩
  · simp -implicitDefEqProofs only [go_sem, sIdx]
    refine ⟨SU, retS [1, 0] (.ptr 0 0) (chk c []) ?_⟩
    simp -implicitDefEqProofs only [go_sem, chk, eCfg, sIdx]
    rfl
  · refine ⟨SU, call0 (t_new c hc) rfl rfl ?_⟩
    simp -implicitDefEqProofs only [go_sem, sIdx]
    refine retS [1, 0] (.ptr 0 0) (chk c []) ?_
    simp -implicitDefEqProofs only [go_sem, chk, eCfg, sIdx]
    rfl
/-- checker.port -/
theorem t_port1 (c : Cfg) (l : List (Int × Bool)) (p : Prt) : TriF Pr 35 [.ptr 0 0, .agg (ePrt p)] (chk c l) [] (.v (.int .i64 (if ix (fun q => decide (q.id = p.part)) c.parts < 0 then 19 else if p.size = 0 then 28 else 0))) (chk c l) := by
  refine tri_fn Try.f35 [] [3] [] 1000 (by kernel_rfl) (by kernel_rfl) (by kernel_rfl) (by kernel_rfl) (by kernel_rfl) (by kernel_rfl) (Nat.le_of_ble_eq_true rfl) ?_
  simp -implicitDefEqProofs only [go_sem, Try.f35, chk, eCfg, ePrt, sIdx]
  refine call0 (t_ixPart c p.part) rfl rfl ?_
  by_cases h1 : ix (fun q : Part => decide (q.id = p.part)) c.parts < 0
  · simp -implicitDefEqProofs only [go_sem, h1]
    refine retS [0, 1] (.v (.int .i64 19)) (chk c l) ?_
    simp -implicitDefEqProofs only [go_sem, chk, eCfg, sIdx]
  · by_cases h2 : p.size = 0
    · simp -implicitDefEqProofs only [go_sem, h1, h2]
      refine retS [0, 1] (.v (.int .i64 28)) (chk c l) ?_
      simp -implicitDefEqProofs only [go_sem, chk, eCfg, sIdx]
    · simp -implicitDefEqProofs only [go_sem, h1, h2]
      refine retS [0, 1] (.v (.int .i64 0)) (chk c l) ?_
      simp -implicitDefEqProofs only [go_sem, chk, eCfg, sIdx]
def zPrt : Prt := ⟨0, 0, ByteArray.empty, false, false, 0⟩
/-- What checker.end answers, and which ports are used then. -/
def endF (c : Cfg) (u : List (Int × Bool)) (id : Int) (out : Bool) (fits : Prt → Bool) : Prt × Int × List (Int × Bool) := match c.ports.find? (fun p => decide (p.id = id)) with
  | none => (zPrt, 19, u)
  | some p => if p.output = out then if fits p = true then if (aget u id).getD false = true then (p, 27, u) else (p, 0, aset u id true) else (p, 26, u) else (p, 25, u)
/-- checker.end -/
theorem t_end (c : Cfg) (u : List (Int × Bool)) (id : Int) (out : Bool) (fits : Prt → Bool) (g : FuncId) (cap : List SV) (hcap : SV.ltL 0 cap = true) (hfit : ∀ p, TriF Pr g (.agg (ePrt p) :: cap) [] [] (.v (.bool (fits p))) []) :
    TriF Pr 57 [.ptr 0 0, .v (.int .u16 id), .v (.bool out), .fn g [] cap] (chk c u) [] (.tup [.agg (ePrt (endF c u id out fits).1), .v (.int .i64 (endF c u id out fits).2.1)]) (chk c (endF c u id out fits).2.2) := by
  refine tri_fn Try.f57 [] [] [] 1000 (by kernel_rfl) (by kernel_rfl) (by kernel_rfl) (by kernel_rfl) (by kernel_rfl) (by kernel_rfl) (Nat.le_of_ble_eq_true rfl) ?_
  simp -implicitDefEqProofs only [go_sem, Try.f57, chk, eCfg, sIdx]
  refine call0 (t_ixPort c id) rfl rfl ?_
  rcases ix_find (fun p : Prt => decide (p.id = id)) c.ports with ⟨hf, hi⟩ | ⟨i, y, hf, hy, hp, hi⟩
  · rw [hi]
    simp -implicitDefEqProofs only [go_sem]
    refine retS [0, 1] (.tup [.agg (ePrt zPrt), .v (.int .i64 19)]) (chk c u) ?_
    simp -implicitDefEqProofs only [go_sem, chk, eCfg, sIdx, endF, hf, zPrt, ePrt]
  · have h0 : ¬ ((i : Int) < 0) := by omega
    have hlt : (i : Int) < c.ports.length := by have := (List.getElem?_eq_some_iff.1 hy).1; omega
    rw [hi]
    by_cases ho : y.output = out
    · simp -implicitDefEqProofs only [go_sem, h0, hlt, encAt_some hy, ePrt, ho]
      refine ⟨by omega, ?_⟩
      have hfy := hfit y
      rw [ePrt, ho] at hfy
      refine call0 hfy (by simp -implicitDefEqProofs only [go_sem, hcap]) rfl ?_
      by_cases hft : fits y = true
      · simp -implicitDefEqProofs only [go_sem, hft]
        have hm := mget_kv kU_inj gB u id
        have hset : Res.mp SU (mset (kvB u) (.int .u16 id) (.bool true)) = Res.mp SU (kvB (aset u id true)) := congrArg _ (mset_kv kU_inj gB u id true)
        cases hu : aget u id with
        | none =>
          rw [hu, Option.map_none] at hm
          simp -implicitDefEqProofs only [go_sem, hm]
          refine retS [0, 1] (.tup [.agg (ePrt y), .v (.int .i64 0)]) (chk c (aset u id true)) ?_
          simp -implicitDefEqProofs only [go_sem, chk, eCfg, sIdx, endF, hf, ePrt, ho, hft, hu, hset]
        | some b =>
          rw [hu, Option.map_some] at hm
          cases b with
          | true =>
            simp -implicitDefEqProofs only [go_sem, hm]
            refine retS [0, 1] (.tup [.agg (ePrt y), .v (.int .i64 27)]) (chk c u) ?_
            simp -implicitDefEqProofs only [go_sem, chk, eCfg, sIdx, endF, hf, ePrt, ho, hft, hu]
          | false =>
            simp -implicitDefEqProofs only [go_sem, hm]
            refine retS [0, 1] (.tup [.agg (ePrt y), .v (.int .i64 0)]) (chk c (aset u id true)) ?_
            simp -implicitDefEqProofs only [go_sem, chk, eCfg, sIdx, endF, hf, ePrt, ho, hft, hu, hset]
      · simp -implicitDefEqProofs only [go_sem, hft]
        refine retS [0, 1] (.tup [.agg (ePrt y), .v (.int .i64 26)]) (chk c u) ?_
        simp -implicitDefEqProofs only [go_sem, chk, eCfg, sIdx, endF, hf, ePrt, ho, hft]
    · simp -implicitDefEqProofs only [go_sem, h0, hlt, encAt_some hy, ePrt, ho]
      refine ⟨by omega, retS [0, 1] (.tup [.agg (ePrt y), .v (.int .i64 25)]) (chk c u) ?_⟩
      simp -implicitDefEqProofs only [go_sem, chk, eCfg, sIdx, endF, hf, ePrt, ho]
end Go.Proofs.Ytbpobdlahighoaa.Sx
