/- wiring.Ports and wiring.Channels. -/
import Derived.Test.YtbpobdlahighoaaSxX5
namespace Go.Proofs.Ytbpobdlahighoaa.Sx
open Go
set_option linter.unusedVariables false
set_option linter.unusedSimpArgs false
set_option maxRecDepth 100000

def portE (c : Cfg) (p : Prt) : Int := if ix (fun q => decide (q.id = p.part)) c.parts < 0 then 19 else if p.size = 0 then 28 else 0
def portsF (c : Cfg) : Nat → List Prt → Int × Nat
  | _, [] => (0, 0)
  | i, p :: l => if portE c p = 0 then portsF c (i + 1) l else (portE c p, i)
theorem portsF_nil (c : Cfg) (i : Nat) : portsF c i [] = (0, 0) := by unfold portsF; rfl
theorem portsF_cons (c : Cfg) (i : Nat) (p : Prt) (l : List Prt) : portsF c i (p :: l) = if portE c p = 0 then portsF c (i + 1) l else (portE c p, i) := by rw [portsF]
def chansF (c : Cfg) : List (Int × Bool) → Nat → List Chan → Int × Nat × List (Int × Bool)
  | u, _, [] => (0, 0, u)
  | u, i, x :: l => if (chanF c u x).1 = 0 then chansF c (chanF c u x).2 (i + 1) l else ((chanF c u x).1, i, (chanF c u x).2)
theorem chansF_nil (c : Cfg) (u : List (Int × Bool)) (i : Nat) : chansF c u i [] = (0, 0, u) := by unfold chansF; rfl
theorem chansF_cons (c : Cfg) (u : List (Int × Bool)) (i : Nat) (x : Chan) (l : List Chan) : chansF c u i (x :: l) = if (chanF c u x).1 = 0 then chansF c (chanF c u x).2 (i + 1) l else ((chanF c u x).1, i, (chanF c u x).2) := by rw [chansF]
/-- A fault. -/
def sFault (e sec : Int) (i : Nat) : SV := .agg [.v (.int .i64 e), .v (.int .i64 (if e = 0 then 0 else sec)), .v (.int .i64 i)]
theorem drop_get {α : Type} {l : List α} {i : Nat} {y : α} (hy : l[i]? = some y) : l.drop i = y :: l.drop (i + 1) := by
  obtain ⟨h, e⟩ := List.getElem?_eq_some_iff.1 hy
  rw [List.drop_eq_getElem_cons h, e]
theorem t_firstP (c : Cfg) (hc : c.ok) (u : List (Int × Bool)) (sec : Int) : TriF Pr 33 [.v (.int .i64 sec), .ro 6 ePrt c.ports c.tv, .fn 35 [.ptr 0 0] []] (chk c u) [] (sFault (portsF c 0 c.ports).1 sec (portsF c 0 c.ports).2) (chk c u) := by
  refine tri_fn Try.f33 [] [] [] 1000 (by kernel_rfl) (by kernel_rfl) (by kernel_rfl) (by kernel_rfl) (by kernel_rfl) (by kernel_rfl) (Nat.le_of_ble_eq_true rfl) ?_
  have hl := hc.ports
  simp -implicitDefEqProofs only [go_sem, Try.f33, chk, eCfg, sIdx]
  refine loop0 (fun i => i ≤ c.ports.length ∧ portsF c 0 c.ports = portsF c i (c.ports.drop i)) [0, 2, 6, 10, 11] (fun i => [(12, .v (.int .i64 i))]) (fun i => c.ports.length - i) 0 ⟨by omega, rfl⟩ ⟨rfl, trivial⟩ (fun i => rfl) rfl ?_
  rintro i ⟨hi, hd⟩ E hE
  by_cases hlt : (i : Int) < c.ports.length
  · obtain ⟨y, hy⟩ := get_lt hlt
    simp -implicitDefEqProofs only [go_sem, hlt, encAt_some hy, ePrt]
    refine ⟨by omega, callS [0, 1] [] (t_port1 c u y) (by simp) (by simp -implicitDefEqProofs only [go_sem]; simp) (fun ρ => rfl) (fun ρ => rfl) ?_⟩
    rintro r post ⟨rfl, rfl⟩
    rw [drop_get hy, portsF_cons] at hd
    change vput _ _ (SV.ren _ (.v (.int .i64 (portE c y)))) _ _
    by_cases he : portE c y = 0
    · rw [if_pos he] at hd
      simp -implicitDefEqProofs only [go_sem, chk, eCfg, sIdx, he]
      exact ⟨inI64_nat hi hl, hE _ (i + 1) ⟨by omega, hd⟩ (by omega) ⟨rfl, rfl, rfl, rfl, rfl, rfl, trivial⟩ ⟨rfl, rfl, rfl, trivial⟩ (fun _ h => h)⟩
    · rw [if_neg he] at hd
      simp -implicitDefEqProofs only [go_sem, chk, eCfg, sIdx, he]
      refine retS [0, 1] (sFault (portE c y) sec i) (chk c u) ?_
      simp -implicitDefEqProofs only [go_sem, chk, eCfg, sIdx, hd, sFault, he]
  · have : i = c.ports.length := by omega
    subst this
    rw [List.drop_length, portsF_nil] at hd
    simp -implicitDefEqProofs only [go_sem, hlt]
    refine retS [0, 1] (sFault 0 sec 0) (chk c u) ?_
    simp -implicitDefEqProofs only [go_sem, chk, eCfg, sIdx, hd, sFault]
    rfl
theorem t_firstC (c : Cfg) (hc : c.ok) (sec : Int) : TriF Pr 36 [.v (.int .i64 sec), .ro 3 eChan c.chans c.cv, .fn 37 [.ptr 0 0] []] (chk c []) [] (sFault (chansF c [] 0 c.chans).1 sec (chansF c [] 0 c.chans).2.1) (chk c (chansF c [] 0 c.chans).2.2) := by
  refine tri_fn Try.f36 [] [] [] 1000 (by kernel_rfl) (by kernel_rfl) (by kernel_rfl) (by kernel_rfl) (by kernel_rfl) (by kernel_rfl) (Nat.le_of_ble_eq_true rfl) ?_
  have hl := hc.chans
  simp -implicitDefEqProofs only [go_sem, Try.f36, chk, eCfg, sIdx]
  refine loopR (ι := Nat × List (Int × Bool)) (fun i => i.1 ≤ c.chans.length ∧ chansF c [] 0 c.chans = chansF c i.2 i.1 (c.chans.drop i.1)) [0, 2, 6, 10, 11] (fun i => [(12, .v (.int .i64 i.1))]) (fun i => [(1, .mp SU (kvB i.2))]) [] (fun i => c.chans.length - i.1) (0, []) ⟨by simp, rfl⟩ ⟨rfl, trivial⟩ ⟨rfl, trivial⟩ (fun _ h => h) (fun i => rfl) (fun i => rfl) ?_
  rintro ⟨i, u2⟩ ⟨hi, hd⟩ E hE
  by_cases hlt : (i : Int) < c.chans.length
  · obtain ⟨y, hy⟩ := get_lt hlt
    simp -implicitDefEqProofs only [go_sem, hlt, encAt_some hy, eChan]
    refine ⟨by omega, callS [0, 1] [] (t_chan1 c u2 y (hc.dests y (List.mem_of_getElem? hy))) (by simp) (by simp -implicitDefEqProofs only [go_sem]; simp) (fun ρ => rfl) (fun ρ => rfl) ?_⟩
    rintro r post ⟨rfl, rfl⟩
    simp only [] at hd
    rw [drop_get hy, chansF_cons] at hd
    generalize hF : chanF c u2 y = F at hd ⊢
    obtain ⟨e, u3⟩ := F
    by_cases he : e = 0
    · simp only [he, if_true] at hd
      simp -implicitDefEqProofs only [go_sem, chk, eCfg, sIdx, he]
      exact ⟨inI64_nat hi hl, hE _ (i + 1, u3) ⟨by simp only; omega, hd⟩ (by simp only; omega) ⟨rfl, rfl, rfl, rfl, rfl, rfl, trivial⟩ ⟨rfl, rfl, rfl, trivial⟩ (fun _ h => h)⟩
    · simp only [he, if_false] at hd
      simp -implicitDefEqProofs only [go_sem, chk, eCfg, sIdx, he]
      refine retS [0, 1] (sFault e sec i) (chk c u3) ?_
      simp -implicitDefEqProofs only [go_sem, chk, eCfg, sIdx, hd, sFault, he]
  · have : i = c.chans.length := by simp only at hi; omega
    subst this
    simp only [List.drop_length, chansF_nil] at hd
    simp -implicitDefEqProofs only [go_sem, hlt]
    refine retS [0, 1] (sFault 0 sec 0) (chk c u2) ?_
    simp -implicitDefEqProofs only [go_sem, chk, eCfg, sIdx, hd, sFault]
    rfl
/-- wiring.Ports -/
theorem t_wPorts (c : Cfg) (hc : c.ok) : TriF Pr 13 [sCfg c] [] [] (sFault (portsF c 0 c.ports).1 4 (portsF c 0 c.ports).2) [] := by
  refine tri_fn Try.f13 [(1, .op 0 (.op 2 (.ro 1 (.op 3 (.op 4 (.op 5 (.op 6 (.nil))))))))] [1] [] 1000 (by kernel_rfl) (by kernel_rfl) (by kernel_rfl) (by kernel_rfl) (by kernel_rfl) (by kernel_rfl) (Nat.le_of_ble_eq_true rfl) ?_
  simp -implicitDefEqProofs only [go_sem, Try.f13, sCfg, eCfg]
  refine callS [] [] (t_of c hc) (by simp) (by simp) (fun ρ => rfl) (fun ρ => rfl) ?_
  rintro r post ⟨rfl, rfl⟩
  simp -implicitDefEqProofs only [go_sem, chk, eCfg, sIdx]
  refine callS [1, 2] [] (t_firstP c hc [] 4) (by simp) (by simp -implicitDefEqProofs only [go_sem]; simp) (fun ρ => rfl) (fun ρ => rfl) ?_
  rintro r post ⟨rfl, rfl⟩
  simp -implicitDefEqProofs only [go_sem, chk, eCfg, sIdx, sFault]
  exact ret0 rfl (by simp -implicitDefEqProofs only [go_sem])
/-- wiring.Channels -/
theorem t_wChannels (c : Cfg) (hc : c.ok) : TriF Pr 14 [sCfg c] [] [] (sFault (chansF c [] 0 c.chans).1 5 (chansF c [] 0 c.chans).2.1) [] := by
  refine tri_fn Try.f14 [(1, .op 0 (.op 2 (.ro 1 (.op 3 (.op 4 (.op 5 (.op 6 (.nil))))))))] [1] [] 1000 (by kernel_rfl) (by kernel_rfl) (by kernel_rfl) (by kernel_rfl) (by kernel_rfl) (by kernel_rfl) (Nat.le_of_ble_eq_true rfl) ?_
  simp -implicitDefEqProofs only [go_sem, Try.f14, sCfg, eCfg]
  refine callS [] [] (t_of c hc) (by simp) (by simp) (fun ρ => rfl) (fun ρ => rfl) ?_
  rintro r post ⟨rfl, rfl⟩
  simp -implicitDefEqProofs only [go_sem, chk, eCfg, sIdx]
  refine callS [1, 2] [] (t_firstC c hc 5) (by simp) (by simp -implicitDefEqProofs only [go_sem]; simp) (fun ρ => rfl) (fun ρ => rfl) ?_
  rintro r post ⟨rfl, rfl⟩
  simp -implicitDefEqProofs only [go_sem, chk, eCfg, sIdx, sFault]
  exact ret0 rfl (by simp -implicitDefEqProofs only [go_sem])
end Go.Proofs.Ytbpobdlahighoaa.Sx
