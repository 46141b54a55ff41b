/- The reference of layer 18: messages. -/
import Derived.Test.YtbpobdlahighoaaSxW2
namespace Go.Proofs.Ytbpobdlahighoaa.Sx
open Go
set_option linter.unusedVariables false
set_option linter.unusedSimpArgs false
set_option maxRecDepth 100000
/-- The channels of a right configuration begin and end at ports that there are. -/
def linked (c : Cfg) : Prop := ∀ x ∈ c.chans, (∃ s, fPort c x.source = some s) ∧ ∀ d ∈ x.dests, ∃ p, fPort c d = some p
def ownerR (c : Cfg) (id : Int) : Int := match fPort c id with | some p => p.part | none => -1
def sendsX (c : Cfg) (a b : Int) (x : Chan) : Bool := decide (ownerR c x.source = a) && x.dests.any fun d => decide (ownerR c d = b)
def sendsR (c : Cfg) (a b : Int) : Bool := c.chans.any (sendsX c a b)
/-- What Port returns of a port that there is. -/
theorem at_port {c : Cfg} {id : Int} {s : Prt} (h : fPort c id = some s) : ∃ q : Nat, ix (fun p => decide (p.id = id)) c.ports = (q : Int) ∧ c.ports[q]? = some s ∧ q < c.ports.length := by
  rcases ix_find (fun p => decide (p.id = id)) c.ports with ⟨h1, h2⟩ | ⟨q, z, h1, hz, hp, h2⟩
  · unfold fPort at h; rw [h1] at h; cases h
  · unfold fPort at h; rw [h1] at h; injection h with h; subst h
    exact ⟨q, h2, hz, (List.getElem?_eq_some_iff.1 hz).1⟩
/-- ref18.sends -/
theorem t_sends (c : Cfg) (hc : c.ok) (hl : linked c) (a b : Int) : TriF Pr 43 [sCfg c, .v (.int .u16 a), .v (.int .u16 b)] [] [] (.v (.bool (sendsR c a b))) [] := by
  have hlen := hc.chans
  refine tri_fn Try.f43 [(5, .op 0 (.op 3 (.op 9 (.op 2 (.op 4 (.ro 1 (.op 5 (.op 6 (.op 7 (.op 8 (.op 10 (.nil)))))))))))), (9, .op 0 (.op 3 (.op 5 (.op 12 (.op 2 (.op 4 (.op 6 (.op 7 (.ro 1 (.op 8 (.op 9 (.op 10 (.op 11 (.op 13 (.nil)))))))))))))))] [3] [] 1000 (by kernel_rfl) (by kernel_rfl) (by kernel_rfl) (by kernel_rfl) (by kernel_rfl) (by kernel_rfl) (Nat.le_of_ble_eq_true rfl) ?_
  simp -implicitDefEqProofs only [go_sem, Try.f43, sCfg, eCfg]
  refine loop0 (fun i => i ≤ c.chans.length ∧ ∀ j z, j < i → c.chans[j]? = some z → sendsX c a b z = false) [1, 2, 3] (fun i => [(7, .v (.int .i64 i))]) (fun i => c.chans.length - i) 0 ⟨by omega, by omega⟩ ⟨rfl, trivial⟩ (fun i => rfl) rfl ?_
  rintro i ⟨hi, hx⟩ E hE
  simp -implicitDefEqProofs only [go_sem]
  refine ⟨fun hlt => ?_, fun hge => ?_⟩
  · simp only [decide_eq_true_eq] at hlt
    obtain ⟨x, hy⟩ := get_lt hlt
    have hd := hc.dests x (List.mem_of_getElem? hy)
    obtain ⟨⟨s, hs⟩, hds⟩ := hl x (List.mem_of_getElem? hy)
    obtain ⟨q, e1, e2, e3⟩ := at_port hs
    have es : ownerR c x.source = s.part := by simp only [ownerR, hs]
    simp -implicitDefEqProofs only [go_sem, encAt_some hy, eChan]
    refine ⟨⟨by omega, hlt⟩, call0 (t_port c hc _) rfl rfl ?_⟩
    simp -implicitDefEqProofs only [go_sem, e1, encAt_some e2, ePrt]
    refine ⟨⟨by omega, by omega⟩, fun hne => ?_, fun heq => ?_⟩
    · have hf : sendsX c a b x = false := by
        have : ¬ s.part = a := by simpa using hne
        simp [sendsX, es, this]
      exact ⟨inI64_nat hi hlen, hE _ (i + 1) ⟨by omega, snoc_inv hy hf hx⟩ (by omega) ⟨rfl, rfl, rfl, rfl, trivial⟩ trivial (fun _ h => h)⟩
    · have ha : s.part = a := by simpa using heq
      refine loop0 (fun k => k ≤ x.dests.length ∧ ∀ j z, j < k → x.dests[j]? = some z → decide (ownerR c z = b) = false) [1, 2, 3, 7, 8] (fun k => [(9, .v (.int .i64 k))]) (fun k => x.dests.length - k) 0 ⟨by omega, by omega⟩ ⟨rfl, trivial⟩ (fun k => rfl) rfl ?_
      rintro k ⟨hk, hkx⟩ E' hE'
      simp -implicitDefEqProofs only [go_sem]
      refine ⟨fun hlt2 => ?_, fun hge2 => ?_⟩
      · simp only [decide_eq_true_eq] at hlt2
        obtain ⟨d, hd2⟩ := get_lt hlt2
        obtain ⟨p, hp⟩ := hds d (List.mem_of_getElem? hd2)
        obtain ⟨r, r1, r2, r3⟩ := at_port hp
        have ep : ownerR c d = p.part := by simp only [ownerR, hp]
        simp -implicitDefEqProofs only [go_sem, encAt_some hd2, eI16]
        refine ⟨⟨by omega, hlt2⟩, call0 (t_port c hc _) rfl rfl ?_⟩
        simp -implicitDefEqProofs only [go_sem, r1, encAt_some r2, ePrt]
        refine ⟨⟨by omega, by omega⟩, fun h => ?_, fun h => ?_⟩
        · have hf : sendsX c a b x = true := by
            simp only [sendsX, es, ha, decide_true, Bool.true_and]
            exact any_some hd2 (by rw [ep]; exact h)
          exact ret0 rfl (by simp -implicitDefEqProofs only [go_sem, sendsR]; rw [any_some hy hf])
        · exact ⟨inI64_nat hk hd, hE' _ (k + 1) ⟨by omega, snoc_inv (p := fun z => decide (ownerR c z = b)) hd2 (by rw [ep]; exact h) hkx⟩ (by omega) ⟨rfl, rfl, rfl, rfl, rfl, rfl, trivial⟩ ⟨rfl, trivial⟩ (fun _ h => h)⟩
      · simp only [decide_eq_false_iff_not] at hge2
        have hf : sendsX c a b x = false := by
          simp only [sendsX, es, ha, decide_true, Bool.true_and]
          exact any_none (fun j z hj => hkx j z (by omega))
        exact ⟨inI64_nat hi hlen, hE _ (i + 1) ⟨by omega, snoc_inv hy hf hx⟩ (by omega) ⟨rfl, rfl, rfl, rfl, trivial⟩ trivial (fun _ h => h)⟩
  · simp only [decide_eq_false_iff_not] at hge
    exact ret0 rfl (by simp -implicitDefEqProofs only [go_sem, sendsR]; rw [any_none (fun j z hj => hx j z (by omega))])
end Go.Proofs.Ytbpobdlahighoaa.Sx
