/- The reference of layer 18: channels. -/
import Derived.Test.YtbpobdlahighoaaSxW
namespace Go.Proofs.Ytbpobdlahighoaa.Sx
open Go
set_option linter.unusedVariables false
set_option linter.unusedSimpArgs false
set_option maxRecDepth 100000
def edR (c : Cfg) (i k : Nat) (x : Chan) (s : Prt) (d : Int) : Int := match fPort c d with
  | none => 19
  | some p => if p.output then 25 else if (!decide (p.queuing = s.queuing)) || (!decide (p.size = s.size)) then 26 else if used c i p.id || (x.dests.take k).any (fun y => decide (y = p.id)) then 27 else 0
/-- ref18.dest -/
theorem t_dest (c : Cfg) (hc : c.ok) (i k : Nat) (x : Chan) (s : Prt) (d : Int) (hx : c.chans[i]? = some x) (hs : fPort c x.source = some s) (hd : x.dests[k]? = some d) :
    TriF Pr 56 [sCfg c, .v (.int .i64 i), .v (.int .i64 k)] [] [] (.v (.int .i64 (edR c i k x s d))) [] := by
  have hi := (List.getElem?_eq_some_iff.1 hx).1
  have hk := (List.getElem?_eq_some_iff.1 hd).1
  obtain ⟨q, s', e1, hq, _, e2⟩ : ∃ (q : Nat) (s' : Prt), fPort c x.source = some s' ∧ c.ports[q]? = some s' ∧ True ∧ ix (fun p => decide (p.id = x.source)) c.ports = (q : Int) := by
    rcases ix_find (fun p => decide (p.id = x.source)) c.ports with ⟨h1, h2⟩ | ⟨q, z, h1, hz, hp, h2⟩
    · unfold fPort at hs; rw [h1] at hs; cases hs
    · exact ⟨q, z, h1, hz, trivial, h2⟩
  rw [hs] at e1; injection e1 with e1; subst e1
  have hql := (List.getElem?_eq_some_iff.1 hq).1
  refine tri_fn Try.f56 [(2, .op 0 (.op 3 (.op 2 (.op 4 (.ro 1 (.alt (.op 5 (.op 6 (.op 7 (.op 8 (.op 9 (.nil)))))) (.op 8 (.op 5 (.op 6 (.op 7 (.op 9 (.nil))))))))))))] [3] [2] 1000 (by kernel_rfl) (by kernel_rfl) (by kernel_rfl) (by kernel_rfl) (by kernel_rfl) (by kernel_rfl) (Nat.le_of_ble_eq_true rfl) ?_
  simp -implicitDefEqProofs only [go_sem, Try.f56, sCfg, eCfg, encAt_some hx, eChan]
  refine ⟨⟨by omega, by omega⟩, ?_⟩
  refine ⟨Unit, fun _ => True, fun _ => ⟨[(7, .ptr 0 0), (8, .ptr 1 0), (3, .rop (eCfg c)), (1, .v (.int .i64 i)), (2, .v (.int .i64 k))], [(0, .cells (eChan x)), (1, .cells (ePrt s))], 2, []⟩, ?_, fun _ _ => ?_⟩
  · simp -implicitDefEqProofs only [go_sem]
    refine ⟨call0 (t_port c hc _) rfl rfl ?_, call0 (t_port c hc _) rfl rfl ?_⟩
    all_goals simp -implicitDefEqProofs only [go_sem, e2, encAt_some hq, ePrt]
    all_goals exact ⟨⟨by omega, by omega⟩, (), ⟨rfl, rfl, rfl, rfl, rfl, trivial⟩, ⟨rfl, rfl, trivial⟩, rfl, fun _ h => h⟩
  simp -implicitDefEqProofs only [go_sem, eCfg, eChan, ePrt, encAt_some hd, eI16]
  refine ⟨⟨by omega, by omega⟩, call0 (t_port c hc _) rfl rfl ?_⟩
  rcases ix_find (fun p => decide (p.id = d)) c.ports with ⟨h1, h2⟩ | ⟨r, p, h1, hr, hp, h2⟩
  · have e : edR c i k x s d = 19 := by simp [edR, fPort, h1]
    simp -implicitDefEqProofs only [go_sem, h2]
    exact ret0 rfl (by simp -implicitDefEqProofs only [go_sem, e])
  have hrl := (List.getElem?_eq_some_iff.1 hr).1
  have hq0 : ¬ ((r : Int) < 0) := by omega
  have ee : fPort c d = some p := h1
  simp -implicitDefEqProofs only [go_sem, h2, hq0, encAt_some hr, ePrt]
  refine ⟨⟨by omega, by omega⟩, fun ho => ?_, fun ho => ⟨fun hqq => ⟨fun hz => ?_, fun hz => ?_⟩, fun hqq => ?_⟩⟩
  · exact ret0 rfl (by simp -implicitDefEqProofs only [go_sem, edR, ee, ho])
  · exact ret0 rfl (by simp -implicitDefEqProofs only [go_sem, edR, ee, ho, hqq, hz, Bool.or_true])
  · refine call0 (t_uses c hc i (by omega) _) rfl rfl ?_
    simp -implicitDefEqProofs only [go_sem]
    have hlk : (x.dests.take k).length ≤ 1048576 := by
      have := hc.dests x (List.mem_of_getElem? hx)
      rw [List.length_take]; omega
    refine ⟨fun hu => ⟨⟨by omega, by omega⟩, call0 (t_in _ hlk _ _) rfl rfl ?_⟩, fun hu => ?_⟩
    · simp -implicitDefEqProofs only [go_sem]
      refine ⟨fun hv => ?_, fun hv => ?_⟩
      · exact ret0 rfl (by simp -implicitDefEqProofs only [go_sem, edR, ee, ho, hqq, hz, used, hu, hv, Bool.or_true, Bool.or_false])
      · exact ret0 rfl (by simp -implicitDefEqProofs only [go_sem, edR, ee, ho, hqq, hz, used, hu, hv, Bool.or_false])
    · exact ret0 rfl (by simp -implicitDefEqProofs only [go_sem, edR, ee, ho, hqq, hz, used, hu, Bool.or_false, Bool.true_or])
  · exact ret0 rfl (by simp -implicitDefEqProofs only [go_sem, edR, ee, ho, hqq, Bool.true_or])
/-- The code of a destination of a channel, by its number. -/
def ekR (c : Cfg) (i : Nat) (x : Chan) (s : Prt) (k : Nat) : Int := match x.dests[k]? with | some d => edR c i k x s d | none => 0
def ecR (c : Cfg) (i : Nat) : Int := match c.chans[i]? with
  | some x => match fPort c x.source with
    | none => 19
    | some s => if s.output then if used c i x.source then 27 else if x.dests.length = 0 then 28 else (fe (ekR c i x s) x.dests.length).1 else 25
  | none => 0
/-- ref18.channel -/
theorem t_rchannel (c : Cfg) (hc : c.ok) (i : Nat) (hi : i < c.chans.length) : TriF Pr 32 [sCfg c, .v (.int .i64 i)] [] [] (.v (.int .i64 (ecR c i))) [] := by
  obtain ⟨x, hx⟩ : ∃ x, c.chans[i]? = some x := ⟨_, List.getElem?_eq_getElem hi⟩
  have hd := hc.dests x (List.mem_of_getElem? hx)
  refine tri_fn Try.f32 [] [2] [] 1000 (by kernel_rfl) (by kernel_rfl) (by kernel_rfl) (by kernel_rfl) (by kernel_rfl) (by kernel_rfl) (Nat.le_of_ble_eq_true rfl) ?_
  simp -implicitDefEqProofs only [go_sem, Try.f32, sCfg, eCfg, encAt_some hx, eChan]
  refine ⟨⟨by omega, by omega⟩, call0 (t_port c hc _) rfl rfl ?_⟩
  rcases ix_find (fun p => decide (p.id = x.source)) c.ports with ⟨h1, h2⟩ | ⟨q, s, h1, hq, hp, h2⟩
  · have e : ecR c i = 19 := by simp only [ecR, hx, fPort, h1]
    simp -implicitDefEqProofs only [go_sem, h2]
    exact ret0 rfl (by simp -implicitDefEqProofs only [go_sem, e])
  have hql := (List.getElem?_eq_some_iff.1 hq).1
  have hq0 : ¬ ((q : Int) < 0) := by omega
  have ee : fPort c x.source = some s := h1
  simp -implicitDefEqProofs only [go_sem, h2, hq0, encAt_some hq, ePrt]
  refine ⟨⟨by omega, by omega⟩, fun ho => ?_, fun ho => call0 (t_uses c hc i (by omega) _) rfl rfl ?_⟩
  · exact ret0 rfl (by simp -implicitDefEqProofs only [go_sem]; simp only [ecR, hx, ee]; simp at ho; simp [ho])
  simp -implicitDefEqProofs only [go_sem]
  have ho' : s.output = true := by simpa using ho
  refine ⟨fun hu => ?_, fun hu => ⟨fun hz => ?_, fun hz => ?_⟩⟩
  · exact ret0 rfl (by simp -implicitDefEqProofs only [go_sem]; simp only [ecR, hx, ee, ho', used, hu, if_true])
  · exact ret0 rfl (by simp -implicitDefEqProofs only [go_sem]; simp only [decide_eq_true_eq] at hz; have hz' : x.dests.length = 0 := by omega
                       simp only [ecR, hx, ee, ho', used, hu, hz', if_true, if_false, Bool.false_eq_true])
  simp only [decide_eq_false_iff_not] at hz
  have hz' : ¬ x.dests.length = 0 := by omega
  have fin : ecR c i = (fe (ekR c i x s) x.dests.length).1 := by simp only [ecR, hx, ee, ho', used, hu, hz', if_true, if_false, Bool.false_eq_true]
  refine loop0 (fun j => j ≤ x.dests.length ∧ ∀ k, k < j → ekR c i x s k = 0) [1, 2, 5] (fun j => [(7, .v (.int .i64 j))]) (fun j => x.dests.length - j) 0 ⟨by omega, by omega⟩ ⟨rfl, trivial⟩ (fun j => rfl) rfl ?_
  rintro j ⟨hj, hjx⟩ E hE
  simp -implicitDefEqProofs only [go_sem]
  refine ⟨fun hlt => ?_, fun hge => ?_⟩
  · simp only [decide_eq_true_eq] at hlt
    obtain ⟨d, hy⟩ := get_lt hlt
    refine call0 (t_dest c hc i j x s d hx ee hy) rfl rfl ?_
    simp -implicitDefEqProofs only [go_sem]
    have ek : ekR c i x s j = edR c i j x s d := by simp only [ekR, hy]
    refine ⟨fun h => ?_, fun h => ?_⟩
    · have h' : ekR c i x s j ≠ 0 := by rw [ek]; simpa using h
      exact ret0 rfl (by simp -implicitDefEqProofs only [go_sem]; rw [fin, fe_some (by omega) h' hjx, ek])
    · have h' : ekR c i x s j = 0 := by rw [ek]; simpa using h
      exact ⟨inI64_nat hj hd, hE _ (j + 1) ⟨by omega, fe_snoc h' hjx⟩ (by omega) ⟨rfl, rfl, rfl, rfl, trivial⟩ ⟨rfl, trivial⟩ (fun _ h => h)⟩
  · simp only [decide_eq_false_iff_not] at hge
    exact ret0 rfl (by simp -implicitDefEqProofs only [go_sem]; rw [fin, fe_none (fun k hk => hjx k (by omega))])
/-- ref18.Channels -/
theorem t_rChannels (c : Cfg) (hc : c.ok) : TriF Pr 12 [sCfg c] [] [] (.tup [.v (.int .i64 (fe (ecR c) c.chans.length).1), .v (.int .i64 (fe (ecR c) c.chans.length).2)]) [] := by
  have hl := hc.chans
  refine tri_fn Try.f12 [] [1] [] 1000 (by kernel_rfl) (by kernel_rfl) (by kernel_rfl) (by kernel_rfl) (by kernel_rfl) (by kernel_rfl) (Nat.le_of_ble_eq_true rfl) ?_
  simp -implicitDefEqProofs only [go_sem, Try.f12, sCfg, eCfg]
  refine loop0 (fun i => i ≤ c.chans.length ∧ ∀ j, j < i → ecR c j = 0) [1] (fun i => [(4, .v (.int .i64 i))]) (fun i => c.chans.length - i) 0 ⟨by omega, by omega⟩ ⟨rfl, trivial⟩ (fun i => rfl) rfl ?_
  rintro i ⟨hi, hx⟩ E hE
  simp -implicitDefEqProofs only [go_sem]
  refine ⟨fun hlt => ?_, fun hge => ?_⟩
  · simp only [decide_eq_true_eq] at hlt
    refine call0 (t_rchannel c hc i (by omega)) rfl rfl ?_
    simp -implicitDefEqProofs only [go_sem]
    refine ⟨fun h => ?_, fun h => ?_⟩
    · have h' : ecR c i ≠ 0 := by simpa using h
      exact ret0 rfl (by simp -implicitDefEqProofs only [go_sem]; rw [fe_some (by omega) h' hx])
    · have h' : ecR c i = 0 := by simpa using h
      exact ⟨inI64_nat hi hl, hE _ (i + 1) ⟨by omega, fe_snoc h' hx⟩ (by omega) ⟨rfl, rfl, trivial⟩ trivial (fun _ h => h)⟩
  · simp only [decide_eq_false_iff_not] at hge
    exact ret0 rfl (by simp -implicitDefEqProofs only [go_sem]; rw [fe_none (fun j hj => hx j (by omega))])
def rightR (c : Cfg) : Bool := uniqR c && (decide ((fe (epR c) c.ports.length).1 = 0) && decide ((fe (ecR c) c.chans.length).1 = 0))
/-- ref18.Right -/
theorem t_right (c : Cfg) (hc : c.ok) : TriF Pr 38 [sCfg c] [] [] (.v (.bool (rightR c))) [] := by
  refine tri_fn Try.f38 [] [1] [] 1000 (by kernel_rfl) (by kernel_rfl) (by kernel_rfl) (by kernel_rfl) (by kernel_rfl) (by kernel_rfl) (Nat.le_of_ble_eq_true rfl) ?_
  simp -implicitDefEqProofs only [go_sem, Try.f38, sCfg, eCfg]
  refine call0 (t_unique c hc) rfl rfl ?_
  simp -implicitDefEqProofs only [go_sem]
  refine ⟨fun hu => ?_, fun hu => call0 (t_rPorts c hc) rfl rfl ?_⟩
  · have hu' : uniqR c = false := by simpa using hu
    exact ret0 rfl (by simp -implicitDefEqProofs only [go_sem, rightR, hu', Bool.false_and])
  have hu' : uniqR c = true := by simpa using hu
  simp -implicitDefEqProofs only [go_sem]
  refine call0 (t_rChannels c hc) rfl rfl ?_
  simp -implicitDefEqProofs only [go_sem]
  refine ⟨fun h => ?_, fun h => ?_⟩
  · exact ret0 rfl (by simp -implicitDefEqProofs only [go_sem, rightR, hu', h])
  · exact ret0 rfl (by simp -implicitDefEqProofs only [go_sem, rightR, hu', h, Bool.false_and])
end Go.Proofs.Ytbpobdlahighoaa.Sx
/- The reference of layer 18: messages. -/
namespace Go.Proofs.Ytbpobdlahighoaa.Sx
open Go
set_option linter.unusedVariables false
set_option linter.unusedSimpArgs false
set_option maxRecDepth 100000
/-- The channels of a right configuration begin and end at ports that there are. -/
def linked (c : Cfg) : Prop := ∀ x ∈ c.chans, (∃ s, fPort c x.source = some s) ∧ ∀ d ∈ x.dests, ∃ p, fPort c d = some p
def ownerR (c : Cfg) (id : Int) : Int := match fPort c id with | some p => p.part | none => -1
def sendsX (c : Cfg) (a b : Int) (x : Chan) : Bool := decide (ownerR c x.source = a) && x.dests.any fun d => decide (ownerR c d = b)
def sendsR (c : Cfg) (a b : Int) : Bool := c.chans.any (sendsX c a b)
/-- What Port returns of a port that there is. -/
theorem at_port {c : Cfg} {id : Int} {s : Prt} (h : fPort c id = some s) : ∃ q : Nat, ix (fun p => decide (p.id = id)) c.ports = (q : Int) ∧ c.ports[q]? = some s ∧ q < c.ports.length := by
  rcases ix_find (fun p => decide (p.id = id)) c.ports with ⟨h1, h2⟩ | ⟨q, z, h1, hz, hp, h2⟩
  · unfold fPort at h; rw [h1] at h; cases h
  · unfold fPort at h; rw [h1] at h; injection h with h; subst h
    exact ⟨q, h2, hz, (List.getElem?_eq_some_iff.1 hz).1⟩
/-- ref18.sends -/
theorem t_sends (c : Cfg) (hc : c.ok) (hl : linked c) (a b : Int) : TriF Pr 43 [sCfg c, .v (.int .u16 a), .v (.int .u16 b)] [] [] (.v (.bool (sendsR c a b))) [] := by
  have hlen := hc.chans
  refine tri_fn Try.f43 [(5, .op 0 (.op 3 (.op 9 (.op 2 (.op 4 (.ro 1 (.op 5 (.op 6 (.op 7 (.op 8 (.op 10 (.nil)))))))))))), (9, .op 0 (.op 3 (.op 5 (.op 12 (.op 2 (.op 4 (.op 6 (.op 7 (.ro 1 (.op 8 (.op 9 (.op 10 (.op 11 (.op 13 (.nil)))))))))))))))] [3] [] 1000 (by kernel_rfl) (by kernel_rfl) (by kernel_rfl) (by kernel_rfl) (by kernel_rfl) (by kernel_rfl) (Nat.le_of_ble_eq_true rfl) ?_
  simp -implicitDefEqProofs only [go_sem, Try.f43, sCfg, eCfg]
  refine loop0 (fun i => i ≤ c.chans.length ∧ ∀ j z, j < i → c.chans[j]? = some z → sendsX c a b z = false) [1, 2, 3] (fun i => [(7, .v (.int .i64 i))]) (fun i => c.chans.length - i) 0 ⟨by omega, by omega⟩ ⟨rfl, trivial⟩ (fun i => rfl) rfl ?_
  rintro i ⟨hi, hx⟩ E hE
  simp -implicitDefEqProofs only [go_sem]
  refine ⟨fun hlt => ?_, fun hge => ?_⟩
  · simp only [decide_eq_true_eq] at hlt
    obtain ⟨x, hy⟩ := get_lt hlt
    have hd := hc.dests x (List.mem_of_getElem? hy)
    obtain ⟨⟨s, hs⟩, hds⟩ := hl x (List.mem_of_getElem? hy)
    obtain ⟨q, e1, e2, e3⟩ := at_port hs
    have es : ownerR c x.source = s.part := by simp only [ownerR, hs]
    simp -implicitDefEqProofs only [go_sem, encAt_some hy, eChan]
    refine ⟨⟨by omega, hlt⟩, call0 (t_port c hc _) rfl rfl ?_⟩
    simp -implicitDefEqProofs only [go_sem, e1, encAt_some e2, ePrt]
    refine ⟨⟨by omega, by omega⟩, fun hne => ?_, fun heq => ?_⟩
    · have hf : sendsX c a b x = false := by
        have : ¬ s.part = a := by simpa using hne
        simp [sendsX, es, this]
      exact ⟨inI64_nat hi hlen, hE _ (i + 1) ⟨by omega, snoc_inv hy hf hx⟩ (by omega) ⟨rfl, rfl, rfl, rfl, trivial⟩ trivial (fun _ h => h)⟩
    · have ha : s.part = a := by simpa using heq
      refine loop0 (fun k => k ≤ x.dests.length ∧ ∀ j z, j < k → x.dests[j]? = some z → decide (ownerR c z = b) = false) [1, 2, 3, 7, 8] (fun k => [(9, .v (.int .i64 k))]) (fun k => x.dests.length - k) 0 ⟨by omega, by omega⟩ ⟨rfl, trivial⟩ (fun k => rfl) rfl ?_
      rintro k ⟨hk, hkx⟩ E' hE'
      simp -implicitDefEqProofs only [go_sem]
      refine ⟨fun hlt2 => ?_, fun hge2 => ?_⟩
      · simp only [decide_eq_true_eq] at hlt2
        obtain ⟨d, hd2⟩ := get_lt hlt2
        obtain ⟨p, hp⟩ := hds d (List.mem_of_getElem? hd2)
        obtain ⟨r, r1, r2, r3⟩ := at_port hp
        have ep : ownerR c d = p.part := by simp only [ownerR, hp]
        simp -implicitDefEqProofs only [go_sem, encAt_some hd2, eI16]
        refine ⟨⟨by omega, hlt2⟩, call0 (t_port c hc _) rfl rfl ?_⟩
        simp -implicitDefEqProofs only [go_sem, r1, encAt_some r2, ePrt]
        refine ⟨⟨by omega, by omega⟩, fun h => ?_, fun h => ?_⟩
        · have hf : sendsX c a b x = true := by
            simp only [sendsX, es, ha, decide_true, Bool.true_and]
            exact any_some hd2 (by rw [ep]; exact h)
          exact ret0 rfl (by simp -implicitDefEqProofs only [go_sem, sendsR]; rw [any_some hy hf])
        · exact ⟨inI64_nat hk hd, hE' _ (k + 1) ⟨by omega, snoc_inv (p := fun z => decide (ownerR c z = b)) hd2 (by rw [ep]; exact h) hkx⟩ (by omega) ⟨rfl, rfl, rfl, rfl, rfl, rfl, trivial⟩ ⟨rfl, trivial⟩ (fun _ h => h)⟩
      · simp only [decide_eq_false_iff_not] at hge2
        have hf : sendsX c a b x = false := by
          simp only [sendsX, es, ha, decide_true, Bool.true_and]
          exact any_none (fun j z hj => hkx j z (by omega))
        exact ⟨inI64_nat hi hlen, hE _ (i + 1) ⟨by omega, snoc_inv hy hf hx⟩ (by omega) ⟨rfl, rfl, rfl, rfl, trivial⟩ trivial (fun _ h => h)⟩
  · simp only [decide_eq_false_iff_not] at hge
    exact ret0 rfl (by simp -implicitDefEqProofs only [go_sem, sendsR]; rw [any_none (fun j z hj => hx j z (by omega))])
end Go.Proofs.Ytbpobdlahighoaa.Sx
/- The reference of layer 5: how many records. -/
namespace Go.Proofs.Ytbpobdlahighoaa.Sx
open Go
set_option linter.unusedVariables false
set_option linter.unusedSimpArgs false
set_option maxRecDepth 100000
def linksN (l : List Chan) : Nat := (l.map fun x => x.dests.length).sum
theorem linksN_snoc {l : List Chan} {i : Nat} {y : Chan} (hy : l[i]? = some y) : linksN (l.take (i + 1)) = linksN (l.take i) + y.dests.length := by
  obtain ⟨h1, h2⟩ := List.getElem?_eq_some_iff.1 hy
  rw [List.take_succ_eq_append_getElem h1, h2]
  simp [linksN]
theorem linksN_le {l : List Chan} (h : ∀ x ∈ l, x.dests.length ≤ 1048576) : linksN l ≤ l.length * 1048576 := by
  induction l with
  | nil => simp [linksN]
  | cons x l ih =>
    have h1 := h x (by simp)
    have h2 := ih (fun y hy => h y (by simp [hy]))
    simp only [linksN, List.map_cons, List.sum_cons, List.length_cons] at *
    omega
theorem links_bound {c : Cfg} (hc : c.ok) (i : Nat) : linksN (c.chans.take i) ≤ 1099511627776 := by
  have h1 := linksN_le (l := c.chans.take i) (fun x hx => hc.dests x (List.mem_of_mem_take hx))
  have h2 := hc.chans
  have h3 : (c.chans.take i).length ≤ 1048576 := by rw [List.length_take]; omega
  have := Nat.mul_le_mul_right 1048576 h3
  omega
def sI (n : Int) : SV := .v (.int .i64 n)
def eCounts (c : Cfg) : List SV := [.v (.int .i64 0), .v (.int .i64 c.parts.length), .v (.int .i64 c.wins.length), .v (.int .i64 c.regs.length), .v (.int .i64 c.ports.length), .v (.int .i64 c.chans.length), .v (.int .i64 (linksN c.chans))]
/-- ref05.Counts -/
theorem t_counts (c : Cfg) (hc : c.ok) : TriF Pr 54 [sCfg c] [] [] (.agg (eCounts c)) [] := by
  have hlen := hc.chans
  refine tri_fn Try.f54 [] [1] [] 1000 (by kernel_rfl) (by kernel_rfl) (by kernel_rfl) (by kernel_rfl) (by kernel_rfl) (by kernel_rfl) (Nat.le_of_ble_eq_true rfl) ?_
  simp -implicitDefEqProofs only [go_sem, Try.f54, sCfg, eCfg]
  refine loop0 (fun i => i ≤ c.chans.length) [1, 2] (fun i => [(4, .v (.int .i64 i)), (3, .v (.int .i64 (linksN (c.chans.take i))))]) (fun i => c.chans.length - i) 0 (by omega) ⟨rfl, rfl, trivial⟩ (fun i => rfl) rfl ?_
  intro i hi E hE
  simp -implicitDefEqProofs only [go_sem]
  refine ⟨fun hlt => ?_, fun hge => ?_⟩
  · simp only [decide_eq_true_eq] at hlt
    obtain ⟨x, hy⟩ := get_lt hlt
    have hd := hc.dests x (List.mem_of_getElem? hy)
    have hb := links_bound hc i
    have hsn := linksN_snoc hy
    simp -implicitDefEqProofs only [go_sem, encAt_some hy, eChan]
    refine ⟨⟨by omega, hlt⟩, ⟨by omega, by omega⟩, inI64_nat hi hlen, hE _ (i + 1) (by omega) (by omega) ⟨rfl, ?_, rfl, rfl, trivial⟩ ⟨rfl, trivial⟩ (fun _ h => h)⟩
    simp -implicitDefEqProofs only [go_sem, hsn, Int.natCast_add]
  · simp only [decide_eq_false_iff_not] at hge
    have hil : i = c.chans.length := by omega
    subst hil
    exact ret0 rfl (by simp -implicitDefEqProofs only [go_sem, List.take_length, eCounts])
def longN (b : ByteArray) : Bool := decide ((1000 : Int) < (b.size : Int))
def totalN (c : Cfg) : Nat := c.parts.length + c.wins.length + c.regs.length + c.ports.length + c.chans.length + linksN c.chans
def fewR (c : Cfg) : Bool := (!(c.parts.any fun z => longN z.name)) && ((!(c.ports.any fun z => longN z.name)) && decide (totalN c ≤ 120))
/-- ref05.Few -/
theorem t_few (c : Cfg) (hc : c.ok) : TriF Pr 29 [sCfg c] [] [] (.v (.bool (fewR c))) [] := by
  refine tri_fn Try.f29 [] [1] [] 1000 (by kernel_rfl) (by kernel_rfl) (by kernel_rfl) (by kernel_rfl) (by kernel_rfl) (by kernel_rfl) (Nat.le_of_ble_eq_true rfl) ?_
  simp -implicitDefEqProofs only [go_sem, Try.f29, sCfg, eCfg]
  refine call0 (t_counts c hc) rfl rfl ?_
  simp -implicitDefEqProofs only [go_sem, eCounts]
  have h1 := hc.parts
  refine loop0 (fun i => i ≤ c.parts.length ∧ ∀ j z, j < i → c.parts[j]? = some z → longN z.name = false) [1, 3] (fun i => [(4, .v (.int .i64 i))]) (fun i => c.parts.length - i) 0 ⟨by omega, by omega⟩ ⟨rfl, trivial⟩ (fun i => rfl) rfl ?_
  rintro i1 ⟨hi, hx1⟩ E hE
  simp -implicitDefEqProofs only [go_sem]
  refine ⟨fun hlt => ?_, fun hge1 => ?_⟩
  · simp only [decide_eq_true_eq] at hlt
    obtain ⟨y, hy⟩ := get_lt hlt
    simp -implicitDefEqProofs only [go_sem, encAt_some hy, ePart]
    refine ⟨⟨by omega, hlt⟩, fun h => ?_, fun h => ?_⟩
    · have hb : (c.parts.any fun z => longN z.name) = true := any_some hy h
      exact ret0 rfl (by simp -implicitDefEqProofs only [go_sem]; simp [fewR, hb])
    · have hf := snoc_inv (p := fun z => longN z.name) hy (show longN y.name = false from h) hx1
      refine ⟨inI64_nat hi h1, hE _ (i1 + 1) ⟨by omega, hf⟩ (by omega) ⟨rfl, rfl, rfl, trivial⟩ ⟨rfl, trivial⟩ (fun _ h => h)⟩
  simp only [decide_eq_false_iff_not] at hge1
  have hall1 : (c.parts.any fun z => longN z.name) = false := any_none (fun j z hj => hx1 j z (by omega))
  clear hE E hi
  have h2 := hc.ports
  refine loop0 (fun i => i ≤ c.ports.length ∧ ∀ j z, j < i → c.ports[j]? = some z → longN z.name = false) [1, 3] (fun i => [(5, .v (.int .i64 i))]) (fun i => c.ports.length - i) 0 ⟨by omega, by omega⟩ ⟨rfl, trivial⟩ (fun i => rfl) rfl ?_
  rintro i2 ⟨hi, hx2⟩ E hE
  simp -implicitDefEqProofs only [go_sem]
  refine ⟨fun hlt => ?_, fun hge2 => ?_⟩
  · simp only [decide_eq_true_eq] at hlt
    obtain ⟨y, hy⟩ := get_lt hlt
    simp -implicitDefEqProofs only [go_sem, encAt_some hy, ePrt]
    refine ⟨⟨by omega, hlt⟩, fun h => ?_, fun h => ?_⟩
    · have hb : (c.ports.any fun z => longN z.name) = true := any_some hy h
      exact ret0 rfl (by simp -implicitDefEqProofs only [go_sem]; simp [fewR, hb])
    · have hf := snoc_inv (p := fun z => longN z.name) hy (show longN y.name = false from h) hx2
      refine ⟨inI64_nat hi h2, hE _ (i2 + 1) ⟨by omega, hf⟩ (by omega) ⟨rfl, rfl, rfl, trivial⟩ ⟨rfl, trivial⟩ (fun _ h => h)⟩
  simp only [decide_eq_false_iff_not] at hge2
  have hall2 : (c.ports.any fun z => longN z.name) = false := any_none (fun j z hj => hx2 j z (by omega))
  clear hE E hi
  have hb := links_bound hc c.chans.length
  rw [List.take_length] at hb
  have k1 := hc.wins
  have k2 := hc.regs
  have k3 := hc.chans
  refine ⟨by omega, by omega, ⟨by omega, by omega⟩, by omega, ⟨by omega, by omega⟩, by omega, ⟨by omega, by omega⟩, by omega, ⟨by omega, by omega⟩, by omega, ⟨by omega, by omega⟩, ?_⟩
  refine ret0 rfl ?_
  simp -implicitDefEqProofs only [go_sem]
  have e : fewR c = decide (totalN c ≤ 120) := by simp [fewR, hall1, hall2]
  rw [e]
  congr 2
  exact decide_eq_decide.2 (by unfold totalN; omega)
end Go.Proofs.Ytbpobdlahighoaa.Sx
