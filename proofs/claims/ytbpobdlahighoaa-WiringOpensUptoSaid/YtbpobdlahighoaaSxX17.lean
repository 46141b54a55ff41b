/- What a right configuration is, in plain words; the law's own 'right'; the law WiringSources, walked. -/
import Derived.Test.YtbpobdlahighoaaSxX14
namespace Go.Proofs.Ytbpobdlahighoaa.Sx
open Go
set_option linter.unusedVariables false
set_option linter.unusedSimpArgs false
set_option maxRecDepth 100000

theorem fe_zero {f : Nat → Int} {n : Nat} (h : (fe f n).1 = 0) : ∀ j, j < n → f j = 0 := by
  intro j hj
  unfold fe at h
  split at h
  · rename_i i hi
    have := List.find?_some hi
    simp only [decide_eq_true_eq] at this
    exact absurd h this
  · rename_i hi
    have := List.find?_eq_none.1 hi j (by simpa using hj)
    simpa using this
theorem allI_at {α : Type} {q : Nat → α → Bool} {l : List α} (h : allI q l = true) {i : Nat} {y : α} (hy : l[i]? = some y) : q i y = true := by
  unfold allI at h
  rw [List.all_eq_true] at h
  have := h i (by rw [List.mem_range]; exact (List.getElem?_eq_some_iff.1 hy).1)
  rw [hy] at this
  exact this
/-- All identifiers differ. -/
def distinct {α : Type} (f : α → Int) (l : List α) : Prop := ∀ (i j : Nat) (y z : α), l[i]? = some y → l[j]? = some z → f y = f z → i = j
theorem distinct_of {α : Type} {f : α → Int} {l : List α} (h : allI (fun j (z : α) => !decide (ix (fun p => decide (f p = f z)) l < j)) l = true) : distinct f l := by
  have key : ∀ (i j : Nat) (y z : α), l[i]? = some y → l[j]? = some z → f y = f z → j ≤ i := by
    intro i j y z hy hz e
    have h1 := allI_at h hz
    simp only [Bool.not_eq_true', decide_eq_false_iff_not, Int.not_lt] at h1
    rcases ix_find (fun p => decide (f p = f z)) l with ⟨h2, h3⟩ | ⟨q, w, h2, h3, h4, h5⟩
    · rw [h3] at h1; omega
    · rcases Nat.lt_or_ge i j with hlt | hge
      · have := List.find?_eq_some_iff_getElem.1 h2
        obtain ⟨_, q', hq', e1, hmin⟩ := this
        rcases Nat.lt_or_ge i q' with hl | hg
        · have := hmin i hl
          have e2 : l[i]'(by omega) = y := (List.getElem?_eq_some_iff.1 hy).2
          rw [e2] at this
          simp [e] at this
        · have e3 : ix (fun p => decide (f p = f z)) l = (q' : Int) := by
            refine ix_some (y := w) (by rw [List.getElem?_eq_getElem hq', e1]) h4 (fun j' z' hj' hz' => ?_)
            have := hmin j' hj'
            rw [List.getElem?_eq_some_iff] at hz'
            rw [hz'.2] at this
            simpa using this
          rw [e3] at h1
          omega
      · exact hge
  intro i j y z hy hz e
  have := key i j y z hy hz e
  have := key j i z y hz hy e.symm
  omega
structure RightP (c : Cfg) : Prop where
  parts : distinct Part.id c.parts
  ports : distinct Prt.id c.ports
  chans : distinct Chan.id c.chans
  owner : ∀ p ∈ c.ports, ∃ q ∈ c.parts, q.id = p.part
  size : ∀ p ∈ c.ports, p.size ≠ 0
  chan : ∀ i x, c.chans[i]? = some x → ∃ s, fPort c x.source = some s ∧ s.output = true ∧ used c i x.source = false ∧ x.dests.length ≠ 0 ∧
    ∀ k d, x.dests[k]? = some d → ∃ p, fPort c d = some p ∧ p.output = false ∧ p.queuing = s.queuing ∧ p.size = s.size ∧ used c i p.id = false ∧ ((x.dests.take k).any fun y => decide (y = p.id)) = false
theorem right_of {c : Cfg} (h : rightR c = true) : RightP c := by
  unfold rightR uniqR at h
  simp only [Bool.and_eq_true, decide_eq_true_eq] at h
  obtain ⟨⟨h1, h2, h3⟩, h4, h5⟩ := h
  have hp := fe_zero h4
  have hch := fe_zero h5
  have port : ∀ p ∈ c.ports, fPart c p.part ≠ none ∧ p.size ≠ 0 := by
    intro p hpm
    obtain ⟨i, hi⟩ := List.mem_iff_getElem?.1 hpm
    have := hp i (List.getElem?_eq_some_iff.1 hi).1
    unfold epR at this
    rw [hi] at this
    simp only [] at this
    split at this
    · cases this
    · split at this
      · cases this
      · exact ⟨by assumption, by assumption⟩
  refine ⟨distinct_of h1, distinct_of h2, distinct_of h3, fun p hpm => ?_, fun p hpm => (port p hpm).2, fun i x hx => ?_⟩
  · cases hf : fPart c p.part with
    | none => exact absurd hf (port p hpm).1
    | some q => exact ⟨q, List.mem_of_find?_eq_some hf, by have := List.find?_some hf; simpa using this⟩
  · have := hch i (List.getElem?_eq_some_iff.1 hx).1
    unfold ecR at this
    rw [hx] at this
    simp only [] at this
    split at this
    · cases this
    · rename_i s hs
      split at this
      · rename_i ho
        split at this
        · cases this
        · rename_i hu
          split at this
          · cases this
          · rename_i hd
            refine ⟨s, hs, ho, by simpa using hu, hd, fun k d hk => ?_⟩
            have hk0 := fe_zero this k (List.getElem?_eq_some_iff.1 hk).1
            unfold ekR at hk0
            rw [hk] at hk0
            simp only [edR] at hk0
            split at hk0
            · cases hk0
            · rename_i p hp
              split at hk0
              · cases hk0
              · rename_i h6
                split at hk0
                · cases hk0
                · rename_i h7
                  split at hk0
                  · cases hk0
                  · rename_i h8
                    simp only [Bool.or_eq_true, Bool.not_eq_true', decide_eq_false_iff_not, not_or, Decidable.not_not] at h7 h8
                    exact ⟨p, hp, by simpa using h6, h7.1, h7.2, by simpa using h8.1, (Bool.not_eq_true _).mp h8.2⟩
      · cases this
theorem RightP.linked {c : Cfg} (h : RightP c) : linked c := by
  intro x hx
  obtain ⟨i, hi⟩ := List.mem_iff_getElem?.1 hx
  obtain ⟨s, hs, _, _, _, hd⟩ := h.chan i x hi
  refine ⟨⟨s, hs⟩, fun d hdm => ?_⟩
  obtain ⟨k, hk⟩ := List.mem_iff_getElem?.1 hdm
  obtain ⟨p, hp, _⟩ := hd k d hk
  exact ⟨p, hp⟩
theorem RightP.wired {c : Cfg} (h : RightP c) : wired c := ⟨h.linked, h.owner⟩
/-- Found by its identifier. -/
theorem RightP.port_at {c : Cfg} (h : RightP c) {p : Prt} (hp : p ∈ c.ports) : fPort c p.id = some p := by
  obtain ⟨i, hi⟩ := List.mem_iff_getElem?.1 hp
  refine find_some hi (by simp) (fun j z hj hz => ?_)
  simp only [decide_eq_false_iff_not]
  intro e
  have := h.ports j i z p hz hi e
  omega
theorem fPort_id {c : Cfg} {id : Int} {p : Prt} (h : fPort c id = some p) : p.id = id := by
  have := List.find?_some h; simpa using this
theorem from_eq (c : Cfg) (port : Int) : fromF c port = ((match fromR c port with | some y => y.source | none => 0), (fromR c port).isSome) := by
  have e : (fun y : Chan => y.dests.any fun z => decide (z = port)) = hasD port := by
    funext y
    unfold hasD
    congr 1
    funext z
    simp only [decide_eq_decide]
    exact eq_comm
  unfold fromF fromR
  rw [e]
  split <;> rename_i h <;> simp [h]
/-- The source of a destination. -/
theorem RightP.from_port {c : Cfg} (h : RightP c) {p : Prt} (hp : p ∈ c.ports) {y : Chan} (hy : fromR c p.id = some y) : p.output = false ∧ ∃ s, fPort c y.source = some s ∧ s.output = true ∧ s.queuing = p.queuing ∧ s.size = p.size := by
  unfold fromR at hy
  have hm := List.mem_of_find?_eq_some hy
  have hd := List.find?_some hy
  rw [List.any_eq_true] at hd
  obtain ⟨d, hd, e⟩ := hd
  simp only [decide_eq_true_eq] at e
  subst e
  obtain ⟨i, hi⟩ := List.mem_iff_getElem?.1 hm
  obtain ⟨k, hk⟩ := List.mem_iff_getElem?.1 hd
  obtain ⟨s, hs, ho, _, _, hall⟩ := h.chan i y hi
  obtain ⟨q, hq, h1, h2, h3, _⟩ := hall k p.id hk
  rw [h.port_at hp] at hq
  injection hq with hq
  subst hq
  exact ⟨h1, s, hs, ho, h2.symm, h3.symm⟩

theorem from_both (c : Cfg) (hc : c.ok) (port : Int) : ∃ (m : Int) (b : Bool), TriF Pr 16 [sCfg c, .v (.int .u16 port)] [] [] (.tup [.v (.int .u16 m), .v (.bool b)]) [] ∧ TriF Pr 17 [sCfg c, .v (.int .u16 port)] [] [] (.tup [.v (.int .u16 m), .v (.bool b)]) [] ∧ (b = true → ∃ y, fromR c port = some y ∧ m = y.source) := by
  have h1 := t_wFrom c hc port
  have h2 := t_rFrom c hc port
  rw [from_eq c] at h1
  cases h : fromR c port with
  | none => rw [h] at h1 h2; exact ⟨0, false, h1, h2, fun e => by cases e⟩
  | some y => rw [h] at h1 h2; exact ⟨y.source, true, h1, h2, fun _ => ⟨y, rfl, rfl⟩⟩
/-- the law's right -/
theorem t_lright (c : Cfg) (hc : c.ok) : TriF Pr 15 [sCfg c] [] [] (.v (.bool (fewR c && rightR c))) [] := by
  refine tri_fn Try.f15 [] [1] [] 1000 (by kernel_rfl) (by kernel_rfl) (by kernel_rfl) (by kernel_rfl) (by kernel_rfl) (by kernel_rfl) (Nat.le_of_ble_eq_true rfl) ?_
  simp -implicitDefEqProofs only [go_sem, Try.f15, sCfg, eCfg]
  refine call0 (t_few c hc) rfl rfl ?_
  cases hf : fewR c with
  | true =>
    simp -implicitDefEqProofs only [go_sem, hf]
    refine call0 (t_right c hc) rfl rfl ?_
    simp -implicitDefEqProofs only [go_sem]
    exact ret0 rfl (by simp -implicitDefEqProofs only [go_sem])
  | false =>
    simp -implicitDefEqProofs only [go_sem, hf]
    exact ret0 rfl (by simp -implicitDefEqProofs only [go_sem, Bool.false_and])
/-- fenestralaw18.WiringSources -/
theorem t_sources (c : Cfg) (hc : c.ok) (port : Int) : TriF Pr 4 [sCfg c, .v (.int .u16 port)] [] [] (.v (.bool true)) [] := by
  refine tri_fnG Try.f4 [] [2] [] [9] 1000 (by kernel_rfl) (by kernel_rfl) (by kernel_rfl) (by kernel_rfl) (by kernel_rfl) (by kernel_rfl) (Nat.le_of_ble_eq_true rfl) ?_
  simp -implicitDefEqProofs only [go_sem, Try.f4, sCfg, eCfg]
  refine call0 (t_lright c hc) rfl rfl ?_
  cases hr : (fewR c && rightR c) with
  | false =>
    simp -implicitDefEqProofs only [go_sem, hr]
    refine call0 t_alive rfl rfl ?_
    simp -implicitDefEqProofs only [go_sem]
    exact ret0 rfl (by simp -implicitDefEqProofs only [go_sem])
  | true =>
    have hR : RightP c := right_of (by simp only [Bool.and_eq_true] at hr; exact hr.2)
    simp -implicitDefEqProofs only [go_sem, hr]
    have hpl := hc.ports
    obtain ⟨m, b, hw1, hw2, _⟩ := from_both c hc port
    refine call0 hw1 rfl rfl ?_
    simp -implicitDefEqProofs only [go_sem]
    refine call0 hw2 rfl rfl ?_
    simp -implicitDefEqProofs only [go_sem]
    refine loop0 (fun i => i ≤ c.ports.length) [2, 39, 40] (fun i => [(41, .v (.int .i64 i))]) (fun i => c.ports.length - i) 0 (by omega) ⟨rfl, trivial⟩ (fun i => rfl) rfl ?_
    intro i hi E hE
    simp -implicitDefEqProofs only [go_sem]
    refine ⟨fun hlt => ?_, fun hge => ?_⟩
    · simp only [decide_eq_true_eq] at hlt
      obtain ⟨y, hy⟩ := get_lt hlt
      have hym := List.mem_of_getElem? hy
      simp -implicitDefEqProofs only [go_sem, encAt_some hy, ePrt]
      refine ⟨⟨by omega, by omega⟩, [.frz 0], ?_⟩
      simp -implicitDefEqProofs only [go_sem, ePrt]
      obtain ⟨m2, b2, hv1, hv2, hv3⟩ := from_both c hc y.id
      refine call0 hv1 rfl rfl ?_
      cases b2 with
      | false =>
        simp -implicitDefEqProofs only [go_sem]
        exact ⟨inI64_nat hi hpl, hE _ (i + 1) (by omega) (by omega) ⟨rfl, rfl, rfl, rfl, trivial⟩ trivial (fun _ h => h)⟩
      | true =>
        obtain ⟨z, hz, rfl⟩ := hv3 rfl
        obtain ⟨ho, s, hs, h1, h2, h3⟩ := hR.from_port hym hz
        simp -implicitDefEqProofs only [go_sem]
        refine call0 (t_port c hc z.source) rfl rfl ?_
        obtain ⟨q, hq, hqs, hql⟩ := at_port hs
        rw [hq]
        simp -implicitDefEqProofs only [go_sem, encAt_some hqs, ePrt, ho, h1, h2, h3]
        have hq0 : (0 : Int) ≤ q ∧ (q : Int) < c.ports.length := ⟨by omega, by omega⟩
        refine ⟨fun _ => ⟨hq0, hq0, hq0, inI64_nat hi hpl, hE _ (i + 1) (by omega) (by omega) ⟨rfl, rfl, rfl, rfl, trivial⟩ trivial (fun _ h => h)⟩, fun h => ?_⟩
        simp only [decide_eq_true_eq] at h
        omega
    · refine call0 t_alive rfl rfl ?_
      simp -implicitDefEqProofs only [go_sem]
      exact ret0 rfl (by simp -implicitDefEqProofs only [go_sem])
end Go.Proofs.Ytbpobdlahighoaa.Sx
