/- The reference's Flow in plain words: the set of the partitions that are reached grows until it stays the same. -/
import Derived.Test.YtbpobdlahighoaaSxX21
namespace Go.Proofs.Ytbpobdlahighoaa.Sx
open Go
set_option linter.unusedVariables false
set_option linter.unusedSimpArgs false
set_option maxRecDepth 100000

def seenAt (s : List Bool) (i : Nat) : Bool := s[i]?.getD false
/-- Whether a partition is reached, as far as the first j partitions tell. -/
def hitF (c : Cfg) (a : Int) (s : List Bool) (q : Part) (j : Nat) : Bool := sendsR c a q.id || (List.range j).any fun i => seenAt s i && match c.parts[i]? with | some p => sendsR c p.id q.id | none => false
theorem hitF_zero (c : Cfg) (a : Int) (s : List Bool) (q : Part) : hitF c a s q 0 = sendsR c a q.id := by simp [hitF]
theorem hitF_succ {c : Cfg} {a : Int} {s : List Bool} {q p : Part} {j : Nat} (hp : c.parts[j]? = some p) : hitF c a s q (j + 1) = (hitF c a s q j || (seenAt s j && sendsR c p.id q.id)) := by
  unfold hitF
  rw [List.range_succ, List.any_append]
  simp only [List.any_cons, List.any_nil, hp, Bool.or_false, Bool.or_assoc]
theorem hitF_true {c : Cfg} {a : Int} {s : List Bool} {q : Part} {j : Nat} : hitF c a s q j = true ↔ sendsR c a q.id = true ∨ ∃ i p, i < j ∧ seenAt s i = true ∧ c.parts[i]? = some p ∧ sendsR c p.id q.id = true := by
  unfold hitF
  simp only [Bool.or_eq_true, List.any_eq_true, List.mem_range, Bool.and_eq_true]
  constructor
  · rintro (h | ⟨i, hi, h1, h2⟩)
    · exact .inl h
    · cases hp : c.parts[i]? with
      | none => rw [hp] at h2; cases h2
      | some p => rw [hp] at h2; exact .inr ⟨i, p, hi, h1, hp, h2⟩
  · rintro (h | ⟨i, p, hi, h1, hp, h2⟩)
    · exact .inl h
    · exact .inr ⟨i, hi, h1, by rw [hp]; exact h2⟩
def cntU (s : List Bool) : Nat := s.count false
def soundS (c : Cfg) (a : Int) (s : List Bool) : Prop := ∀ k p, seenAt s k = true → c.parts[k]? = some p → FlowP c a p.id
def closedAt (c : Cfg) (a : Int) (s : List Bool) (k : Nat) : Prop := ∀ q, c.parts[k]? = some q → seenAt s k = true ∨ hitF c a s q c.parts.length = false
/-- Behind k partitions of a pass that began with s0. -/
structure passI (c : Cfg) (a : Int) (s0 : List Bool) (x : Nat × List Bool × Bool) : Prop where
  le : x.1 ≤ c.parts.length
  len : x.2.1.length = c.parts.length
  sound : soundS c a x.2.1
  same : x.2.2 = false → x.2.1 = s0 ∧ ∀ j, j < x.1 → closedAt c a s0 j
  less : x.2.2 = true → cntU x.2.1 < cntU s0
structure growI (c : Cfg) (a : Int) (x : List Bool × Bool) : Prop where
  len : x.1.length = c.parts.length
  sound : soundS c a x.1
  closed : x.2 = false → ∀ j, j < c.parts.length → closedAt c a x.1 j
def growM (x : List Bool × Bool) : Nat := if x.2 = true then cntU x.1 + 1 else 0
theorem growI_0 (c : Cfg) (a : Int) : growI c a (List.replicate c.parts.length false, true) :=
  ⟨by simp, fun k p h _ => by
    unfold seenAt at h
    rw [List.getElem?_replicate] at h
    split at h <;> simp at h, fun h => by cases h⟩
theorem passI_0 {c : Cfg} {a : Int} {s : List Bool} (h : growI c a (s, true)) : passI c a s (0, s, false) :=
  ⟨Nat.zero_le _, h.len, h.sound, fun _ => ⟨rfl, fun j hj => by simp at hj⟩, fun h => by cases h⟩
theorem passI_seen {c : Cfg} {a : Int} {s0 : List Bool} {k : Nat} {s : List Bool} {g : Bool} (h : passI c a s0 (k, s, g)) (hk : k < c.parts.length) (hs : seenAt s k = true) : passI c a s0 (k + 1, s, g) :=
  ⟨hk, h.len, h.sound, fun e => ⟨(h.same e).1, fun j hj => by
    rcases Nat.lt_or_ge j k with hlt | hge
    · exact (h.same e).2 j hlt
    · have : j = k := by simp only at hj; omega
      subst this
      intro q hq
      have := (h.same e).1
      simp only at this
      subst this
      exact .inl hs⟩, h.less⟩
theorem passI_miss {c : Cfg} {a : Int} {s0 : List Bool} {k : Nat} {s : List Bool} {g : Bool} {q : Part} (h : passI c a s0 (k, s, g)) (hq : c.parts[k]? = some q) (hs : hitF c a s q c.parts.length = false) : passI c a s0 (k + 1, s, g) :=
  ⟨(List.getElem?_eq_some_iff.1 hq).1, h.len, h.sound, fun e => ⟨(h.same e).1, fun j hj => by
    rcases Nat.lt_or_ge j k with hlt | hge
    · exact (h.same e).2 j hlt
    · have : j = k := by simp only at hj; omega
      subst this
      intro q' hq'
      rw [hq] at hq'
      injection hq' with hq'
      subst hq'
      have := (h.same e).1
      simp only at this
      subst this
      exact .inr hs⟩, h.less⟩
theorem sends_from {c : Cfg} (hR : RightP c) {a b : Int} (h : sendsR c a b = true) : ∃ (i : Nat) (p : Part), c.parts[i]? = some p ∧ p.id = a := by
  unfold sendsR at h
  rw [List.any_eq_true] at h
  obtain ⟨x, hx, h⟩ := h
  unfold sendsX at h
  simp only [Bool.and_eq_true, decide_eq_true_eq] at h
  obtain ⟨⟨s, hs⟩, _⟩ := hR.linked x hx
  have e : ownerR c x.source = s.part := by unfold ownerR; rw [hs]
  obtain ⟨p, hp, hpi⟩ := hR.owner s (List.mem_of_find?_eq_some hs)
  obtain ⟨i, hi⟩ := List.mem_iff_getElem?.1 hp
  exact ⟨i, p, hi, by rw [hpi, ← e, h.1]⟩
theorem seen_set {s : List Bool} {k : Nat} (hk : k < s.length) (i : Nat) : seenAt (s.set k true) i = (decide (k = i) || seenAt s i) := by
  unfold seenAt
  rw [List.getElem?_set]
  by_cases e : k = i
  · subst e; simp [hk]
  · simp [e]
theorem cntU_set {s : List Bool} {k : Nat} (hk : k < s.length) (hs : seenAt s k = false) : cntU (s.set k true) < cntU s := by
  have e : s[k] = false := by
    unfold seenAt at hs
    rw [List.getElem?_eq_getElem hk] at hs
    exact hs
  unfold cntU
  rw [List.count_set hk, e]
  have : 0 < s.count false := List.count_pos_iff.2 (by rw [← e]; exact List.getElem_mem hk)
  simp
  omega
theorem passI_hit {c : Cfg} (hR : RightP c) {a : Int} {s0 : List Bool} {k : Nat} {s : List Bool} {g : Bool} {q : Part} (h : passI c a s0 (k, s, g)) (hq : c.parts[k]? = some q) (hk : seenAt s k = false) (hs : hitF c a s q c.parts.length = true) : passI c a s0 (k + 1, s.set k true, true) := by
  have hkl := (List.getElem?_eq_some_iff.1 hq).1
  have hl := h.len
  simp only at hl
  have hfl : FlowP c a q.id := by
    rcases hitF_true.1 hs with h1 | ⟨i, p, _, h1, h2, h3⟩
    · obtain ⟨i, p, hp, rfl⟩ := sends_from hR h1
      exact FlowP.sent hR hp hq h1
    · exact (h.sound i p h1 h2).trans (FlowP.sent hR h2 hq h3)
  refine ⟨hkl, by simp [hl], fun j p hj hp => ?_, fun e => (by cases e), fun _ => ?_⟩
  · simp only at hj
    rw [seen_set (by omega)] at hj
    simp only [Bool.or_eq_true, decide_eq_true_eq] at hj
    rcases hj with rfl | hj
    · rw [hq] at hp; injection hp with hp; subst hp; exact hfl
    · exact h.sound j p hj hp
  · have h1 := cntU_set (s := s) (by omega) hk
    show cntU (s.set k true) < cntU s0
    cases g with
    | true => have := h.less rfl; simp only at this; omega
    | false => have := (h.same rfl).1; simp only at this; subst this; exact h1
theorem growI_pass {c : Cfg} {a : Int} {s0 s : List Bool} {g : Bool} (h : passI c a s0 (c.parts.length, s, g)) : growI c a (s, g) :=
  ⟨h.len, h.sound, fun e j hj => by
    have := h.same e
    simp only at this
    rw [this.1]
    exact this.2 j hj⟩
theorem growM_pass {c : Cfg} {a : Int} {s0 s : List Bool} {g : Bool} (h : passI c a s0 (c.parts.length, s, g)) : growM (s, g) < growM (s0, true) := by
  unfold growM
  rw [if_pos rfl]
  cases g with
  | true => have := h.less rfl; simp only at this; simp; omega
  | false => simp
theorem grow_end {c : Cfg} (hR : RightP c) {a : Int} {s : List Bool} (h : growI c a (s, false)) {k : Nat} {q : Part} (hq : c.parts[k]? = some q) : seenAt s k = flowB c a q.id := by
  have hcl := h.closed rfl
  rw [Bool.eq_iff_iff, flowB_true]
  refine ⟨fun hs => h.sound k q hs hq, ?_⟩
  rintro ⟨i, j, e1, e2, hr⟩
  rw [ix_at hR.parts hq] at e2
  have : k = j := by omega
  subst this
  obtain ⟨p, hp, rfl⟩ := ix_inv e1
  have hi := (List.getElem?_eq_some_iff.1 hp).1
  have key : ∀ z, Rch (matF c) (i : Int) z → ∃ n : Nat, z = (n : Int) ∧ seenAt s n = true := by
    intro z hz
    induction hz with
    | @one z h1 =>
      obtain ⟨h2, h3⟩ := Rch.lt (matF_ok hR.wired) (Rch.one h1)
      obtain ⟨n, rfl⟩ := Int.eq_ofNat_of_zero_le h2
      rw [rowOf_nat, matF_mem hR i n hi] at h1
      obtain ⟨p', q', g1, g2, g3⟩ := h1
      rw [hp] at g1; injection g1 with g1; subst g1
      refine ⟨n, rfl, ?_⟩
      rcases hcl n (by omega) q' g2 with h | h
      · exact h
      · rw [Bool.eq_false_iff] at h
        exact absurd (hitF_true.2 (.inl g3)) h
    | @step y z h1 h2 ih =>
      obtain ⟨m, rfl, hm⟩ := ih
      obtain ⟨h3, h4⟩ := Rch.lt (matF_ok hR.wired) (Rch.step h1 h2)
      obtain ⟨h5, h6⟩ := Rch.lt (matF_ok hR.wired) h1
      obtain ⟨n, rfl⟩ := Int.eq_ofNat_of_zero_le h3
      rw [rowOf_nat, matF_mem hR m n (by omega)] at h2
      obtain ⟨p', q', g1, g2, g3⟩ := h2
      refine ⟨n, rfl, ?_⟩
      rcases hcl n (by omega) q' g2 with h | h
      · exact h
      · rw [Bool.eq_false_iff] at h
        exact absurd (hitF_true.2 (.inr ⟨m, p', by omega, hm, g1, g3⟩)) h
  obtain ⟨n, e, hn⟩ := key _ hr
  have : k = n := by omega
  subst this
  exact hn
end Go.Proofs.Ytbpobdlahighoaa.Sx
