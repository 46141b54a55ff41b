/- The matrix in plain words: who sends to whom; both matrices are equal; Flow is transitive. -/
import Derived.Test.YtbpobdlahighoaaSxX17
namespace Go.Proofs.Ytbpobdlahighoaa.Sx
open Go
set_option linter.unusedVariables false
set_option linter.unusedSimpArgs false
set_option maxRecDepth 100000

def rowAt (rows : List (List Int)) (i : Nat) : List Int := rows[i]?.getD []
theorem addR_len (rows : List (List Int)) (k : Nat) (x : Int) : (addR rows k x).length = rows.length := by unfold addR; simp
theorem addR_mem {rows : List (List Int)} {k : Nat} {x : Int} (hk : k < rows.length) (i : Nat) (z : Int) : z ∈ rowAt (addR rows k x) i ↔ z ∈ rowAt rows i ∨ (k = i ∧ x = z) := by
  unfold rowAt addR
  rw [List.getElem?_set]
  by_cases h : k = i
  · subst h
    rw [if_pos rfl, if_pos hk]
    simp only [Option.getD_some, List.mem_append, List.mem_singleton, true_and]
    constructor
    · rintro (h | h)
      · exact .inl h
      · exact .inr h.symm
    · rintro (h | h)
      · exact .inl h
      · exact .inr h.symm
  · rw [if_neg h]
    simp [h]
theorem dRows_len (c : Cfg) (k : Nat) : ∀ (l : List Int) (rows : List (List Int)), (dRows c k rows l).length = rows.length
  | [], rows => by rw [dRows_nil]
  | d :: l, rows => by rw [dRows_cons, dRows_len c k l, addR_len]
theorem dRows_mem (c : Cfg) (k : Nat) (i : Nat) (z : Int) : ∀ (l : List Int) (rows : List (List Int)), k < rows.length → (z ∈ rowAt (dRows c k rows l) i ↔ z ∈ rowAt rows i ∨ (k = i ∧ ∃ d ∈ l, ownX c d = z))
  | [], rows, hk => by rw [dRows_nil]; simp
  | d :: l, rows, hk => by
    rw [dRows_cons, dRows_mem c k i z l _ (by rw [addR_len]; exact hk), addR_mem hk]
    constructor
    · rintro ((h | ⟨h1, h2⟩) | ⟨h1, d', h2, h3⟩)
      · exact .inl h
      · exact .inr ⟨h1, d, by simp, h2⟩
      · exact .inr ⟨h1, d', by simp [h2], h3⟩
    · rintro (h | ⟨h1, d', h2, h3⟩)
      · exact .inl (.inl h)
      · rcases List.mem_cons.1 h2 with rfl | h2
        · exact .inl (.inr ⟨h1, h3⟩)
        · exact .inr ⟨h1, d', h2, h3⟩
theorem cRows_len (c : Cfg) : ∀ (l : List Chan) (rows : List (List Int)), (cRows c rows l).length = rows.length
  | [], rows => by rw [cRows_nil]
  | x :: l, rows => by rw [cRows_cons, cRows_len c l, dRows_len]
theorem cRows_mem (c : Cfg) (i : Nat) (z : Int) : ∀ (l : List Chan) (rows : List (List Int)), (∀ x ∈ l, (ownX c x.source).toNat < rows.length) →
    (z ∈ rowAt (cRows c rows l) i ↔ z ∈ rowAt rows i ∨ ∃ x ∈ l, (ownX c x.source).toNat = i ∧ ∃ d ∈ x.dests, ownX c d = z)
  | [], rows, _ => by rw [cRows_nil]; simp
  | x :: l, rows, h => by
    rw [cRows_cons, cRows_mem c i z l _ (fun y hy => by rw [dRows_len]; exact h y (by simp [hy])), dRows_mem c _ i z _ _ (h x (by simp))]
    constructor
    · rintro ((h | ⟨h1, h2⟩) | ⟨y, h1, h2⟩)
      · exact .inl h
      · exact .inr ⟨x, by simp, h1, h2⟩
      · exact .inr ⟨y, by simp [h1], h2⟩
    · rintro (h | ⟨y, h1, h2, h3⟩)
      · exact .inl (.inl h)
      · rcases List.mem_cons.1 h1 with rfl | h1
        · exact .inl (.inr ⟨h2, h3⟩)
        · exact .inr ⟨y, h1, h2, h3⟩
theorem rowAt_repl (n i : Nat) : rowAt (List.replicate n []) i = [] := by
  unfold rowAt
  cases h : (List.replicate n ([] : List Int))[i]? with
  | none => rfl
  | some r => exact (List.mem_replicate.1 (List.mem_of_getElem? h)).2
theorem ix_at {α : Type} {f : α → Int} {l : List α} (hd : distinct f l) {i : Nat} {y : α} (hy : l[i]? = some y) : ix (fun p => decide (f p = f y)) l = (i : Int) := by
  refine ix_some hy (by simp) (fun j z hj hz => ?_)
  simp only [decide_eq_false_iff_not]
  intro e
  have := hd j i z y hz hy e
  omega
theorem ix_inv {α : Type} {f : α → Int} {l : List α} {a : Int} {i : Nat} (h : ix (fun p => decide (f p = a)) l = (i : Int)) : ∃ y, l[i]? = some y ∧ f y = a := by
  rcases ix_find (fun p => decide (f p = a)) l with ⟨_, h3⟩ | ⟨q, w, _, h3, h4, h5⟩
  · rw [h3] at h; omega
  · rw [h5] at h
    have : q = i := by omega
    subst this
    exact ⟨w, h3, by simpa using h4⟩
/-- A partition's row in the matrix that the channels make. -/
theorem matF_mem {c : Cfg} (h : RightP c) (i k : Nat) (hi : i < c.parts.length) : (k : Int) ∈ rowAt (matF c) i ↔ ∃ p q, c.parts[i]? = some p ∧ c.parts[k]? = some q ∧ sendsR c p.id q.id = true := by
  have hw := h.wired
  have e : rowAt (matF c) i = cpt (srt (rowAt (cRows c (List.replicate c.parts.length []) c.chans) i)) := by
    unfold rowAt matF
    have hl : i < (cRows c (List.replicate c.parts.length []) c.chans).length := by rw [cRows_len, List.length_replicate]; exact hi
    rw [List.getElem?_map, List.getElem?_eq_getElem hl]
    rfl
  rw [e, cs_mem, cRows_mem c i k c.chans _ (fun x hx => by
    obtain ⟨⟨s, hs⟩, _⟩ := hw.1 x hx
    obtain ⟨k, hk, hkl⟩ := ownX_nat hw hs
    rw [hk, List.length_replicate]; omega), rowAt_repl]
  simp only [List.not_mem_nil, false_or]
  constructor
  · rintro ⟨x, hx, h1, d, hd, h2⟩
    obtain ⟨⟨s, hs⟩, hds⟩ := hw.1 x hx
    obtain ⟨p, hp⟩ := hds d hd
    obtain ⟨a, ha, _⟩ := ownX_nat hw hs
    rw [ha] at h1
    have : a = i := by omega
    subst this
    obtain ⟨p1, g1, g2⟩ := ix_inv ha
    obtain ⟨p2, g3, g4⟩ := ix_inv h2
    refine ⟨p1, p2, g1, g3, ?_⟩
    unfold sendsR
    rw [List.any_eq_true]
    refine ⟨x, hx, ?_⟩
    unfold sendsX
    simp only [Bool.and_eq_true, decide_eq_true_eq, List.any_eq_true]
    exact ⟨g2.symm, d, hd, g4.symm⟩
  · rintro ⟨p, q, hp, hq, hs⟩
    unfold sendsR at hs
    rw [List.any_eq_true] at hs
    obtain ⟨x, hx, hs⟩ := hs
    unfold sendsX at hs
    simp only [Bool.and_eq_true, decide_eq_true_eq, List.any_eq_true] at hs
    obtain ⟨e1, d, hd, e2⟩ := hs
    refine ⟨x, hx, ?_, d, hd, ?_⟩
    · unfold ownX; rw [e1, ix_at h.parts hp]; simp
    · unfold ownX; rw [e2, ix_at h.parts hq]
/-! the reference's rows -/
def rowR (c : Cfg) (p : Part) (n : Nat) : List Int := ((List.range n).filter fun k => match c.parts[k]? with | some q => sendsR c p.id q.id | none => false).map fun k : Nat => (k : Int)
def mtR (c : Cfg) : List (List Int) := c.parts.map fun p => rowR c p c.parts.length
theorem rowR_succ {c : Cfg} {p q : Part} {n : Nat} (hq : c.parts[n]? = some q) : rowR c p (n + 1) = rowR c p n ++ (if sendsR c p.id q.id = true then [(n : Int)] else []) := by
  unfold rowR
  rw [List.range_succ, List.filter_append, List.map_append]
  congr 1
  simp only [List.filter_cons, hq, List.filter_nil]
  split <;> rfl
theorem rowR_len (c : Cfg) (p : Part) (n : Nat) : (rowR c p n).length ≤ n := by
  unfold rowR
  rw [List.length_map]
  exact Nat.le_trans (List.length_filter_le _ _) (by simp)
theorem rowR_mem {c : Cfg} {p : Part} {n k : Nat} (hn : n ≤ c.parts.length) : (k : Int) ∈ rowR c p n ↔ k < n ∧ ∃ q, c.parts[k]? = some q ∧ sendsR c p.id q.id = true := by
  unfold rowR
  simp only [List.mem_map, List.mem_filter, List.mem_range]
  constructor
  · rintro ⟨j, ⟨h1, h2⟩, e⟩
    have : j = k := by omega
    subst this
    obtain ⟨q, hq⟩ : ∃ q, c.parts[j]? = some q := ⟨_, List.getElem?_eq_getElem (by omega)⟩
    rw [hq] at h2
    exact ⟨h1, q, hq, h2⟩
  · rintro ⟨h1, q, hq, h2⟩
    exact ⟨k, ⟨h1, by rw [hq]; exact h2⟩, rfl⟩
theorem rowR_nat {c : Cfg} {p : Part} {n : Nat} {z : Int} (h : z ∈ rowR c p n) : ∃ k : Nat, z = (k : Int) ∧ k < n := by
  unfold rowR at h
  simp only [List.mem_map, List.mem_filter, List.mem_range] at h
  obtain ⟨k, ⟨h1, _⟩, e⟩ := h
  exact ⟨k, e.symm, h1⟩
theorem rowR_lt (c : Cfg) (p : Part) (n : Nat) : (rowR c p n).Pairwise (· < ·) := by
  unfold rowR
  rw [List.pairwise_map]
  exact (List.pairwise_lt_range.imp (fun h => by omega)).filter _
theorem lt_ext : ∀ {a b : List Int}, a.Pairwise (· < ·) → b.Pairwise (· < ·) → (∀ x, x ∈ a ↔ x ∈ b) → a = b
  | [], [], _, _, _ => rfl
  | [], y :: b, _, _, h => by have := (h y).2 (by simp); cases this
  | x :: a, [], _, _, h => by have := (h x).1 (by simp); cases this
  | x :: a, y :: b, ha, hb, h => by
    rw [List.pairwise_cons] at ha hb
    have e : x = y := by
      have h1 := (h x).1 (by simp)
      have h2 := (h y).2 (by simp)
      rcases List.mem_cons.1 h1 with e | h1
      · exact e
      · rcases List.mem_cons.1 h2 with e | h2
        · exact e.symm
        · have := hb.1 x h1
          have := ha.1 y h2
          omega
    subst e
    rw [lt_ext ha.2 hb.2 (fun z => ?_)]
    have := h z
    simp only [List.mem_cons] at this
    constructor
    · intro hz
      rcases this.1 (.inr hz) with e | e
      · subst e; have := ha.1 z hz; omega
      · exact e
    · intro hz
      rcases this.2 (.inr hz) with e | e
      · subst e; have := hb.1 z hz; omega
      · exact e
theorem mat_eq {c : Cfg} (h : RightP c) : matF c = mtR c := by
  have hl : (matF c).length = c.parts.length := (matF_ok h.wired).1
  refine List.ext_getElem (by unfold mtR; simp [hl]) (fun i h1 h2 => ?_)
  rw [hl] at h1
  have hp : c.parts[i]? = some c.parts[i] := List.getElem?_eq_getElem h1
  have e1 : (matF c)[i] = rowAt (matF c) i := by unfold rowAt; rw [List.getElem?_eq_getElem (by omega)]; rfl
  have e2 : (mtR c)[i] = rowR c c.parts[i] c.parts.length := by simp [mtR]
  have hok := matF_ok h.wired
  rw [e2]
  refine lt_ext ?_ (rowR_lt _ _ _) (fun z => ?_)
  · have hm : (matF c)[i] ∈ matF c := List.getElem_mem _
    generalize (matF c)[i] = z at hm
    unfold matF at hm
    obtain ⟨r, _, rfl⟩ := List.mem_map.1 hm
    exact cs_lt _
  · constructor
    · intro hz
      have hb := hok.2.1 _ (List.getElem_mem _) z hz
      obtain ⟨k, rfl⟩ := Int.eq_ofNat_of_zero_le hb.1
      rw [e1, matF_mem h i k h1] at hz
      obtain ⟨p, q, g1, g2, g3⟩ := hz
      rw [hp] at g1
      injection g1 with g1
      rw [rowR_mem (Nat.le_refl _)]
      exact ⟨by omega, q, g2, by rw [g1]; exact g3⟩
    · intro hz
      obtain ⟨k, rfl, hk⟩ := rowR_nat hz
      rw [rowR_mem (Nat.le_refl _)] at hz
      obtain ⟨_, q, g2, g3⟩ := hz
      rw [e1, matF_mem h i k h1]
      exact ⟨_, q, hp, g2, g3⟩
/-! messages flow on -/
theorem rowOf_nat (m : List (List Int)) (i : Nat) : rowOf m (i : Int) = rowAt m i := by unfold rowOf rowAt; simp
theorem Rch.trans {m : List (List Int)} {a b d : Int} (h1 : Rch m a b) (h2 : Rch m b d) : Rch m a d := by
  induction h2 with
  | one h => exact .step h1 h
  | step _ h ih => exact .step ih h
theorem FlowP.trans {c : Cfg} {a b d : Int} (h1 : FlowP c a b) (h2 : FlowP c b d) : FlowP c a d := by
  obtain ⟨i, j, e1, e2, h⟩ := h1
  obtain ⟨j', k, e3, e4, h'⟩ := h2
  have : (j : Int) = (j' : Int) := by rw [← e2, e3]
  rw [← this] at h'
  exact ⟨i, k, e1, e4, h.trans h'⟩
theorem FlowP.sent {c : Cfg} (h : RightP c) {i k : Nat} {p q : Part} (hp : c.parts[i]? = some p) (hq : c.parts[k]? = some q) (hs : sendsR c p.id q.id = true) : FlowP c p.id q.id :=
  ⟨i, k, ix_at h.parts hp, ix_at h.parts hq, .one (by rw [rowOf_nat, matF_mem h i k (List.getElem?_eq_some_iff.1 hp).1]; exact ⟨p, q, hp, hq, hs⟩)⟩
end Go.Proofs.Ytbpobdlahighoaa.Sx
