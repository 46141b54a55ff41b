/- Whether ports and channels are right does not depend on their order: the plain law. -/
import Derived.Test.YtbpobdlahighoaaSxX17
namespace Go.Proofs.Ytbpobdlahighoaa.Sx
open Go
set_option linter.unusedVariables false
set_option linter.unusedSimpArgs false
set_option maxRecDepth 100000

theorem fe_zero_iff {f : Nat → Int} {n : Nat} : (fe f n).1 = 0 ↔ ∀ j, j < n → f j = 0 := ⟨fe_zero, fun h => by rw [fe_none h]⟩
theorem ports_iff (c : Cfg) : (fe (epR c) c.ports.length).1 = 0 ↔ ∀ p ∈ c.ports, fPart c p.part ≠ none ∧ p.size ≠ 0 := by
  rw [fe_zero_iff]
  constructor
  · intro hp p hpm
    obtain ⟨i, hi⟩ := List.mem_iff_getElem?.1 hpm
    have := hp i (List.getElem?_eq_some_iff.1 hi).1
    unfold epR at this
    rw [hi] at this
    simp only [] at this
    split at this
    · cases this
    · split at this
      · cases this
      · exact ⟨by assumption, by assumption⟩
  · intro h i hi
    unfold epR
    rw [List.getElem?_eq_getElem hi]
    obtain ⟨h1, h2⟩ := h _ (List.getElem_mem hi)
    simp only [if_neg h1, if_neg h2]
def localC (c : Cfg) (x : Chan) : Prop := ∃ s, fPort c x.source = some s ∧ s.output = true ∧ x.dests.length ≠ 0 ∧ ∀ d ∈ x.dests, ∃ p, fPort c d = some p ∧ p.output = false ∧ p.queuing = s.queuing ∧ p.size = s.size
def freshC (c : Cfg) (i : Nat) (x : Chan) : Prop := used c i x.source = false ∧ ∀ (k : Nat) (d : Int), x.dests[k]? = some d → used c i d = false ∧ ((x.dests.take k).any fun y => decide (y = d)) = false
theorem ecR_iff {c : Cfg} {i : Nat} {x : Chan} (hx : c.chans[i]? = some x) : ecR c i = 0 ↔ localC c x ∧ freshC c i x := by
  unfold ecR
  rw [hx]
  simp only []
  constructor
  · intro this
    split at this
    · cases this
    · rename_i s hs
      split at this
      · rename_i ho
        split at this
        · cases this
        · rename_i hu
          split at this
          · cases this
          · rename_i hd
            have key : ∀ (k : Nat) (d : Int), x.dests[k]? = some d → ∃ p, fPort c d = some p ∧ p.output = false ∧ p.queuing = s.queuing ∧ p.size = s.size ∧ used c i d = false ∧ ((x.dests.take k).any fun y => decide (y = d)) = false := by
              intro k d hk
              have hk0 := fe_zero this k (List.getElem?_eq_some_iff.1 hk).1
              unfold ekR at hk0
              rw [hk] at hk0
              simp only [edR] at hk0
              split at hk0
              · cases hk0
              · rename_i p hp
                have hid := fPort_id hp
                split at hk0
                · cases hk0
                · rename_i h6
                  split at hk0
                  · cases hk0
                  · rename_i h7
                    split at hk0
                    · cases hk0
                    · rename_i h8
                      rw [hid] at h8
                      simp only [Bool.or_eq_true, Bool.not_eq_true', decide_eq_false_iff_not, not_or, Decidable.not_not] at h7 h8
                      exact ⟨p, hp, by simpa using h6, h7.1, h7.2, by simpa using h8.1, (Bool.not_eq_true _).mp h8.2⟩
            refine ⟨⟨s, hs, ho, hd, fun d hdm => ?_⟩, by simpa using hu, fun k d hk => ?_⟩
            · obtain ⟨k, hk⟩ := List.mem_iff_getElem?.1 hdm
              obtain ⟨p, h1, h2, h3, h4, _⟩ := key k d hk
              exact ⟨p, h1, h2, h3, h4⟩
            · obtain ⟨p, _, _, _, _, h5, h6⟩ := key k d hk
              exact ⟨h5, h6⟩
      · cases this
  · rintro ⟨⟨s, hs, ho, hd, hl⟩, hu, hf⟩
    rw [hs]
    simp only [ho, hu, if_true, if_neg hd, Bool.false_eq_true, if_false]
    rw [fe_zero_iff]
    intro k hk
    obtain ⟨d, hdk⟩ : ∃ d, x.dests[k]? = some d := ⟨_, List.getElem?_eq_getElem hk⟩
    obtain ⟨p, h1, h2, h3, h4⟩ := hl d (List.mem_of_getElem? hdk)
    obtain ⟨h5, h6⟩ := hf k d hdk
    unfold ekR
    rw [hdk]
    simp only [edR, h1, h2, h3, h4, fPort_id h1, h5, h6]
    simp
/-- All ends of channels. -/
def ends (l : List Chan) : List Int := l.flatMap fun x => x.source :: x.dests
theorem used_ends (c : Cfg) (i : Nat) (id : Int) : used c i id = true ↔ id ∈ ends (c.chans.take i) := by
  unfold used ends hasP
  simp only [List.any_eq_true, List.mem_flatMap, Bool.or_eq_true, decide_eq_true_eq, List.mem_cons]
  constructor
  · rintro ⟨x, hx, h⟩
    refine ⟨x, hx, ?_⟩
    rcases h with h | ⟨d, hd, h⟩
    · exact .inl h.symm
    · exact .inr (h ▸ hd)
  · rintro ⟨x, hx, h⟩
    refine ⟨x, hx, ?_⟩
    rcases h with h | h
    · exact .inl h.symm
    · exact .inr ⟨id, h, rfl⟩
theorem nodup_take {l : List Int} : l.Nodup ↔ ∀ (k : Nat) (d : Int), l[k]? = some d → ((l.take k).any fun y => decide (y = d)) = false := by
  constructor
  · intro h k d hk
    rw [Bool.eq_false_iff]
    intro ha
    rw [List.any_eq_true] at ha
    obtain ⟨y, hy, e⟩ := ha
    simp only [decide_eq_true_eq] at e
    subst e
    have hs : l = l.take k ++ l.drop k := (List.take_append_drop k l).symm
    rw [hs, List.nodup_append] at h
    refine h.2.2 y hy y ?_ rfl
    have hkl := (List.getElem?_eq_some_iff.1 hk)
    rw [List.drop_eq_getElem_cons hkl.1, hkl.2]
    simp
  · intro h
    unfold List.Nodup
    rw [List.pairwise_iff_getElem]
    intro i j hi hj hij e
    have := h j l[j] (List.getElem?_eq_getElem hj)
    rw [Bool.eq_false_iff] at this
    refine this ?_
    rw [List.any_eq_true]
    refine ⟨l[i], ?_, by simpa using e⟩
    rw [List.mem_take_iff_getElem]
    exact ⟨i, by omega, rfl⟩
theorem fresh_iff {c : Cfg} {i : Nat} {x : Chan} (hx : c.chans[i]? = some x) (hl : localC c x) : (ends (c.chans.take (i + 1))).Nodup ↔ (ends (c.chans.take i)).Nodup ∧ freshC c i x := by
  obtain ⟨s, hs, ho, hd, hl⟩ := hl
  have e : ends (c.chans.take (i + 1)) = ends (c.chans.take i) ++ (x.source :: x.dests) := by
    unfold ends
    rw [List.take_add_one, hx, List.flatMap_append]
    simp
  have hsd : x.source ∉ x.dests := by
    intro h
    obtain ⟨p, hp, h1, _⟩ := hl _ h
    rw [hs] at hp
    injection hp with hp
    subst hp
    rw [ho] at h1
    cases h1
  have huf : ∀ id, used c i id = false ↔ id ∉ ends (c.chans.take i) := by
    intro id
    rw [← used_ends, Bool.not_eq_true]
  rw [e, List.nodup_append, List.nodup_cons, nodup_take (l := x.dests)]
  unfold freshC
  constructor
  · rintro ⟨h1, ⟨_, h2⟩, h3⟩
    refine ⟨h1, ?_, fun k d hk => ⟨?_, h2 k d hk⟩⟩
    · rw [huf]; exact fun h => h3 _ h x.source (by simp) rfl
    · rw [huf]; exact fun h => h3 _ h d (by simp [List.mem_of_getElem? hk]) rfl
  · rintro ⟨h1, h2, h3⟩
    refine ⟨h1, ⟨hsd, fun k d hk => (h3 k d hk).2⟩, fun a ha b hb e => ?_⟩
    subst e
    rcases List.mem_cons.1 hb with rfl | hb
    · rw [huf] at h2; exact h2 ha
    · obtain ⟨k, hk⟩ := List.mem_iff_getElem?.1 hb
      have := (h3 k a hk).1
      rw [huf] at this
      exact this ha
theorem chans_iff (c : Cfg) : (fe (ecR c) c.chans.length).1 = 0 ↔ (∀ x ∈ c.chans, localC c x) ∧ (ends c.chans).Nodup := by
  rw [fe_zero_iff]
  constructor
  · intro h
    have hl : ∀ x ∈ c.chans, localC c x := by
      intro x hx
      obtain ⟨i, hi⟩ := List.mem_iff_getElem?.1 hx
      exact ((ecR_iff hi).1 (h i (List.getElem?_eq_some_iff.1 hi).1)).1
    refine ⟨hl, ?_⟩
    have key : ∀ i, i ≤ c.chans.length → (ends (c.chans.take i)).Nodup := by
      intro i
      induction i with
      | zero => intro _; simp [ends]
      | succ i ih =>
        intro hi
        obtain ⟨x, hx⟩ : ∃ x, c.chans[i]? = some x := ⟨_, List.getElem?_eq_getElem (by omega)⟩
        rw [fresh_iff hx (hl x (List.mem_of_getElem? hx))]
        exact ⟨ih (by omega), ((ecR_iff hx).1 (h i (by omega))).2⟩
    have := key c.chans.length (Nat.le_refl _)
    rwa [List.take_length] at this
  · rintro ⟨hl, hn⟩ i hi
    obtain ⟨x, hx⟩ : ∃ x, c.chans[i]? = some x := ⟨_, List.getElem?_eq_getElem hi⟩
    have hlx := hl x (List.mem_of_getElem? hx)
    rw [ecR_iff hx]
    refine ⟨hlx, ((fresh_iff hx hlx).1 ?_).2⟩
    have e : ends c.chans = ends (c.chans.take (i + 1)) ++ ends (c.chans.drop (i + 1)) := by
      unfold ends
      rw [← List.flatMap_append, List.take_append_drop]
    rw [e, List.nodup_append] at hn
    exact hn.1
/-! the other order -/
def core3 (x : Chan) : Int × Int × List Int := (x.id, x.source, x.dests)
def flip3 (x : Chan) : Int × Int × List Int := (x.id, x.source, x.dests.reverse)
/-- c' is c with ports, channels and destinations in the other order. -/
structure flipped (c c' : Cfg) : Prop where
  parts : c'.parts = c.parts
  ports : c'.ports = c.ports.reverse
  chans : c'.chans.map core3 = c.chans.reverse.map flip3
theorem ends_core (l : List Chan) : ends l = (l.map core3).flatMap fun t => t.2.1 :: t.2.2 := by
  unfold ends
  rw [List.flatMap_map]
  rfl
theorem flip_ends : ∀ l : List Chan, ((l.map flip3).flatMap fun t => t.2.1 :: t.2.2).Perm (ends l)
  | [] => .refl _
  | x :: l => by
    have ih := flip_ends l
    unfold ends at ih ⊢
    simp only [List.map_cons, List.flatMap_cons]
    refine List.Perm.append ?_ ih
    exact .cons _ (List.reverse_perm _)
theorem flipped.perm {c c' : Cfg} (h : flipped c c') : (ends c'.chans).Perm (ends c.chans) := by
  rw [ends_core, h.chans]
  refine (flip_ends _).trans ?_
  unfold ends
  exact (List.reverse_perm _).flatMap_right _
theorem flipped.port {c c' : Cfg} (h : flipped c c') (hd : distinct Prt.id c.ports) (id : Int) : fPort c' id = fPort c id := by
  unfold fPort
  rw [h.ports]
  cases h1 : c.ports.find? (fun p => decide (p.id = id)) with
  | none =>
    rw [List.find?_eq_none] at h1 ⊢
    intro x hx
    exact h1 x (List.mem_reverse.1 hx)
  | some p =>
    have hp := List.mem_of_find?_eq_some h1
    have hpi := List.find?_some h1
    cases h2 : c.ports.reverse.find? (fun p => decide (p.id = id)) with
    | none =>
      rw [List.find?_eq_none] at h2
      exact absurd hpi (h2 p (List.mem_reverse.2 hp))
    | some q =>
      have hq := List.mem_reverse.1 (List.mem_of_find?_eq_some h2)
      have hqi := List.find?_some h2
      simp only [decide_eq_true_eq] at hpi hqi
      obtain ⟨i, hi⟩ := List.mem_iff_getElem?.1 hp
      obtain ⟨j, hj⟩ := List.mem_iff_getElem?.1 hq
      have := hd i j p q hi hj (by rw [hpi, hqi])
      subst this
      rw [hi] at hj
      exact hj.symm
def local3 (c : Cfg) (t : Int × Int × List Int) : Prop := ∃ s, fPort c t.2.1 = some s ∧ s.output = true ∧ t.2.2.length ≠ 0 ∧ ∀ d ∈ t.2.2, ∃ p, fPort c d = some p ∧ p.output = false ∧ p.queuing = s.queuing ∧ p.size = s.size
theorem local_flip {c c' : Cfg} (hp : ∀ id, fPort c' id = fPort c id) (x : Chan) : local3 c' (flip3 x) ↔ localC c x := by
  unfold local3 localC flip3
  simp only [hp, List.length_reverse, List.mem_reverse]
theorem flipped.chans_ok {c c' : Cfg} (h : flipped c c') (hu : uniqR c = true) : (fe (ecR c') c'.chans.length).1 = 0 ↔ (fe (ecR c) c.chans.length).1 = 0 := by
  unfold uniqR at hu
  simp only [Bool.and_eq_true] at hu
  have hp := h.port (distinct_of hu.2.1)
  rw [chans_iff, chans_iff, h.perm.nodup_iff]
  refine and_congr ?_ Iff.rfl
  have e1 : (∀ x ∈ c'.chans, localC c' x) ↔ ∀ t ∈ c'.chans.map core3, local3 c' t := by
    simp only [List.mem_map]
    constructor
    · rintro h t ⟨x, hx, rfl⟩; exact h x hx
    · intro h x hx; exact h _ ⟨x, hx, rfl⟩
  rw [e1, h.chans]
  simp only [List.mem_map, List.mem_reverse]
  constructor
  · intro h x hx
    exact (local_flip hp x).1 (h _ ⟨x, hx, rfl⟩)
  · rintro h t ⟨x, hx, rfl⟩
    exact (local_flip hp x).2 (h x hx)
theorem flipped.ports_ok {c c' : Cfg} (h : flipped c c') : (fe (epR c') c'.ports.length).1 = 0 ↔ (fe (epR c) c.ports.length).1 = 0 := by
  rw [ports_iff, ports_iff, h.ports]
  have e : ∀ id, fPart c' id = fPart c id := fun id => by unfold fPart; rw [h.parts]
  simp only [List.mem_reverse, e]
end Go.Proofs.Ytbpobdlahighoaa.Sx
