/- Ports and Channels answer as the reference does: the plain law. -/
import Derived.Test.YtbpobdlahighoaaSxX12
namespace Go.Proofs.Ytbpobdlahighoaa.Sx
open Go
set_option linter.unusedVariables false
set_option linter.unusedSimpArgs false

theorem epR_at {c : Cfg} {k : Nat} {y : Prt} (hy : c.ports[k]? = some y) : epR c k = portE c y := by
  unfold epR portE
  rw [hy]
  simp only []
  rcases ix_find (fun q : Part => decide (q.id = y.part)) c.parts with ⟨h1, h2⟩ | ⟨i, z, h1, _, _, h2⟩
  · have : fPart c y.part = none := h1
    rw [this, h2]; simp
  · have : fPart c y.part = some z := h1
    have hi : ¬ ((i : Int) < 0) := by omega
    simp [this, h2, hi]
theorem ports_fe (c : Cfg) : ∀ (m k : Nat), k + m = c.ports.length → (∀ j, j < k → epR c j = 0) → fe (epR c) c.ports.length = ((portsF c k (c.ports.drop k)).1, ((portsF c k (c.ports.drop k)).2 : Int))
  | 0, k, hk, h => by
    rw [List.drop_of_length_le (by omega), portsF_nil]
    exact fe_none (fun j hj => h j (by omega))
  | m + 1, k, hk, h => by
    have hlt : k < c.ports.length := by omega
    have hy := List.getElem?_eq_getElem hlt
    rw [drop_get hy, portsF_cons]
    have he := epR_at hy
    by_cases h0 : portE c c.ports[k] = 0
    · rw [if_pos h0]
      exact ports_fe c m (k + 1) (by omega) (fe_snoc (by rw [he, h0]) h)
    · rw [if_neg h0]
      have := fe_some hlt (by rw [he]; exact h0) h
      rw [this, he]
theorem used_succ {c : Cfg} {k : Nat} {x : Chan} (hx : c.chans[k]? = some x) (id : Int) : used c (k + 1) id = (used c k id || hasP x id) := by
  unfold used
  obtain ⟨h, e⟩ := List.getElem?_eq_some_iff.1 hx
  rw [List.take_succ_eq_append_getElem h, e]
  simp
theorem endF_none {c : Cfg} {u : List (Int × Bool)} {id : Int} {out : Bool} {fits : Prt → Bool} (h : fPort c id = none) : endF c u id out fits = (zPrt, 19, u) := by
  have h' : c.ports.find? (fun p => decide (p.id = id)) = none := h
  unfold endF; rw [h']
theorem endF_some {c : Cfg} {u : List (Int × Bool)} {id : Int} {out : Bool} {fits : Prt → Bool} {p : Prt} (h : fPort c id = some p) : endF c u id out fits = if p.output = out then if fits p = true then if sn u id = true then (p, 27, u) else (p, 0, aset u id true) else (p, 26, u) else (p, 25, u) := by
  have h' : c.ports.find? (fun p => decide (p.id = id)) = some p := h
  unfold endF; rw [h']; rfl
def seenD (c : Cfg) (i : Nat) (x : Chan) (k : Nat) (id : Int) : Bool := used c i id || (decide (x.source = id) || (x.dests.take k).any fun y => decide (y = id))
theorem seenD_succ {c : Cfg} {i : Nat} {x : Chan} {k : Nat} {d : Int} (hd : x.dests[k]? = some d) (id : Int) : seenD c i x (k + 1) id = (decide (d = id) || seenD c i x k id) := by
  obtain ⟨h, e⟩ := List.getElem?_eq_some_iff.1 hd
  unfold seenD
  rw [List.take_succ_eq_append_getElem h, e, List.any_append]
  simp only [List.any_cons, List.any_nil, Bool.or_false]
  cases used c i id <;> cases decide (x.source = id) <;> cases decide (d = id) <;> simp
theorem dest_step {c : Cfg} {i : Nat} {x : Chan} {s : Prt} (hs : fPort c x.source = some s) (ho : s.output = true) {k : Nat} {d : Int} (hd : x.dests[k]? = some d) {u : List (Int × Bool)} (hu : ∀ id, sn u id = seenD c i x k id) :
    (endF c u d false (sameF s)).2.1 = ekR c i x s k ∧ ((endF c u d false (sameF s)).2.1 = 0 → ∀ id, sn (endF c u d false (sameF s)).2.2 id = seenD c i x (k + 1) id) := by
  have hek : ekR c i x s k = edR c i k x s d := by unfold ekR; rw [hd]
  rw [hek]
  unfold edR
  cases hp : fPort c d with
  | none => rw [endF_none hp]; exact ⟨rfl, fun h => absurd h (by simp)⟩
  | some p =>
    have hid : p.id = d := by
      have := List.find?_some hp
      simpa using this
    rw [endF_some hp]
    simp only []
    cases hpo : p.output with
    | true => simp
    | false =>
      simp only [if_true, Bool.false_eq_true, if_false]
      have hc : ((!decide (p.queuing = s.queuing)) || (!decide (p.size = s.size))) = !sameF s p := by unfold sameF; cases decide (p.queuing = s.queuing) <;> cases decide (p.size = s.size) <;> rfl
      rw [hc]
      cases hf : sameF s p with
      | false => exact ⟨rfl, fun h => absurd h (by simp)⟩
      | true =>
        have hne : ¬ x.source = d := fun e => by
          rw [e, hp] at hs; injection hs with hs; subst hs; rw [hpo] at ho; cases ho
        have hsn : sn u d = (used c i p.id || (x.dests.take k).any fun y => decide (y = p.id)) := by rw [hu, hid]; unfold seenD; simp [hne]
        simp only [Bool.not_true, Bool.false_eq_true, if_false, if_true]
        rw [← hsn]
        cases h27 : sn u d with
        | true => exact ⟨rfl, fun h => absurd h (by simp)⟩
        | false => exact ⟨rfl, fun _ id => by
            show sn (aset u d true) id = _
            rw [seenD_succ hd, ← hu id, sn_set]⟩
theorem dests_fe {c : Cfg} {i : Nat} {x : Chan} {s : Prt} (hs : fPort c x.source = some s) (ho : s.output = true) : ∀ (m k : Nat) (u : List (Int × Bool)), k + m = x.dests.length → (∀ j, j < k → ekR c i x s j = 0) → (∀ id, sn u id = seenD c i x k id) →
    (destsF c s u (x.dests.drop k)).1 = (fe (ekR c i x s) x.dests.length).1 ∧ ((destsF c s u (x.dests.drop k)).1 = 0 → ∀ id, sn (destsF c s u (x.dests.drop k)).2 id = seenD c i x x.dests.length id)
  | 0, k, u, hk, h, hu => by
    have : k = x.dests.length := by omega
    subst this
    rw [List.drop_length, destsF_nil, fe_none h]
    exact ⟨rfl, fun _ => hu⟩
  | m + 1, k, u, hk, h, hu => by
    have hlt : k < x.dests.length := by omega
    have hd := List.getElem?_eq_getElem hlt
    obtain ⟨h1, h2⟩ := dest_step (i := i) hs ho hd hu
    rw [drop_get hd, destsF_cons]
    by_cases h0 : (endF c u x.dests[k] false (sameF s)).2.1 = 0
    · rw [if_pos h0]
      exact dests_fe hs ho m (k + 1) _ (by omega) (fe_snoc (by rw [← h1, h0]) h) (h2 h0)
    · rw [if_neg h0]
      have := fe_some hlt (by rw [← h1]; exact h0) h
      rw [this]
      exact ⟨h1, fun h => absurd h h0⟩
theorem chan_step {c : Cfg} {k : Nat} {x : Chan} (hx : c.chans[k]? = some x) {u : List (Int × Bool)} (hu : ∀ id, sn u id = used c k id) :
    (chanF c u x).1 = ecR c k ∧ ((chanF c u x).1 = 0 → ∀ id, sn (chanF c u x).2 id = used c (k + 1) id) := by
  have hec : ecR c k = (match fPort c x.source with
    | none => 19
    | some s => if s.output then if used c k x.source then 27 else if x.dests.length = 0 then 28 else (fe (ekR c k x s) x.dests.length).1 else 25) := by unfold ecR; rw [hx]; rfl
  rw [hec]
  unfold chanF
  cases hs : fPort c x.source with
  | none => rw [endF_none hs]; exact ⟨rfl, fun h => absurd h (by simp)⟩
  | some s =>
    rw [endF_some hs]
    simp only []
    cases ho : s.output with
    | false => simp
    | true =>
      simp only [if_true]
      rw [← hu x.source]
      by_cases h27 : sn u x.source = true
      · simp [h27]
      · rw [if_neg h27, if_neg h27]
        simp only [if_true]
        by_cases hl : x.dests.length = 0
        · rw [if_pos hl, if_pos hl]; exact ⟨rfl, fun h => absurd h (by simp)⟩
        · rw [if_neg hl, if_neg hl]
          have hs0 : ∀ id, sn (aset u x.source true) id = seenD c k x 0 id := fun id => by
            rw [sn_set, hu id]; unfold seenD
            cases used c k id <;> simp
          have := dests_fe (i := k) hs ho x.dests.length 0 _ (by omega) (fun j hj => by omega) hs0
          rw [List.drop_zero] at this
          refine ⟨this.1, fun h id => ?_⟩
          rw [this.2 h id, used_succ hx]
          unfold seenD hasP
          rw [List.take_length]
theorem chans_fe (c : Cfg) : ∀ (m k : Nat) (u : List (Int × Bool)), k + m = c.chans.length → (∀ j, j < k → ecR c j = 0) → (∀ id, sn u id = used c k id) →
    fe (ecR c) c.chans.length = ((chansF c u k (c.chans.drop k)).1, ((chansF c u k (c.chans.drop k)).2.1 : Int))
  | 0, k, u, hk, h, hu => by
    rw [List.drop_of_length_le (by omega), chansF_nil]
    exact fe_none (fun j hj => h j (by omega))
  | m + 1, k, u, hk, h, hu => by
    have hlt : k < c.chans.length := by omega
    have hx := List.getElem?_eq_getElem hlt
    obtain ⟨h1, h2⟩ := chan_step hx hu
    rw [drop_get hx, chansF_cons]
    by_cases h0 : (chanF c u c.chans[k]).1 = 0
    · rw [if_pos h0]
      exact chans_fe c m (k + 1) _ (by omega) (fe_snoc (by rw [← h1, h0]) h) (h2 h0)
    · rw [if_neg h0]
      have := fe_some hlt (by rw [← h1]; exact h0) h
      rw [this, h1]
theorem ports_eq (c : Cfg) : fe (epR c) c.ports.length = ((portsF c 0 c.ports).1, ((portsF c 0 c.ports).2 : Int)) := by
  have := ports_fe c c.ports.length 0 (by omega) (fun j hj => by omega)
  rwa [List.drop_zero] at this
theorem chans_eq (c : Cfg) : fe (ecR c) c.chans.length = ((chansF c [] 0 c.chans).1, ((chansF c [] 0 c.chans).2.1 : Int)) := by
  have := chans_fe c c.chans.length 0 [] (by omega) (fun j hj => by omega) (fun id => by simp [sn, aget, used])
  rwa [List.drop_zero] at this
end Go.Proofs.Ytbpobdlahighoaa.Sx
