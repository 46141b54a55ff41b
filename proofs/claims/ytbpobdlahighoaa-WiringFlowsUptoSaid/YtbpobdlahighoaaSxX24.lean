/- slices.Equal at two types; ref18.Flow. -/
import Derived.Test.YtbpobdlahighoaaSxX23
namespace Go.Proofs.Ytbpobdlahighoaa.Sx
open Go
set_option linter.unusedVariables false
set_option linter.unusedSimpArgs false
set_option maxRecDepth 100000

theorem eq_of_get {α : Type} {a b : List α} (hl : a.length = b.length) (h : ∀ (j : Nat) (x y : α), a[j]? = some x → b[j]? = some y → x = y) : a = b := by
  refine List.ext_getElem hl (fun i h1 h2 => ?_)
  exact h i _ _ (List.getElem?_eq_getElem h1) (List.getElem?_eq_getElem h2)
theorem snoc_eq {α : Type} {a b : List α} {i : Nat} {x y : α} (hx : a[i]? = some x) (hy : b[i]? = some y) (e : x = y) (h : ∀ (j : Nat) (x y : α), j < i → a[j]? = some x → b[j]? = some y → x = y) : ∀ (j : Nat) (x y : α), j < i + 1 → a[j]? = some x → b[j]? = some y → x = y := by
  intro j u v hj hu hv
  rcases Nat.lt_or_ge j i with hlt | hge
  · exact h j u v hlt hu hv
  · have : j = i := by omega
    subst this
    rw [hx] at hu; rw [hy] at hv
    injection hu with hu; injection hv with hv
    rw [← hu, ← hv, e]
/-- slices.Equal at []int -/
theorem t_equalI (a b : List Int) (hl : a.length ≤ 1048576) (v w : Value) : TriF Pr 24 [.ro 1 eInt a v, .ro 1 eInt b w] [] [] (.v (.bool (decide (a = b)))) [] := by
  refine tri_fn Try.f24 [] [] [] 1000 (by kernel_rfl) (by kernel_rfl) (by kernel_rfl) (by kernel_rfl) (by kernel_rfl) (by kernel_rfl) (Nat.le_of_ble_eq_true rfl) ?_
  simp -implicitDefEqProofs only [go_sem, Try.f24]
  by_cases hlen : (a.length : Int) = b.length
  · simp -implicitDefEqProofs only [go_sem, hlen]
    have hlen' : a.length = b.length := by omega
    refine loop0 (fun i => i ≤ a.length ∧ ∀ (j : Nat) (x y : Int), j < i → a[j]? = some x → b[j]? = some y → x = y) [0, 1, 4, 12] (fun i => [(13, .v (.int .i64 i))]) (fun i => a.length - i) 0 ⟨by omega, fun j x y h => by omega⟩ ⟨rfl, trivial⟩ (fun i => rfl) rfl ?_
    rintro i ⟨hi, hx⟩ E hE
    by_cases hlt : (i : Int) < b.length
    · obtain ⟨x, hxa⟩ := get_lt (l := a) (i := i) (by omega)
      obtain ⟨y, hyb⟩ := get_lt hlt
      simp -implicitDefEqProofs only [go_sem, hlt, encAt_some hxa, encAt_some hyb, eInt]
      refine ⟨by omega, by omega, fun h => ?_, fun h => ?_⟩
      · exact ret0 rfl (by
          simp -implicitDefEqProofs only [go_sem]
          have hne : x ≠ y := by simpa using h
          have : a ≠ b := fun e => by rw [e, hyb] at hxa; injection hxa with hxa; exact hne hxa.symm
          rw [decide_eq_false this])
      · have hxy : x = y := by simpa using h
        exact ⟨inI64_nat hi hl, hE _ (i + 1) ⟨by omega, snoc_eq hxa hyb hxy hx⟩ (by omega) ⟨rfl, rfl, rfl, rfl, rfl, trivial⟩ trivial (fun _ h => h)⟩
    · simp -implicitDefEqProofs only [go_sem, hlt]
      have : a = b := eq_of_get hlen' (fun j x y h1 h2 => hx j x y (by have := (List.getElem?_eq_some_iff.1 h1).1; omega) h1 h2)
      exact ret0 rfl (by simp -implicitDefEqProofs only [go_sem]; rw [decide_eq_true this])
  · simp -implicitDefEqProofs only [go_sem, hlen]
    have : a ≠ b := fun e => hlen (by rw [e])
    exact ret0 rfl (by simp -implicitDefEqProofs only [go_sem]; rw [decide_eq_false this])
def eBool (x : Bool) : List SV := [.v (.bool x)]
/-- ref18.Flow -/
theorem t_rFlow (c : Cfg) (hc : c.ok) (hR : RightP c) (a b : Int) : TriF Pr 25 [sCfg c, .v (.int .u16 a), .v (.int .u16 b)] [] [] (.v (.bool (flowB c a b))) [] := by
  refine tri_fn Try.f25 [] [3] [] 1000 (by kernel_rfl) (by kernel_rfl) (by kernel_rfl) (by kernel_rfl) (by kernel_rfl) (by kernel_rfl) (Nat.le_of_ble_eq_true rfl) ?_
  have hpl := hc.parts
  simp -implicitDefEqProofs only [go_sem, Try.f25, sCfg, eCfg]
  refine ⟨⟨by omega, by omega, by omega⟩, .inl ⟨Bool, eBool, false, rfl, ?_⟩⟩
  refine loopR (ι := List Bool × Bool) (growI c a) [1, 2, 3, 7] (fun x => [(8, .v (.bool x.2))]) (fun x => [(0, .sl 1 eBool x.1)]) [0] growM (List.replicate c.parts.length false, true) (growI_0 c a) ⟨rfl, trivial⟩ ⟨rfl, trivial⟩ (fun _ h => by cases h) (fun i => rfl) (fun i => rfl) ?_
  rintro ⟨s, g⟩ hI E hE
  cases g with
  | true =>
    simp -implicitDefEqProofs only [go_sem]
    refine loopR (ι := Nat × List Bool × Bool) (passI c a s) [1, 2, 3, 7] (fun x => [(9, .v (.int .i64 x.1)), (8, .v (.bool x.2.2))]) (fun x => [(0, .sl 1 eBool x.2.1)]) [0] (fun x => c.parts.length - x.1) (0, s, false) (passI_0 hI) ⟨rfl, rfl, trivial⟩ ⟨rfl, trivial⟩ (fun _ h => by simpa using h) (fun i => rfl) (fun i => rfl) ?_
    rintro ⟨k, t, g⟩ hJ E2 hE2
    have hk := hJ.le
    have htl := hJ.len
    simp only at hk htl
    by_cases hlt : (k : Int) < c.parts.length
    · obtain ⟨q, hq⟩ := get_lt hlt
      obtain ⟨u, hu⟩ := get_lt (l := t) (i := k) (by omega)
      have hsu : seenAt t k = u := by unfold seenAt; rw [hu]; rfl
      simp -implicitDefEqProofs only [go_sem, hlt, encAt_some hu, eBool]
      refine ⟨by omega, fun hut => ⟨inI64_nat hk hpl, hE2 _ (k + 1, t, g) (passI_seen hJ (by omega) (by rw [hsu, hut])) (by show c.parts.length - (k + 1) < c.parts.length - k; omega) ⟨rfl, rfl, rfl, rfl, rfl, rfl, trivial⟩ ⟨rfl, trivial⟩ (fun _ h => h)⟩, fun huf => ?_⟩
      simp -implicitDefEqProofs only [go_sem, encAt_some hq, ePart]
      refine ⟨by omega, call0 (t_sends c hc hR.linked a q.id) rfl rfl ?_⟩
      simp -implicitDefEqProofs only [go_sem]
      refine loopR (ι := Nat × Bool) (fun x => x.1 ≤ c.parts.length ∧ x.2 = hitF c a t q x.1) [1, 2, 3, 7, 8, 9] (fun x => [(11, .v (.int .i64 x.1)), (10, .v (.bool x.2))]) (fun x => [(0, .sl 1 eBool t)]) [0] (fun x => c.parts.length - x.1) (0, sendsR c a q.id) ⟨by simp, by simp only; rw [hitF_zero]⟩ ⟨rfl, rfl, trivial⟩ ⟨rfl, trivial⟩ (fun _ h => h) (fun i => rfl) (fun i => rfl) ?_
      rintro ⟨j, hit⟩ ⟨hj, hhit⟩ E3 hE3
      simp only at hj hhit
      by_cases hlt3 : (j : Int) < c.parts.length
      · obtain ⟨p, hp⟩ := get_lt hlt3
        obtain ⟨v, hv⟩ := get_lt (l := t) (i := j) (by omega)
        have hsv : seenAt t j = v := by unfold seenAt; rw [hv]; rfl
        have hstep := hitF_succ (c := c) (a := a) (s := t) (q := q) hp
        rw [← hhit, hsv] at hstep
        have hgo : ∀ hit' : Bool, hit' = (hit || (v && sendsR c p.id q.id)) → (j + 1 ≤ c.parts.length ∧ hit' = hitF c a t q (j + 1)) := fun hit' e => ⟨by omega, by rw [e, hstep]⟩
        cases hit with
        | true =>
          simp -implicitDefEqProofs only [go_sem, hlt3]
          exact ⟨inI64_nat hj hpl, hE3 _ (j + 1, true) (hgo true rfl) (by show c.parts.length - (j + 1) < c.parts.length - j; omega) ⟨rfl, rfl, rfl, rfl, rfl, rfl, rfl, rfl, trivial⟩ ⟨rfl, trivial⟩ (fun _ h => h)⟩
        | false =>
          cases v with
          | false =>
            simp -implicitDefEqProofs only [go_sem, hlt3, encAt_some hv, eBool]
            refine ⟨by omega, ?_⟩
            exact ⟨inI64_nat hj hpl, hE3 _ (j + 1, false) (hgo false (by simp)) (by show c.parts.length - (j + 1) < c.parts.length - j; omega) ⟨rfl, rfl, rfl, rfl, rfl, rfl, rfl, rfl, trivial⟩ ⟨rfl, trivial⟩ (fun _ h => h)⟩
          | true =>
            simp -implicitDefEqProofs only [go_sem, hlt3, encAt_some hv, eBool, encAt_some hp, encAt_some hq, ePart]
            refine ⟨by omega, by omega, by omega, call0 (t_sends c hc hR.linked p.id q.id) rfl rfl ?_⟩
            simp -implicitDefEqProofs only [go_sem]
            exact ⟨inI64_nat hj hpl, hE3 _ (j + 1, sendsR c p.id q.id) (hgo _ (by simp)) (by show c.parts.length - (j + 1) < c.parts.length - j; omega) ⟨rfl, rfl, rfl, rfl, rfl, rfl, rfl, rfl, trivial⟩ ⟨rfl, trivial⟩ (fun _ h => h)⟩
      · have : j = c.parts.length := by omega
        subst this
        simp -implicitDefEqProofs only [go_sem, hlt3]
        cases hit with
        | true =>
          simp -implicitDefEqProofs only [go_sem]
          exact ⟨by omega, true, ⟨by omega, by rw [encAt_some hu]; rfl⟩, inI64_nat hk hpl, hE2 _ (k + 1, t.set k true, true) (passI_hit hR hJ hq (by rw [hsu, huf]) hhit.symm) (by show c.parts.length - (k + 1) < c.parts.length - k; omega) ⟨rfl, rfl, rfl, rfl, rfl, rfl, trivial⟩ ⟨rfl, trivial⟩ (fun _ h => h)⟩
        | false =>
          simp -implicitDefEqProofs only [go_sem]
          exact ⟨inI64_nat hk hpl, hE2 _ (k + 1, t, g) (passI_miss hJ hq hhit.symm) (by show c.parts.length - (k + 1) < c.parts.length - k; omega) ⟨rfl, rfl, rfl, rfl, rfl, rfl, trivial⟩ ⟨rfl, trivial⟩ (fun _ h => h)⟩
    · have : k = c.parts.length := by omega
      subst this
      simp -implicitDefEqProofs only [go_sem, hlt]
      exact hE _ (t, g) (growI_pass hJ) (growM_pass hJ) ⟨rfl, rfl, rfl, rfl, rfl, trivial⟩ ⟨rfl, trivial⟩ (fun _ h => h)
  | false =>
    simp -implicitDefEqProofs only [go_sem]
    refine call0 (t_part c hc b) rfl rfl ?_
    rcases ix_find (fun p => decide (p.id = b)) c.parts with ⟨h2, h3⟩ | ⟨q, w, h2, h3, h4, h5⟩
    · rw [h3]
      simp -implicitDefEqProofs only [go_sem]
      refine ret0 rfl ?_
      simp -implicitDefEqProofs only [go_sem]
      have : flowB c a b = false := by
        rw [Bool.eq_false_iff]
        intro h
        obtain ⟨i, j, _, e, _⟩ := flowB_true.1 h
        rw [h3] at e
        omega
      rw [this]
    · rw [h5]
      have hql := (List.getElem?_eq_some_iff.1 h3).1
      have hsl := hI.len
      simp only at hsl
      obtain ⟨u, hu⟩ := get_lt (l := s) (i := q) (by omega)
      have hsu : seenAt s q = u := by unfold seenAt; rw [hu]; rfl
      simp only [decide_eq_true_eq] at h4
      simp -implicitDefEqProofs only [go_sem, encAt_some hu, eBool]
      refine ⟨fun _ => ⟨by omega, ret0 rfl ?_⟩, fun h => ?_⟩
      · simp -implicitDefEqProofs only [go_sem]
        rw [← hsu, grow_end hR hI h3, h4]
      · simp only [decide_eq_false_iff_not] at h
        omega
end Go.Proofs.Ytbpobdlahighoaa.Sx
