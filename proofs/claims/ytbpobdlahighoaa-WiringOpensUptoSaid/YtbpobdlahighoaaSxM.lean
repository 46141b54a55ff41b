/- The engine tells the truth: behind a call. -/
import Derived.Test.YtbpobdlahighoaaSxL
namespace Go.Proofs.Ytbpobdlahighoaa.Sx
open Go
set_option linter.unusedVariables false
set_option linter.unusedSimpArgs false

section
variable {C : Cx} {B : Base} {ν ν' : Nat → Option Value} {H G F g : Hp} {st : St} {x y s : SV} {u z : Value} {t : Nat} {w w' : World} {a : Act} {d : Option Nat} {K : St → Prop} {res : List (Nat × Res)} {ls σ mv : List Nat} {ρ : Nat → Value}

/-- The spent handles stand for nothing. -/
def excl (ν : Nat → Option Value) (l : List Nat) (t : Nat) : Option Value := if t ∈ l then none else ν t
theorem lk_kill (env : List (Nat × SV)) (t k : Nat) : lk (env.map fun p => (p.1, p.2.kill t)) k = (lk env k).kill t := by
  induction env with
  | nil => rfl
  | cons p l ih =>
    simp only [List.map_cons, lk]
    split
    · rfl
    · exact ih
theorem rlk_kill (res : List (Nat × Res)) (t k : Nat) : rlk (res.map fun p => (p.1, p.2.kill t)) k = (rlk res k).map (Res.kill t) := by
  induction res with
  | nil => rfl
  | cons p l ih =>
    simp only [List.map_cons, rlk]
    split
    · rfl
    · exact ih
theorem killL_len (t : Nat) : ∀ l : List SV, (SV.killL t l).length = l.length
  | [] => rfl
  | s :: l => by simp [SV.killL, killL_len t l]
theorem ResOk.kill {r : Res} {k : Nat} {Bs : List Nat} (h : ResOk ν H g Bs k r) (hk : k ≠ t) (hn : ∀ u x, u ≠ t → ν u = some x → ν' u = some x) : ResOk ν' H g Bs k (r.kill t) := by
  cases r with
  | gone => exact h
  | cells l => obtain ⟨b, cs, e, e0, e1, e2, e3⟩ := h; exact ⟨b, cs, e, e0, hn _ _ hk e1, e2, e3.kill hn⟩
  | lit sz m l => obtain ⟨b, cs, e, e0, e1, e2, e3, e4, e5⟩ := h; exact ⟨b, cs, e, e0, hn _ _ hk e1, e2, e3.kill hn, by rw [killL_len]; exact e4, e5⟩
  | sl sz enc xs => obtain ⟨p, c, e1, e2⟩ := h; exact ⟨p, c, hn _ _ hk e1, e2⟩
  | mp ks kv => obtain ⟨b, es, ck, e0, e1, e2⟩ := h; exact ⟨b, es, ck, e0, hn _ _ hk e1, e2⟩
  | nest sz enc xss hole =>
    obtain ⟨b, hs, e, Bss, e0, e1, e2, e3, e4⟩ := h
    exact ⟨b, hs, e, Bss, e0, hn _ _ hk e1, e2, e3.map (fun s => s.kill t) (fun s v _ hd => hd.kill hn) (fun _ _ _ _ _ hd => hd), e4⟩
theorem excl_cons (l : List Nat) : ∀ u x, u ≠ t → excl ν l u = some x → excl ν (t :: l) u = some x := by
  intro u x hu h
  unfold excl at *
  rw [if_neg (by simp [hu]; intro hm; rw [if_pos hm] at h; cases h)]
  split at h
  · cases h
  · exact h
theorem kills_env : ∀ (l : List Nat) (k : Nat), EnvOk ν H st.env a → Den (excl ν l) H (lk (st.kills l).env k) (a.tmps.getD k undef)
  | [], k, h => by
    have e : excl ν [] = ν := by funext q; simp [excl]
    rw [e]; exact h k
  | t :: l, k, h => by
    show Den _ H (lk ((st.kills l).env.map fun p => (p.1, p.2.kill t)) k) _
    rw [lk_kill]
    exact (kills_env l k h).kill (excl_cons l)
/-- Behind the killing: the same resources, told with less. -/
theorem kills_res : ∀ (l : List Nat) (k : Nat) (r : Res), rlk (st.kills l).res k = some r → ∃ r0, rlk st.res k = some r0 ∧ (k ∉ l → ∀ g Bs, ResOk ν H g Bs k r0 → ResOk (excl ν l) H g Bs k r)
  | [], k, r, h => ⟨r, h, fun _ g Bs hr => by
      have : excl ν [] = ν := by funext q; simp [excl]
      rw [this]; exact hr⟩
  | t :: l, k, r, h => by
    have h' : (rlk (st.kills l).res k).map (Res.kill t) = some r := by rw [← rlk_kill]; exact h
    cases hq : rlk (st.kills l).res k with
    | none => rw [hq] at h'; cases h'
    | some r1 =>
      rw [hq] at h'
      simp only [Option.map_some, Option.some.injEq] at h'
      subst h'
      obtain ⟨r0, h1, h3⟩ := kills_res l k r1 hq
      refine ⟨r0, h1, fun hk g Bs hr => ?_⟩
      have hk' : k ≠ t ∧ k ∉ l := by simpa [List.mem_cons, not_or] using hk
      exact (h3 hk'.2 g Bs hr).kill hk'.1 (excl_cons l)
theorem kills_isSome : ∀ (l : List Nat) (k : Nat), (rlk (st.kills l).res k).isSome = (rlk st.res k).isSome
  | [], k => rfl
  | t :: l, k => by
    show (rlk ((st.kills l).res.map fun p => (p.1, p.2.kill t)) k).isSome = _
    rw [rlk_kill, Option.isSome_map, kills_isSome l k]
theorem num_get {α : Type _} (mk : List Res) : ∀ (k i : Nat), rlk (num mk k) i = if k ≤ i then mk[i - k]? else none := by
  induction mk with
  | nil => intro k i; simp [num, rlk]
  | cons r l ih =>
    intro k i
    simp only [num, rlk]
    by_cases e : k = i
    · subst e; simp
    · rw [if_neg e, ih]
      by_cases h : k ≤ i
      · rw [if_pos (by omega), if_pos h, show i - k = (i - (k + 1)) + 1 by omega, List.getElem?_cons_succ]
      · rw [if_neg (by omega), if_neg h]
theorem num0 (l : List Res) (i : Nat) : rlk (num l 0) i = l[i]? := by
  rw [num_get (α := Res)]; simp
theorem preOf_get (res : List (Nat × Res)) (ls : List Nat) (ρ : Nat → Value) (σ : List Nat) : ∀ (τ : List Nat) (k : Nat), (preOf res ls ρ σ τ)[k]? = (τ[k]?).map fun t => match rlk res t with | some r => r.hand res ls ρ σ | none => .gone
  | [], k => by simp [preOf]
  | t :: τ, 0 => by simp only [preOf, List.getElem?_cons_zero, Option.map_some]; rfl
  | t :: τ, k + 1 => by simp only [preOf, List.getElem?_cons_succ]; exact preOf_get res ls ρ σ τ k
theorem preOf_len (res : List (Nat × Res)) (ls : List Nat) (ρ : Nat → Value) (σ : List Nat) : ∀ τ : List Nat, (preOf res ls ρ σ τ).length = τ.length
  | [] => rfl
  | t :: τ => by simp [preOf, preOf_len res ls ρ σ τ]
theorem rsets_get {f : Nat → Nat} (hf : ∀ i j, f i = f j → i = j) : ∀ (post : List Res) (k : Nat) (t : Nat), (∀ j p, post[j]? = some p → f (k + j) = t → rlk (rsets res f post k) t = some (p.ren f)) ∧ ((∀ j, j < post.length → f (k + j) ≠ t) → rlk (rsets res f post k) t = rlk res t)
  | [], k, t => ⟨fun j p h => by simp at h, fun _ => rfl⟩
  | q :: post, k, t => by
    have ih := rsets_get hf post (k + 1) t
    refine ⟨fun j p h e => ?_, fun h => ?_⟩
    · simp only [rsets, rlk_rset]
      cases j with
      | zero => simp only [List.getElem?_cons_zero, Option.some.injEq] at h; subst h; rw [if_pos (by simpa using e)]
      | succ j =>
        have e2 : f k ≠ t := by intro e3; have := hf _ _ (e3.trans e.symm); omega
        rw [if_neg e2]
        exact ih.1 j p (by simpa using h) (by rw [show k + 1 + j = k + (j + 1) by omega]; exact e)
    · simp only [rsets, rlk_rset]
      rw [if_neg (by simpa using h 0 (by simp))]
      exact ih.2 (fun j hj => by rw [show k + 1 + j = k + (j + 1) by omega]; exact h (j + 1) (by simpa using hj))
theorem nodup_inj {l : List Nat} (hd : l.Nodup) {i j : Nat} (hi : i < l.length) (hj : j < l.length) (h : l[i] = l[j]) : i = j := by
  rcases Nat.lt_trichotomy i j with h1 | h1 | h1
  · exact absurd h (List.pairwise_iff_getElem.1 hd i j hi hj h1)
  · exact h1
  · exact absurd h.symm (List.pairwise_iff_getElem.1 hd j i hj hi h1)
theorem handL_len (res : List (Nat × Res)) (ls : List Nat) (ρ : Nat → Value) (σ : List Nat) : ∀ l : List SV, (SV.handL res ls ρ σ l).length = l.length
  | [] => rfl
  | s :: l => by simp [SV.handL, handL_len res ls ρ σ l]
theorem tagOf_inj {nx : Nat} (hd : σ.Nodup) (hlt : ∀ t ∈ σ, t < nx) : ∀ i j, tagOf σ nx i = tagOf σ nx j → i = j := by
  intro i j h
  unfold tagOf at h
  by_cases hi : i < σ.length
  · rw [List.getElem?_eq_getElem hi] at h
    by_cases hj : j < σ.length
    · rw [List.getElem?_eq_getElem hj] at h
      exact nodup_inj hd hi hj h
    · rw [List.getElem?_eq_none (by omega)] at h
      have := hlt _ (List.getElem_mem hi)
      simp only at h; omega
  · rw [List.getElem?_eq_none (by omega)] at h
    by_cases hj : j < σ.length
    · rw [List.getElem?_eq_getElem hj] at h
      have := hlt _ (List.getElem_mem hj)
      simp only at h; omega
    · rw [List.getElem?_eq_none (by omega)] at h
      simp only at h; omega
open Classical in
/-- BEHIND A CALL: what the caller's state is. -/
theorem call_sat {f : FuncId} {args : List SV} {vs : List Value} {Q : SV → List Res → Prop} {n : Nat} {R : Ending → World → Prop} (hnp : B.n = C.np) (hs : SatN B ν H n st a w) (hargs : DenL ν H args vs) (hd : σ.Nodup) (hσ : ∀ t ∈ σ, (rlk st.res t).isSome = true) (hls : ∀ t ∈ ls, t ∉ σ)
    (hT : ∀ ρ : Nat → Value, Tri C.P f (SV.handL st.res ls ρ σ args) (preOf st.res ls ρ σ σ) mv Q)
    (hfree : ∀ r post, Q r post → σ.length ≤ post.length → (ls = [] ∨ (r.rofree = true ∧ ∀ p ∈ post, p.rofree)))
    (hR : ∀ r post, Q r post → σ.length ≤ post.length → ∀ ν2 H2 y w', Den ν2 H2 (r.ren (tagOf σ st.nx)) y →
      SatN B ν2 H2 n { st.kills (movd σ mv) with res := rsets (st.kills (movd σ mv)).res (tagOf σ st.nx) post 0, nx := st.nx + (post.length - σ.length), mv := (movd σ mv).filter (· < C.np) ++ st.mv } a w' → R (.returned y) w') :
    Calls C.P f vs.toArray w R := by
  let ρ : Nat → Value := fun t => (ν t).getD undef
  obtain ⟨β, hβ⟩ := hs.res
  let S : Nat → Prop := fun b => ∃ t ∈ σ, ∃ r, rlk st.res t = some r ∧ b ∈ β t
  let Lb : Nat → Prop := fun b => ∃ t ∈ ls, ∃ r, rlk st.res t = some r ∧ b ∈ β t
  let Fc : Hp := fun b => if S b then none else hp w b
  let Hc : Hp := fun b => if Lb b then hp w b else H b
  have hlt : ∀ t ∈ σ, t < st.nx := fun t ht => by
    rcases Nat.lt_or_ge t st.nx with h | h
    · exact h
    · have := hσ t ht; rw [(hs.fresh t h).2] at this; cases this
  have hSL : ∀ b, S b → ¬ Lb b := by
    rintro b ⟨t, ht, r, h1, h2⟩ ⟨u, hu, q, h3, h4⟩
    exact hβ.dis t u r q b h1 h3 (fun e => hls u hu (e ▸ ht)) h2 h4
  have hSH : ∀ b, S b → H b = none := by rintro b ⟨t, _, r, h1, h2⟩; exact (hβ.own t r b h1 h2).1
  have hLH : ∀ b, Lb b → H b = none := by rintro b ⟨t, _, r, h1, h2⟩; exact (hβ.own t r b h1 h2).1
  have hHHc : H.le Hc := fun b o hb => by
    show (if Lb b then hp w b else H b) = some o
    split
    · exact hs.sub _ _ hb
    · exact hb
  have hHcw : Hc.le (hp w) := fun b o hb => by
    have hb' : (if Lb b then hp w b else H b) = some o := hb
    split at hb'
    · exact hb'
    · exact hs.sub _ _ hb'
  have hFcw : Fc.le (hp w) := fun b o hb => by
    have hb' : (if S b then none else hp w b) = some o := hb
    split at hb'
    · cases hb'
    · exact hb'
  have hHcFc : Hc.le Fc := fun b o hb => by
    show (if S b then none else hp w b) = some o
    have hb' : (if Lb b then hp w b else H b) = some o := hb
    by_cases hS : S b
    · rw [if_neg (hSL b hS), hSH b hS] at hb'; cases hb'
    · rw [if_neg hS]; exact hHcw b o hb
  have hFc : ∀ b, ¬ S b → Fc b = hp w b := fun b h => if_neg h
  have hLok : LentOk ν Hc ρ st.res ls := by
    refine ⟨fun t x hx => by show (ν t).getD undef = x; rw [hx]; rfl, fun t ht r hr => ?_⟩
    refine ⟨β t, (hβ.ok t r hr).keep (fun _ _ h => h) hHHc (fun b o hb ho => ?_)⟩
    show (if Lb b then hp w b else H b) = some o
    rw [if_pos ⟨t, ht, r, hr, hb⟩]; exact ho
  have hpre : ∀ (k : Nat) (p : Res), (preOf st.res ls ρ σ σ)[k]? = some p → ∃ t r, σ[k]? = some t ∧ rlk st.res t = some r ∧ p = r.hand st.res ls ρ σ := by
    intro k p hk
    rw [preOf_get] at hk
    cases ht : σ[k]? with
    | none => rw [ht] at hk; cases hk
    | some t =>
      rw [ht] at hk
      have hsome := hσ t (List.mem_of_getElem? ht)
      cases hr : rlk st.res t with
      | none => rw [hr] at hsome; cases hsome
      | some r => simp only [Option.map_some, hr, Option.some.injEq] at hk; exact ⟨t, r, rfl, hr, hk.symm⟩
  let βp : Nat → List Nat := fun k => match σ[k]? with | some t => β t | none => []
  have hβp : ∀ k t, σ[k]? = some t → βp k = β t := fun k t hk => by show (match σ[k]? with | some t => β t | none => []) = _; rw [hk]
  obtain ⟨_, hcall⟩ := hT ρ
  refine (hcall w (nuC ν σ) Hc Fc vs hHcFc hFcw (hargs.hand hHHc hLok) ⟨βp, ?_, ?_, ?_⟩ ?_).mono ?_
  · intro k p hk
    rw [num0] at hk
    obtain ⟨t, r, h1, h2, rfl⟩ := hpre k p hk
    have hν : nuC ν σ k = ν t := by simp [nuC, h1]
    rw [hβp k t h1]
    have := hβ.ok t r h2
    cases r with
    | gone => exact this
    | cells l => obtain ⟨b, cs, e, e0, e1, e2, e3⟩ := this; exact ⟨b, cs, e, e0, hν.trans e1, e2, e3.hand hHHc hLok⟩
    | lit sz m l => obtain ⟨b, cs, e, e0, e1, e2, e3, e4, e5⟩ := this; exact ⟨b, cs, e, e0, hν.trans e1, e2, e3.hand hHHc hLok, by rw [handL_len]; exact e4, e5⟩
    | sl sz enc xs =>
      obtain ⟨p, c, e1, e2, e3⟩ := this
      refine ⟨p, c, hν.trans e1, e2, e3.imp id ?_⟩
      rintro ⟨b, cs, junk, e, q0, q1, q2, q3, q4⟩
      exact ⟨b, cs, junk, e, q0, q1, q2, rows_mono hHHc q3, q4⟩
    | mp ks kv => obtain ⟨b, es, ck, e0, e1, e2⟩ := this; exact ⟨b, es, ck, e0, hν.trans e1, e2⟩
    | nest sz enc xss hole =>
      obtain ⟨b, hs, e, Bss, e0, e1, e2, e3, e4⟩ := this
      exact ⟨b, hs, e, Bss, e0, hν.trans e1, e2, e3.map (fun s => s.hand st.res ls ρ σ) (fun s v _ hd => hd.hand hHHc hLok) (fun _ _ _ _ _ hd => hd.keep hHHc (fun _ _ _ h => h)), e4⟩
  · intro i j p q b hi hj hij h1 h2
    rw [num0] at hi hj
    obtain ⟨t, r, k1, k2, rfl⟩ := hpre i p hi
    obtain ⟨u, r', k3, k4, rfl⟩ := hpre j q hj
    rw [hβp _ _ k1] at h1
    rw [hβp _ _ k3] at h2
    refine hβ.dis t u r r' b k2 k4 (fun e => hij ?_) h1 h2
    subst e
    obtain ⟨a1, a2⟩ := List.getElem?_eq_some_iff.1 k1
    obtain ⟨a3, a4⟩ := List.getElem?_eq_some_iff.1 k3
    exact nodup_inj hd a1 a3 (a2.trans a4.symm)
  · intro k p b hk hb
    rw [num0] at hk
    obtain ⟨t, r, k1, k2, rfl⟩ := hpre k p hk
    rw [hβp _ _ k1] at hb
    have hSb : S b := ⟨t, List.mem_of_getElem? k1, r, k2, hb⟩
    refine ⟨?_, if_pos hSb⟩
    show (if Lb b then hp w b else H b) = none
    rw [if_neg (hSL b hSb)]; exact hSH b hSb
  · intro k hk
    rw [preOf_len] at hk
    simp [nuC, List.getElem?_eq_none hk]
  · rintro e w' ⟨r, post, ν', H', y, rfl, hQ, hpl, hHH', hH'w, hFw, hnew, hDen, ⟨β', hSat⟩, hkeep, hfr, hkp⟩
    rw [preOf_len] at hpl
    let ν2 : Nat → Option Value := fun t => if t ∈ σ then ν' (σ.idxOf t) else if st.nx ≤ t then ν' (σ.length + (t - st.nx)) else ν t
    let H2 : Hp := fun b => if Lb b then none else H' b
    let β2 : Nat → List Nat := fun t => if t ∈ σ then β' (σ.idxOf t) else if st.nx ≤ t then β' (σ.length + (t - st.nx)) else β t
    have hinj := tagOf_inj (nx := st.nx) hd hlt
    have hν2 : ∀ k, ν2 (tagOf σ st.nx k) = ν' k := by
      intro k
      show (if tagOf σ st.nx k ∈ σ then _ else _) = _
      unfold tagOf
      by_cases hk : k < σ.length
      · rw [List.getElem?_eq_getElem hk]
        simp only
        rw [if_pos (List.getElem_mem hk)]
        congr 1
        exact hd.idxOf_getElem k hk
      · rw [List.getElem?_eq_none (by omega)]
        simp only
        rw [if_neg (fun h => by have := hlt _ h; omega), if_pos (by omega)]
        congr 1; omega
    have hβ2 : ∀ k, β2 (tagOf σ st.nx k) = β' k := by
      intro k
      show (if tagOf σ st.nx k ∈ σ then _ else _) = _
      unfold tagOf
      by_cases hk : k < σ.length
      · rw [List.getElem?_eq_getElem hk]
        simp only
        rw [if_pos (List.getElem_mem hk)]
        congr 1
        exact hd.idxOf_getElem k hk
      · rw [List.getElem?_eq_none (by omega)]
        simp only
        rw [if_neg (fun h => by have := hlt _ h; omega), if_pos (by omega)]
        congr 1; omega
    have hH2 : ∀ b, H2 b = if Lb b then none else H' b := fun _ => rfl
    have hHH2 : H.le H2 := fun b o hb => by
      rw [hH2, if_neg (fun h => by rw [hLH b h] at hb; cases hb)]
      exact hHH' b o (hHHc b o hb)
    have hH2w : H2.le (hp w') := fun b o hb => by
      rw [hH2] at hb; split at hb
      · cases hb
      · exact hH'w b o hb
    have hdenr : ∀ (s : SV) (x : Value), (ls = [] ∨ s.rofree = true) → Den ν' H' s x → Den ν' H2 s x := by
      intro s x h hx
      rcases h with rfl | h
      · have : H2 = H' := by funext b; rw [hH2, if_neg (by rintro ⟨t, ht, _⟩; cases ht)]
        rw [this]; exact hx
      · exact hx.free h
    have hresr : ∀ (k : Nat) (p : Res) (Bs : List Nat), (ls = [] ∨ p.rofree) → ResOk ν' H' (hp w') Bs k p → ResOk ν' H2 (hp w') Bs k p := by
      intro k p Bs h hx
      rcases h with rfl | h
      · have : H2 = H' := by funext b; rw [hH2, if_neg (by rintro ⟨t, ht, _⟩; cases ht)]
        rw [this]; exact hx
      · exact hx.free h
    have hf := hfree r post hQ hpl
    refine hR r post hQ hpl ν2 H2 y w' ((hdenr r y (hf.imp id (·.1)) hDen).ren (fun k x hk => by rw [hν2]; exact hk)) ?_
    let f := tagOf σ st.nx
    have hf0 : ∀ k, k < σ.length → ∃ t, σ[k]? = some t ∧ f k = t := fun k hk => ⟨σ[k], List.getElem?_eq_getElem hk, by show tagOf σ st.nx k = _; simp [tagOf, List.getElem?_eq_getElem hk]⟩
    have hf1 : ∀ k, σ.length ≤ k → f k = st.nx + (k - σ.length) := fun k hk => by show tagOf σ st.nx k = _; simp [tagOf, List.getElem?_eq_none hk]
    -- what the state tells of a handle
    have hlook : ∀ t q, rlk (rsets (st.kills (movd σ mv)).res f post 0) t = some q → (∃ j p, post[j]? = some p ∧ f j = t ∧ q = p.ren f) ∨ (t ∉ σ ∧ (∀ j, j < post.length → f j ≠ t) ∧ rlk (st.kills (movd σ mv)).res t = some q) := by
      intro t q hq
      by_cases h : ∃ j, j < post.length ∧ f j = t
      · obtain ⟨j, hj, e⟩ := h
        have := (rsets_get hinj post 0 t (res := (st.kills (movd σ mv)).res)).1 j _ (List.getElem?_eq_getElem hj) (by simpa using e)
        rw [this] at hq; injection hq with hq
        exact .inl ⟨j, _, List.getElem?_eq_getElem hj, e, hq.symm⟩
      · have hno : ∀ j, j < post.length → f j ≠ t := fun j hj e => h ⟨j, hj, e⟩
        have := (rsets_get hinj post 0 t (res := (st.kills (movd σ mv)).res)).2 (fun j hj => by simpa using hno j hj)
        rw [this] at hq
        refine .inr ⟨fun ht => ?_, hno, hq⟩
        obtain ⟨k, hk, e⟩ := List.mem_iff_getElem.1 ht
        obtain ⟨t', e1, e2⟩ := hf0 k hk
        rw [List.getElem?_eq_getElem hk] at e1
        injection e1 with e1
        exact hno k (by omega) (by rw [e2, ← e1, e])
    have hmem : ∀ t, t ∈ movd σ mv ↔ ∃ k, k ∈ mv ∧ σ[k]? = some t := fun t => by simp [movd, List.mem_filterMap]
    have hmσ : ∀ t, t ∈ movd σ mv → t ∈ σ := fun t ht => by obtain ⟨k, _, hk⟩ := (hmem t).1 ht; exact List.mem_of_getElem? hk
    have hsame : ∀ t, t ∉ movd σ mv → ∀ x, ν t = some x → ν2 t = some x := by
      intro t ht x hx
      show (if t ∈ σ then _ else _) = _
      by_cases hts : t ∈ σ
      · rw [if_pos hts]
        have hil := List.idxOf_lt_length_of_mem hts
        have hk : σ[σ.idxOf t]? = some t := by rw [List.getElem?_eq_getElem hil]; simp
        have hnm : σ.idxOf t ∉ mv := fun h => ht ((hmem t).2 ⟨_, h, hk⟩)
        rw [hkeep _ (by rw [preOf_len]; exact hil) hnm]
        simp [nuC, hk, hx]
      · rw [if_neg hts, if_neg (fun h => by rw [(hs.fresh t h).1] at hx; cases hx)]; exact hx
    have hex : NLe (excl ν (movd σ mv)) ν2 := by
      intro t x hx
      unfold excl at hx
      split at hx
      · cases hx
      · rename_i h; exact hsame t h x hx
    have hold : ∀ t q, t ∉ σ → rlk (st.kills (movd σ mv)).res t = some q → ∃ r0, rlk st.res t = some r0 ∧ β2 t = β t ∧ (∀ b, b ∈ β t → ¬ S b ∧ ∃ o, hp w b = some o ∧ hp w' b = some o ∧ Fc b = some o) ∧ ResOk ν2 H2 (hp w') (β t) t q := by
      intro t q ht hq
      obtain ⟨r0, h1, h3⟩ := kills_res (ν := ν) (H := H) (movd σ mv) t q hq
      have hβt : β2 t = β t := by
        show (if t ∈ σ then _ else _) = _
        rw [if_neg ht]
        rw [if_neg (fun h => by rw [(hs.fresh t h).2] at h1; cases h1)]
      have hbb : ∀ b, b ∈ β t → ¬ S b ∧ ∃ o, hp w b = some o ∧ hp w' b = some o ∧ Fc b = some o := by
        intro b hb
        have hnS : ¬ S b := by rintro ⟨u, hu, r', h4, h5⟩; exact hβ.dis u t r' r0 b h4 h1 (fun e => ht (e ▸ hu)) h5 hb
        obtain ⟨o, ho⟩ := (hβ.ok t r0 h1).blk_lt hb
        have hFo : Fc b = some o := by rw [hFc b hnS]; exact ho
        exact ⟨hnS, o, ho, hFw b o hFo, hFo⟩
      refine ⟨r0, h1, hβt, hbb, ?_⟩
      refine (h3 (fun h => ht (hmσ t h)) (hp w) _ (hβ.ok t r0 h1)).keep hex hHH2 (fun b o hb ho => ?_)
      obtain ⟨_, o', e1, e2, _⟩ := hbb b hb
      rw [ho] at e1; injection e1 with e1; subst e1; exact e2
    have hpost : ∀ (j : Nat) (p : Res), post[j]? = some p → ResOk ν' H' (hp w') (β' j) j p := fun j p hj => hSat.ok j p (by rw [num0]; exact hj)
    refine ⟨hH2w, ?_, hs.subH.trans hHH2, ?_, ?_, hs.size, ⟨β2, ?_, ?_, ?_⟩, ?_, ?_, ?_, hs.defers, ?_⟩
    · intro b o hb
      have hnS : ¬ S b := by rintro ⟨u, hu, r', h4, h5⟩; have := (hβ.own u r' b h4 h5).2; rw [hb] at this; cases this
      exact hFw b o (by rw [hFc b hnS]; exact hs.subF b o hb)
    · intro b o hb hb0
      have hHb := hs.newH b o hb hb0
      have hnS : ¬ S b := by rintro ⟨u, hu, r', h4, h5⟩; have := (hβ.own u r' b h4 h5).2; rw [hb] at this; cases this
      have hnL : ¬ Lb b := by rintro ⟨u, hu, r', h4, h5⟩; have := (hβ.own u r' b h4 h5).2; rw [hb] at this; cases this
      rw [hH2, if_neg hnL]
      exact hnew b o (by rw [hFc b hnS]; exact hs.subF b o hb) (by show (if Lb b then _ else _) = _; rw [if_neg hnL]; exact hHb)
    · intro k
      exact (kills_env (movd σ mv) k hs.env).mono hex hHH2
    · intro t q hq
      rcases hlook t q hq with ⟨j, p, hj, rfl, rfl⟩ | ⟨ht, _, hq⟩
      · have h1 := hpost j p hj
        have h2 := hresr j p _ (hf.imp id (fun h => h.2 p (List.mem_of_getElem? hj))) h1
        rw [hβ2 j]
        exact h2.ren (fun k x hk => by rw [hν2]; exact hk)
      · obtain ⟨r0, k1, k2, k3, k4⟩ := hold t q ht hq
        rw [k2]; exact k4
    · intro t t' q q' b hq hq' htt h1 h2
      rcases hlook t q hq with ⟨j, p, hj, rfl, rfl⟩ | ⟨ht, _, hq⟩ <;> rcases hlook t' q' hq' with ⟨j', p', hj', rfl, rfl⟩ | ⟨ht', _, hq'⟩
      · rw [hβ2 j] at h1
        rw [hβ2 j'] at h2
        exact hSat.dis j j' p p' b (by rw [num0]; exact hj) (by rw [num0]; exact hj') (fun e => htt (by rw [e])) h1 h2
      · rw [hβ2 j] at h1
        obtain ⟨r0, k1, k2, k3, _⟩ := hold t' q' ht' hq'
        rw [k2] at h2
        obtain ⟨_, o, _, _, k4⟩ := k3 b h2
        have := (hSat.own j p b (by rw [num0]; exact hj) h1).2
        rw [k4] at this; cases this
      · rw [hβ2 j'] at h2
        obtain ⟨r0, k1, k2, k3, _⟩ := hold t q ht hq
        rw [k2] at h1
        obtain ⟨_, o, _, _, k4⟩ := k3 b h1
        have := (hSat.own j' p' b (by rw [num0]; exact hj') h2).2
        rw [k4] at this; cases this
      · obtain ⟨r0, k1, k2, _⟩ := hold t q ht hq
        obtain ⟨r1, k3, k4, _⟩ := hold t' q' ht' hq'
        rw [k2] at h1; rw [k4] at h2
        exact hβ.dis t t' r0 r1 b k1 k3 htt h1 h2
    · intro t q b hq hb
      rcases hlook t q hq with ⟨j, p, hj, rfl, rfl⟩ | ⟨ht, _, hq⟩
      · rw [hβ2 j] at hb
        obtain ⟨h1, h2⟩ := hSat.own j p b (by rw [num0]; exact hj) hb
        refine ⟨by rw [hH2]; split; rfl; exact h1, ?_⟩
        cases hF : B.F b with
        | none => rfl
        | some o =>
          have hnS : ¬ S b := by rintro ⟨u, hu, r', h4, h5⟩; have := (hβ.own u r' b h4 h5).2; rw [hF] at this; cases this
          rw [hFc b hnS, hs.subF b o hF] at h2; cases h2
      · obtain ⟨r0, k1, k2, k3, _⟩ := hold t q ht hq
        rw [k2] at hb
        obtain ⟨hHb, hFb⟩ := hβ.own t r0 b k1 hb
        refine ⟨?_, hFb⟩
        rw [hH2]
        by_cases hL : Lb b
        · rw [if_pos hL]
        · rw [if_neg hL]
          obtain ⟨_, o, _, _, k4⟩ := k3 b hb
          exact hnew b o k4 (by show (if Lb b then _ else _) = _; rw [if_neg hL]; exact hHb)
    · intro t ht
      simp only at ht
      have htσ : t ∉ σ := fun h => by have := hlt t h; omega
      refine ⟨?_, ?_⟩
      · show (if t ∈ σ then _ else _) = _
        rw [if_neg htσ, if_pos (by omega)]
        exact hfr _ (by omega)
      · rw [(rsets_get hinj post 0 t (res := (st.kills (movd σ mv)).res)).2 (fun j hj e => ?_)]
        · have := kills_isSome (st := st) (movd σ mv) t
          rw [(hs.fresh t (by omega)).2] at this
          simpa using this
        · simp only [Nat.zero_add] at e
          by_cases hj2 : j < σ.length
          · obtain ⟨t', e1, e2⟩ := hf0 j hj2
            have := hlt t' (List.mem_of_getElem? e1)
            have e3 : f j = t := e
            omega
          · have := hf1 j (by omega)
            have e3 : f j = t := e
            omega
    · intro t ht hm
      simp only [List.mem_append, List.mem_filter, not_or, not_and, decide_eq_true_eq] at hm
      have h1 : t ∉ movd σ mv := fun h => hm.1 h (by rw [← hnp]; exact ht)
      rw [← hs.keep t ht hm.2]
      cases hx : ν t with
      | some x => exact hsame t h1 x hx
      | none =>
        show (if t ∈ σ then _ else _) = _
        by_cases hts : t ∈ σ
        · rw [if_pos hts]
          have hil := List.idxOf_lt_length_of_mem hts
          have hk : σ[σ.idxOf t]? = some t := by rw [List.getElem?_eq_getElem hil]; simp
          have hnm : σ.idxOf t ∉ mv := fun h => h1 ((hmem t).2 ⟨_, h, hk⟩)
          rw [hkeep _ (by rw [preOf_len]; exact hil) hnm]
          simp [nuC, hk, hx]
        · rw [if_neg hts, if_neg (by have := hs.low; omega)]; exact hx
    · have := hs.low; simp only; omega
    · exact ⟨hkp.os.trans hs.kp.os, hkp.tape.trans hs.kp.tape, hkp.output.trans hs.kp.output, Nat.le_trans hs.kp.size hkp.size, Nat.le_trans hs.kp.drawn hkp.drawn⟩
end
end Go.Proofs.Ytbpobdlahighoaa.Sx
