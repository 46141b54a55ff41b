/- The engine tells the truth: maps. -/
import Derived.Test.YtbpobdlahighoaaSxK
namespace Go.Proofs.Ytbpobdlahighoaa.Sx
open Go
set_option linter.unusedVariables false
set_option linter.unusedSimpArgs false

section
variable {C : Cx} {B : Base} {P : Program} {ν ν' : Nat → Option Value} {H G F g : Hp} {st : St} {x y s : SV} {c : Prop} {u z : Value} {t : Nat} {w w' : World} {a : Act} {d : Option Nat} {K : St → Prop} {β : Nat → List Nat}
theorem valsOf_den : ∀ {l : List SV} {cs r : List Value}, DenL ν H l cs → valsOf l = some r → cs = r
  | [], _, r, .nil, h => by simp only [valsOf, Option.some.injEq] at h; exact h
  | .v x :: l, _, r, .cons h1 h2, h => by
    simp only [valsOf] at h
    split at h
    · rename_i r' hr
      injection h with h; subst h
      rw [h1.v_eq, valsOf_den h2 hr]
    · cases h
  | .any :: l, _, _, _, h => by cases h
  | .agg _ :: l, _, _, _, h => by cases h
  | .tup _ :: l, _, _, _, h => by cases h
  | .ptr _ _ :: l, _, _, _, h => by cases h
  | .h _ :: l, _, _, _, h => by cases h
  | .hp _ _ _ _ :: l, _, _, _, h => by cases h
  | .fn _ _ _ :: l, _, _, _, h => by cases h
  | .ro _ _ _ _ :: l, _, _, _, h => by cases h
  | .rop _ :: l, _, _, _, h => by cases h
  | .rom _ _ :: l, _, _, _, h => by cases h
  | .hs _ _ _ _ :: l, _, _, _, h => by cases h
theorem valOf_den {v : Value} (h : Den ν H s u) (hv : valOf s = some v) : u = v := by
  unfold valOf at hv
  split at hv
  · injection hv with hv; subst hv; exact h.v_eq
  · split at hv
    · rename_i r hr
      injection hv with hv; subst hv
      obtain ⟨cs, rfl, hc⟩ := h.agg_inv
      rw [valsOf_den hc hr]
    · cases hv
  · cases hv
theorem mapAt_sound {mt kt vt : Nat} {S : Value → Prop} {kv : List (Value × Value)} (hβ : SatR ν H F g β st.res) (h : mapAt P st mt x = some (S, kv, t, kt, vt)) (hx : Den ν H x u) :
    ∃ b es ck, rlk st.res t = some (.mp S kv) ∧ u = .map (some b) ∧ ν t = some u ∧ β t = [b] ∧ g b = some (.map es ck) ∧ es.toList.map (fun e => (e.key, e.val)) = kv ∧ ((∀ p ∈ kv, S p.1) ∧ MapKept.Stamped es ck) ∧ P.underlying mt = some (.map kt vt) := by
  unfold mapAt at h
  split at h
  · rename_i t'
    split at h
    · rename_i S' kv' kt' vt' hr hk
      injection h with h
      injection h with h1 h; injection h with h2 h; injection h with h3 h; injection h with h4 h5
      subst h1; subst h2; subst h3; subst h4; subst h5
      obtain ⟨b, es, ck, e0, e1, e2, e3, e4⟩ := hβ.ok _ _ hr
      have hu := hx.h_inv
      rw [hu] at e1; injection e1 with e1
      exact ⟨b, es, ck, hr, e1, hu, e0, e2, e3, e4, und_map hk⟩
    · cases h
  · cases h
theorem keys_of {es : Array MapEntry} {kv : List (Value × Value)} {S : Value → Prop} (h : es.toList.map (fun e => (e.key, e.val)) = kv) (hs : ∀ p ∈ kv, S p.1) : ∀ e ∈ es.toList, S e.key := fun e he => by
  have : (e.key, e.val) ∈ kv := by rw [← h]; exact List.mem_map.2 ⟨e, he, rfl⟩
  exact hs _ this
/-- What a lookup finds. -/
theorem run_lookup {mt kt vt b n bb ck : Nat} {z : Value} {S : Value → Prop} {kv : List (Value × Value)} {es : Array MapEntry} {k : Value} (ok : Bool) (hm : P.underlying mt = some (.map kt vt)) (hb : hp w b = some (.map es ck))
    (he : es.toList.map (fun e => (e.key, e.val)) = kv) (hs : ∀ p ∈ kv, S p.1) (hk : S k) (hg : KeyGood P kt S) (hz : (tdOf P vt).inf = some (n, bb, some z)) :
    (Instr.lookup mt (.map (some b)) k ok).run P w = .ok (if ok then .tuple #[(mget kv k).getD z, .bool (mget kv k).isSome] else (mget kv k).getD z) w := by
  have hfind := hg.find w k es.toList hk (keys_of he hs)
  rw [he] at hfind
  have hgo : (getObj b).run P w = .ok (.map es ck) w := MapKept.run_getObj_map hb
  unfold Instr.lookup
  simp only [Sem.run_bind, run_und hm, Result.andThen_ok, hgo, Sem.run_pure, hg.check w k _ hk, hfind]
  unfold mget
  cases hf : mfind kv k with
  | none => cases ok <;> simp [run_zero hz, Sem.run_bind, Result.andThen]
  | some q => cases ok <;> simp [Sem.run_bind, Result.andThen]
theorem mapR_sound {mt kt vt : Nat} {S : Value → Prop} {kv : List (Value × Value)} (hr : SatE ν H F g st.res) (hHg : H.le g) (h : mapR P st mt x = some (S, kv, kt, vt)) (hx : Den ν H x u) :
    ∃ b es ck, u = .map (some b) ∧ g b = some (.map es ck) ∧ (isRom x = true → H b = some (.map es ck)) ∧ es.toList.map (fun e => (e.key, e.val)) = kv ∧ ((∀ p ∈ kv, S p.1) ∧ MapKept.Stamped es ck) ∧ P.underlying mt = some (.map kt vt) := by
  unfold mapR at h
  split at h
  · rename_i t'
    split at h
    · rename_i S' kv' kt' vt' hr' hk
      injection h with h
      injection h with h1 h; injection h with h2 h; injection h with h4 h5
      subst h1; subst h2; subst h4; subst h5
      obtain ⟨_, b, es, ck, e0, e1, e2, e3, e4⟩ := hr.ok _ _ hr'
      have hu := hx.h_inv
      rw [hu] at e1; injection e1 with e1
      exact ⟨b, es, ck, e1, e2, (fun h => by simp [isRom] at h), e3, e4, und_map hk⟩
    · cases h
  · rename_i S' kv'
    split at h
    · rename_i kt' vt' hk
      injection h with h
      injection h with h1 h; injection h with h2 h; injection h with h4 h5
      subst h1; subst h2; subst h4; subst h5
      obtain ⟨b, es, ck, e1, e2, e3, e4⟩ := hx.rom_inv
      exact ⟨b, es, ck, e1, hHg _ _ e2, (fun _ => e2), e3, e4, und_map hk⟩
    · cases h
  · cases h
theorem lookG_sound {mt : Nat} {ok : Bool} {k : SV} (hr : SatE ν H F (hp w) st.res) (hHw : H.le (hp w)) (h : lookG P ok (mapR P st mt x) (valOf k) = some (c, s)) (hc : c) (hx : Den ν H x u) (hk : Den ν H k z) :
    ∃ r, (∀ w', ((hp w).le (hp w') ∨ (isRom x = true ∧ H.le (hp w'))) → (Instr.lookup mt u z ok).run P w' = .ok r w') ∧ Den ν H s r := by
  unfold lookG at h
  split at h
  · rename_i S kv kt vt k' hm hkv
    split at h
    · rename_i n bb zz hi
      obtain ⟨rfl, rfl⟩ := some_pair h
      obtain ⟨b, es, ck, rfl, h5, h5', h6, h7, h8⟩ := mapR_sound hr hHw hm hx
      have e := valOf_den hk hkv
      subst e
      refine ⟨_, fun w' hw' => run_lookup ok h8 (hw'.elim (fun h => h _ _ h5) (fun h => h.2 _ _ (h5' h.1))) h6 h7.1 hc.1 hc.2 hi, ?_⟩
      cases ok with
      | true => exact .tup (.cons (ofVal_den _) (.cons (.r (.v _)) .nil))
      | false => exact ofVal_den _
    · cases h
  · cases h
theorem mfind_none : ∀ {kv : List (Value × Value)} {k : Value}, mfind kv k = none → ∀ p ∈ kv, p.1 ≠ k
  | [], k, _, p, hp => by cases hp
  | q :: kv, k, h, p, hp => by
    unfold mfind at h
    by_cases e : q.1 = k
    · rw [if_pos e] at h; cases h
    · rw [if_neg e] at h
      rcases List.mem_cons.1 hp with rfl | hp
      · exact e
      · exact mfind_none (by cases hf : mfind kv k with
          | none => rfl
          | some x => rw [hf] at h; cases h) p hp
theorem mset_some : ∀ {kv : List (Value × Value)} {k v : Value} {j : Nat} {x : Value}, mfind kv k = some (j, x) → mset kv k v = kv.set j (k, v)
  | [], k, v, j, x, h => by cases h
  | p :: l, k, v, j, x, h => by
    unfold mfind at h
    by_cases e : p.1 = k
    · rw [if_pos e] at h; injection h with h; injection h with h1 h2; subst h1
      simp [mset, e]
    · rw [if_neg e] at h
      cases hf : mfind l k with
      | none => rw [hf] at h; cases h
      | some q =>
        rw [hf] at h
        simp only [Option.map_some, Option.some.injEq, Prod.mk.injEq] at h
        obtain ⟨h1, h2⟩ := h
        subst h1
        simp [mset, e, mset_some (v := v) (show mfind l k = some (q.1, q.2) from hf)]
theorem mset_none : ∀ {kv : List (Value × Value)} {k v : Value}, mfind kv k = none → mset kv k v = kv ++ [(k, v)]
  | [], k, v, h => rfl
  | p :: l, k, v, h => by
    unfold mfind at h
    by_cases e : p.1 = k
    · rw [if_pos e] at h; cases h
    · rw [if_neg e] at h
      have : mfind l k = none := by cases hf : mfind l k <;> simp_all
      simp [mset, e, mset_none (v := v) this]
theorem mdel_some : ∀ {kv : List (Value × Value)} {k : Value} {j : Nat} {x : Value}, mfind kv k = some (j, x) → mdel kv k = kv.eraseIdx j
  | [], k, j, x, h => by cases h
  | p :: l, k, j, x, h => by
    unfold mfind at h
    by_cases e : p.1 = k
    · rw [if_pos e] at h; injection h with h; injection h with h1 h2; subst h1
      simp [mdel, e]
    · rw [if_neg e] at h
      cases hf : mfind l k with
      | none => rw [hf] at h; cases h
      | some q =>
        rw [hf] at h
        simp only [Option.map_some, Option.some.injEq, Prod.mk.injEq] at h
        obtain ⟨h1, h2⟩ := h
        subst h1
        simp [mdel, e, mdel_some (show mfind l k = some (q.1, q.2) from hf)]
theorem mdel_none : ∀ {kv : List (Value × Value)} {k : Value}, mfind kv k = none → mdel kv k = kv
  | [], k, h => rfl
  | p :: l, k, h => by
    unfold mfind at h
    by_cases e : p.1 = k
    · rw [if_pos e] at h; cases h
    · rw [if_neg e] at h
      have : mfind l k = none := by cases hf : mfind l k <;> simp_all
      simp [mdel, e, mdel_none this]
theorem mfind_get : ∀ {kv : List (Value × Value)} {k : Value} {j : Nat} {x : Value}, mfind kv k = some (j, x) → kv[j]? = some (k, x)
  | [], k, j, x, h => by cases h
  | p :: l, k, j, x, h => by
    unfold mfind at h
    by_cases e : p.1 = k
    · rw [if_pos e] at h; injection h with h; injection h with h1 h2; subst h1; subst h2; subst e; rfl
    · rw [if_neg e] at h
      cases hf : mfind l k with
      | none => rw [hf] at h; cases h
      | some q =>
        rw [hf] at h
        simp only [Option.map_some, Option.some.injEq, Prod.mk.injEq] at h
        obtain ⟨h1, h2⟩ := h
        subst h1; subst h2
        simpa using mfind_get (show mfind l k = some (q.1, q.2) from hf)
theorem mset_keys {S : Value → Prop} : ∀ {kv : List (Value × Value)} {k v : Value}, (∀ p ∈ kv, S p.1) → S k → ∀ p ∈ mset kv k v, S p.1
  | [], k, v, h, hk, p, hp => by simp only [mset, List.mem_singleton] at hp; subst hp; exact hk
  | q :: l, k, v, h, hk, p, hp => by
    unfold mset at hp
    by_cases e : q.1 = k
    · rw [if_pos e] at hp
      rcases List.mem_cons.1 hp with rfl | hp
      · exact hk
      · exact h p (List.mem_cons_of_mem _ hp)
    · rw [if_neg e] at hp
      rcases List.mem_cons.1 hp with rfl | hp
      · exact h _ (List.mem_cons_self ..)
      · exact mset_keys (fun p hp => h p (List.mem_cons_of_mem _ hp)) hk p hp
theorem mdel_keys {S : Value → Prop} : ∀ {kv : List (Value × Value)} {k : Value}, (∀ p ∈ kv, S p.1) → ∀ p ∈ mdel kv k, S p.1
  | [], k, h, p, hp => by cases hp
  | q :: l, k, h, p, hp => by
    unfold mdel at hp
    by_cases e : q.1 = k
    · rw [if_pos e] at hp; exact h p (List.mem_cons_of_mem _ hp)
    · rw [if_neg e] at hp
      rcases List.mem_cons.1 hp with rfl | hp
      · exact h _ (List.mem_cons_self ..)
      · exact mdel_keys (fun p hp => h p (List.mem_cons_of_mem _ hp)) p hp

theorem hp_put {b : Nat} {o o' : Obj} (hb : hp w b = some o) (k : Nat) : hp { w with heap := w.heap.setIfInBounds b o' } k = if k = b then some o' else hp w k := by
  have := MapKept.heap_set (o' := o') hb
  by_cases e : k = b
  · subst e; rw [if_pos rfl]; exact this.1
  · rw [if_neg e]; exact this.2 k e
/-- A map is written. -/
theorem run_update {mt kt vt b ck : Nat} {S : Value → Prop} {kv : List (Value × Value)} {es : Array MapEntry} {k v : Value} (hm : P.underlying mt = some (.map kt vt)) (hb : hp w b = some (.map es ck))
    (he : es.toList.map (fun e => (e.key, e.val)) = kv) (hs : ∀ p ∈ kv, S p.1) (hst : MapKept.Stamped es ck) (hk : S k) (hg : KeyGood P kt S) :
    ∃ es' ck', (Instr.mapUpdate mt (.map (some b)) k v).run P w = .ok () { w with heap := w.heap.setIfInBounds b (.map es' ck') } ∧ es'.toList.map (fun e => (e.key, e.val)) = mset kv k v ∧ MapKept.Stamped es' ck' := by
  have hfind := hg.find w k es.toList hk (keys_of he hs)
  rw [he] at hfind
  have hgo : (getObj b).run P w = .ok (.map es ck) w := MapKept.run_getObj_map hb
  cases hf : mfind kv k with
  | none =>
    rw [hf] at hfind
    refine ⟨es.push { key := k, val := v, born := ck }, ck + 1, ?_, ?_⟩
    · unfold Instr.mapUpdate
      simp only [Sem.run_bind, run_und hm, Result.andThen_ok, hgo, hg.check w k _ hk, hfind]
      exact MapKept.run_setObj_map _ hb
    · refine ⟨by rw [mset_none hf]; simp [he], MapKept.stamped_push hst (fun x hx => ?_)⟩
      have : (x.key, x.val) ∈ kv := by rw [← he]; exact List.mem_map.2 ⟨x, hx, rfl⟩
      exact mfind_none hf _ this
  | some q =>
    obtain ⟨j, x⟩ := q
    rw [hf] at hfind
    have hj := mfind_get hf
    rw [← he, List.getElem?_map, Option.map_eq_some_iff] at hj
    obtain ⟨e, hj1, hj2⟩ := hj
    have hj3 : es[j]? = some e := by simpa using hj1
    injection hj2 with hj4 hj5
    refine ⟨es.modify j fun e => { e with key := k, val := v }, ck, ?_, ?_⟩
    · unfold Instr.mapUpdate
      simp only [Sem.run_bind, run_und hm, Result.andThen_ok, hgo, hg.check w k _ hk, hfind, hj3, Option.map_some, Option.getD_some, hj4, hg.stays w k hk]
      exact MapKept.run_setObj_map _ hb
    · refine ⟨?_, MapKept.stamped_modify hst j _ (fun e _ => rfl) (fun e _ he2 => ?_)⟩
      rotate_left
      · rw [hj3] at he2; injection he2 with he2; subst he2; exact hj4.symm
      rw [mset_some hf, ← he]
      apply List.ext_getElem?
      intro i
      simp only [List.getElem?_map, Array.getElem?_toList, Array.getElem?_modify, List.getElem?_set]
      by_cases hij : j = i
      · subst hij
        have : j < es.size := (Array.getElem?_eq_some_iff.1 hj3).1
        simp [hj3, this]
      · simp [hij]
theorem map_eraseIdx' {α γ : Type} (f : α → γ) : ∀ (l : List α) (j : Nat), (l.eraseIdx j).map f = (l.map f).eraseIdx j
  | [], _ => by simp
  | _ :: l, 0 => by simp
  | x :: l, j + 1 => by simp [map_eraseIdx' f l j]
theorem run_delete {mt kt vt b ck : Nat} {S : Value → Prop} {kv : List (Value × Value)} {es : Array MapEntry} {k : Value} {ty : TypeId} (hm : P.underlying mt = some (.map kt vt)) (hb : hp w b = some (.map es ck))
    (he : es.toList.map (fun e => (e.key, e.val)) = kv) (hs : ∀ p ∈ kv, S p.1) (hst : MapKept.Stamped es ck) (hk : S k) (hg : KeyGood P kt S) {ts : Array TypeId} (ht : ts[0]? = some mt) :
    ∃ es' ck' r, (Builtin.delete_ ts ty #[.map (some b), k]).run P w = .ok r { w with heap := w.heap.setIfInBounds b (.map es' ck') } ∧ es'.toList.map (fun e => (e.key, e.val)) = mdel kv k ∧ MapKept.Stamped es' ck' := by
  have hfind := hg.find w k es.toList hk (keys_of he hs)
  rw [he] at hfind
  have hgo : (getObj b).run P w = .ok (.map es ck) w := MapKept.run_getObj_map hb
  cases hf : mfind kv k with
  | none =>
    rw [hf] at hfind
    refine ⟨es, ck, .tuple #[], ?_, by rw [mdel_none hf]; exact he, hst⟩
    unfold Builtin.delete_
    simp only [ht, List.getElem?_toArray, List.getElem?_cons_zero, List.getElem?_cons_succ, Sem.run_bind, run_und hm, Result.andThen_ok, hgo, hg.check w k _ hk, hfind, MapKept.run_setObj_map _ hb, Sem.run_pure]
  | some q =>
    obtain ⟨j, x⟩ := q
    rw [hf] at hfind
    refine ⟨es.eraseIdxIfInBounds j, ck, .tuple #[], ?_, ?_⟩
    · unfold Builtin.delete_
      simp only [ht, List.getElem?_toArray, List.getElem?_cons_zero, List.getElem?_cons_succ, Sem.run_bind, run_und hm, Result.andThen_ok, hgo, hg.check w k _ hk, hfind, MapKept.run_setObj_map _ hb, Sem.run_pure]
    · refine ⟨?_, MapKept.stamped_erase hst j⟩
      rw [mdel_some hf, ← he]
      have hj := mfind_get hf
      rw [← he, List.getElem?_map, Option.map_eq_some_iff] at hj
      obtain ⟨e, hj1, _⟩ := hj
      have hlt : j < es.size := by have := (List.getElem?_eq_some_iff.1 hj1).1; simpa using this
      simp [Array.eraseIdxIfInBounds, hlt, map_eraseIdx']
/-- Behind a map's writing. -/
theorem SatN.mwrite {b : Nat} {es es' : Array MapEntry} {ck ck' : Nat} {S : Value → Prop} {kv kv' : List (Value × Value)} {t : Nat} (h : SatN B ν H C.n st a w) (hβ : SatR ν H B.F (hp w) β st.res) (hr : rlk st.res t = some (.mp S kv)) (hν : ν t = some (.map (some b))) (hb : β t = [b])
    (ho : hp w b = some (.map es ck)) (he : es'.toList.map (fun e => (e.key, e.val)) = kv') (hs : (∀ p ∈ kv', S p.1) ∧ MapKept.Stamped es' ck') :
    SatN B ν H C.n { st with res := rset st.res t (.mp S kv') } a { w with heap := w.heap.setIfInBounds b (.map es' ck') } := by
  refine h.write hβ hr (b := b) (by rw [hb]; simp) (fun k hk => by rw [hp_put ho, if_neg hk]) ⟨rfl, rfl, rfl, by simp⟩ ?_
  exact ⟨b, es', ck', hb, hν, by rw [hp_put ho, if_pos rfl], he, hs⟩
theorem update_next {N : Act → World → Prop} {o : Oper} {Q : Exit → Act → World → Prop} {mt : TypeId} {m k x : Operand} (ho : o.op = .mapUpdate mt m k x) (hs : SatN B ν H C.n st a w)
    (h : upG C o.dst K st (mapAt C.P st mt (ev st m)) (valOf (ev st k)) (valOf (ev st x))) (hN : Next B C.n K N) : o.wp C.P a w N Q := by
  unfold upG at h
  split at h
  · rename_i S kv t kt vt k' x' hm hk hx
    obtain ⟨⟨hS, hg⟩, hK⟩ := h
    obtain ⟨β, hβ⟩ := hs.res
    obtain ⟨b, es, ck, h1, h2, h3, h4, h5, h6, h7, h8⟩ := mapAt_sound hβ hm (ev_den hs.env m)
    have ek := valOf_den (ev_den hs.env k) hk
    have ex := valOf_den (ev_den hs.env x) hx
    obtain ⟨es', ck', hrun, he'⟩ := run_update (v := x') h8 h5 h6 h7.1 h7.2 hS hg
    unfold Oper.wp execOp
    simp only [ho, Sem.run_bind, h2, ek, ex, hrun, Result.andThen_ok, Sem.run_pure]
    rw [h2] at h3
    exact put_next (hs.mwrite hβ h1 h3 h4 h5 he'.1 ⟨mset_keys h7.1 hS, he'.2⟩) hK hN (.any _)
  · exact h.elim
theorem delete_next {N : Act → World → Prop} {o : Oper} {Q : Exit → Act → World → Prop} {mt : TypeId} {m k : Operand} {c : Call} (ho : o.op = .call c) (hc : c.callee = .builtin .delete) (ha : c.args.toList = [m, k]) (ht : c.argTypes[0]? = some mt) (hs : SatN B ν H C.n st a w)
    (h : delG C o.dst K st (mapAt C.P st mt (ev st m)) (valOf (ev st k))) (hN : Next B C.n K N) : o.wp C.P a w N Q := by
  unfold delG at h
  split at h
  · rename_i S kv t kt vt k' hm hk
    obtain ⟨⟨hS, hg⟩, hK⟩ := h
    obtain ⟨β, hβ⟩ := hs.res
    obtain ⟨b, es, ck, h1, h2, h3, h4, h5, h6, h7, h8⟩ := mapAt_sound hβ hm (ev_den hs.env m)
    have ek := valOf_den (ev_den hs.env k) hk
    have haa : c.args.map a.eval = #[.map (some b), k'] := by
      apply Array.toList_inj.1
      rw [Array.toList_map, ha]
      simp [h2, ek]
    have hsat : ∀ es' ck', (es'.toList.map (fun e => (e.key, e.val)) = mdel kv k' ∧ MapKept.Stamped es' ck') → SatN B ν H C.n { st with res := rset st.res t (.mp S (mdel kv k')) } a { w with heap := w.heap.setIfInBounds b (.map es' ck') } := fun es' ck' he' => by
      rw [h2] at h3
      exact hs.mwrite hβ h1 h3 h4 h5 he'.1 ⟨mdel_keys h7.1, he'.2⟩
    obtain ⟨es', ck', r, hrun, he'⟩ := run_delete (ty := o.type) h8 h5 h6 h7.1 h7.2 hS hg ht
    have hexec : (execOp a.eval o).run C.P w = .ok (.value r) { w with heap := w.heap.setIfInBounds b (.map es' ck') } := by
      unfold execOp
      simp only [ho, resolve, hc, haa, Sem.run_bind, Sem.run_pure, Result.andThen_ok, invoke, builtin, hrun]
    unfold Oper.wp
    rw [hexec]
    exact put_next (hsat es' ck' he') hK hN (.any _)
  · exact h.elim
theorem makeMap_next {N : Act → World → Prop} {o : Oper} {Q : Exit → Act → World → Prop} {mt : TypeId} (ho : o.op = .makeMap mt none) (hs : SatN B ν H C.n st a w) (h : mkMapK C o.dst K st)
    (hN : ∀ st' a' w' ν H, SatN B ν H C.n st' a' w' → K st' → (hp w).le (hp w') → N a' w') : o.wp C.P a w N Q := by
  obtain ⟨S, h⟩ := h
  have hsat := hs.alloc (.map #[] 0) (.map (some w.heap.size)) (.mp S []) [w.heap.size] (by simp) ⟨w.heap.size, #[], 0, rfl, upd_same _ _ _, by rw [hp_alloc, if_pos rfl], rfl, (fun p hp => by cases hp), MapKept.stamped_empty 0⟩
  have hexec : (execOp a.eval o).run C.P w = .ok (.value (.map (some w.heap.size))) (w.alloc (.map #[] 0)) := by
    unfold execOp
    simp only [ho, Instr.makeMap, Option.map_none, Sem.run_bind, run_newObj, Result.andThen_ok, Sem.run_pure]
    rfl
  unfold Oper.wp
  rw [hexec]
  show N _ _
  unfold vnew at h
  cases hdst : o.dst with
  | none => rw [hdst] at h; exact hN _ _ _ _ _ hsat h (hp_alloc_le _)
  | some d => rw [hdst] at h; exact hN _ _ _ _ _ (hsat.put h.1 (.h (upd_same _ _ _) rfl)) h.2 (hp_alloc_le _)
end
end Go.Proofs.Ytbpobdlahighoaa.Sx
