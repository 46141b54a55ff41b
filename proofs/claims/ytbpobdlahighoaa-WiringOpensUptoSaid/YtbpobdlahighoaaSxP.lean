/- The engine tells the truth: a whole function. -/
import Derived.Scope
import Derived.Test.YtbpobdlahighoaaSxO
namespace Go.Proofs.Ytbpobdlahighoaa.Sx
open Go
set_option linter.unusedVariables false
set_option linter.unusedSimpArgs false

def textO (i : Nat) : Nat → Ord
  | 0 => .nil
  | n + 1 => .op i (textO (i + 1) n)
/-- Every drawn region of a piece of code may be walked as its order says. -/
def drawOk (ord : List (Nat × Ord)) : Code → Bool
  | .seq a b => drawOk ord a && drawOk ord b
  | .cond _ a b => drawOk ord a && drawOk ord b
  | .block _ b => drawOk ord b
  | .scope b => drawOk ord b
  | .loop b => drawOk ord b
  | .region id ops true => noDefer ops && (Region.noSelect ops && okO ops (match olk ord id with | some o => o | none => textO 0 ops.size) false ops.size (Array.replicate ops.size false))
  | .region _ ops false => noDefer ops
  | .rangeFunc _ _ a b => drawOk ord a && drawOk ord b
  | _ => true

section
variable {C : Cx} {B : Base} {ν ν' : Nat → Option Value} {H G F g : Hp} {st : St} {x y s : SV} {u z : Value} {t : Nat} {w w' : World} {a : Act} {d : Option Nat} {K : St → Prop} {ops : Array Oper} {Q : Exit → Act → World → Prop} {fin : Exit → Act → World → Prop}

theorem vops_vord {all : Array Oper} : ∀ (r : List Oper) (i : Nat), (∀ (k : Nat) (o : Oper), r[k]? = some o → all[i + k]? = some o) → vops C all r K = vord C all K (textO i r.length)
  | [], _, _ => rfl
  | o :: r, i, h => by
    have ih := vops_vord r (i + 1) (fun k o hk => by rw [show i + 1 + k = i + (k + 1) by omega]; exact h (k + 1) o (by simpa using hk))
    funext st
    have h0 : all[i]? = some o := by have := h 0 o rfl; simpa using this
    show _ = (match all[i]? with | some o => vordg C false all o (vord C all K (textO (i + 1) r.length)) st | none => False)
    rw [h0, ← ih]
    rfl

/-! ### Loops -/
mutual
theorem Den.under {n : Nat} (hn : ∀ t x, t < n → ν t = some x → ν' t = some x) : ∀ {s x}, Den ν H s x → s.lt n = true → Den ν' H s x
  | _, _, .any x, _ => .any x
  | _, _, .r h, _ => .r h
  | _, _, .agg h, k => .agg (DenL.under hn h k)
  | _, _, .tup h, k => .tup (DenL.under hn h k)
  | _, _, .ptr h, k => .ptr (hn _ _ (by simpa [SV.lt] using k) h)
  | _, _, .h h h1, k => .h (hn _ _ (by simpa [SV.lt] using k) h) h1
  | _, _, .hp h, k => .hp (hn _ _ (by simpa [SV.lt] using k) h)
  | _, _, .fn h1 h2, k => by
    simp only [SV.lt, Bool.and_eq_true] at k
    exact .fn (DenL.under hn h1 k.1) (DenL.under hn h2 k.2)
  | _, _, .hs h, k => .hs (hn _ _ (by simpa [SV.lt] using k) h)
theorem DenL.under {n : Nat} (hn : ∀ t x, t < n → ν t = some x → ν' t = some x) : ∀ {s x}, DenL ν H s x → SV.ltL n s = true → DenL ν' H s x
  | _, _, .nil, _ => .nil
  | _, _, .cons h r, k => by
    simp only [SV.ltL, Bool.and_eq_true] at k
    exact .cons (Den.under hn h k.1) (DenL.under hn r k.2)
end
theorem ResOk.under {n : Nat} {r : Res} {Bs : List Nat} (hn : ∀ t x, t < n → ν t = some x → ν' t = some x) (h : ResOk ν H g Bs t r) (ht : t < n) (hr : r.lt n = true) : ResOk ν' H g Bs t r := by
  cases r with
  | gone => exact h
  | cells l => obtain ⟨b, cs, e, e0, e1, e2, e3⟩ := h; exact ⟨b, cs, e, e0, hn _ _ ht e1, e2, e3.under hn hr⟩
  | lit sz m l => obtain ⟨b, cs, e, e0, e1, e2, e3, e4⟩ := h; exact ⟨b, cs, e, e0, hn _ _ ht e1, e2, e3.under hn hr, e4⟩
  | sl sz enc xs => obtain ⟨p, c, e1, e2⟩ := h; exact ⟨p, c, hn _ _ ht e1, e2⟩
  | mp ks kv => obtain ⟨b, es, ck, e0, e1, e2⟩ := h; exact ⟨b, es, ck, e0, hn _ _ ht e1, e2⟩
  | nest sz enc xss hole =>
    obtain ⟨b, hs, e, Bss, e0, e1, e2, e3, e4⟩ := h
    have := e3.map (ν' := ν') (G := H) (g' := g) id (fun s v hs hd => by
      obtain ⟨i, rfl⟩ := hs
      exact hd.under hn hr) (fun _ _ _ _ _ hd => hd)
    rw [hole_id] at this
    exact ⟨b, hs, e, Bss, e0, hn _ _ ht e1, e2, this, e4⟩
theorem matE_lk : ∀ {env l : List (Nat × SV)} (k : Nat), matE env l → lk l k = .any ∨ lk l k = lk env k
  | _, [], _, _ => .inl rfl
  | env, (j, s) :: l, k, h => by
    obtain ⟨h1, h2⟩ := h
    have hl : lk ((j, s) :: l) k = if j = k then s else lk l k := rfl
    rw [hl]
    by_cases e : j = k
    · subst e; rw [if_pos rfl]; exact .inr h1.symm
    · rw [if_neg e]; exact matE_lk k h2
theorem matE_app : ∀ {env l m : List (Nat × SV)}, matE env l → matE env m → matE env (l ++ m)
  | _, [], _, _, h => h
  | _, _ :: _, _, h, k => ⟨h.1, matE_app h.2 k⟩
theorem matE_kept (env : List (Nat × SV)) : ∀ ks, matE env (kept env ks)
  | [] => trivial
  | _ :: ks => ⟨rfl, matE_kept env ks⟩
theorem matR_rlk : ∀ {res l : List (Nat × Res)} (k : Nat) (r : Res), matR res l → rlk l k = some r → rlk res k = some r
  | _, [], _, _, _, h => by cases h
  | res, (j, s) :: l, k, r, h, hk => by
    obtain ⟨h1, h2⟩ := h
    unfold rlk at hk
    by_cases e : j = k
    · subst e; rw [if_pos rfl] at hk; injection hk with hk; subst hk; exact h1
    · rw [if_neg e] at hk; exact matR_rlk k r h2 hk
theorem rover_rlk : ∀ {res l : List (Nat × Res)} (k : Nat) (r : Res), matR res l → rlk (rover res l) k = some r → rlk res k = some r
  | _, [], _, _, _, h => h
  | res, (j, s) :: l, k, r, h, hk => by
    obtain ⟨h1, h2⟩ := h
    unfold rover at hk
    rw [rlk_rset] at hk
    by_cases e : j = k
    · subst e; rw [if_pos rfl] at hk; injection hk with hk; subst hk; exact h1
    · rw [if_neg e] at hk; exact rover_rlk k r h2 hk
theorem envLt_lk {n : Nat} : ∀ {l : List (Nat × SV)} (k : Nat), envLt n l = true → (lk l k).lt n = true
  | [], _, _ => rfl
  | (j, s) :: l, k, h => by
    simp only [envLt, Bool.and_eq_true] at h
    unfold lk
    by_cases e : j = k
    · rw [if_pos e]; exact h.1
    · rw [if_neg e]; exact envLt_lk k h.2
theorem resLt_rlk {n : Nat} : ∀ {l : List (Nat × Res)} (k : Nat) (r : Res), resLt n l = true → rlk l k = some r → k < n ∧ r.lt n = true
  | [], _, _, _, h => by cases h
  | (j, s) :: l, k, r, h, hk => by
    simp only [resLt, Bool.and_eq_true, decide_eq_true_eq] at h
    unfold rlk at hk
    by_cases e : j = k
    · subst e; rw [if_pos rfl] at hk; injection hk with hk; subst hk; exact h.1
    · rw [if_neg e] at hk; exact resLt_rlk k r h.2 hk
/-- A state may be told with less. -/
theorem SatN.less {n nx : Nat} {env : List (Nat × SV)} {res : List (Nat × Res)} {mv : List Nat} (h : SatN B ν H n st a w) (hE : matE st.env env) (hR : ∀ k r, rlk res k = some r → rlk st.res k = some r) (hm : ∀ t ∈ st.mv, t ∈ mv)
    (h1 : envLt nx env = true) (h2 : resLt nx res = true) (h3 : B.n ≤ nx) : ∃ ν', SatN B ν' H n ⟨env, res, nx, mv⟩ a w := by
  have hn : ∀ t x, t < nx → ν t = some x → (if t < nx then ν t else none) = some x := fun t x ht hx => by rw [if_pos ht]; exact hx
  obtain ⟨β, hβ⟩ := h.res
  refine ⟨fun t => if t < nx then ν t else none, h.sub, h.subF, h.subH, h.newH, fun k => ?_, h.size, ⟨β, fun t r ht => ?_, fun t u r q b ht hu htu e1 e2 => hβ.dis t u r q b (hR t r ht) (hR u q hu) htu e1 e2, fun t r b ht e1 => hβ.own t r b (hR t r ht) e1⟩, fun t ht => ⟨if_neg (by simpa using ht), ?_⟩, fun t ht hm' => ?_, h3, h.defers, h.kp⟩
  · rcases matE_lk k hE with e | e
    · show Den _ _ (lk env k) _
      rw [e]; exact .any _
    · have := h.env k
      rw [← e] at this
      exact this.under hn (envLt_lk k h1)
  · have h4 := resLt_rlk t r h2 ht
    exact (hβ.ok t r (hR t r ht)).under hn h4.1 h4.2
  · cases e : rlk res t with
    | none => rfl
    | some r => have := (resLt_rlk t r h2 e).1; simp only at ht; omega
  · show (if t < nx then ν t else none) = _
    rw [if_pos (by omega)]
    exact h.keep t ht (fun h => hm' (hm t h))

theorem SatN.weaken {n : Nat} {st' : St} (h : SatN B ν H n st a w) (hl : leSt st st') : SatN B ν H n st' a w := by
  obtain ⟨hE, hR, hx, hm⟩ := hl
  have hR' := fun k r hk => matR_rlk (res := st.res) (l := st'.res) k r hR hk
  obtain ⟨β, hβ⟩ := h.res
  refine ⟨h.sub, h.subF, h.subH, h.newH, fun k => ?_, h.size, ⟨β, fun t r ht => hβ.ok t r (hR' t r ht), fun t u r q b ht hu => hβ.dis t u r q b (hR' t r ht) (hR' u q hu), fun t r b ht => hβ.own t r b (hR' t r ht)⟩, fun t ht => ?_, fun t ht hm' => h.keep t ht (fun h => hm' (hm t h)), by rw [← hx]; exact h.low, h.defers, h.kp⟩
  · rcases matE_lk k hE with e | e
    · rw [e]; exact .any _
    · rw [e]; exact h.env k
  · have h1 := h.fresh t (by rw [hx]; exact ht)
    refine ⟨h1.1, ?_⟩
    cases e : rlk st'.res t with
    | none => rfl
    | some r => rw [hR' t r e] at h1; cases h1.2
theorem regM_sound {r : Option Nat} {id : Nat} {draw : Bool} (hnp : B.n = C.np) (hm : C.P.follows .mixedOrders = true) (hQ : ∀ c a w, ¬ Q (.panic c) a w) (hO : ∀ a w, ¬ Q .outgrown a w) (hc : drawOk C.ord (.region id ops draw) = true) (hs : SatN B ν H C.n st a w)
    (h : regM C ops draw K st (olk C.ord id)) (hNx : Next B C.n K (Q .normal)) : (Code.region id ops draw).wpIn (Fr r) 0 C.P Q a w := by
  unfold regM at h
  cases ho : olk C.ord id with
  | some o =>
    rw [ho] at h
    obtain ⟨rfl, h⟩ := h
    simp only [drawOk, ho, Bool.and_eq_true] at hc
    exact wpIn_region_any hm (any_in hc.1 hO _ _ _ _ (region_sound (id := id) hnp hm hc.2.1 hQ hc.2.2 hs h hNx))
  | none =>
    rw [ho] at h
    cases draw with
    | false =>
      refine wpIn_region (ops_in hc hO _ _ _ (vops_sound hnp _ ops.toList _ st a w ν H (fun j => ?_) (by simp) hs h hNx))
      simp only [Array.getElem?_toList]
      by_cases hj : j < ops.size
      · simp [List.getElem?_range, hj]
      · rw [Array.getElem?_eq_none (by omega), List.getElem?_eq_none (by simpa using hj)]; rfl
    | true =>
      simp only [drawOk, ho, Bool.and_eq_true] at hc
      have := vops_vord (C := C) (K := K) (all := ops) ops.toList 0 (fun j o hj => by simpa using hj)
      simp only [] at h
      rw [this] at h
      simp only [Array.length_toList] at h
      exact wpIn_region_any hm (any_in hc.1 hO _ _ _ _ (region_sound (id := id) hnp hm hc.2.1 hQ hc.2.2 hs h hNx))
theorem regC_sound {r : Option Nat} {id : Nat} {draw : Bool} {cut : Bool} (hnp : B.n = C.np) (hm : C.P.follows .mixedOrders = true) (hQ : ∀ c a w, ¬ Q (.panic c) a w) (hO : ∀ a w, ¬ Q .outgrown a w) (hc : drawOk C.ord (.region id ops draw) = true) (hs : SatN B ν H C.n st a w)
    (h : regC C ops draw K st (olk C.ord id) cut) (hNx : Next B C.n K (Q .normal)) : (Code.region id ops draw).wpIn (Fr r) 0 C.P Q a w := by
  cases cut with
  | false => exact regM_sound hnp hm hQ hO hc hs h hNx
  | true =>
    obtain ⟨ι, I, S, h1, h2⟩ := h
    refine regM_sound hnp hm hQ hO hc hs h1 ?_
    rintro st' a' w' ν' H' hs' ⟨i, hi, hl⟩
    exact hNx _ _ _ _ _ (hs'.weaken hl) (h2 i hi)
section
variable {r : Option Nat}
theorem sem_panic (hp : ∀ c a w, ¬ fin (.panic c) a w) : ∀ (k : List VI) (c) (a : Act) (w : World), ¬ sem C B r fin k (.panic c) a w
  | [], c, a, w, h => hp c a w h
  | .blk _ :: k, c, a, w, h => sem_panic hp k c a w h
  | .code _ :: k, c, a, w, h => sem_panic hp k c a w h
  | .loop _ :: k, c, a, w, h => sem_panic hp k c a w h
  | .stop _ :: k, c, a, w, h => h.1
theorem sem_goto (hp : ∀ l a w, ¬ fin (.goto l) a w) : ∀ (k : List VI) (l) (a : Act) (w : World), ¬ sem C B r fin k (.goto l) a w
  | [], l, a, w, h => hp l a w h
  | .blk _ :: k, l, a, w, h => sem_goto hp k l a w h
  | .code _ :: k, l, a, w, h => sem_goto hp k l a w h
  | .loop _ :: k, l, a, w, h => sem_goto hp k l a w h
  | .stop _ :: k, l, a, w, h => h.1
theorem sem_out (hp : ∀ a w, ¬ fin .outgrown a w) : ∀ (k : List VI) (a : Act) (w : World), ¬ sem C B r fin k .outgrown a w
  | [], a, w, h => hp a w h
  | .blk _ :: k, a, w, h => sem_out hp k a w h
  | .code _ :: k, a, w, h => sem_out hp k a w h
  | .loop _ :: k, a, w, h => sem_out hp k a w h
  | .stop _ :: k, a, w, h => h.1
end
def viOk (ord : List (Nat × Ord)) : VI → Prop
  | .code c => drawOk ord c = true
  | _ => True
theorem popTo_sub {id : Nat} : ∀ {k k' : List VI}, popTo id k = some k' → ∀ x ∈ k', x ∈ k
  | [], _, h, _, _ => by cases h
  | .blk i :: k, k', h, x, hx => by
    unfold popTo at h
    by_cases e : i = id
    · rw [if_pos e] at h; injection h with h; subst h; exact List.mem_cons_of_mem _ hx
    · rw [if_neg e] at h; exact List.mem_cons_of_mem _ (popTo_sub h x hx)
  | .code _ :: k, k', h, x, hx => List.mem_cons_of_mem _ (popTo_sub (k := k) h x hx)
  | .loop _ :: k, k', h, x, hx => List.mem_cons_of_mem _ (popTo_sub (k := k) h x hx)
theorem popTo_bot {id : Nat} : ∀ {k k' : List VI}, popTo id k = some k' → bot k' = bot k
  | [], _, h => by cases h
  | .blk i :: k, k', h => by
    unfold popTo at h
    by_cases e : i = id
    · rw [if_pos e] at h; injection h with h; subst h; rfl
    · rw [if_neg e] at h; exact popTo_bot (k := k) h
  | .code _ :: k, k', h => popTo_bot (k := k) h
  | .loop _ :: k, k', h => popTo_bot (k := k) h

/-! ### A range over a function -/
/-- The same state, in a world that has turned where nothing is told of it. -/
theorem SatN.move {B1 B2 : Base} {n : Nat} {W W' : World} {a a' : Act} (h : SatN B1 ν H n st a W) (hw : B2.w = B1.w) (hν : B2.ν = B1.ν) (hn : B2.n = B1.n) (hH : B2.H = B1.H) (ht : a'.tmps = a.tmps) (hd : a'.defers = B2.ds.map mark)
    (h1 : H.le (hp W')) (h2 : B2.F.le (hp W')) (h3 : ∀ b o, B2.F b = some o → B1.H b = none → H b = none) (h4 : ∀ b o, B1.F b = none → H b = none → hp W b = some o → hp W' b = some o ∧ B2.F b = none)
    (ho : W'.os = W.os ∧ W'.tape = W.tape ∧ W'.output = W.output ∧ W.heap.size ≤ W'.heap.size ∧ W.drawn ≤ W'.drawn) : SatN B2 ν H n st a' W' := by
  obtain ⟨β, hβ⟩ := h.res
  have key : ∀ t r b, rlk st.res t = some r → b ∈ β t → ∃ o, hp W b = some o ∧ hp W' b = some o ∧ B2.F b = none := fun t r b ht hb => by
    obtain ⟨o, hbo⟩ := (hβ.ok t r ht).blk_lt hb
    have hown := hβ.own t r b ht hb
    obtain ⟨k1, k2⟩ := h4 b o hown.2 hown.1 hbo
    exact ⟨o, hbo, k1, k2⟩
  refine ⟨h1, h2, by rw [hH]; exact h.subH, fun b o hb hbn => h3 b o hb (by rw [← hH]; exact hbn), fun k => by rw [ht]; exact h.env k, by rw [ht]; exact h.size, ⟨β, fun t r ht => ?_, hβ.dis, fun t r b ht hb => ?_⟩, h.fresh, fun t h1 h2 => by rw [hν]; exact h.keep t (by rw [← hn]; exact h1) h2, by rw [hn]; exact h.low, hd, ?_⟩
  · refine (hβ.ok t r ht).keep (fun _ _ h => h) (Hp.le.refl _) (fun b o hb hbo => ?_)
    obtain ⟨o', k1, k2, k3⟩ := key t r b ht hb
    rw [k1] at hbo; injection hbo with hbo; subst hbo; exact k2
  · obtain ⟨o, k1, k2, k3⟩ := key t r b ht hb
    exact ⟨(hβ.own t r b ht hb).1, k3⟩
  · rw [hw]
    exact ⟨ho.1.trans h.kp.os, ho.2.1.trans h.kp.tape, ho.2.2.1.trans h.kp.output, Nat.le_trans h.kp.size ho.2.2.2.1, Nat.le_trans h.kp.drawn ho.2.2.2.2⟩
theorem lk_killmap (t : Nat) : ∀ (env : List (Nat × SV)) (k : Nat), lk (env.map fun p => (p.1, p.2.kill t)) k = .any ∨ lk (env.map fun p => (p.1, p.2.kill t)) k = (lk env k).kill t
  | [], k => .inl rfl
  | (j, s) :: env, k => by
    simp only [List.map_cons, lk]
    by_cases e : j = k
    · rw [if_pos e, if_pos e]; exact .inr rfl
    · rw [if_neg e, if_neg e]; exact lk_killmap t env k
/-- What is told of the frame, but for what has moved, is so of other handles' values. -/
theorem env_outer {ν ν' : Nat → Option Value} {env : List (Nat × SV)} {a : Act} (h : EnvOk ν H env a) : ∀ (mv : List Nat), (∀ t x, t ∉ mv → ν t = some x → ν' t = some x) → EnvOk ν' H (St.kills ⟨env, [], 0, []⟩ mv).env a
  | [], hn, k => (h k).mono (fun t x hx => hn t x (by simp) hx) (Hp.le.refl _)
  | t :: mv, hn, k => by
    -- by way of handles that hold what they held but for t
    have h1 := env_outer (ν' := fun u => if u = t then ν t else ν' u) h mv (fun u x hu hx => by
      by_cases e : u = t
      · subst e; rw [if_pos rfl]; exact hx
      · rw [if_neg e]; exact hn u x (by simp [e, hu]) hx) k
    show Den ν' H (lk (List.map _ (St.kills ⟨env, [], 0, []⟩ mv).env) k) _
    rcases lk_killmap t (St.kills ⟨env, [], 0, []⟩ mv).env k with e | e
    · rw [e]; exact .any _
    · rw [e]
      exact h1.kill (fun u x hu hx => by rw [if_neg hu] at hx; exact hx)
theorem roundEnv_ok {ν : Nat → Option Value} {n : Nat} : ∀ (ps : List Nat) (ss : List SV) (vs : List Value) (env : List (Nat × SV)) (tmps : Array Value) (ds ds' : List Deferred), ss.length = ps.length → DenL ν H ss vs → (∀ p ∈ ps, p < n) → tmps.size = n → EnvOk ν H env { tmps := tmps, defers := ds } →
    EnvOk ν H (roundEnv ps ss env) { tmps := (ps.zip vs).foldl (fun t (p, v) => t.setIfInBounds p v) tmps, defers := ds' } ∧ ((ps.zip vs).foldl (fun t (p, v) => t.setIfInBounds p v) tmps).size = n
  | [], ss, vs, env, tmps, ds, ds', _, hd, _, hs, h => by
    refine ⟨fun k => ?_, by simpa using hs⟩
    have := h k
    cases ss <;> simpa [roundEnv] using this
  | p :: ps, [], vs, env, tmps, ds, ds', hl, hd, _, hs, h => by simp at hl
  | p :: ps, s :: ss, _, env, tmps, ds, ds', hl, .cons (x := x) (xs := xs) h1 h2, hp', hs, h => by
    simp only [List.zip_cons_cons, List.foldl_cons, roundEnv]
    refine roundEnv_ok ps ss xs ((p, s) :: env) (tmps.setIfInBounds p x) ds ds' (by simpa using hl) h2 (fun q hq => hp' q (by simp [hq])) (by simpa using hs) (fun k => ?_)
    show Den ν H (if p = k then s else lk env k) ((tmps.setIfInBounds p x).getD k undef)
    have hpl := hp' p (by simp)
    by_cases e : p = k
    · subst e
      rw [if_pos rfl]
      have : p < tmps.size := by rw [hs]; exact hpl
      simpa [Array.getD, this] using h1
    · rw [if_neg e]
      have e2 : (tmps.setIfInBounds p x).getD k undef = tmps.getD k undef := by
        simp only [Array.getD_eq_getD_getElem?]
        rw [Array.getElem?_setIfInBounds_ne e]
      rw [e2]; exact h k
end
end Go.Proofs.Ytbpobdlahighoaa.Sx
