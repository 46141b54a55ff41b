/- The engine tells the truth: a whole function. -/
import Derived.Scope
import Derived.Test.YtbpobdlahighoaaSxO
namespace Go.Proofs.Ytbpobdlahighoaa.Sx
open Go
set_option linter.unusedVariables false
set_option linter.unusedSimpArgs false

def textO (i : Nat) : Nat → Ord
  | 0 => .nil
  | n + 1 => .op i (textO (i + 1) n)
/-- Every drawn region of a piece of code may be walked as its order says. -/
def drawOk (ord : List (Nat × Ord)) : Code → Bool
  | .seq a b => drawOk ord a && drawOk ord b
  | .cond _ a b => drawOk ord a && drawOk ord b
  | .block _ b => drawOk ord b
  | .scope b => drawOk ord b
  | .loop b => drawOk ord b
  | .region id ops true => Region.noSelect ops && okO ops (match olk ord id with | some o => o | none => textO 0 ops.size) false ops.size (Array.replicate ops.size false)
  | _ => true

section
variable {C : Cx} {B : Base} {ν ν' : Nat → Option Value} {H G F g : Hp} {st : St} {x y s : SV} {u z : Value} {t : Nat} {w w' : World} {a : Act} {d : Option Nat} {K : St → Prop} {ops : Array Oper} {Q : Exit → Act → World → Prop} {fin : Exit → Act → World → Prop}

theorem vops_vord {all : Array Oper} : ∀ (r : List Oper) (i : Nat), (∀ (k : Nat) (o : Oper), r[k]? = some o → all[i + k]? = some o) → vops C all r K = vord C all K (textO i r.length)
  | [], _, _ => rfl
  | o :: r, i, h => by
    have ih := vops_vord r (i + 1) (fun k o hk => by rw [show i + 1 + k = i + (k + 1) by omega]; exact h (k + 1) o (by simpa using hk))
    funext st
    have h0 : all[i]? = some o := by have := h 0 o rfl; simpa using this
    show _ = (match all[i]? with | some o => vordg C false all o (vord C all K (textO (i + 1) r.length)) st | none => False)
    rw [h0, ← ih]
    rfl

/-! ### Loops -/
mutual
theorem Den.under {n : Nat} (hn : ∀ t x, t < n → ν t = some x → ν' t = some x) : ∀ {s x}, Den ν H s x → s.lt n = true → Den ν' H s x
  | _, _, .any x, _ => .any x
  | _, _, .r h, _ => .r h
  | _, _, .agg h, k => .agg (DenL.under hn h k)
  | _, _, .tup h, k => .tup (DenL.under hn h k)
  | _, _, .ptr h, k => .ptr (hn _ _ (by simpa [SV.lt] using k) h)
  | _, _, .h h h1, k => .h (hn _ _ (by simpa [SV.lt] using k) h) h1
  | _, _, .hp h, k => .hp (hn _ _ (by simpa [SV.lt] using k) h)
  | _, _, .fn h1 h2, k => by
    simp only [SV.lt, Bool.and_eq_true] at k
    exact .fn (DenL.under hn h1 k.1) (DenL.under hn h2 k.2)
  | _, _, .hs h, k => .hs (hn _ _ (by simpa [SV.lt] using k) h)
theorem DenL.under {n : Nat} (hn : ∀ t x, t < n → ν t = some x → ν' t = some x) : ∀ {s x}, DenL ν H s x → SV.ltL n s = true → DenL ν' H s x
  | _, _, .nil, _ => .nil
  | _, _, .cons h r, k => by
    simp only [SV.ltL, Bool.and_eq_true] at k
    exact .cons (Den.under hn h k.1) (DenL.under hn r k.2)
end
theorem ResOk.under {n : Nat} {r : Res} {Bs : List Nat} (hn : ∀ t x, t < n → ν t = some x → ν' t = some x) (h : ResOk ν H g Bs t r) (ht : t < n) (hr : r.lt n = true) : ResOk ν' H g Bs t r := by
  cases r with
  | gone => exact h
  | cells l => obtain ⟨b, cs, e, e0, e1, e2, e3⟩ := h; exact ⟨b, cs, e, e0, hn _ _ ht e1, e2, e3.under hn hr⟩
  | lit sz m l => obtain ⟨b, cs, e, e0, e1, e2, e3, e4⟩ := h; exact ⟨b, cs, e, e0, hn _ _ ht e1, e2, e3.under hn hr, e4⟩
  | sl sz enc xs => obtain ⟨p, c, e1, e2⟩ := h; exact ⟨p, c, hn _ _ ht e1, e2⟩
  | mp ks kv => obtain ⟨b, es, ck, e0, e1, e2⟩ := h; exact ⟨b, es, ck, e0, hn _ _ ht e1, e2⟩
  | nest sz enc xss hole =>
    obtain ⟨b, hs, e, Bss, e0, e1, e2, e3, e4⟩ := h
    have := e3.map (ν' := ν') (G := H) (g' := g) id (fun s v hs hd => by
      obtain ⟨i, rfl⟩ := hs
      exact hd.under hn hr) (fun _ _ _ _ _ hd => hd)
    rw [hole_id] at this
    exact ⟨b, hs, e, Bss, e0, hn _ _ ht e1, e2, this, e4⟩
theorem matE_lk : ∀ {env l : List (Nat × SV)} (k : Nat), matE env l → lk l k = .any ∨ lk l k = lk env k
  | _, [], _, _ => .inl rfl
  | env, (j, s) :: l, k, h => by
    obtain ⟨h1, h2⟩ := h
    have hl : lk ((j, s) :: l) k = if j = k then s else lk l k := rfl
    rw [hl]
    by_cases e : j = k
    · subst e; rw [if_pos rfl]; exact .inr h1.symm
    · rw [if_neg e]; exact matE_lk k h2
theorem matE_app : ∀ {env l m : List (Nat × SV)}, matE env l → matE env m → matE env (l ++ m)
  | _, [], _, _, h => h
  | _, _ :: _, _, h, k => ⟨h.1, matE_app h.2 k⟩
theorem matE_kept (env : List (Nat × SV)) : ∀ ks, matE env (kept env ks)
  | [] => trivial
  | _ :: ks => ⟨rfl, matE_kept env ks⟩
theorem matR_rlk : ∀ {res l : List (Nat × Res)} (k : Nat) (r : Res), matR res l → rlk l k = some r → rlk res k = some r
  | _, [], _, _, _, h => by cases h
  | res, (j, s) :: l, k, r, h, hk => by
    obtain ⟨h1, h2⟩ := h
    unfold rlk at hk
    by_cases e : j = k
    · subst e; rw [if_pos rfl] at hk; injection hk with hk; subst hk; exact h1
    · rw [if_neg e] at hk; exact matR_rlk k r h2 hk
theorem rover_rlk : ∀ {res l : List (Nat × Res)} (k : Nat) (r : Res), matR res l → rlk (rover res l) k = some r → rlk res k = some r
  | _, [], _, _, _, h => h
  | res, (j, s) :: l, k, r, h, hk => by
    obtain ⟨h1, h2⟩ := h
    unfold rover at hk
    rw [rlk_rset] at hk
    by_cases e : j = k
    · subst e; rw [if_pos rfl] at hk; injection hk with hk; subst hk; exact h1
    · rw [if_neg e] at hk; exact rover_rlk k r h2 hk
theorem envLt_lk {n : Nat} : ∀ {l : List (Nat × SV)} (k : Nat), envLt n l = true → (lk l k).lt n = true
  | [], _, _ => rfl
  | (j, s) :: l, k, h => by
    simp only [envLt, Bool.and_eq_true] at h
    unfold lk
    by_cases e : j = k
    · rw [if_pos e]; exact h.1
    · rw [if_neg e]; exact envLt_lk k h.2
theorem resLt_rlk {n : Nat} : ∀ {l : List (Nat × Res)} (k : Nat) (r : Res), resLt n l = true → rlk l k = some r → k < n ∧ r.lt n = true
  | [], _, _, _, h => by cases h
  | (j, s) :: l, k, r, h, hk => by
    simp only [resLt, Bool.and_eq_true, decide_eq_true_eq] at h
    unfold rlk at hk
    by_cases e : j = k
    · subst e; rw [if_pos rfl] at hk; injection hk with hk; subst hk; exact h.1
    · rw [if_neg e] at hk; exact resLt_rlk k r h.2 hk
/-- A state may be told with less. -/
theorem SatN.less {n nx : Nat} {env : List (Nat × SV)} {res : List (Nat × Res)} {mv : List Nat} (h : SatN B ν H n st a w) (hE : matE st.env env) (hR : ∀ k r, rlk res k = some r → rlk st.res k = some r) (hm : ∀ t ∈ st.mv, t ∈ mv)
    (h1 : envLt nx env = true) (h2 : resLt nx res = true) (h3 : B.n ≤ nx) : ∃ ν', SatN B ν' H n ⟨env, res, nx, mv⟩ a w := by
  have hn : ∀ t x, t < nx → ν t = some x → (if t < nx then ν t else none) = some x := fun t x ht hx => by rw [if_pos ht]; exact hx
  obtain ⟨β, hβ⟩ := h.res
  refine ⟨fun t => if t < nx then ν t else none, h.sub, h.subF, h.subH, h.newH, fun k => ?_, h.size, ⟨β, fun t r ht => ?_, fun t u r q b ht hu htu e1 e2 => hβ.dis t u r q b (hR t r ht) (hR u q hu) htu e1 e2, fun t r b ht e1 => hβ.own t r b (hR t r ht) e1⟩, fun t ht => ⟨if_neg (by simpa using ht), ?_⟩, fun t ht hm' => ?_, h3, h.defers, h.kp⟩
  · rcases matE_lk k hE with e | e
    · show Den _ _ (lk env k) _
      rw [e]; exact .any _
    · have := h.env k
      rw [← e] at this
      exact this.under hn (envLt_lk k h1)
  · have h4 := resLt_rlk t r h2 ht
    exact (hβ.ok t r (hR t r ht)).under hn h4.1 h4.2
  · cases e : rlk res t with
    | none => rfl
    | some r => have := (resLt_rlk t r h2 e).1; simp only at ht; omega
  · show (if t < nx then ν t else none) = _
    rw [if_pos (by omega)]
    exact h.keep t ht (fun h => hm' (hm t h))

theorem SatN.weaken {n : Nat} {st' : St} (h : SatN B ν H n st a w) (hl : leSt st st') : SatN B ν H n st' a w := by
  obtain ⟨hE, hR, hx, hm⟩ := hl
  have hR' := fun k r hk => matR_rlk (res := st.res) (l := st'.res) k r hR hk
  obtain ⟨β, hβ⟩ := h.res
  refine ⟨h.sub, h.subF, h.subH, h.newH, fun k => ?_, h.size, ⟨β, fun t r ht => hβ.ok t r (hR' t r ht), fun t u r q b ht hu => hβ.dis t u r q b (hR' t r ht) (hR' u q hu), fun t r b ht => hβ.own t r b (hR' t r ht)⟩, fun t ht => ?_, fun t ht hm' => h.keep t ht (fun h => hm' (hm t h)), by rw [← hx]; exact h.low, h.defers, h.kp⟩
  · rcases matE_lk k hE with e | e
    · rw [e]; exact .any _
    · rw [e]; exact h.env k
  · have h1 := h.fresh t (by rw [hx]; exact ht)
    refine ⟨h1.1, ?_⟩
    cases e : rlk st'.res t with
    | none => rfl
    | some r => rw [hR' t r e] at h1; cases h1.2
theorem regM_sound {id : Nat} {draw : Bool} (hnp : B.n = C.np) (hm : C.P.follows .mixedOrders = true) (hQ : ∀ c a w, ¬ Q (.panic c) a w) (hc : drawOk C.ord (.region id ops draw) = true) (hs : SatN B ν H C.n st a w)
    (h : regM C ops draw K st (olk C.ord id)) (hNx : Next B C.n K (Q .normal)) : (Code.region id ops draw).wp C.P Q a w := by
  unfold regM at h
  cases ho : olk C.ord id with
  | some o =>
    rw [ho] at h
    obtain ⟨rfl, h⟩ := h
    simp only [drawOk, ho, Bool.and_eq_true] at hc
    exact region_sound hnp hm hc.1 hQ hc.2 hs h hNx
  | none =>
    rw [ho] at h
    cases draw with
    | false =>
      refine wp_region (vops_sound hnp _ ops.toList _ st a w ν H (fun j => ?_) (by simp) hs h hNx)
      simp only [Array.getElem?_toList]
      by_cases hj : j < ops.size
      · simp [List.getElem?_range, hj]
      · rw [Array.getElem?_eq_none (by omega), List.getElem?_eq_none (by simpa using hj)]; rfl
    | true =>
      simp only [drawOk, ho, Bool.and_eq_true] at hc
      have := vops_vord (C := C) (K := K) (all := ops) ops.toList 0 (fun j o hj => by simpa using hj)
      simp only [] at h
      rw [this] at h
      simp only [Array.length_toList] at h
      exact region_sound hnp hm hc.1 hQ hc.2 hs h hNx
theorem regC_sound {id : Nat} {draw : Bool} {cut : Bool} (hnp : B.n = C.np) (hm : C.P.follows .mixedOrders = true) (hQ : ∀ c a w, ¬ Q (.panic c) a w) (hc : drawOk C.ord (.region id ops draw) = true) (hs : SatN B ν H C.n st a w)
    (h : regC C ops draw K st (olk C.ord id) cut) (hNx : Next B C.n K (Q .normal)) : (Code.region id ops draw).wp C.P Q a w := by
  cases cut with
  | false => exact regM_sound hnp hm hQ hc hs h hNx
  | true =>
    obtain ⟨ι, I, S, h1, h2⟩ := h
    refine regM_sound hnp hm hQ hc hs h1 ?_
    rintro st' a' w' ν' H' hs' ⟨i, hi, hl⟩
    exact hNx _ _ _ _ _ (hs'.weaken hl) (h2 i hi)
theorem sem_panic (hp : ∀ c a w, ¬ fin (.panic c) a w) : ∀ (k : List VI) (c) (a : Act) (w : World), ¬ sem C B fin k (.panic c) a w
  | [], c, a, w, h => hp c a w h
  | .blk _ :: k, c, a, w, h => sem_panic hp k c a w h
  | .code _ :: k, c, a, w, h => sem_panic hp k c a w h
  | .loop _ :: k, c, a, w, h => sem_panic hp k c a w h
theorem sem_goto (hp : ∀ l a w, ¬ fin (.goto l) a w) : ∀ (k : List VI) (l) (a : Act) (w : World), ¬ sem C B fin k (.goto l) a w
  | [], l, a, w, h => hp l a w h
  | .blk _ :: k, l, a, w, h => sem_goto hp k l a w h
  | .code _ :: k, l, a, w, h => sem_goto hp k l a w h
  | .loop _ :: k, l, a, w, h => sem_goto hp k l a w h
def viOk (ord : List (Nat × Ord)) : VI → Prop
  | .code c => drawOk ord c = true
  | _ => True
theorem popTo_sub {id : Nat} : ∀ {k k' : List VI}, popTo id k = some k' → ∀ x ∈ k', x ∈ k
  | [], _, h, _, _ => by cases h
  | .blk i :: k, k', h, x, hx => by
    unfold popTo at h
    by_cases e : i = id
    · rw [if_pos e] at h; injection h with h; subst h; exact List.mem_cons_of_mem _ hx
    · rw [if_neg e] at h; exact List.mem_cons_of_mem _ (popTo_sub h x hx)
  | .code _ :: k, k', h, x, hx => List.mem_cons_of_mem _ (popTo_sub (k := k) h x hx)
  | .loop _ :: k, k', h, x, hx => List.mem_cons_of_mem _ (popTo_sub (k := k) h x hx)
/-- WHAT IS SHOWN OF THE STATE IS SO OF THE MACHINE. -/
theorem run_sound (hnp : B.n = C.np) (hm : C.P.follows .mixedOrders = true) (hp : ∀ c a w, ¬ fin (.panic c) a w) (hgo : ∀ l a w, ¬ fin (.goto l) a w) (hfin : ∀ st a w ν H, SatN B ν H C.n st a w → RetVC C st → fin .ret a w ∧ fin .normal a w) :
    ∀ (f : Nat) (k : List VI) (st : St) (a : Act) (w : World) (ν : Nat → Option Value) (H : Hp), (∀ x ∈ k, viOk C.ord x) → SatN B ν H C.n st a w → vrun C f k st → sem C B fin k .normal a w
  | 0, k, st, a, w, ν, H, hk, hs, h => h.elim
  | f + 1, [], st, a, w, ν, H, hk, hs, h => (hfin _ _ _ _ _ hs h).2
  | f + 1, .blk _ :: k, st, a, w, ν, H, hk, hs, h => run_sound hnp hm hp hgo hfin f k st a w ν H (fun x hx => hk x (by simp [hx])) hs h
  | f + 1, .loop E :: k, st, a, w, ν, H, hk, hs, h => ⟨ν, H, st, hs, h⟩
  | f + 1, .code c :: k, st, a, w, ν, H, hk, hs, h => by
    have hk' : ∀ x ∈ k, viOk C.ord x := fun x hx => hk x (by simp [hx])
    have hc : drawOk C.ord c = true := hk (.code c) (by simp)
    have IH : ∀ k st a w ν H, (∀ x ∈ k, viOk C.ord x) → SatN B ν H C.n st a w → vrun C f k st → sem C B fin k .normal a w := fun k st a w ν H => run_sound hnp hm hp hgo hfin f k st a w ν H
    have hNx : Next B C.n (vrun C f k) (sem C B fin k .normal) := fun st a w ν H hs h => IH k st a w ν H hk' hs h
    show c.wp C.P (sem C B fin k) a w
    cases c with
    | skip => exact wp_skip (IH k st a w ν H hk' hs h)
    | label l => exact wp_label (IH k st a w ν H hk' hs h)
    | seq x y =>
      simp only [drawOk, Bool.and_eq_true] at hc
      refine wp_seq (wp_mono (IH (.code x :: .code y :: k) st a w ν H (fun z hz => ?_) hs h) (fun e a w h => (sem_then fin y k e a w).1 h))
      simp only [List.mem_cons] at hz
      rcases hz with rfl | rfl | hz
      · exact hc.1
      · exact hc.2
      · exact hk' z hz
    | region id ops draw => exact regC_sound hnp hm (sem_panic hp k) hc hs h (ghC_next hNx)
    | cond x y z =>
      simp only [drawOk, Bool.and_eq_true] at hc
      simp only [vrun] at h
      split at h
      · rename_i b hb
        have hx := ev_den hs.env x
        rw [hb] at hx
        refine wp_cond_split hx.v_eq (fun hb => ?_) (fun hb => ?_)
        · exact IH (.code y :: k) st a w ν H (fun q hq => by rcases List.mem_cons.1 hq with rfl | hq; exact hc.1; exact hk' q hq) hs (h.1 hb)
        · exact IH (.code z :: k) st a w ν H (fun q hq => by rcases List.mem_cons.1 hq with rfl | hq; exact hc.2; exact hk' q hq) hs (h.2 hb)
      · exact h.elim
    | block id b =>
      refine wp_block (wp_mono (IH (.code b :: .blk id :: k) st a w ν H (fun z hz => ?_) hs h) (fun e a w h => (sem_blk fin id k e a w).1 h))
      simp only [List.mem_cons] at hz
      rcases hz with rfl | rfl | hz
      · exact hc
      · trivial
      · exact hk' z hz
    | scope b =>
      refine wp_scope_straight (wp_mono (IH (.code b :: k) st a w ν H (fun z hz => ?_) hs h) (fun e a w h => ?_))
      · simp only [List.mem_cons] at hz
        rcases hz with rfl | hz
        · exact hc
        · exact hk' z hz
      · cases e with
        | goto l => exact (sem_goto hgo k l a w h).elim
        | _ => exact h
    | exit id =>
      simp only [vrun] at h
      split at h
      · rename_i k' hp'
        exact wp_exit (sem_exit fin id k k' a w hp' (IH k' st a w ν H (fun x hx => hk' x (popTo_sub hp' x hx)) hs h))
      · exact h.elim
    | loop b =>
      obtain ⟨ι, I, ks, env, res, mvs, μ, i₀, h1, h2, h3, h4, h5, h6⟩ := h
      have hlow := hs.low
      refine wp_loop_ix (fun i a w => I i ∧ ∃ ν H, SatN B ν H C.n (lst st (env i ++ kept st.env ks) (res i) mvs) a w) μ ?_ i₀ a w ⟨h1, ?_⟩
      · rintro i a w ⟨hI, ν, H, hs⟩
        have := IH (.code b :: .loop (fun st' => ∃ i', I i' ∧ μ i' < μ i ∧ matE st'.env (env i' ++ kept st.env ks) ∧ matR st'.res (rover st.res (res i')) ∧ (∀ t ∈ st'.mv, t ∈ mvs)) :: k) _ a w ν H (fun z hz => ?_) hs (h6 i hI _ (fun st' h => h))
        · refine wp_mono this (fun e a w he => ?_)
          cases e with
          | normal =>
            obtain ⟨ν', H', st', hs', i', k1, k2, k3, k4, k5⟩ := he
            obtain ⟨ν2, hs2⟩ := hs'.less (env := env i' ++ kept st.env ks) (res := rover st.res (res i')) (mv := mvs) (nx := st.nx) k3 (fun k r hk => matR_rlk k r k4 hk) k5 (h5 i').1 (h5 i').2 hlow
            exact ⟨i', ⟨k1, ν2, H', hs2⟩, k2⟩
          | _ => exact he
        · simp only [List.mem_cons] at hz
          rcases hz with rfl | rfl | hz
          · exact hc
          · trivial
          · exact hk' z hz
      · obtain ⟨ν2, hs2⟩ := hs.less (env := env i₀ ++ kept st.env ks) (res := rover st.res (res i₀)) (mv := mvs) (nx := st.nx) (matE_app h2 (matE_kept _ ks)) (fun k r hk => rover_rlk k r h3 hk) h4 (h5 i₀).1 (h5 i₀).2 hlow
        exact ⟨ν2, H, hs2⟩
    | ret => exact wp_ret (sem_ret fin k a w (hfin _ _ _ _ _ hs h).1)
    | _ => exact h.elim
end
end Go.Proofs.Ytbpobdlahighoaa.Sx
