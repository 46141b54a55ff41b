/- The engine tells the truth: slices that grow. -/
import Derived.Test.YtbpobdlahighoaaSxM
import Derived.Test.YtbpobdlahighoaaSxKm
import Derived.Laws.AppendOwn
import Derived.Laws.MakeOwn
namespace Go.Proofs.Ytbpobdlahighoaa.Sx
open Go
set_option linter.unusedVariables false
set_option linter.unusedSimpArgs false

section
variable {C : Cx} {B : Base} {P : Program} {ν ν' : Nat → Option Value} {H G F g : Hp} {st : St} {x y s : SV} {c : Prop} {u z : Value} {t : Nat} {w w' : World} {a : Act} {d : Option Nat} {K : St → Prop} {β : Nat → List Nat} {α : Type} {sz : Nat} {enc : α → List SV} {xs zs : List α} {n : Nat}

/-- A handle that stands for something else now: its value, its blocks, what is told of it. -/
theorem SatN.remake (h : SatN B ν H n st a w) (hβ : SatR ν H B.F (hp w) β st.res) {r r' : Res} (hr : rlk st.res t = some r) {x : Value} {Bs' : List Nat} (hk : ∀ k o, k ∉ β t → hp w k = some o → hp w' k = some o)
    (hB : ∀ b ∈ Bs', b ∈ β t ∨ w.heap.size ≤ b) (ho : w'.os = w.os ∧ w'.tape = w.tape ∧ w'.output = w.output ∧ w.heap.size ≤ w'.heap.size ∧ w.drawn ≤ w'.drawn) (hr' : ResOk (upd ν t (some x)) H (hp w') Bs' t r') :
    SatN B (upd ν t (some x)) H n { st.kill t with res := rset (st.kill t).res t r', mv := t :: st.mv } a w' := by
  have hn : ∀ u x', u ≠ t → ν u = some x' → upd ν t (some x) u = some x' := fun u x' hu hx => by rw [upd_ne _ _ hu]; exact hx
  have hlow : ∀ {b}, b ∈ β t → H b = none ∧ B.F b = none := fun hb => hβ.own t r _ hr hb
  have hnew : ∀ {b}, w.heap.size ≤ b → H b = none ∧ B.F b = none := fun {b} hb => by
    constructor
    · cases hH : H b with
      | none => rfl
      | some o => have := hp_lt (h.sub _ _ hH); omega
    · cases hH : B.F b with
      | none => rfl
      | some o => have := hp_lt (h.subF _ _ hH); omega
  have hle : ∀ {G : Hp}, G.le (hp w) → (∀ b ∈ β t, G b = none) → G.le (hp w') := fun hG hnone k o hk' =>
    hk k o (fun hm => by rw [hnone k hm] at hk'; cases hk') (hG k o hk')
  have hget : ∀ q r2, rlk (rset (st.kill t).res t r') q = some r2 → (q = t ∧ r2 = r') ∨ (q ≠ t ∧ ∃ r0, rlk st.res q = some r0 ∧ r2 = r0.kill t) := fun q r2 hq => by
    rw [rlk_rset] at hq
    by_cases e : t = q
    · subst e; rw [if_pos rfl] at hq; injection hq with hq; exact .inl ⟨rfl, hq.symm⟩
    · rw [if_neg e] at hq
      have h' : (rlk st.res q).map (Res.kill t) = some r2 := by rw [← rlk_kill]; exact hq
      cases hq0 : rlk st.res q with
      | none => rw [hq0] at h'; cases h'
      | some r0 => rw [hq0] at h'; simp only [Option.map_some, Option.some.injEq] at h'; exact .inr ⟨Ne.symm e, r0, rfl, h'.symm⟩
  have hblt : ∀ q r0 b, rlk st.res q = some r0 → b ∈ β q → b < w.heap.size := fun q r0 b hq hb => by
    obtain ⟨o, ho⟩ := (hβ.ok q r0 hq).blk_lt hb
    exact hp_lt ho
  refine ⟨hle h.sub (fun b hb => (hlow hb).1), hle h.subF (fun b hb => (hlow hb).2), h.subH, h.newH, fun k => ?_, h.size, ⟨upd β t Bs', ?_, ?_, ?_⟩, ?_, ?_, h.low, h.defers, ?_⟩
  · show Den _ H (lk (st.env.map fun p => (p.1, p.2.kill t)) k) _
    rw [lk_kill]
    exact (h.env k).kill hn
  · intro q r2 hq
    rcases hget q r2 hq with ⟨rfl, rfl⟩ | ⟨hqt, r0, h0, rfl⟩
    · rw [upd_same]; exact hr'
    · rw [upd_ne _ _ hqt]
      have h1 := (hβ.ok q r0 h0).kill hqt hn
      refine h1.keep (fun _ _ h => h) (Hp.le.refl _) (fun b o hb hbo => hk b o (fun hm => ?_) hbo)
      exact hβ.dis q t r0 r b h0 hr hqt hb hm
  · intro q p r1 r2 b hq hp' hqp h1 h2
    rcases hget q r1 hq with ⟨rfl, rfl⟩ | ⟨hqt, r0, h0, rfl⟩
    · rw [upd_same] at h1
      rcases hget p r2 hp' with ⟨rfl, rfl⟩ | ⟨hpt, r0', h0', rfl⟩
      · exact hqp rfl
      · rw [upd_ne _ _ hpt] at h2
        rcases hB b h1 with hb | hb
        · exact hβ.dis _ _ _ _ b hr h0' hqp hb h2
        · have := hblt _ _ _ h0' h2; omega
    · rw [upd_ne _ _ hqt] at h1
      rcases hget p r2 hp' with ⟨rfl, rfl⟩ | ⟨hpt, r0', h0', rfl⟩
      · rw [upd_same] at h2
        rcases hB b h2 with hb | hb
        · exact hβ.dis _ _ _ _ b h0 hr hqp h1 hb
        · have := hblt _ _ _ h0 h1; omega
      · rw [upd_ne _ _ hpt] at h2
        exact hβ.dis _ _ _ _ b h0 h0' hqp h1 h2
  · intro q r2 b hq hb
    rcases hget q r2 hq with ⟨rfl, rfl⟩ | ⟨hqt, r0, h0, rfl⟩
    · rw [upd_same] at hb
      rcases hB b hb with hb | hb
      · exact hlow hb
      · exact hnew hb
    · rw [upd_ne _ _ hqt] at hb
      exact hβ.own q r0 b h0 hb
  · intro q hq
    have hf := h.fresh q hq
    have hqt : q ≠ t := fun e => by subst e; rw [hf.2] at hr; cases hr
    refine ⟨by rw [upd_ne _ _ hqt]; exact hf.1, ?_⟩
    rw [rlk_rset, if_neg (Ne.symm hqt)]
    show rlk (st.res.map fun p => (p.1, p.2.kill t)) q = none
    rw [rlk_kill, hf.2]; rfl
  · intro q hq hm
    have hqt : q ≠ t := fun e => hm (by subst e; exact List.mem_cons_self ..)
    rw [upd_ne _ _ hqt]
    exact h.keep q hq (fun h => hm (List.mem_cons_of_mem _ h))
  · exact ⟨ho.1.trans h.kp.os, ho.2.1.trans h.kp.tape, ho.2.2.1.trans h.kp.output, by have := h.kp.size; omega, by have := h.kp.drawn; omega⟩

/-- A handle more, in a world that has grown. -/
theorem SatN.extend (h : SatN B ν H n st a w) {r : Res} {x : Value} {Bs : List Nat} (hk : ∀ k o, hp w k = some o → hp w' k = some o)
    (hB : ∀ b ∈ Bs, w.heap.size ≤ b) (ho : w'.os = w.os ∧ w'.tape = w.tape ∧ w'.output = w.output ∧ w.heap.size ≤ w'.heap.size ∧ w.drawn ≤ w'.drawn) (hr : ResOk (upd ν st.nx (some x)) H (hp w') Bs st.nx r) :
    SatN B (upd ν st.nx (some x)) H n { st with res := (st.nx, r) :: st.res, nx := st.nx + 1 } a w' := by
  obtain ⟨β, hres⟩ := h.res
  have hfr := h.fresh st.nx (Nat.le_refl _)
  have hn : NLe ν (upd ν st.nx (some x)) := nle_upd hfr.1
  have hold : ∀ t r b, rlk st.res t = some r → b ∈ β t → b < w.heap.size := fun t r b ht hb => by
    obtain ⟨o, ho⟩ := (hres.ok t r ht).blk_lt hb
    exact hp_lt ho
  refine ⟨fun b o hb => hk b o (h.sub b o hb), fun b o hb => hk b o (h.subF b o hb), h.subH, h.newH, fun k => (h.env k).mono hn (Hp.le.refl _), h.size, ⟨upd β st.nx Bs, ?_, ?_, ?_⟩, ?_, ?_, ?_, h.defers, ?_⟩
  · intro t r' ht
    rw [rlk_cons] at ht
    by_cases e : st.nx = t
    · subst e; rw [if_pos rfl] at ht; injection ht with ht; subst ht; rw [upd_same]; exact hr
    · rw [if_neg e] at ht
      rw [upd_ne _ _ (Ne.symm e)]
      exact (hres.ok t r' ht).keep hn (Hp.le.refl _) (fun b q _ hq => hk b q hq)
  · intro t u r1 r2 b ht hu htu hb1 hb2
    rw [rlk_cons] at ht hu
    by_cases e1 : st.nx = t
    · subst e1
      rw [if_neg htu] at hu
      rw [upd_same] at hb1
      rw [upd_ne _ _ (Ne.symm htu)] at hb2
      have := hold _ _ _ hu hb2
      have := hB _ hb1
      omega
    · rw [if_neg e1] at ht
      rw [upd_ne _ _ (Ne.symm e1)] at hb1
      by_cases e2 : st.nx = u
      · subst e2
        rw [upd_same] at hb2
        have := hold _ _ _ ht hb1
        have := hB _ hb2
        omega
      · rw [if_neg e2] at hu
        rw [upd_ne _ _ (Ne.symm e2)] at hb2
        exact hres.dis t u r1 r2 b ht hu htu hb1 hb2
  · intro t r' b ht hyb
    rw [rlk_cons] at ht
    by_cases e : st.nx = t
    · subst e
      rw [upd_same] at hyb
      have := hB _ hyb
      constructor
      · cases hH : H b with
        | none => rfl
        | some q => have := hp_lt (h.sub _ _ hH); omega
      · cases hH : B.F b with
        | none => rfl
        | some q => have := hp_lt (h.subF _ _ hH); omega
    · rw [if_neg e] at ht
      rw [upd_ne _ _ (Ne.symm e)] at hyb
      exact hres.own t r' b ht hyb
  · intro t ht
    simp only at ht
    have := h.fresh t (by omega)
    refine ⟨by rw [upd_ne _ _ (by omega)]; exact this.1, ?_⟩
    rw [rlk_cons, if_neg (by omega)]; exact this.2
  · intro t ht hm
    rw [upd_ne _ _ (by have := h.low; omega)]
    exact h.keep t ht hm
  · have := h.low; simp only; omega
  · exact ⟨ho.1.trans h.kp.os, ho.2.1.trans h.kp.tape, ho.2.2.1.trans h.kp.output, by have := h.kp.size; omega, by have := h.kp.drawn; omega⟩
/-! ### Rows -/
theorem rows_len : ∀ {xs : List α} {cs : List Value}, RowsDen H sz enc xs cs → cs.length = xs.length * sz
  | [], _, h => by have h' : _ = [] := h; subst h'; simp
  | x :: xs, _, ⟨r, cs', e, h1, h2, h3⟩ => by rw [e, List.length_append, h1, rows_len h3, List.length_cons, Nat.succ_mul]; omega
theorem rows_app : ∀ {xs zs : List α} {cs ds : List Value}, RowsDen H sz enc xs cs → RowsDen H sz enc zs ds → RowsDen H sz enc (xs ++ zs) (cs ++ ds)
  | [], _, _, _, h, k => by have h' : _ = [] := h; subst h'; exact k
  | x :: xs, zs, _, ds, ⟨r, cs', e, h1, h2, h3⟩, k => ⟨r, cs' ++ ds, by rw [e, List.append_assoc], h1, h2, rows_app h3 k⟩
theorem rows_take : ∀ {xs : List α} {cs : List Value} (n : Nat), RowsDen H sz enc xs cs → RowsDen H sz enc (xs.take n) (cs.take (n * sz))
  | _, _, 0, h => by simp [RowsDen]
  | [], _, n + 1, h => by have h' : _ = [] := h; subst h'; simp [RowsDen]
  | x :: xs, _, n + 1, ⟨r, cs', e, h1, h2, h3⟩ => by
    refine ⟨r, cs'.take (n * sz), ?_, h1, h2, rows_take n h3⟩
    rw [e, Nat.succ_mul, Nat.add_comm, ← h1, List.take_length_add_append]
theorem rows_drop : ∀ {xs : List α} {cs : List Value} (n : Nat), RowsDen H sz enc xs cs → RowsDen H sz enc (xs.drop n) (cs.drop (n * sz))
  | _, _, 0, h => by simpa using h
  | [], _, n + 1, h => by have h' : _ = [] := h; subst h'; simp [RowsDen]
  | x :: xs, _, n + 1, ⟨r, cs', e, h1, h2, h3⟩ => by
    have : (r ++ cs').drop ((n + 1) * sz) = cs'.drop (n * sz) := by rw [Nat.succ_mul, Nat.add_comm (n * sz), ← h1, List.drop_length_add_append]
    rw [e, this]
    exact rows_drop n h3
theorem rows_of_lit : ∀ {zs : List α} {l : List SV} {cs : List Value}, rowsAre sz enc zs l → RDenL H l cs → RowsDen H sz enc zs cs
  | [], l, cs, h, hd => by have h' : l = [] := h; subst h'; cases hd; rfl
  | z :: zs, l, cs, ⟨r, e, h1, h2⟩, hd => by
    subst e
    have hl := hd.length
    refine ⟨cs.take sz, cs.drop sz, (List.take_append_drop _ _).symm, ?_, ?_, ?_⟩
    · rw [List.length_take]; rw [List.length_append, h1] at hl; omega
    · have := hd.take sz; rw [← h1, List.take_left] at this; rw [h1] at this; exact this
    · have := hd.drop sz; rw [← h1, List.drop_left] at this; rw [h1] at this; exact rows_of_lit h2 this
theorem rd_one {s : SV} {x : Value} (h : RDen H s x) (h1 : one s = true) : x.oneCell' = true := one_den (ν := fun _ => none) (.r h) h1
theorem rds_one : ∀ {l : List SV} {cs : List Value}, RDenL H l cs → l.all one = true → ∀ u ∈ cs, u.oneCell' = true := fun h h1 => ones_den (ν := fun _ => none) h.den h1
theorem rows_one : ∀ {zs : List α} {cs : List Value}, RowsDen H sz enc zs cs → (∀ z ∈ zs, (enc z).all one = true) → ∀ u ∈ cs, u.oneCell' = true
  | [], _, h, _, u, hu => by have h' : _ = [] := h; subst h'; cases hu
  | z :: zs, _, ⟨r, cs', e, h1, h2, h3⟩, k, u, hu => by
    rw [e] at hu
    rcases List.mem_append.1 hu with hu | hu
    · exact rds_one h2 (k z (by simp)) u hu
    · exact rows_one h3 (fun z hz => k z (by simp [hz])) u hu
theorem rows_of_ro {β' : Type} {enc' : β' → List SV} (hsz : 0 ≤ sz) : ∀ {zs : List α} {ys : List β'} (cs : Nat → List Value), zs.map enc = ys.map enc' → (∀ i x, ys[i]? = some x → RDenL H (enc' x) (cs i)) → (∀ i, i < ys.length → (cs i).length = sz) →
    RowsDen H sz enc zs (((List.range ys.length).map cs).flatten)
  | [], [], cs, _, _, _ => by simp [RowsDen]
  | [], _ :: _, _, h, _, _ => by simp at h
  | _ :: _, [], _, h, _, _ => by simp at h
  | z :: zs, y :: ys, cs, h, h1, h2 => by
    simp only [List.map_cons, List.cons.injEq] at h
    have ih := rows_of_ro hsz (fun i => cs (i + 1)) h.2 (fun i x hx => h1 (i + 1) x (by simpa using hx)) (fun i hi => h2 (i + 1) (by simpa using hi))
    refine ⟨cs 0, _, ?_, h2 0 (by simp), by rw [h.1]; exact h1 0 y rfl, ih⟩
    rw [List.length_cons, List.range_succ_eq_map, List.map_cons, List.flatten_cons, List.map_map]
    rfl
theorem flat_get {cs : Nat → List Value} (n : Nat) (hl : ∀ i, i < n → (cs i).length = sz) : ∀ (j : Nat) (u : Value), (((List.range n).map cs).flatten)[j]? = some u → ∃ i k, i < n ∧ j = i * sz + k ∧ (cs i)[k]? = some u := by
  induction n with
  | zero => intro j u h; simp at h
  | succ n ih =>
    intro j u h
    rw [List.range_succ, List.map_append, List.flatten_append] at h
    have hlen : (((List.range n).map cs).flatten).length = n * sz := by
      have : ∀ m, m ≤ n → (((List.range m).map cs).flatten).length = m * sz := by
        intro m
        induction m with
        | zero => intro _; simp
        | succ m ih2 => intro hm; rw [List.range_succ, List.map_append, List.flatten_append, List.length_append, ih2 (by omega), Nat.succ_mul]; simp [hl m (by omega)]
      exact this n (Nat.le_refl _)
    rcases Nat.lt_or_ge j (n * sz) with hj | hj
    · rw [List.getElem?_append_left (by rw [hlen]; exact hj)] at h
      obtain ⟨i, k, h1, h2, h3⟩ := ih (fun i hi => hl i (by omega)) j u h
      exact ⟨i, k, by omega, h2, h3⟩
    · rw [List.getElem?_append_right (by rw [hlen]; exact hj), hlen] at h
      simp only [List.map_cons, List.map_nil, List.flatten_cons, List.flatten_nil, List.append_nil] at h
      exact ⟨n, j - n * sz, by omega, by omega, h⟩

/-! ### append -/
/-- What is appended lies in memory, cell by cell. -/
theorem appSrc_sound (hr : SatE ν H F (hp w) st.res) (hHw : H.le (hp w)) (h : appSrc st sz enc zs y) (hy : Den ν H y u) :
    ∃ p cc, u = .slice p zs.length cc ∧ (zs = [] ∨ ∃ ad news, p = some ad ∧ news.length = zs.length * sz ∧ RowsDen H sz enc zs news ∧ ∀ j v, news[j]? = some v → w.cell? (ad.add j) = some v) := by
  unfold appSrc at h
  split at h
  · rename_i uu
    unfold srcR at h
    split at h
    · rename_i sz' m l hres
      obtain ⟨rfl, hm, hrd, hrows⟩ := h
      obtain ⟨_, b, cs, e, _, e1, e2, e3, e4, e5⟩ := hr.ok _ _ hres
      rw [hy.h_inv] at e1; injection e1 with e1; subst e1; subst hm
      have hR := rows_of_lit hrows (rds_den e3 hrd)
      refine ⟨_, _, rfl, .inr ⟨_, cs, rfl, rows_len hR, hR, fun j v hj => ?_⟩⟩
      rw [Addr.add_none, cell_hp]
      simp only [Hp.cell, e2, Option.isSome_none, Bool.false_eq_true, if_false, List.getElem?_toArray, Nat.zero_add]
      exact hj
    · exact h.elim
  · rename_i β' sz' enc' ys v
    obtain ⟨rfl, hmap⟩ := h
    obtain ⟨rfl, hro⟩ := hy.ro_inv
    have hlen : zs.length = ys.length := by have := congrArg List.length hmap; simpa using this
    cases hro with
    | ro cs h1 h2 h3 h4 =>
      rename_i p cc
      refine ⟨p, cc, by rw [hlen], ?_⟩
      cases ys with
      | nil => exact .inl (List.eq_nil_of_length_eq_zero (by simpa using hlen))
      | cons y0 ys' =>
        right
        obtain ⟨_, b0, o0, hp0, _⟩ := h2 0 (by simp)
        refine ⟨⟨b0, o0, none⟩, ((List.range (y0 :: ys').length).map cs).flatten, hp0, ?_, ?_, fun j v hj => ?_⟩
        · have := rows_len (rows_of_ro (Nat.zero_le _) cs hmap h1 (fun i hi => (h2 i hi).1)); rw [this]
        · exact rows_of_ro (Nat.zero_le _) cs hmap h1 (fun i hi => (h2 i hi).1)
        · obtain ⟨i, k, hi, rfl, hk⟩ := flat_get _ (fun i hi => (h2 i hi).1) j v hj
          obtain ⟨_, b, o, hp1, hc⟩ := h2 i hi
          rw [hp0] at hp1; injection hp1 with hp1; injection hp1 with e1 e2; subst e1; subst e2
          rw [Addr.add_none, cell_hp]
          exact hHw.cell (hc k v hk)
  · subst h
    have := hy.v_eq; subst this
    exact ⟨none, 0, rfl, .inl rfl⟩
  · exact h.elim
theorem run_append_zero {t ty e p n cc q c' : _} {i : TypeInfo} (ht : P.underlying t = some (.slice e)) (hi : P.info? e = some i) (h : n ≤ cc) :
    (Builtin.append_ #[t, t] ty #[.slice p n cc, .slice q 0 c']).run P w = .ok (.slice p n cc) w := by
  have hf : (Builtin.firstCells i.size 0 (.slice q 0 c')).run P w = .ok #[] w := by
    cases q with
    | none => exact run_firstCells_none w _ _ _ _
    | some b => exact run_firstCells_some w i.size 0 b 0 c' [] (by simp) (fun j v hj => by simp at hj)
  cases p with
  | none => simp [Builtin.append_, run_underlying ht, sizeOf, typeInfo, hi, Builtin.lenOf, h, hf]
  | some b => simp [Builtin.append_, run_underlying ht, sizeOf, typeInfo, hi, Builtin.lenOf, h, hf, storeCells]
theorem run_append_in {t ty e : TypeId} {i : TypeInfo} (ht : P.underlying t = some (.slice e)) (hi : P.info? e = some i) {b n cc : Nat} {cs : List Value} {e' : TypeId} (hb : hp w b = some (.cells cs.toArray e' (0, 0)))
    {ad : Addr} {m c' : Nat} {news : List Value} (hl : news.length = m * i.size) (hnews : ∀ j v, news[j]? = some v → w.cell? (ad.add j) = some v) (h1 : ∀ v ∈ news, v.oneCell' = true) (hroom : n + m ≤ cc) (hfit : n * i.size + news.length ≤ cs.length) :
    ∃ w', (Builtin.append_ #[t, t] ty #[.slice (some ⟨b, 0, none⟩) n cc, .slice (some ad) m c']).run P w = .ok (.slice (some ⟨b, 0, none⟩) (n + m) cc) w' ∧
      (∀ k, hp w' k = if k = b then some (.cells (cs.take (n * i.size) ++ (news ++ cs.drop (n * i.size + news.length))).toArray e' (0, 0)) else hp w k) ∧ w'.os = w.os ∧ w'.tape = w.tape ∧ w'.output = w.output ∧ w'.heap.size = w.heap.size ∧ w'.drawn = w.drawn := by
  have hf := run_firstCells_some (P := P) w i.size m ad m c' news hl hnews
  obtain ⟨w', h2, h3, h4⟩ := run_storeCells (P := P) news b (n * i.size) 0 cs e' w hb h1 (by simpa using hfit)
  refine ⟨w', ?_, by simpa using h3, h4⟩
  simp [Builtin.append_, run_underlying ht, sizeOf, typeInfo, hi, Builtin.lenOf, hroom, hf, Addr.add_lit, h2]
theorem hp_drew (o : Obj) (k : Nat) : hp (w.drew.alloc o) k = if k = w.heap.size then some o else hp w k := hp_alloc (w := w.drew) o k
/-- One's own slice, with more behind it. -/
theorem run_append_sl {t ty e : TypeId} {i : TypeInfo} {zv : Value} (ht : P.underlying t = some (.slice e)) (hi : P.info? e = some i) (hz : i.zero = some zv) (hzs : zv.cells.size = i.size) (hsz : 0 < i.size) {v : Value} {Bs : List Nat} (hHw : H.le (hp w))
    (hs : SlOk H (hp w) i.size enc xs Bs v) {p : Option Addr} {cc : Nat} (hsrc : zs = [] ∨ ∃ ad news, p = some ad ∧ news.length = zs.length * i.size ∧ RowsDen H i.size enc zs news ∧ ∀ j v, news[j]? = some v → w.cell? (ad.add j) = some v)
    (hfit : appFit enc zs xs.length i.bytes) :
    ∃ v' w' Bs', (Builtin.append_ #[t, t] ty #[v, .slice p zs.length cc]).run P w = .ok v' w' ∧ SlOk H (hp w') i.size enc (xs ++ zs) Bs' v' ∧ (∀ k o, k ∉ Bs → hp w k = some o → hp w' k = some o) ∧ (∀ b ∈ Bs', b ∈ Bs ∨ w.heap.size ≤ b) ∧
      (w'.os = w.os ∧ w'.tape = w.tape ∧ w'.output = w.output ∧ w.heap.size ≤ w'.heap.size ∧ w.drawn ≤ w'.drawn) := by
  rcases hsrc with rfl | ⟨ad, news, rfl, hl, hR, hnews⟩
  · obtain ⟨q, c, rfl, hle, h3⟩ := hs
    exact ⟨_, w, Bs, run_append_zero ht hi hle, by rw [List.append_nil]; exact ⟨q, c, rfl, hle, h3⟩, fun k o _ h => h, fun b hb => .inl hb, rfl, rfl, rfl, Nat.le_refl _, Nat.le_refl _⟩
  obtain ⟨hone, f1, f2⟩ := hfit
  have h1 := rows_one hR hone
  have hzl : ∀ n, (Builtin.zeroCells zv.cells n).toList.length = n * i.size := fun n => by rw [Array.length_toList, size_zeroCells, hzs]
  have old : ∀ o k o', k ∉ Bs → hp w k = some o' → hp (w.drew.alloc o) k = some o' := fun o k o' _ h => by
    rw [hp_drew, if_neg (by have := hp_lt h; omega)]; exact h
  have hge := fun old' => grownCap_ge w (xs.length + zs.length) old' e
  by_cases hz0 : zs.length = 0
  · have : zs = [] := List.eq_nil_of_length_eq_zero hz0
    subst this
    obtain ⟨q, c, rfl, hle, h3⟩ := hs
    exact ⟨_, w, Bs, run_append_zero ht hi hle, by rw [List.append_nil]; exact ⟨q, c, rfl, hle, h3⟩, fun k o _ h => h, fun b hb => .inl hb, rfl, rfl, rfl, Nat.le_refl _, Nat.le_refl _⟩
  obtain ⟨q, c, rfl, hle, h3⟩ := hs
  rcases h3 with ⟨rfl, rfl, rfl⟩ | ⟨b, cs, junk, e', rfl, rfl, h5, h6, h7⟩
  · have hx : xs = [] := List.eq_nil_of_length_eq_zero (by omega)
    subst hx
    simp only [List.length_nil, Nat.zero_add] at f1 f2 hge
    have hr := run_append_nil (P := P) w t ty e i zv ht hi hz ad zs.length cc news hl hnews (by omega) (by omega) (by omega)
    refine ⟨_, _, [w.heap.size], hr, ?_, old _, fun b hb => .inr (by have : b = w.heap.size := by simpa using hb
                                                                     omega), rfl, rfl, rfl, by show _ ≤ (w.heap.push _).size; simp, Nat.le_succ _⟩
    refine ⟨_, _, by rw [List.nil_append], by rw [List.nil_append]; exact hge 0, .inr ⟨w.heap.size, news, (Builtin.zeroCells zv.cells (grownCap w zs.length 0 e - zs.length)).toList, e, rfl, rfl, ?_, by rw [List.nil_append]; exact hR, ?_⟩⟩
    · rw [hp_drew, if_pos rfl]
      congr 2
      apply Array.toList_inj.1
      simp
    · have h8 := hge 0
      rw [List.length_append, hl, hzl, ← Nat.add_mul]
      congr 1
      omega
  · have hcs := rows_len h6
    by_cases hroom : xs.length + zs.length ≤ c
    · obtain ⟨w', k1, k2, k3⟩ := run_append_in (P := P) (ty := ty) (c' := cc) ht hi h5 hl hnews h1 hroom (by rw [hl, h7, ← Nat.add_mul]; exact Nat.mul_le_mul_right _ hroom)
      refine ⟨_, w', [b], k1, ?_, fun k o hk ho => by rw [k2, if_neg (by simpa using hk)]; exact ho, fun b hb => .inl hb, k3.1, k3.2.1, k3.2.2.1, by rw [k3.2.2.2.1]; exact Nat.le_refl _, by rw [k3.2.2.2.2]; exact Nat.le_refl _⟩
      refine ⟨_, _, by rw [List.length_append], by rw [List.length_append]; exact hroom, .inr ⟨b, cs ++ news, junk.drop news.length, e', rfl, rfl, ?_, rows_app h6 hR, ?_⟩⟩
      · rw [k2, if_pos rfl]
        congr 2
        rw [← hcs, List.take_left, List.drop_length_add_append]
        simp only [List.append_assoc]
      · have h8 : (xs.length + zs.length) * i.size ≤ c * i.size := Nat.mul_le_mul_right _ hroom
        rw [Nat.add_mul] at h8
        simp only [List.length_append, List.length_drop] at h7 ⊢
        omega
    · have holds : ∀ j v, cs[j]? = some v → w.cell? ((⟨b, 0, none⟩ : Addr).add j) = some v := fun j v hj => by
        rw [Addr.add_none, cell_hp]
        simp only [Hp.cell, h5, Option.isSome_none, Bool.false_eq_true, if_false, List.getElem?_toArray, Nat.zero_add]
        rw [List.getElem?_append_left (List.getElem?_eq_some_iff.1 hj).1]; exact hj
      have hr := run_append_grow (P := P) w t ty e i zv ht hi hz ⟨b, 0, none⟩ xs.length c cs hcs holds ad zs.length cc news hl hnews (by omega) (by omega) (growslice_fits (by omega) f2)
      refine ⟨_, _, [w.heap.size], hr, ?_, old _, fun b hb => .inr (by have : b = w.heap.size := by simpa using hb
                                                                       omega), rfl, rfl, rfl, by show _ ≤ (w.heap.push _).size; simp, Nat.le_succ _⟩
      refine ⟨_, _, by rw [List.length_append], by rw [List.length_append]; exact hge c, .inr ⟨w.heap.size, cs ++ news, (Builtin.zeroCells zv.cells (grownCap w (xs.length + zs.length) c e - (xs.length + zs.length))).toList, e, rfl, rfl, ?_, rows_app h6 hR, ?_⟩⟩
      · rw [hp_drew, if_pos rfl]
        congr 2
        apply Array.toList_inj.1
        simp
      · have h8 := hge c
        rw [List.length_append, List.length_append, hcs, hl, hzl, ← Nat.add_mul, ← Nat.add_mul]
        congr 1
        omega
theorem inf_parts {t n b : Nat} {z : Option Value} (h : (tdOf P t).inf = some (n, b, z)) : ∃ i, P.info? t = some i ∧ i.size = n ∧ i.bytes = b ∧ i.zero = z := inf_some h
theorem append_next {N : Act → World → Prop} {o : Oper} {Q : Exit → Act → World → Prop} {cl : Call} {X Y : Operand} {t' : TypeId} (ho : o.op = .call cl) (hc : cl.callee = .builtin .append) (ha : cl.args.toList = [X, Y]) (ht : cl.argTypes.toList = [t', t']) (hs : SatN B ν H C.n st a w)
    (h : appK C o.dst K st (ev st X) (ev st Y) (tdOf C.P t').kind) (hN : Next B C.n K N) : o.wp C.P a w N Q := by
  have hX := ev_den hs.env X
  have hY := ev_den hs.env Y
  have haa : cl.args.map a.eval = #[a.eval X, a.eval Y] := by
    apply Array.toList_inj.1
    rw [Array.toList_map, ha]; rfl
  have htt : cl.argTypes = #[t', t'] := by rw [← Array.toArray_toList (xs := cl.argTypes), ht]
  have hexec : ∀ {v' w'}, (Builtin.append_ #[t', t'] o.type #[a.eval X, a.eval Y]).run C.P w = .ok v' w' → (execOp a.eval o).run C.P w = .ok (.value v') w' := fun {v' w'} hrun => by
    unfold execOp
    simp only [ho, resolve, hc, haa, Sem.run_bind, Sem.run_pure, Result.andThen_ok, invoke, builtin, htt, hrun]
  unfold appK at h
  split at h
  · rename_i e hk
    unfold appI at h
    split at h
    · rename_i sz bytes zv hi
      obtain ⟨⟨hsz, hzs⟩, h⟩ := h
      obtain ⟨i, hi1, rfl, rfl, hz⟩ := inf_parts hi
      have hund := und_slice hk
      unfold appX at h
      split at h
      · rename_i tt hxe
        rw [hxe] at hX
        unfold appR at h
        split at h
        · rename_i α sz' enc xs hres
          obtain ⟨rfl, zs, hsrc, hfit, hK⟩ := h
          obtain ⟨β, hβ⟩ := hs.res
          obtain ⟨v, hv, hsl⟩ := sl_iff.1 (hβ.ok _ _ hres)
          rw [hX.h_inv] at hv; injection hv with hv; subst hv
          obtain ⟨p, cc, hu, hsrc'⟩ := appSrc_sound hs.res hs.sub hsrc hY
          obtain ⟨v', w', Bs', k1, k2, k3, k4, k5⟩ := run_append_sl (ty := o.type) (cc := cc) hund hi1 hz hzs hsz hs.sub hsl hsrc' hfit
          unfold Oper.wp
          rw [hexec (by rw [hu]; exact k1)]
          refine put_next (hs.remake hβ hres k3 k4 k5 (sl_iff.2 ⟨v', upd_same _ _ _, k2⟩)) hK hN (.h (upd_same _ _ _) ?_)
          obtain ⟨_, _, rfl, _⟩ := k2; rfl
        · exact h.elim
      · rename_i hxe
        rw [hxe] at hX
        have hx := hX.v_eq
        obtain ⟨α, enc, zs, hsrc, hfit, hK⟩ := h
        obtain ⟨p, cc, hu, hsrc'⟩ := appSrc_sound hs.res hs.sub hsrc hY
        obtain ⟨v', w', Bs', k1, k2, k3, k4, k5⟩ := run_append_sl (ty := o.type) (cc := cc) (xs := ([] : List α)) (v := .slice none 0 0) (Bs := []) hund hi1 hz hzs hsz hs.sub ⟨none, 0, rfl, Nat.le_refl _, .inl ⟨rfl, rfl, rfl⟩⟩ hsrc' hfit
        unfold Oper.wp
        rw [hexec (by rw [hu, hx]; exact k1)]
        rw [List.nil_append] at k2
        have hsat := hs.extend (r := .sl i.size enc zs) (x := v') (Bs := Bs') (fun k q h => k3 k q (by simp) h) (fun b hb => (k4 b hb).elim (fun h => by cases h) id) k5 (sl_iff.2 ⟨v', upd_same _ _ _, k2⟩)
        refine put_next hsat hK hN (.h (upd_same _ _ _) ?_)
        obtain ⟨_, _, rfl, _⟩ := k2; rfl
      · exact h.elim
    · exact h.elim
  · exact h.elim
theorem zfill_den {l : List SV} {cs : List Value} (h : DenL ν H l cs) : ∀ n, DenL ν H (zfill l n) ((List.replicate n cs).flatten)
  | 0 => .nil
  | n + 1 => by rw [List.replicate_succ, List.flatten_cons]; exact h.app (zfill_den h n)
/-- Zero cells, row by row. -/
theorem made_rep (z : Array Value) (h : 0 < z.size) (k : Nat) : (madeCells z (k * z.size)).toList = (List.replicate k z.toList).flatten := by
  have hm : ∀ n, (madeCells z n).toList = (List.range n).map fun i => z[i % z.size]! := fun n => by simp [madeCells, Array.toList_range]
  rw [hm]
  induction k with
  | zero => simp
  | succ k ih =>
    rw [Nat.succ_mul, Nat.add_comm, List.range_add, List.map_append, List.replicate_succ, List.flatten_cons, List.map_map]
    congr 1
    · apply List.ext_getElem
      · simp
      · intro i h1 h2
        have hi : i < z.size := by simpa using h2
        simp [Nat.mod_eq_of_lt hi, hi]
    · rw [← ih]
      apply List.map_congr_left
      intro i hi
      simp
theorem rows_rep {z0 : α} {r : List Value} (h1 : r.length = sz) (h2 : RDenL H (enc z0) r) : ∀ k, RowsDen H sz enc (List.replicate k z0) ((List.replicate k r).flatten)
  | 0 => by simp [RowsDen]
  | k + 1 => ⟨r, (List.replicate k r).flatten, by rw [List.replicate_succ, List.flatten_cons], h1, h2, rows_rep h1 h2 k⟩
theorem zrd (z : Value) : RDenL H (zcells z) z.cells.toList := by
  unfold zcells
  induction z.cells.toList with
  | nil => exact .nil
  | cons x l ih => exact .cons (.v x) ih

/-! ### slices that are made -/
theorem rep_get {α' : Type} {n i : Nat} {x y : α'} (h : (List.replicate n x)[i]? = some y) : y = x := by
  rw [List.getElem?_replicate] at h
  split at h
  · injection h with h; exact h.symm
  · cases h
/-- Something new with a handle, its value a slice. -/
theorem newsl_next {N : Act → World → Prop} {o : Oper} {Q : Exit → Act → World → Prop} {cs : List Value} {e : TypeId} {m cc : Nat} {r : Res} (hs : SatN B ν H C.n st a w)
    (hrun : (execOp a.eval o).run C.P w = .ok (.value (.slice (some ⟨w.heap.size, 0, none⟩) m cc)) (w.alloc (.cells cs.toArray e (0, 0))))
    (hr : ∀ ν', NLe ν ν' → ν' st.nx = some (.slice (some ⟨w.heap.size, 0, none⟩) m cc) → ResOk ν' H (hp (w.alloc (.cells cs.toArray e (0, 0)))) [w.heap.size] st.nx r) (h : vnew C.n o.dst (.h st.nx) r K st)
    (hN : ∀ st' a' w' ν H, SatN B ν H C.n st' a' w' → K st' → (hp w).le (hp w') → N a' w') : o.wp C.P a w N Q := by
  have hsat := hs.alloc (.cells cs.toArray e (0, 0)) (.slice (some ⟨w.heap.size, 0, none⟩) m cc) r [w.heap.size] (by simp) (hr _ (nle_upd (hs.fresh st.nx (Nat.le_refl _)).1) (upd_same _ _ _))
  unfold Oper.wp
  rw [hrun]
  show N _ _
  unfold vnew at h
  cases hdst : o.dst with
  | none => rw [hdst] at h; exact hN _ _ _ _ _ hsat h (hp_alloc_le _)
  | some d => rw [hdst] at h; exact hN _ _ _ _ _ (hsat.put h.1 (.h (upd_same _ _ _) rfl)) h.2 (hp_alloc_le _)
theorem run_buildSlice {tt e n bb len : Nat} {zv : Value} {pv : Array (Nat × Value)} {ds : List Value} (hu : P.underlying tt = some (.slice e)) (hi : (tdOf P e).inf = some (n, bb, some zv)) (hzs : zv.cells.size = n ∨ len = 0) (hle : len * n ≤ 16777216)
    (hf : Instr.fill (fun i => some (i * n, n)) (madeCells zv.cells (len * n)) pv.toList = some ds.toArray) :
    (Instr.buildSlice tt len pv).run P w = .ok (.slice (some ⟨w.heap.size, 0, none⟩) len len) (w.alloc (.cells ds.toArray e (0, 0))) := by
  have hne : ¬ (len * n > 2 ^ 24) := by omega
  unfold madeCells at hf
  by_cases h0 : len * n = 0
  · unfold Instr.buildSlice
    have hne0 : ¬ (0 > 2 ^ 24) := by omega
    simp only [Sem.run_bind, run_und hu, Result.andThen_ok, run_size hi, hne0, if_false, Sem.run_pure, h0, if_true]
    have hf' : Instr.fill (fun i => some (i * n, n)) ((Array.range 0).map ((#[] : Array Value)[· % (#[] : Array Value).size]!)) pv.toList = some ds.toArray := by
      have e : Array.range 0 = #[] := rfl
      rw [← hf, h0, e]; simp
    simp only [hf', newRow, Sem.run_bind, run_newObj, Result.andThen_ok, Sem.run_pure]
    rfl
  · unfold Instr.buildSlice
    simp only [Sem.run_bind, run_und hu, Result.andThen_ok, run_size hi, hne, if_false, Sem.run_pure, h0, run_zero hi, hf, newRow, run_newObj]
    rfl
theorem buildSlice_next {N : Act → World → Prop} {o : Oper} {Q : Exit → Act → World → Prop} {tt len : Nat} {parts : Array (Nat × Operand)} (ho : o.op = .buildSlice tt len parts) (hs : SatN B ν H C.n st a w)
    (h : bsK C o.dst K st len (parts.toList.map fun p => (p.1, ev st p.2)) (tdOf C.P tt).kind) (hN : ∀ st' a' w' ν H, SatN B ν H C.n st' a' w' → K st' → (hp w).le (hp w') → N a' w') : o.wp C.P a w N Q := by
  have hexec : ∀ {v w'}, (Instr.buildSlice tt len (parts.map fun (i, x) => (i, a.eval x))).run C.P w = .ok v w' → (execOp a.eval o).run C.P w = .ok (.value v) w' := fun {v w'} hrun => by
    unfold execOp
    simp only [ho, Sem.run_bind, hrun, Result.andThen_ok, Sem.run_pure]
  unfold bsK at h
  split at h
  · rename_i e hk
    have hu := und_slice hk
    unfold bsI at h
    split at h
    · rename_i sz bb zv hi
      unfold bsN at h
      split at h
      · obtain ⟨hp0, α, enc, h⟩ := h
        have hpe : parts = #[] := by
          apply Array.toList_inj.1
          simpa using hp0
        subst hpe
        refine newsl_next (cs := []) (e := e) (m := 0) (cc := 0) hs (hexec (run_buildSlice (ds := []) hu hi (.inr rfl) (by omega) ?_)) (fun ν' hn hv => ?_) h hN
        · simp [Instr.fill, madeCells]
        · exact ⟨_, _, hv, Nat.le_refl _, .inr ⟨w.heap.size, [], [], e, rfl, rfl, by rw [hp_alloc, if_pos rfl]; rfl, rfl, by simp⟩⟩
      · rename_i n
        obtain ⟨hzs, h⟩ := h
        unfold bsF at h
        split at h
        · rename_i l hl
          obtain ⟨⟨h1, h2, h3⟩, h⟩ := h
          have hcells : DenL ν H (zfill (zcells zv) (n + 1)) (madeCells zv.cells ((n + 1) * sz)).toList := by
            rcases Nat.eq_zero_or_pos sz with h0 | h0
            · subst h0
              have hz : zv.cells.toList = [] := List.eq_nil_of_length_eq_zero (by simpa using hzs)
              have hd := zfill_den (ν := ν) (H := H) (zcells_den zv) (n + 1)
              rw [hz] at hd
              have he : (madeCells zv.cells ((n + 1) * 0)).toList = (List.replicate (n + 1) ([] : List Value)).flatten := by simp [madeCells]
              rw [he]; exact hd
            · have := made_rep zv.cells (by omega) (n + 1)
              rw [hzs] at this
              rw [this]
              exact zfill_den (zcells_den zv) (n + 1)
          obtain ⟨ds, h4, h5⟩ := vfill_sound (ν := ν) (H := H) _ ((parts.map fun (i, x) => (i, a.eval x)).toList) _ _ _ hl hcells (by simp) (by
            intro i p q hp hq
            rw [List.getElem?_map] at hp
            simp only [Array.toList_map, List.getElem?_map] at hq
            cases hx : parts.toList[i]? with
            | none => rw [hx] at hp; cases hp
            | some r =>
              rw [hx] at hp hq
              simp only [Option.map_some, Option.some.injEq] at hp hq
              subst hp; subst hq
              exact ⟨rfl, ev_den hs.env _⟩)
          refine newsl_next (cs := ds) (e := e) (m := n + 1) (cc := n + 1) hs (hexec (run_buildSlice (ds := ds) hu hi (.inl hzs) h2 (by simpa using h4))) (fun ν' hn hv => ?_) h hN
          exact ⟨w.heap.size, ds, e, rfl, hv, by rw [hp_alloc, if_pos rfl], h5.mono hn (Hp.le.refl _), h3, h1⟩
        · exact h.elim
    · exact h.elim
  · exact h.elim
theorem makeSlice_next {N : Act → World → Prop} {o : Oper} {Q : Exit → Act → World → Prop} {tt : Nat} {X Y : Operand} (ho : o.op = .makeSlice tt X Y) (hs : SatN B ν H C.n st a w)
    (h : msK C o.dst K st (ev st X) (ev st Y) (tdOf C.P tt).kind) (hN : ∀ st' a' w' ν H, SatN B ν H C.n st' a' w' → K st' → (hp w).le (hp w') → N a' w') : o.wp C.P a w N Q := by
  have hX := ev_den hs.env X
  have hY := ev_den hs.env Y
  have hexec : ∀ {v w'}, (Instr.makeSlice tt (a.eval X) (a.eval Y)).run C.P w = .ok v w' → (execOp a.eval o).run C.P w = .ok (.value v) w' := fun {v w'} hrun => by
    unfold execOp
    simp only [ho, Sem.run_bind, hrun, Result.andThen_ok, Sem.run_pure]
  unfold msK at h
  split at h
  · rename_i e hk
    have hu := und_slice hk
    unfold msI at h
    split at h
    · rename_i sz bb zv hi
      obtain ⟨i, hi1, rfl, rfl, hz⟩ := inf_parts hi
      unfold msX at h
      split at h
      · rename_i k1 n k2 m hxe hye
        rw [hxe] at hX
        rw [hye] at hY
        obtain ⟨⟨rfl, h0, hle, hb, hzs⟩, h⟩ := h
        have hrun := run_make (P := C.P) w tt e i zv hu hi1 hz k1 k2 n n h0 (Int.le_refl _) (by rw [Int.mul_comm]; omega) (by omega)
        rw [← hX.v_eq, ← hY.v_eq] at hrun
        have hcells : (madeCells zv.cells (n.toNat * i.size)).toList = (List.replicate n.toNat zv.cells.toList).flatten := by
          rcases Nat.eq_zero_or_pos i.size with h0 | h0
          · have hz0 : zv.cells.toList = [] := List.eq_nil_of_length_eq_zero (by rw [Array.length_toList, hzs, h0])
            rw [h0, hz0]; simp [madeCells]
          · have := made_rep zv.cells (by omega) n.toNat
            rw [hzs] at this; exact this
        have hrun' : (Instr.makeSlice tt (a.eval X) (a.eval Y)).run C.P w = .ok (.slice (some ⟨w.heap.size, 0, none⟩) n.toNat n.toNat) (w.alloc (.cells ((List.replicate n.toNat zv.cells.toList).flatten).toArray e (0, 0))) := by
          rw [hrun, ← hcells, Array.toArray_toList]
        have hlen : ((List.replicate n.toNat zv.cells.toList).flatten).length = n.toNat * i.size := by rw [← hcells, Array.length_toList, size_madeCells]
        rcases h with ⟨α, enc, z0, he, h⟩ | ⟨α, sz', enc, ⟨hz1, hsz1⟩, h⟩
        · refine newsl_next hs (hexec hrun') (fun ν' hn hv => ?_) h hN
          refine ⟨_, _, by rw [List.length_replicate]; exact hv, by rw [List.length_replicate]; exact Nat.le_refl _, .inr ⟨w.heap.size, _, [], e, rfl, rfl, by rw [hp_alloc, if_pos rfl, List.append_nil], rows_rep (by rw [Array.length_toList, hzs]) (by rw [he]; exact zrd zv) _, by rw [List.append_nil]; exact hlen⟩⟩
        · subst hz1
          refine newsl_next hs (hexec hrun') (fun ν' hn hv => ?_) h hN
          have hcs : (List.replicate n.toNat (Value.slice none 0 0).cells.toList).flatten = List.replicate n.toNat (Value.slice none 0 0) := by
            show (List.replicate n.toNat [Value.slice none 0 0]).flatten = _
            induction n.toNat with
            | zero => rfl
            | succ k ih => rw [List.replicate_succ, List.flatten_cons, ih, List.replicate_succ]; rfl
          have hBss : ∀ k, (List.replicate k ([] : List Nat)).flatten = [] := fun k => by induction k with
            | zero => rfl
            | succ k ih => rw [List.replicate_succ, List.flatten_cons, ih]; rfl
          refine ⟨w.heap.size, _, e, List.replicate n.toNat [], by rw [hBss], by rw [List.length_replicate]; exact hv, by rw [hp_alloc, if_pos rfl], ⟨by rw [hcs]; simp, by simp, ?_, fun p hp => by cases hp⟩, by rw [hBss]; simp⟩
          intro k xs v Bs g1 g2 g3
          rw [hcs] at g2
          obtain rfl := rep_get g1
          obtain rfl := rep_get g2
          obtain rfl := rep_get g3
          exact ⟨rfl, none, 0, rfl, Nat.le_refl _, .inl ⟨rfl, rfl, rfl⟩⟩
      · exact h.elim
    · exact h.elim
  · exact h.elim
theorem clear_next {N : Act → World → Prop} {o : Oper} {Q : Exit → Act → World → Prop} {cl : Call} {X : Operand} {t' : TypeId} (ho : o.op = .call cl) (hc : cl.callee = .builtin .clear) (ha : cl.args.toList = [X]) (ht : cl.argTypes.toList = [t']) (hs : SatN B ν H C.n st a w)
    (h : clK C o.dst K st (ev st X) (tdOf C.P t').kind) (hN : Next B C.n K N) : o.wp C.P a w N Q := by
  have hX := ev_den hs.env X
  have haa : cl.args.map a.eval = #[a.eval X] := by
    apply Array.toList_inj.1
    rw [Array.toList_map, ha]; rfl
  have htt : cl.argTypes = #[t'] := by rw [← Array.toArray_toList (xs := cl.argTypes), ht]
  have hexec : ∀ {v' w'}, (Builtin.clear_ #[t'] o.type #[a.eval X]).run C.P w = .ok v' w' → (execOp a.eval o).run C.P w = .ok (.value v') w' := fun {v' w'} hrun => by
    unfold execOp
    simp only [ho, resolve, hc, haa, Sem.run_bind, Sem.run_pure, Result.andThen_ok, invoke, builtin, htt, hrun]
  unfold clK at h
  split at h
  · rename_i e hk
    have hund := und_slice hk
    unfold clI at h
    split at h
    · rename_i sz bytes zv hi
      unfold clX at h
      split at h
      · rename_i tt szx i m hxe
        rw [hxe] at hX
        obtain ⟨b, mm, cc, hu, hb⟩ := hX.hs_inv
        unfold clR at h
        split at h
        · rename_i α sz' enc xs hres
          obtain ⟨⟨rfl, rfl, hzs, hzone, hle⟩, z0, hz0, hK⟩ := h
          obtain ⟨β, hβ⟩ := hs.res
          have hok := hβ.ok _ _ hres
          obtain ⟨v, hv, q, c, hvv, hle2, h3⟩ := sl_iff.1 hok
          rw [hb] at hv; injection hv with hv; subst hvv; injection hv with e1 e2 e3
          subst e1; subst e2; subst e3
          rcases h3 with ⟨_, h3, _⟩ | ⟨b', cs, junk, e', hBs, h4, h5, h6, h7⟩
          · cases h3
          injection h4 with h4; injection h4 with h4; subst h4
          by_cases hm : m = 0
          · subst hm
            have hrun : (Builtin.clear_ #[t'] o.type #[a.eval X]).run C.P w = .ok (.tuple #[]) w := by
              rw [hu]; unfold Builtin.clear_
              simp [run_und hund, Sem.run_bind]
            unfold Oper.wp
            rw [hexec hrun]
            have hK' := hK
            simp only [List.replicate_zero, List.nil_append, Nat.add_zero, List.take_append_drop] at hK'
            have hsame : SatN B ν H C.n { st with res := rset st.res tt (.sl sz enc xs) } a w := hs.write hβ hres (b := b) (by rw [hBs]; simp) (fun k _ => rfl) ⟨rfl, rfl, rfl, rfl, rfl⟩ hok
            exact put_next hsame hK' hN (.any _)
          · have hzl : (Builtin.zeroCells zv.cells m).toList = (List.replicate m zv.cells.toList).flatten := by
              have e : Builtin.zeroCells zv.cells m = madeCells zv.cells (m * zv.cells.size) := rfl
              rw [e]
              rcases Nat.eq_zero_or_pos zv.cells.size with h0 | h0
              · have hz0 : zv.cells.toList = [] := List.eq_nil_of_length_eq_zero (by rw [Array.length_toList, h0])
                rw [h0, hz0]; simp [madeCells]
              · exact made_rep zv.cells h0 m
            have hrl : (List.replicate m zv.cells.toList).flatten.length = m * sz := by rw [← hzl, Array.length_toList, size_zeroCells, hzs]
            have hcs := rows_len h6
            have hone : ∀ x ∈ (List.replicate m zv.cells.toList).flatten, x.oneCell' = true := by
              intro x hx
              obtain ⟨l, hl, hx⟩ := List.mem_flatten.1 hx
              rw [(List.mem_replicate.1 hl).2] at hx
              exact rds_one (zrd (H := H) zv) hzone x hx
            have hfit : i * sz + 0 + ((List.replicate m zv.cells.toList).flatten).length ≤ (cs ++ junk).length := by
              rw [hrl, List.length_append, hcs]
              have : (i + m) * sz ≤ xs.length * sz := Nat.mul_le_mul_right _ hle
              rw [Nat.add_mul] at this
              omega
            obtain ⟨w', k1, k2, k3⟩ := run_storeCells (P := C.P) _ b (i * sz) 0 (cs ++ junk) e' w h5 hone hfit
            have hrun : (Builtin.clear_ #[t'] o.type #[a.eval X]).run C.P w = .ok (.tuple #[]) w' := by
              rw [hu]; unfold Builtin.clear_
              obtain ⟨m', rfl⟩ : ∃ m', m = m' + 1 := ⟨m - 1, by omega⟩
              simp [run_und hund, Sem.run_bind, run_zero hi, hzl, k1]
            unfold Oper.wp
            rw [hexec hrun]
            refine put_next (hs.write hβ hres (b := b) (by rw [hBs]; simp) (fun k hk => by rw [k2, if_neg hk]) k3 ?_) hK hN (.any _)
            have hlen2 : (xs.take i ++ (List.replicate m z0 ++ xs.drop (i + m))).length = xs.length := by simp; omega
            refine ⟨_, cc, by rw [hlen2]; exact hb, by rw [hlen2]; exact hle2, .inr ⟨b, cs.take (i * sz) ++ ((List.replicate m zv.cells.toList).flatten ++ cs.drop ((i + m) * sz)), junk, e', hBs, rfl, ?_, ?_, ?_⟩⟩
            · rw [k2, if_pos rfl]
              congr 2
              have hic : i * sz ≤ cs.length := by rw [hcs]; exact Nat.mul_le_mul_right _ (by omega)
              have him : i * sz + m * sz ≤ cs.length := by rw [hcs, ← Nat.add_mul]; exact Nat.mul_le_mul_right _ hle
              rw [hrl, Nat.add_zero, List.take_append_of_le_length hic, List.drop_append_of_le_length him, Nat.add_mul]
              simp only [List.append_assoc]
            · exact rows_app (rows_take i h6) (rows_app (rows_rep (by rw [Array.length_toList, hzs]) (by rw [hz0]; exact zrd zv) m) (rows_drop (i + m) h6))
            · have hic : i * sz ≤ xs.length * sz := Nat.mul_le_mul_right _ (by omega)
              have him : (i + m) * sz ≤ xs.length * sz := Nat.mul_le_mul_right _ hle
              have h8 := h7
              simp only [List.length_append, List.length_take, List.length_drop, hrl, hcs] at h8 ⊢
              rw [Nat.add_mul] at him ⊢
              omega
        · exact h.elim
      · exact h.elim
    · exact h.elim
  · exact h.elim
end
end Go.Proofs.Ytbpobdlahighoaa.Sx
