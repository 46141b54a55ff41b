/- The engine tells the truth: the same state, told otherwise. -/
import Derived.Test.YtbpobdlahighoaaSxMa
namespace Go.Proofs.Ytbpobdlahighoaa.Sx
open Go
set_option linter.unusedVariables false
set_option linter.unusedSimpArgs false

section
variable {C : Cx} {B : Base} {P : Program} {ν ν' : Nat → Option Value} {H H' G F g : Hp} {st : St} {x y s : SV} {c : Prop} {u z : Value} {t : Nat} {w w' : World} {a : Act} {d : Option Nat} {K : St → Prop} {β : Nat → List Nat} {α : Type} {sz : Nat} {enc : α → List SV} {xs zs : List α} {n : Nat} {fh : SV} {fp : Nat → SV} {d' : Nat}

mutual
theorem Den.frz (hl : H.le H') (hh : ∀ x, ν t = some x → Den ν H' fh x) (hp : ∀ b o, ν t = some (.pointer (some ⟨b, 0, none⟩)) → Den ν H' (fp o) (.pointer (some ⟨b, o, none⟩))) : ∀ {s x}, Den ν H s x → Den ν H' (SV.frz t fh fp s) x
  | _, _, .any x => .any x
  | _, _, .r (.v x) => .r (.v x)
  | _, _, .r (.ro cs h1 h2 h3 h4) => .r (RDen.mono hl (.ro cs h1 h2 h3 h4))
  | _, _, .r (.rop h hc) => .r (RDen.mono hl (.rop h hc))
  | _, _, .r (.rom h h1 h2) => .r (RDen.mono hl (.rom h h1 h2))
  | _, _, .agg h => .agg (DenL.frz hl hh hp h)
  | _, _, .tup h => .tup (DenL.frz hl hh hp h)
  | _, _, .ptr (t := u) h => by
      unfold SV.frz
      by_cases e : u = t
      · rw [if_pos e]; subst e; exact hp _ _ h
      · rw [if_neg e]; exact .ptr h
  | _, _, .h (t := u) h h1 => by
      unfold SV.frz
      by_cases e : u = t
      · rw [if_pos e]; subst e; exact hh _ h
      · rw [if_neg e]; exact .h h h1
  | _, _, .hp (t := u) h => by
      unfold SV.frz
      by_cases e : u = t
      · rw [if_pos e]; exact .any _
      · rw [if_neg e]; exact .hp h
  | _, _, .fn h1 h2 => .fn (DenL.frz hl hh hp h1) (DenL.frz hl hh hp h2)
  | _, _, .hs (t := u) h => by
      unfold SV.frz
      by_cases e : u = t
      · rw [if_pos e]; exact .any _
      · rw [if_neg e]; exact .hs h
theorem DenL.frz (hl : H.le H') (hh : ∀ x, ν t = some x → Den ν H' fh x) (hp : ∀ b o, ν t = some (.pointer (some ⟨b, 0, none⟩)) → Den ν H' (fp o) (.pointer (some ⟨b, o, none⟩))) : ∀ {s x}, DenL ν H s x → DenL ν H' (SV.frzL t fh fp s) x
  | _, _, .nil => .nil
  | _, _, .cons h r => .cons (Den.frz hl hh hp h) (DenL.frz hl hh hp r)
end
theorem frzL_len : ∀ l : List SV, (SV.frzL t fh fp l).length = l.length
  | [] => rfl
  | s :: l => by simp [SV.frzL, frzL_len l]
theorem ResOk.frz (hl : H.le H') (hh : ∀ x, ν t = some x → Den ν H' fh x) (hp : ∀ b o, ν t = some (.pointer (some ⟨b, 0, none⟩)) → Den ν H' (fp o) (.pointer (some ⟨b, o, none⟩))) {r : Res} {k : Nat} {Bs : List Nat} (h : ResOk ν H g Bs k r) : ResOk ν H' g Bs k (Res.frz t fh fp r) := by
  cases r with
  | gone => exact h
  | cells l => obtain ⟨b, cs, e, e0, e1, e2, e3⟩ := h; exact ⟨b, cs, e, e0, e1, e2, e3.frz hl hh hp⟩
  | lit sz m l => obtain ⟨b, cs, e, e0, e1, e2, e3, e4, e5⟩ := h; exact ⟨b, cs, e, e0, e1, e2, e3.frz hl hh hp, by rw [frzL_len]; exact e4, e5⟩
  | sl sz enc xs =>
    obtain ⟨p, c, e1, e2, e3⟩ := h
    refine ⟨p, c, e1, e2, e3.imp id ?_⟩
    rintro ⟨b, cs, junk, e, q0, q1, q2, q3, q4⟩
    exact ⟨b, cs, junk, e, q0, q1, q2, rows_mono hl q3, q4⟩
  | mp ks kv => exact h
  | nest sz enc xss hole =>
    obtain ⟨b, hs, e, Bss, e0, e1, e2, e3, e4⟩ := h
    exact ⟨b, hs, e, Bss, e0, e1, e2, e3.map (fun s => SV.frz t fh fp s) (fun s v _ hd => hd.frz hl hh hp) (fun _ _ _ _ _ hd => hd.keep hl (fun _ _ _ h => h)), e4⟩
theorem lk_frz (env : List (Nat × SV)) (k : Nat) : lk (env.map fun p => (p.1, SV.frz t fh fp p.2)) k = SV.frz t fh fp (lk env k) := by
  induction env with
  | nil => rfl
  | cons p l ih =>
    simp only [List.map_cons, lk]
    split
    · rfl
    · exact ih
theorem rlk_frz (res : List (Nat × Res)) (k : Nat) : rlk (res.map fun p => (p.1, Res.frz t fh fp p.2)) k = (rlk res k).map (Res.frz t fh fp) := by
  induction res with
  | nil => rfl
  | cons p l ih =>
    simp only [List.map_cons, rlk]
    split
    · rfl
    · exact ih
open Classical in
/-- What a handle owns is written no more. -/
theorem SatN.frz (h : SatN B ν H n st a w) {r : Res} (hr : rlk st.res t = some r) (hf : ∀ H' Bs, H'.le (hp w) → ResOk ν H' H' Bs t r → (∀ x, ν t = some x → Den ν H' fh x) ∧ (∀ b o, ν t = some (.pointer (some ⟨b, 0, none⟩)) → Den ν H' (fp o) (.pointer (some ⟨b, o, none⟩)))) :
    ∃ H', SatN B ν H' n (st.frz t fh fp) a w := by
  obtain ⟨β, hβ⟩ := h.res
  let H' : Hp := fun b => if b ∈ β t then hp w b else H b
  have hH' : ∀ b, H' b = if b ∈ β t then hp w b else H b := fun _ => rfl
  have hl : H.le H' := fun b o hb => by
    rw [hH', if_neg (fun hm => by rw [(hβ.own t r b hr hm).1] at hb; cases hb)]; exact hb
  have hw : H'.le (hp w) := fun b o hb => by
    rw [hH'] at hb
    split at hb
    · exact hb
    · exact h.sub _ _ hb
  have hok : ResOk ν H' H' (β t) t r := (hβ.ok t r hr).keep (fun _ _ h => h) hl (fun b o hb ho => by rw [hH', if_pos hb]; exact ho)
  obtain ⟨f1, f2⟩ := hf H' _ hw hok
  refine ⟨H', hw, h.subF, h.subH.trans hl, ?_, fun k => ?_, h.size, ⟨upd β t [], ?_, ?_, ?_⟩, ?_, h.keep, h.low, h.defers, h.kp⟩
  · intro b o hb hn
    rw [hH', if_neg (fun hm => by rw [(hβ.own t r b hr hm).2] at hb; cases hb)]
    exact h.newH b o hb hn
  · show Den _ _ (lk (st.env.map fun p => (p.1, SV.frz t fh fp p.2)) k) _
    rw [lk_frz]
    exact (h.env k).frz hl f1 f2
  all_goals
    have hget : ∀ q r2, rlk (rset (st.res.map fun p => (p.1, Res.frz t fh fp p.2)) t .gone) q = some r2 → (q = t ∧ r2 = .gone) ∨ (q ≠ t ∧ ∃ r0, rlk st.res q = some r0 ∧ r2 = Res.frz t fh fp r0) := fun q r2 hq => by
      rw [rlk_rset] at hq
      by_cases e : t = q
      · subst e; rw [if_pos rfl] at hq; injection hq with hq; exact .inl ⟨rfl, hq.symm⟩
      · rw [if_neg e, rlk_frz] at hq
        cases hq0 : rlk st.res q with
        | none => rw [hq0] at hq; cases hq
        | some r0 => rw [hq0] at hq; simp only [Option.map_some, Option.some.injEq] at hq; exact .inr ⟨Ne.symm e, r0, rfl, hq.symm⟩
  · intro q r2 hq
    rcases hget q r2 hq with ⟨rfl, rfl⟩ | ⟨hqt, r0, h0, rfl⟩
    · rw [upd_same]; rfl
    · rw [upd_ne _ _ hqt]; exact (hβ.ok q r0 h0).frz hl f1 f2
  · intro q p r1 r2 b hq hp' hqp h1 h2
    rcases hget q r1 hq with ⟨rfl, rfl⟩ | ⟨hqt, r0, h0, rfl⟩
    · rw [upd_same] at h1; cases h1
    · rcases hget p r2 hp' with ⟨rfl, rfl⟩ | ⟨hpt, r0', h0', rfl⟩
      · rw [upd_same] at h2; cases h2
      · rw [upd_ne _ _ hqt] at h1; rw [upd_ne _ _ hpt] at h2
        exact hβ.dis _ _ _ _ b h0 h0' hqp h1 h2
  · intro q r2 b hq hb
    rcases hget q r2 hq with ⟨rfl, rfl⟩ | ⟨hqt, r0, h0, rfl⟩
    · rw [upd_same] at hb; cases hb
    · rw [upd_ne _ _ hqt] at hb
      have := hβ.own q r0 b h0 hb
      refine ⟨?_, this.2⟩
      rw [hH', if_neg (fun hm => hβ.dis q t r0 r b h0 hr hqt hb hm)]; exact this.1
  · intro q hq
    have := h.fresh q hq
    refine ⟨this.1, ?_⟩
    show rlk (rset (st.res.map fun p => (p.1, Res.frz t fh fp p.2)) t .gone) q = none
    rw [rlk_rset, if_neg (fun e => by subst e; rw [hr] at this; cases this.2), rlk_frz, this.2]; rfl
theorem slok_ro {v : Value} {Bs : List Nat} (h : SlOk H G sz enc xs Bs v) (hl : H.le G) : RDen G (.ro sz enc xs v) v := by
  obtain ⟨p, c, rfl, e2, e3⟩ := h
  rcases e3 with ⟨rfl, e3, _⟩ | ⟨b, cs, junk, e, _, rfl, e4, e5, e6⟩
  · have : xs = [] := List.eq_nil_of_length_eq_zero (by omega)
    subst this
    exact .ro (fun _ => []) (fun i x h => by simp at h) (fun i h => by simp at h) (fun _ _ => rfl) (Nat.le_refl _)
  · exact rows_ro e2 e4 e5 hl
theorem ghFrz_sat (hs : SatN B ν H n st a w) (h : ghFrz K st t (rlk st.res t)) : ∃ ν' H' st', SatN B ν' H' n st' a w ∧ K st' := by
  unfold ghFrz at h
  split at h
  · rename_i l hres
    obtain ⟨hrd, hK⟩ := h
    obtain ⟨H', h1⟩ := hs.frz (fh := .any) (fp := fun o => .rop (l.drop o)) hres (fun H' Bs hw hok => ⟨fun x _ => .any x, fun b o hb => by
      obtain ⟨b', cs, e, _, e1, e2, e3⟩ := hok
      rw [hb] at e1; injection e1 with e1; injection e1 with e1; injection e1 with e1; injection e1 with e1; subst e1
      exact .rop ((rds_den e3 hrd).drop o) (fun j v hj => by
        rw [List.getElem?_drop] at hj
        simp only [Hp.cell, e2, Option.isSome_none, Bool.false_eq_true, if_false, List.getElem?_toArray]
        exact hj)⟩)
    exact ⟨ν, H', _, h1, hK⟩
  · rename_i S kv hres
    obtain ⟨H', h1⟩ := hs.frz (fh := .rom S kv) (fp := fun _ => .any) hres (fun H' Bs hw hok => ⟨fun x hx => by
      obtain ⟨b, es, ck, _, e1, e2, e3, e4⟩ := hok
      rw [hx] at e1; injection e1 with e1; subst e1
      exact .r (.rom e2 e3 e4), fun b o hb => .any _⟩)
    exact ⟨ν, H', _, h1, h⟩
  · rename_i α sz enc xs hres
    obtain ⟨β, hβ⟩ := hs.res
    obtain ⟨v, hv, _⟩ := sl_iff.1 (hβ.ok _ _ hres)
    obtain ⟨H', h1⟩ := hs.frz (fh := .ro sz enc xs v) (fp := fun _ => .any) hres (fun H' Bs hw hok => ⟨fun x hx => by
      obtain ⟨v', hv', hs'⟩ := sl_iff.1 hok
      rw [hv] at hv'; injection hv' with hv'; subst hv'
      rw [hv] at hx; injection hx with hx; subst hx
      exact .r (slok_ro hs' (Hp.le.refl _)), fun b o hb => .any _⟩)
    exact ⟨ν, H', _, h1, h v⟩
  · rename_i sz m l hres
    obtain ⟨hrd, α, enc, xs, ⟨hm, hrows⟩, hK⟩ := h
    obtain ⟨β, hβ⟩ := hs.res
    obtain ⟨b, cs, e, e0, e1, e2, e3, e4, e5⟩ := hβ.ok _ _ hres
    obtain ⟨H', h1⟩ := hs.frz (fh := .ro sz enc xs (.slice (some ⟨b, 0, none⟩) xs.length m)) (fp := fun _ => .any) hres (fun H' Bs hw hok => ⟨fun x hx => by
      obtain ⟨b2, cs2, e', f0, f1, f2, f3, f4, f5⟩ := hok
      rw [e1] at f1; injection f1 with f1; injection f1 with f1 _ _; injection f1 with f1; injection f1 with f1; subst f1
      rw [e1] at hx; injection hx with hx; subst hx
      have hR := rows_of_lit hrows (rds_den f3 hrd)
      have hg : H' b = some (.cells (cs2 ++ []).toArray e' (0, 0)) := by rw [List.append_nil]; exact f2
      have hro := rows_ro (G := H') (xs := xs) (c := m) (by omega) hg hR (Hp.le.refl _)
      rw [show Value.slice (some ⟨b, 0, none⟩) m m = .slice (some ⟨b, 0, none⟩) xs.length m by rw [hm]]
      exact .r hro, fun b o hb => .any _⟩)
    exact ⟨ν, H', _, h1, hK _⟩
  · rename_i α sz enc xss hres
    obtain ⟨β, hβ⟩ := hs.res
    obtain ⟨b, hs', e, Bss, e0, e1, e2, e3, e4⟩ := hβ.ok _ _ hres
    have hzl : (xss.zip hs').length = xss.length := by rw [List.length_zip, e3.l1]; omega
    obtain ⟨H', h1⟩ := hs.frz (fh := .ro 1 (fun p : List α × Value => [.ro sz enc p.1 p.2]) (xss.zip hs') (.slice (some ⟨b, 0, none⟩) xss.length xss.length)) (fp := fun _ => .any) hres (fun H' Bs hw hok => ⟨fun x hx => by
      rw [e1] at hx; injection hx with hx; subst hx
      obtain ⟨b2, hs2, e2', Bss2, f0, f1, f2, f3, f4⟩ := hok
      rw [e1] at f1; injection f1 with f1; injection f1 with f1 _ _; injection f1 with f1; injection f1 with f1; subst f1
      have e5 := hw _ _ f2
      rw [e2] at e5; injection e5 with e5; injection e5 with e5; injection e5 with e5
      subst e5
      have hg : ∀ i, i < xss.length → ∃ xs v, xss[i]? = some xs ∧ hs'[i]? = some v ∧ (xss.zip hs')[i]? = some (xs, v) ∧ RDen H' (.ro sz enc xs v) v := fun i hi => by
        have g1 : xss[i]? = some xss[i] := List.getElem?_eq_getElem hi
        have g2 : hs'[i]? = some (hs'[i]'(by rw [e3.l1]; exact hi)) := List.getElem?_eq_getElem _
        have g3 : Bss2[i]? = some (Bss2[i]'(by rw [f3.l2]; exact hi)) := List.getElem?_eq_getElem _
        refine ⟨_, _, g1, g2, ?_, slok_ro (f3.row i _ _ _ g1 g2 g3).2 (Hp.le.refl _)⟩
        rw [List.getElem?_zip_eq_some]; exact ⟨g1, g2⟩
      have hgoal : RDen H' (.ro 1 (fun p : List α × Value => [.ro sz enc p.1 p.2]) (xss.zip hs') (.slice (some ⟨b, 0, none⟩) (xss.zip hs').length xss.length)) (.slice (some ⟨b, 0, none⟩) (xss.zip hs').length xss.length) := by
        refine .ro (fun i => match hs'[i]? with | some v => [v] | none => []) (fun i x hx => ?_) (fun i hi => ?_) (fun _ _ => rfl) (by rw [hzl]; exact Nat.le_refl _)
        · have hi : i < xss.length := by rw [← hzl]; exact (List.getElem?_eq_some_iff.1 hx).1
          obtain ⟨xs, v, g1, g2, g3, g4⟩ := hg i hi
          rw [g3] at hx; injection hx with hx; subst hx
          simp only [g2]
          exact .cons g4 .nil
        · obtain ⟨xs, v, g1, g2, g3, g4⟩ := hg i (by rw [← hzl]; exact hi)
          simp only [g2]
          refine ⟨rfl, b, 0, rfl, fun j u hj => ?_⟩
          have hj0 : j = 0 := by
            rcases Nat.eq_zero_or_pos j with h | h
            · exact h
            · rw [List.getElem?_eq_none (by simp; omega)] at hj; cases hj
          subst hj0
          simp only [List.getElem?_cons_zero, Option.some.injEq] at hj
          subst hj
          simp only [Hp.cell, f2, Option.isSome_none, Bool.false_eq_true, if_false, List.getElem?_toArray, Nat.mul_one, Nat.add_zero, Nat.zero_add]
          exact g2
      rw [hzl] at hgoal
      exact .r hgoal, fun b o hb => .any _⟩)
    exact ⟨ν, H', _, h1, h hs' _ e3.l1⟩
  · exact h.elim
theorem SatN.setEnv (h : SatN B ν H n st a w) {env' : List (Nat × SV)} (he : EnvOk ν H env' a) : SatN B ν H n ⟨env', st.res, st.nx, st.mv⟩ a w := { h with env := he }
theorem ghTrim_sat (hs : SatN B ν H n st a w) (h : ghTrim K st d' (lk st.env d')) : ∃ ν' H' st', SatN B ν' H' n st' a w ∧ K st' := by
  unfold ghTrim at h
  split at h
  · rename_i t sz i m hlk
    obtain ⟨rfl, h⟩ := h
    unfold ghTrimR at h
    split at h
    · rename_i α sz' enc xs hres
      obtain ⟨hm, hK⟩ := h
      have hd := hs.env d'
      rw [hlk] at hd
      obtain ⟨b, mm, cc, hv, hb⟩ := hd.hs_inv
      obtain ⟨β, hβ⟩ := hs.res
      obtain ⟨v, hv', q, c, hvv, hle, h3⟩ := sl_iff.1 (hβ.ok _ _ hres)
      rw [hb] at hv'; injection hv' with hv'; subst hvv; injection hv' with e1 e2 e3; subst e1; subst e2; subst e3
      rcases h3 with ⟨_, h3, _⟩ | ⟨b', cs, junk, e', hBs, h4, h5, h6, h7⟩
      · cases h3
      injection h4 with h4; injection h4 with h4; subst h4
      have hcs := rows_len h6
      have hmc : m * sz' ≤ cs.length := by rw [hcs]; exact Nat.mul_le_mul_right _ hm
      have hlen : (xs.take m).length = m := by rw [List.length_take]; omega
      have hok : ResOk (upd ν t (some (.slice (some ⟨b, 0, none⟩) m cc))) H (hp w) [b] t (.sl sz' enc (xs.take m)) := by
        refine ⟨_, cc, by rw [hlen, upd_same], by rw [hlen]; omega, .inr ⟨b, cs.take (m * sz'), cs.drop (m * sz') ++ junk, e', rfl, rfl, ?_, rows_take m h6, ?_⟩⟩
        · rw [h5, ← List.append_assoc, List.take_append_drop]
        · rw [← List.append_assoc, List.take_append_drop]; exact h7
      have hsat := hs.remake hβ hres (w' := w) (fun k o _ h => h) (fun b' hb' => .inl (by rw [hBs]; exact hb')) ⟨rfl, rfl, rfl, Nat.le_refl _, Nat.le_refl _⟩ hok
      refine ⟨_, H, _, hsat.setEnv (env' := (d', .h t) :: (st.kill t).env) (fun k => ?_), hK⟩
      show Den _ H (if d' = k then _ else lk (st.kill t).env k) _
      by_cases e : d' = k
      · subst e
        rw [if_pos rfl, hv]
        simp only [Nat.zero_mul, Nat.sub_zero]
        exact .h (upd_same _ _ _) rfl
      · rw [if_neg e]; exact hsat.env k
    · exact h.elim
  · exact h.elim
theorem ghNil_sat (hs : SatN B ν H n st a w) (h : ghNil K st d' (lk st.env d')) : ∃ ν' H' st', SatN B ν' H' n st' a w ∧ K st' := by
  unfold ghNil at h
  split at h
  · rename_i hlk
    obtain ⟨α, sz, enc, hK⟩ := h
    have hd := hs.env d'
    rw [hlk] at hd
    have hsat := hs.extend (w' := w) (r := .sl sz enc ([] : List α)) (x := .slice none 0 0) (Bs := []) (fun k o h => h) (fun b hb => by cases hb) ⟨rfl, rfl, rfl, Nat.le_refl _, Nat.le_refl _⟩ ⟨none, 0, upd_same _ _ _, Nat.le_refl _, .inl ⟨rfl, rfl, rfl⟩⟩
    refine ⟨_, H, _, hsat.setEnv (env' := (d', .h st.nx) :: st.env) (fun k => ?_), hK⟩
    show Den _ H (if d' = k then _ else lk st.env k) _
    by_cases e : d' = k
    · subst e
      rw [if_pos rfl, hd.v_eq]
      exact .h (upd_same _ _ _) rfl
    · rw [if_neg e]; exact hsat.env k
  · exact h.elim
theorem denL_set : ∀ {l : List SV} {cs : List Value} {i : Nat} {s s' : SV}, DenL ν H l cs → l[i]? = some s → (∀ x, Den ν H s x → Den ν H s' x) → DenL ν H (l.set i s') cs
  | _, _, i, s, s', .nil, h, _ => by simp at h
  | _, _, 0, s, s', .cons h r, hi, k => by
    simp only [List.getElem?_cons_zero, Option.some.injEq] at hi
    subst hi
    exact .cons (k _ h) r
  | _, _, i + 1, s, s', .cons h r, hi, k => by
    simp only [List.getElem?_cons_succ] at hi
    exact .cons h (denL_set r hi k)
theorem ghNilc_sat {i : Nat} (hs : SatN B ν H n st a w) (h : ghNilc K st t i (rlk st.res t)) : ∃ ν' H' st', SatN B ν' H' n st' a w ∧ K st' := by
  unfold ghNilc at h
  split at h
  · rename_i l hres
    unfold ghNilcS at h
    split at h
    · rename_i hi
      obtain ⟨α, sz, enc, hK⟩ := h
      have ht : t ≠ st.nx := fun e => by
        have := (hs.fresh st.nx (Nat.le_refl _)).2
        rw [← e, hres] at this
        cases this
      have hsat := hs.extend (w' := w) (r := .sl sz enc ([] : List α)) (x := .slice none 0 0) (Bs := []) (fun k o h => h) (fun b hb => by cases hb) ⟨rfl, rfl, rfl, Nat.le_refl _, Nat.le_refl _⟩ ⟨none, 0, upd_same _ _ _, Nat.le_refl _, .inl ⟨rfl, rfl, rfl⟩⟩
      have hres' : rlk ((st.nx, .sl sz enc ([] : List α)) :: st.res) t = some (.cells l) := by
        show (if st.nx = t then _ else rlk st.res t) = _
        rw [if_neg (Ne.symm ht), hres]
      obtain ⟨β, hβ⟩ := hsat.res
      obtain ⟨b, cs, e, e0, e1, e2, e3⟩ := hβ.ok _ _ hres'
      have hok : ResOk (upd ν st.nx (some (.slice none 0 0))) H (hp w) (β t) t (.cells (l.set i (.h st.nx))) :=
        ⟨b, cs, e, e0, e1, e2, denL_set e3 hi (fun x hx => by rw [hx.v_eq]; exact .h (upd_same _ _ _) rfl)⟩
      have hfin := SatN.write (C := ⟨default, n, [], 0, [], [], [], [], [], fun _ _ => True, false⟩) hsat hβ hres' (b := b) (w' := w) (by rw [e0]; simp) (fun k _ => rfl) ⟨rfl, rfl, rfl, rfl, rfl⟩ hok
      exact ⟨_, H, _, hfin, hK⟩
    · exact h.elim
  · exact h.elim
/-- Resources told otherwise: the same handles, the same blocks, in another division. -/
theorem SatN.regroup (hs : SatN B ν H n st a w) (hβ : SatR ν H B.F (hp w) β st.res) {res' : List (Nat × Res)} {nx' : Nat} {β' : Nat → List Nat} (hn : NLe ν ν') (hnx : st.nx ≤ nx') (hfr : ∀ t, nx' ≤ t → ν' t = none ∧ rlk res' t = none) (hlow : ∀ t, t < st.nx → ν' t = ν t)
    (hok : ∀ t r, rlk res' t = some r → ResOk ν' H (hp w) (β' t) t r) (hdis : ∀ t u r s b, rlk res' t = some r → rlk res' u = some s → t ≠ u → b ∈ β' t → b ∈ β' u → False) (hown : ∀ t r b, rlk res' t = some r → b ∈ β' t → ∃ u q, rlk st.res u = some q ∧ b ∈ β u) :
    SatN B ν' H n ⟨st.env, res', nx', st.mv⟩ a w :=
  ⟨hs.sub, hs.subF, hs.subH, hs.newH, fun k => (hs.env k).mono hn (Hp.le.refl _), hs.size, ⟨β', hok, hdis, fun t r b h1 h2 => by
    obtain ⟨u, q, h3, h4⟩ := hown t r b h1 h2
    exact hβ.own u q b h3 h4⟩, hfr, fun t h1 h2 => by rw [hlow t (by have := hs.low; omega)]; exact hs.keep t h1 h2, by have := hs.low; simp only; omega, hs.defers, hs.kp⟩
theorem flat_set {Bss : List (List Nat)} {i : Nat} {X : List Nat} {b : Nat} (h : b ∈ (Bss.set i X).flatten) : b ∈ X ∨ ∃ j Bs, j ≠ i ∧ Bss[j]? = some Bs ∧ b ∈ Bs := by
  obtain ⟨Bs, hB, hb⟩ := List.mem_flatten.1 h
  obtain ⟨j, hj, e⟩ := List.mem_iff_getElem.1 hB
  rw [List.getElem_set] at e
  by_cases hij : i = j
  · rw [if_pos hij] at e; subst e; exact .inl hb
  · rw [if_neg hij] at e
    have hj' : j < Bss.length := by simpa using hj
    exact .inr ⟨j, Bs, Ne.symm hij, by rw [List.getElem?_eq_getElem hj', e], hb⟩
theorem flat_nodup {Bss : List (List Nat)} : Bss.flatten.Nodup ↔ (∀ Bs ∈ Bss, Bs.Nodup) ∧ ∀ (i j : Nat) (Bs Cs : List Nat) (b : Nat), i ≠ j → Bss[i]? = some Bs → Bss[j]? = some Cs → b ∈ Bs → b ∈ Cs → False := by
  unfold List.Nodup
  rw [List.pairwise_flatten]
  constructor
  · rintro ⟨h1, h2⟩
    refine ⟨h1, fun i j Bs Cs b hij hi hj hb hc => ?_⟩
    rw [List.pairwise_iff_getElem] at h2
    obtain ⟨hi', rfl⟩ := List.getElem?_eq_some_iff.1 hi
    obtain ⟨hj', rfl⟩ := List.getElem?_eq_some_iff.1 hj
    rcases Nat.lt_or_gt_of_ne hij with h | h
    · exact h2 i j hi' hj' h b hb b hc rfl
    · exact h2 j i hj' hi' h b hc b hb rfl
  · rintro ⟨h1, h2⟩
    refine ⟨h1, ?_⟩
    rw [List.pairwise_iff_getElem]
    intro i j hi hj hij b hb c hc hbc
    subst hbc
    exact h2 i j _ _ b (by omega) (List.getElem?_eq_getElem hi) (List.getElem?_eq_getElem hj) hb hc
theorem ghDet_sat {i : Nat} (hs : SatN B ν H n st a w) (h : ghDet K st t i (rlk st.res t)) : ∃ ν' H' st', SatN B ν' H' n st' a w ∧ K st' := by
  unfold ghDet at h
  split at h
  · rename_i α sz enc xss hres
    obtain ⟨xs, hxs, hK⟩ := h
    obtain ⟨β, hβ⟩ := hs.res
    obtain ⟨b, hh, e, Bss, e0, e1, e2, e3, e4⟩ := hβ.ok _ _ hres
    have hi : i < xss.length := (List.getElem?_eq_some_iff.1 hxs).1
    have hi1 : i < hh.length := by rw [e3.l1]; exact hi
    have hi2 : i < Bss.length := by rw [e3.l2]; exact hi
    obtain ⟨r1, r2⟩ := e3.row i xs _ _ hxs (List.getElem?_eq_getElem hi1) (List.getElem?_eq_getElem hi2)
    have r2' : SlOk H (hp w) sz enc xs Bss[i] hh[i] := r2
    have hfr := hs.fresh st.nx (Nat.le_refl _)
    have hn : NLe ν (upd ν st.nx (some hh[i])) := nle_upd hfr.1
    have htn : t ≠ st.nx := fun e => by subst e; rw [hfr.2] at hres; cases hres
    have hnd := flat_nodup.1 (List.nodup_cons.1 e4).2
    let β' : Nat → List Nat := upd (upd β t (b :: (Bss.set i []).flatten)) st.nx Bss[i]
    have hβt : β' t = b :: (Bss.set i []).flatten := by show upd _ _ _ t = _; rw [upd_ne _ _ htn, upd_same]
    have hβn : β' st.nx = Bss[i] := upd_same _ _ _
    have hβo : ∀ q, q ≠ t → q ≠ st.nx → β' q = β q := fun q h1 h2 => by show upd _ _ _ q = _; rw [upd_ne _ _ h2, upd_ne _ _ h1]
    have hget : ∀ q r, rlk ((st.nx, Res.sl sz enc xs) :: rset st.res t (.nest sz enc xss (some (i, .h st.nx)))) q = some r → (q = st.nx ∧ r = .sl sz enc xs) ∨ (q = t ∧ r = .nest sz enc xss (some (i, .h st.nx))) ∨ (q ≠ st.nx ∧ q ≠ t ∧ rlk st.res q = some r) := fun q r hq => by
      rw [rlk_cons] at hq
      by_cases e1 : st.nx = q
      · rw [if_pos e1] at hq; injection hq with hq; exact .inl ⟨e1.symm, hq.symm⟩
      · rw [if_neg e1, rlk_rset] at hq
        by_cases e2 : t = q
        · rw [if_pos e2] at hq; injection hq with hq; exact .inr (.inl ⟨e2.symm, hq.symm⟩)
        · rw [if_neg e2] at hq; exact .inr (.inr ⟨Ne.symm e1, Ne.symm e2, hq⟩)
    have hsub1 : ∀ k, k ∈ β' t → k ∈ β t := fun k hk => by
      rw [hβt] at hk; rw [e0]
      rcases List.mem_cons.1 hk with rfl | hk
      · exact List.mem_cons_self ..
      · rcases flat_set hk with hk | ⟨j, Bs, hj, hB, hk⟩
        · cases hk
        · exact List.mem_cons_of_mem _ (List.mem_flatten.2 ⟨Bs, List.mem_of_getElem? hB, hk⟩)
    have hsub2 : ∀ k, k ∈ β' st.nx → k ∈ β t := fun k hk => by
      rw [hβn] at hk; rw [e0]
      exact List.mem_cons_of_mem _ (List.mem_flatten.2 ⟨_, List.getElem_mem hi2, hk⟩)
    have hdis12 : ∀ k, k ∈ β' t → k ∈ β' st.nx → False := fun k h1 h2 => by
      rw [hβt] at h1; rw [hβn] at h2
      rcases List.mem_cons.1 h1 with rfl | h1
      · exact (List.nodup_cons.1 e4).1 (List.mem_flatten.2 ⟨_, List.getElem_mem hi2, h2⟩)
      · rcases flat_set h1 with hk | ⟨j, Bs, hj, hB, hk⟩
        · cases hk
        · exact hnd.2 j i Bs _ k hj hB (List.getElem?_eq_getElem hi2) hk h2
    refine ⟨_, H, _, hs.regroup hβ (ν' := upd ν st.nx (some hh[i])) (β' := β') hn (Nat.le_succ _) (fun q hq => ?_) (fun q hq => upd_ne _ _ (by omega)) ?_ ?_ ?_, hK⟩
    · have := hs.fresh q (by omega)
      refine ⟨by rw [upd_ne _ _ (by omega)]; exact this.1, ?_⟩
      rw [rlk_cons, if_neg (by omega), rlk_rset, if_neg (fun e => by subst e; rw [this.2] at hres; cases hres)]
      exact this.2
    · intro q r hq
      rcases hget q r hq with ⟨rfl, rfl⟩ | ⟨rfl, rfl⟩ | ⟨h1, h2, h3⟩
      · rw [hβn]; exact sl_iff.2 ⟨_, upd_same _ _ _, r2'⟩
      · rw [hβt]
        refine ⟨b, hh, e, Bss.set i [], rfl, hn _ _ e1, e2, ⟨e3.l1, by rw [List.length_set]; exact e3.l2, ?_, fun p hp => by injection hp with hp; subst hp; exact hi⟩, ?_⟩
        · intro k xs' v Bs g1 g2 g3
          rw [List.getElem?_set] at g3
          by_cases hik : i = k
          · subst hik
            rw [if_pos rfl, if_pos hi2] at g3
            injection g3 with g3; subst g3
            rw [List.getElem?_eq_getElem hi1] at g2; injection g2 with g2; subst g2
            exact ⟨r1, fun _ => ⟨rfl, .h (upd_same _ _ _) r1⟩, fun h => absurd rfl h⟩
          · rw [if_neg hik] at g3
            obtain ⟨s1, s2⟩ := e3.row k xs' v Bs g1 g2 g3
            exact ⟨s1, fun h => absurd h hik, fun _ => s2⟩
        · rw [List.nodup_cons]
          refine ⟨fun hm => ?_, ?_⟩
          · rcases flat_set hm with hk | ⟨j, Bs, hj, hB, hk⟩
            · cases hk
            · exact (List.nodup_cons.1 e4).1 (List.mem_flatten.2 ⟨Bs, List.mem_of_getElem? hB, hk⟩)
          · rw [flat_nodup]
            refine ⟨fun Bs hB => ?_, fun j k Bs Cs x hjk hj hk h1 h2 => ?_⟩
            · obtain ⟨j, hj, e⟩ := List.mem_iff_getElem.1 hB
              rw [List.getElem_set] at e
              by_cases hij : i = j
              · rw [if_pos hij] at e; subst e; exact List.nodup_nil
              · rw [if_neg hij] at e; subst e; exact hnd.1 _ (List.getElem_mem _)
            · rw [List.getElem?_set] at hj hk
              by_cases hij : i = j
              · rw [if_pos hij, if_pos hi2] at hj; injection hj with hj; subst hj; cases h1
              · rw [if_neg hij] at hj
                by_cases hik : i = k
                · rw [if_pos hik, if_pos hi2] at hk; injection hk with hk; subst hk; cases h2
                · rw [if_neg hik] at hk; exact hnd.2 j k Bs Cs x hjk hj hk h1 h2
      · rw [hβo q h2 h1]; exact (hβ.ok q r h3).keep hn (Hp.le.refl _) (fun _ _ _ h => h)
    · intro q p r1 r2 k hq hp' hqp h1 h2
      rcases hget q r1 hq with ⟨rfl, rfl⟩ | ⟨rfl, rfl⟩ | ⟨q1, q2, q3⟩
      · rcases hget p r2 hp' with ⟨rfl, rfl⟩ | ⟨rfl, rfl⟩ | ⟨p1, p2, p3⟩
        · exact hqp rfl
        · exact hdis12 k h2 h1
        · rw [hβo p p2 p1] at h2; exact hβ.dis _ _ _ _ k hres p3 (Ne.symm p2) (hsub2 k h1) h2
      · rcases hget p r2 hp' with ⟨rfl, rfl⟩ | ⟨rfl, rfl⟩ | ⟨p1, p2, p3⟩
        · exact hdis12 k h1 h2
        · exact hqp rfl
        · rw [hβo p p2 p1] at h2; exact hβ.dis _ _ _ _ k hres p3 (Ne.symm p2) (hsub1 k h1) h2
      · rw [hβo q q2 q1] at h1
        rcases hget p r2 hp' with ⟨rfl, rfl⟩ | ⟨rfl, rfl⟩ | ⟨p1, p2, p3⟩
        · exact hβ.dis _ _ _ _ k q3 hres q2 h1 (hsub2 k h2)
        · exact hβ.dis _ _ _ _ k q3 hres q2 h1 (hsub1 k h2)
        · rw [hβo p p2 p1] at h2; exact hβ.dis _ _ _ _ k q3 p3 hqp h1 h2
    · intro q r k hq hk
      rcases hget q r hq with ⟨rfl, rfl⟩ | ⟨rfl, rfl⟩ | ⟨q1, q2, q3⟩
      · exact ⟨t, _, hres, hsub2 k hk⟩
      · exact ⟨_, _, hres, hsub1 k hk⟩
      · exact ⟨q, r, q3, by rw [hβo q q2 q1] at hk; exact hk⟩
  · exact h.elim
theorem ghAtt_sat (hs : SatN B ν H n st a w) (h : ghAtt K st t (rlk st.res t)) : ∃ ν' H' st', SatN B ν' H' n st' a w ∧ K st' := by
  unfold ghAtt at h
  split at h
  · rename_i α sz enc xss i u hres
    obtain ⟨hut, ys, hu, hK⟩ := h
    obtain ⟨β, hβ⟩ := hs.res
    obtain ⟨b, hh, e, Bss, e0, e1, e2, e3, e4⟩ := hβ.ok _ _ hres
    obtain ⟨v, hv, hsl⟩ := sl_iff.1 (hβ.ok _ _ hu)
    have hi : i < xss.length := e3.lt _ rfl
    have hi1 : i < hh.length := by rw [e3.l1]; exact hi
    have hi2 : i < Bss.length := by rw [e3.l2]; exact hi
    obtain ⟨r1, r2⟩ := e3.row i _ _ _ (List.getElem?_eq_getElem hi) (List.getElem?_eq_getElem hi1) (List.getElem?_eq_getElem hi2)
    have r3 := (r2.1 rfl).2.h_inv
    have hvv : v = hh[i] := by rw [hv] at r3; injection r3
    subst hvv
    have hnd := flat_nodup.1 (List.nodup_cons.1 e4).2
    have hdisu : ∀ k, k ∈ β u → k ∈ β t → False := fun k h1 h2 => hβ.dis u t _ _ k hu hres hut h1 h2
    let β' : Nat → List Nat := upd (upd β u []) t (b :: (Bss.set i (β u)).flatten)
    have hβt : β' t = b :: (Bss.set i (β u)).flatten := upd_same _ _ _
    have hβu : β' u = [] := by show upd _ _ _ u = _; rw [upd_ne _ _ hut, upd_same]
    have hβo : ∀ q, q ≠ t → q ≠ u → β' q = β q := fun q h1 h2 => by show upd _ _ _ q = _; rw [upd_ne _ _ h1, upd_ne _ _ h2]
    have hget : ∀ q r, rlk (rset (rset st.res u .gone) t (.nest sz enc (xss.set i ys) none)) q = some r → (q = t ∧ r = .nest sz enc (xss.set i ys) none) ∨ (q = u ∧ r = .gone) ∨ (q ≠ t ∧ q ≠ u ∧ rlk st.res q = some r) := fun q r hq => by
      rw [rlk_rset] at hq
      by_cases e1 : t = q
      · rw [if_pos e1] at hq; injection hq with hq; exact .inl ⟨e1.symm, hq.symm⟩
      · rw [if_neg e1, rlk_rset] at hq
        by_cases e2 : u = q
        · rw [if_pos e2] at hq; injection hq with hq; exact .inr (.inl ⟨e2.symm, hq.symm⟩)
        · rw [if_neg e2] at hq; exact .inr (.inr ⟨Ne.symm e1, Ne.symm e2, hq⟩)
    have hsub : ∀ k, k ∈ β' t → k ∈ β t ∨ k ∈ β u := fun k hk => by
      rw [hβt] at hk; rw [e0]
      rcases List.mem_cons.1 hk with rfl | hk
      · exact .inl (List.mem_cons_self ..)
      · rcases flat_set hk with hk | ⟨j, Bs, hj, hB, hk⟩
        · exact .inr hk
        · exact .inl (List.mem_cons_of_mem _ (List.mem_flatten.2 ⟨Bs, List.mem_of_getElem? hB, hk⟩))
    have hunod : (β u).Nodup := by
      obtain ⟨q, c, _, _, h3⟩ := hsl
      rcases h3 with ⟨_, _, h3⟩ | ⟨b', _, _, _, h3, _⟩
      · rw [h3]; exact List.nodup_nil
      · rw [h3]; simp
    refine ⟨_, H, _, hs.regroup hβ (ν' := ν) (β' := β') (fun _ _ h => h) (Nat.le_refl _) (fun q hq => ?_) (fun q hq => rfl) ?_ ?_ ?_, hK⟩
    · have := hs.fresh q hq
      refine ⟨this.1, ?_⟩
      rw [rlk_rset, if_neg (fun e => by subst e; rw [this.2] at hres; cases hres), rlk_rset, if_neg (fun e => by subst e; rw [this.2] at hu; cases hu)]
      exact this.2
    · intro q r hq
      rcases hget q r hq with ⟨rfl, rfl⟩ | ⟨rfl, rfl⟩ | ⟨h1, h2, h3⟩
      · rw [hβt]
        refine ⟨b, hh, e, Bss.set i (β u), rfl, by rw [List.length_set]; exact e1, e2, ⟨by rw [List.length_set]; exact e3.l1, by rw [List.length_set, List.length_set]; exact e3.l2, ?_, fun p hp => by cases hp⟩, ?_⟩
        · intro k xs' v Bs g1 g2 g3
          rw [List.getElem?_set] at g3 g1
          by_cases hik : i = k
          · subst hik
            rw [if_pos rfl, if_pos hi2] at g3
            rw [if_pos rfl, if_pos hi] at g1
            injection g3 with g3; subst g3
            injection g1 with g1; subst g1
            rw [List.getElem?_eq_getElem hi1] at g2; injection g2 with g2; subst g2
            exact ⟨r1, hsl⟩
          · rw [if_neg hik] at g3 g1
            obtain ⟨s1, s2⟩ := e3.row k xs' v Bs g1 g2 g3
            exact ⟨s1, s2.2 hik⟩
        · rw [List.nodup_cons]
          refine ⟨fun hm => ?_, ?_⟩
          · rcases flat_set hm with hk | ⟨j, Bs, hj, hB, hk⟩
            · exact hdisu b hk (by rw [e0]; exact List.mem_cons_self ..)
            · exact (List.nodup_cons.1 e4).1 (List.mem_flatten.2 ⟨Bs, List.mem_of_getElem? hB, hk⟩)
          · rw [flat_nodup]
            refine ⟨fun Bs hB => ?_, fun j k Bs Cs x hjk hj hk h1 h2 => ?_⟩
            · obtain ⟨j, hj, e⟩ := List.mem_iff_getElem.1 hB
              rw [List.getElem_set] at e
              by_cases hij : i = j
              · rw [if_pos hij] at e; subst e; exact hunod
              · rw [if_neg hij] at e; subst e; exact hnd.1 _ (List.getElem_mem _)
            · have hin : ∀ (j : Nat) (Bs : List Nat), Bss[j]? = some Bs → x ∈ Bs → x ∈ β q := fun j Bs hB hx => by
                rw [e0]; exact List.mem_cons_of_mem _ (List.mem_flatten.2 ⟨Bs, List.mem_of_getElem? hB, hx⟩)
              rw [List.getElem?_set] at hj hk
              by_cases hij : i = j
              · rw [if_pos hij, if_pos (by omega)] at hj; injection hj with hj; subst hj
                by_cases hik : i = k
                · omega
                · rw [if_neg hik] at hk; exact hdisu x h1 (hin k Cs hk h2)
              · rw [if_neg hij] at hj
                by_cases hik : i = k
                · rw [if_pos hik, if_pos (by omega)] at hk; injection hk with hk; subst hk
                  exact hdisu x h2 (hin j Bs hj h1)
                · rw [if_neg hik] at hk; exact hnd.2 j k Bs Cs x hjk hj hk h1 h2
      · rw [hβu]; rfl
      · rw [hβo q h1 h2]; exact hβ.ok q r h3
    · intro q p r1 r2 k hq hp' hqp h1 h2
      rcases hget q r1 hq with ⟨rfl, rfl⟩ | ⟨rfl, rfl⟩ | ⟨q1, q2, q3⟩
      · rcases hget p r2 hp' with ⟨rfl, rfl⟩ | ⟨rfl, rfl⟩ | ⟨p1, p2, p3⟩
        · exact hqp rfl
        · rw [hβu] at h2; cases h2
        · rw [hβo p p1 p2] at h2
          rcases hsub k h1 with h1 | h1
          · exact hβ.dis _ _ _ _ k hres p3 hqp h1 h2
          · exact hβ.dis _ _ _ _ k hu p3 (Ne.symm p2) h1 h2
      · rw [hβu] at h1; cases h1
      · rw [hβo q q1 q2] at h1
        rcases hget p r2 hp' with ⟨rfl, rfl⟩ | ⟨rfl, rfl⟩ | ⟨p1, p2, p3⟩
        · rcases hsub k h2 with h2 | h2
          · exact hβ.dis _ _ _ _ k q3 hres hqp h1 h2
          · exact hβ.dis _ _ _ _ k q3 hu q2 h1 h2
        · rw [hβu] at h2; cases h2
        · rw [hβo p p1 p2] at h2; exact hβ.dis _ _ _ _ k q3 p3 hqp h1 h2
    · intro q r k hq hk
      rcases hget q r hq with ⟨rfl, rfl⟩ | ⟨rfl, rfl⟩ | ⟨q1, q2, q3⟩
      · rcases hsub k hk with hk | hk
        · exact ⟨_, _, hres, hk⟩
        · exact ⟨u, _, hu, hk⟩
      · rw [hβu] at hk; cases hk
      · exact ⟨q, r, q3, by rw [hβo q q1 q2] at hk; exact hk⟩
  · exact h.elim
theorem gh1_sat {g : Gh} (hs : SatN B ν H n st a w) (h : gh1 K st g) : ∃ ν' H' st', SatN B ν' H' n st' a w ∧ K st' := by
  cases g with
  | frz t => exact ghFrz_sat hs h
  | trim d => exact ghTrim_sat hs h
  | nil d => exact ghNil_sat hs h
  | det t i => exact ghDet_sat hs h
  | att t => exact ghAtt_sat hs h
  | nilc t i => exact ghNilc_sat hs h
theorem ghV_sat : ∀ (l : List Gh) {ν : Nat → Option Value} {H : Hp} {st : St}, SatN B ν H n st a w → ghV K l st → ∃ ν' H' st', SatN B ν' H' n st' a w ∧ K st'
  | [], ν, H, st, hs, h => ⟨ν, H, st, hs, h⟩
  | g :: l, ν, H, st, hs, h => by
    obtain ⟨ν', H', st', h1, h2⟩ := gh1_sat (K := ghV K l) hs h
    exact ghV_sat l h1 h2
/-- Behind a region. -/
theorem ghC_next {N : Act → World → Prop} {b : Bool} (hN : Next B n K N) : Next B n (ghC K b) N := by
  intro st a w ν H hs h
  cases b with
  | false => exact hN _ _ _ _ _ hs h
  | true =>
    obtain ⟨l, h⟩ := h
    obtain ⟨ν', H', st', h1, h2⟩ := ghV_sat l hs h
    exact hN _ _ _ _ _ h1 h2
end
end Go.Proofs.Ytbpobdlahighoaa.Sx
