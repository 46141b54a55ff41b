/- The engine tells the truth: operations. -/
import Derived.Test.YtbpobdlahighoaaSxJ
namespace Go.Proofs.Ytbpobdlahighoaa.Sx
open Go
set_option linter.unusedVariables false
set_option linter.unusedSimpArgs false

section
variable {C : Cx} {B : Base} {ν ν' : Nat → Option Value} {H : Hp} {st : St} {x y s : SV} {c : Prop} {u z : Value} {t : Nat} {w w' : World} {a : Act} {d : Option Nat} {K : St → Prop}
/-- What is to be shown behind an operation: whatever state comes of it, with K, will do. -/
def Next (B : Base) (n : Nat) (K : St → Prop) (N : Act → World → Prop) : Prop := ∀ st a w ν H, SatN B ν H n st a w → K st → N a w

theorem put_next {N : Act → World → Prop} {n : Nat} (hs : SatN B ν H n st a w) (h : vput n d s K st) (hN : Next B n K N) {v : Value} (hv : Den ν H s v) : N (a.put d v) w := by
  cases d with
  | none => exact hN _ _ _ _ _ hs h
  | some d => exact hN _ _ _ _ _ (hs.put h.1 hv) h.2
theorem pc_next {N : Act → World → Prop} {n : Nat} {r : Option (Prop × SV)} {o : Oper} {Q : Exit → Act → World → Prop} (hs : SatN B ν H n st a w) (h : pc n o.dst r K st) (hN : Next B n K N)
    (hr : ∀ c s, r = some (c, s) → c → ∃ v, (execOp a.eval o).run C.P w = .ok (.value v) w ∧ Den ν H s v) : o.wp C.P a w N Q := by
  cases r with
  | none => exact h.elim
  | some r =>
    obtain ⟨c, s⟩ := r
    obtain ⟨v, h1, h2⟩ := hr c s rfl h.1
    unfold Oper.wp
    rw [h1]
    exact put_next hs h.2 hN h2
theorem pure_next {N : Act → World → Prop} {o : Oper} {Q : Exit → Act → World → Prop} (hs : SatN B ν H C.n st a w) (h : pc C.n o.dst (vpure C.P o.op st) K st) (hN : Next B C.n K N) : o.wp C.P a w N Q :=
  pc_next hs h hN fun c s hr hc => by
    obtain ⟨v, h1, h2⟩ := vpure_sound (o := o) hs.env hs.res hr hc
    exact ⟨v, h1 w, h2⟩

/-! ### stores into cells -/
theorem hp_setCell {b o : Nat} {cs : List Value} {e : TypeId} {v : Value} (hb : hp w b = some (.cells cs.toArray e (0, 0))) (k : Nat) :
    hp (w.setCell ⟨b, o, none⟩ v) k = if k = b then some (.cells (cs.set o v).toArray e (0, 0)) else hp w k := by
  have hlt := hp_lt hb
  show (w.heap.modify b _)[k]? = _
  rw [Array.getElem?_modify]
  by_cases e1 : k = b
  · subst e1
    rw [if_pos rfl, if_pos rfl]
    show Option.map _ (hp w k) = _
    rw [hb]
    simp
  · rw [if_neg (fun h => e1 h.symm), if_neg e1]; rfl
theorem frozen_of {b o : Nat} {cs : Array Value} {e : TypeId} (hb : hp w b = some (.cells cs e (0, 0))) : w.frozen? ⟨b, o, none⟩ = false := by
  unfold World.frozen?
  have : w.heap[b]? = some (.cells cs e (0, 0)) := hb
  simp [this]
/-- Cells stored one behind the other. -/
theorem run_storeCells {P : Program} : ∀ (vs : List Value) (b o i : Nat) (cs : List Value) (e : TypeId) (w : World), hp w b = some (.cells cs.toArray e (0, 0)) → (∀ v ∈ vs, v.oneCell' = true) → o + i + vs.length ≤ cs.length →
    ∃ w', (storeCells ⟨b, o, none⟩ vs i).run P w = .ok () w' ∧ (∀ k, hp w' k = if k = b then some (.cells (cs.take (o + i) ++ (vs ++ cs.drop (o + i + vs.length))).toArray e (0, 0)) else hp w k) ∧
      w'.os = w.os ∧ w'.tape = w.tape ∧ w'.output = w.output ∧ w'.heap.size = w.heap.size ∧ w'.drawn = w.drawn
  | [], b, o, i, cs, e, w, hb, _, _ => ⟨w, rfl, fun k => by
      by_cases e1 : k = b
      · subst e1; simp [hb]
      · simp [e1], rfl, rfl, rfl, rfl, rfl⟩
  | v :: vs, b, o, i, cs, e, w, hb, h1, hl => by
    simp only [List.length_cons] at hl
    have hc : w.cell? ⟨b, o + i, none⟩ = some (cs[o + i]'(by omega)) := by
      rw [cell_hp]; simp [Hp.cell, hb]
    have hrun : (store (⟨b, o + i, none⟩ : Addr) v).run P w = .ok () (w.setCell ⟨b, o + i, none⟩ v) := by
      rw [run_store P w _ v _ (h1 v (by simp)), hc]
      simp only []
      rw [frozen_of hb]; rfl
    have hset := hp_setCell (o := o + i) (v := v) hb
    obtain ⟨w', h2, h3, h4, h5, h6, h7⟩ := run_storeCells vs b o (i + 1) (cs.set (o + i) v) e (w.setCell ⟨b, o + i, none⟩ v) (by rw [hset, if_pos rfl]) (fun u hu => h1 u (by simp [hu])) (by simp; omega)
    refine ⟨w', ?_, fun k => ?_, h4, h5, h6, by rw [h7.1]; simp, h7.2⟩
    · unfold storeCells
      rw [Sem.run_bind, Addr.add_none, hrun, Result.andThen_ok]
      exact h2
    · rw [h3 k]
      by_cases e1 : k = b
      · rw [if_pos e1, if_pos e1]
        congr 3
        have hlt : o + i < cs.length := by omega
        rw [show o + (i + 1) = o + i + 1 by omega, List.take_succ_eq_append_getElem (by simpa using hlt), List.getElem_set_self, List.take_set_of_le (Nat.le_refl _), List.drop_set_of_lt (by omega)]
        simp only [List.append_assoc, List.singleton_append, List.cons_append, List.nil_append, List.length_cons]
        rw [show o + i + 1 + vs.length = o + i + (vs.length + 1) by omega]
      · rw [if_neg e1, if_neg e1, hset, if_neg e1]
/-- A block of the call's own is written: what it is now is told; all else stays. -/
theorem SatN.write {β : Nat → List Nat} (h : SatN B ν H C.n st a w) (hβ : SatR ν H B.F (hp w) β st.res) {r r' : Res} {b : Nat} (hr : rlk st.res t = some r) (hb : b ∈ β t) (hk : ∀ k, k ≠ b → hp w' k = hp w k)
    (ho : w'.os = w.os ∧ w'.tape = w.tape ∧ w'.output = w.output ∧ w'.heap.size = w.heap.size ∧ w'.drawn = w.drawn) (hr' : ResOk ν H (hp w') (β t) t r') : SatN B ν H C.n { st with res := rset st.res t r' } a w' := by
  have hown := hβ.own t r b hr hb
  have hle : ∀ {G : Hp}, G.le (hp w) → G b = none → G.le (hp w') := fun hG hn k o hk' => by
    rw [hk k (fun e => by rw [e, hn] at hk'; cases hk')]; exact hG k o hk'
  refine ⟨hle h.sub hown.1, hle h.subF hown.2, h.subH, h.newH, h.env, h.size, ⟨β, ?_, ?_, ?_⟩, ?_, h.keep, h.low, h.defers, ?_⟩
  · intro q r2 hq
    rw [rlk_rset] at hq
    by_cases e : t = q
    · subst e; rw [if_pos rfl] at hq; injection hq with hq; subst hq; exact hr'
    · rw [if_neg e] at hq
      refine (hβ.ok q r2 hq).keep (fun _ _ h => h) (Hp.le.refl _) (fun k o hxk hko => ?_)
      rw [hk k ?_]; exact hko
      intro ek; subst ek
      exact hβ.dis t q r r2 k hr hq e hb hxk
  · intro q p r1 r2 k hq hp' hqp h1 h2
    rw [rlk_rset] at hq hp'
    have e1 : ∃ r, rlk st.res q = some r := by
      by_cases e : t = q
      · subst e; exact ⟨r, hr⟩
      · rw [if_neg e] at hq; exact ⟨_, hq⟩
    have e2 : ∃ r, rlk st.res p = some r := by
      by_cases e : t = p
      · subst e; exact ⟨r, hr⟩
      · rw [if_neg e] at hp'; exact ⟨_, hp'⟩
    obtain ⟨x1, e1⟩ := e1
    obtain ⟨x2, e2⟩ := e2
    exact hβ.dis q p x1 x2 k e1 e2 hqp h1 h2
  · intro q r2 k hq hk2
    rw [rlk_rset] at hq
    by_cases e : t = q
    · subst e; exact hβ.own t r k hr hk2
    · rw [if_neg e] at hq; exact hβ.own q r2 k hq hk2
  · intro q hq
    have := h.fresh q hq
    refine ⟨this.1, ?_⟩
    rw [rlk_rset]
    rw [if_neg (fun e => by subst e; rw [hr] at this; cases this.2)]; exact this.2
  · exact ⟨ho.1.trans h.kp.os, ho.2.1.trans h.kp.tape, ho.2.2.1.trans h.kp.output, by have := h.kp.size; omega, by have := h.kp.drawn; omega⟩
theorem rdl_app : ∀ {l m : List SV} {xs ys : List Value}, RDenL H l xs → RDenL H m ys → RDenL H (l ++ m) (xs ++ ys)
  | _, _, _, _, .nil, k => k
  | _, _, _, _, .cons h r, k => .cons h (rdl_app r k)
theorem splice_len {l nl : List SV} {o : Nat} (h : o + nl.length ≤ l.length) : (splice l nl o).length = l.length := by
  simp [splice]; omega
theorem splice_den {l nl : List SV} {cs ncs : List Value} {o : Nat} (h : DenL ν H l cs) (hn : DenL ν H nl ncs) : DenL ν H (splice l nl o) (cs.take o ++ (ncs ++ cs.drop (o + ncs.length))) := by
  have := hn.length
  unfold splice
  rw [this]
  exact (h.take o).app (hn.app (h.drop _))
theorem splice_mid (A r D vals : List Value) (o : Nat) (h : o + vals.length ≤ r.length) : (A ++ (r ++ D)).take (A.length + o) ++ (vals ++ (A ++ (r ++ D)).drop (A.length + o + vals.length)) = A ++ ((r.take o ++ (vals ++ r.drop (o + vals.length))) ++ D) := by
  rw [List.take_length_add_append, Nat.add_assoc, List.drop_length_add_append, List.take_append_of_le_length (by omega), List.drop_append_of_le_length h]
  simp only [List.append_assoc]
theorem rows_split {α : Type} {sz : Nat} {enc : α → List SV} : ∀ {xs : List α} {cs : List Value} (i : Nat), RowsDen H sz enc xs cs → i < xs.length →
    ∃ A r D, cs = A ++ (r ++ D) ∧ A.length = i * sz ∧ r.length = sz ∧ RDenL H (encAt enc xs i) r ∧ ∀ y r', RDenL H (enc y) r' → r'.length = sz → RowsDen H sz enc (xs.set i y) (A ++ (r' ++ D))
  | [], _, _, _, h => by simp at h
  | x :: xs, cs, 0, ⟨r, cs', e, hl, hd, hr⟩, _ => ⟨[], r, cs', e, by simp, hl, hd, fun y r' h1 h2 => ⟨r', cs', rfl, h2, h1, hr⟩⟩
  | x :: xs, cs, i + 1, ⟨q, cs', e, hl, hd, hr⟩, h => by
    obtain ⟨A, r, D, h1, h2, h3, h4, h5⟩ := rows_split i hr (by simpa using h)
    refine ⟨q ++ A, r, D, by rw [e, h1, List.append_assoc], by rw [List.length_append, hl, h2, Nat.succ_mul]; omega, h3, by simpa [encAt] using h4, fun y r' k1 k2 => ⟨q, A ++ (r' ++ D), by rw [List.append_assoc], hl, hd, h5 y r' k1 k2⟩⟩
theorem run_storeAt {P : Program} {n bb : Nat} {zz : Option Value} {b o : Nat} {v : Value} {cs : List Value} {e : TypeId} (hi : (tdOf P t).inf = some (n, bb, zz)) (hsz : v.cells.size = n) (h1 : ∀ u ∈ v.cells.toList, u.oneCell' = true)
    (hb : hp w b = some (.cells cs.toArray e (0, 0))) (hl : o + n ≤ cs.length) :
    ∃ w', (Instr.storeAt t (.pointer (some ⟨b, o, none⟩)) v).run P w = .ok () w' ∧ (∀ k, hp w' k = if k = b then some (.cells (cs.take o ++ (v.cells.toList ++ cs.drop (o + v.cells.toList.length))).toArray e (0, 0)) else hp w k) ∧
      w'.os = w.os ∧ w'.tape = w.tape ∧ w'.output = w.output ∧ w'.heap.size = w.heap.size ∧ w'.drawn = w.drawn := by
  have hlen : v.cells.toList.length = n := by simpa using hsz
  obtain ⟨w', h2, h3, h4⟩ := run_storeCells (P := P) v.cells.toList b o 0 cs e w hb h1 (by rw [hlen]; omega)
  refine ⟨w', ?_, h3, h4⟩
  unfold Instr.storeAt storeVar
  simp only [Instr.sureAddr, Sem.run_bind, Sem.run_pure, Result.andThen_ok, run_size hi]
  rw [if_neg (by simp [hsz])]
  exact h2
theorem store_next {N : Act → World → Prop} {o : Oper} {Q : Exit → Act → World → Prop} {X Y : Operand} (ho : o.op = .store t X Y) (hs : SatN B ν H C.n st a w)
    (h : vstore C.P C.n o.dst t (ev st X) (ev st Y) K st) (hN : Next B C.n K N) : o.wp C.P a w N Q := by
  have hx := ev_den hs.env X
  have hy := ev_den hs.env Y
  obtain ⟨β, hβ⟩ := hs.res
  have fin : ∀ {w' : World}, (Instr.storeAt t (a.eval X) (a.eval Y)).run C.P w = .ok () w' → N (a.put o.dst undef) w' → o.wp C.P a w N Q := by
    intro w' h1 h2
    unfold Oper.wp execOp
    simp only [ho, Sem.run_bind, h1, Result.andThen_ok, Sem.run_pure]
    exact h2
  unfold vstore vst at h
  split at h
  · rename_i m _ _ nl uu oo hi hnl heq
    rw [heq] at hx
    obtain ⟨b, e1, hb⟩ := hx.ptr_inv
    obtain ⟨hd, h1⟩ := cells_den hy hnl
    unfold vst1 at h
    split at h
    · rename_i l hres
      obtain ⟨⟨hm, hl⟩, hK⟩ := h
      obtain ⟨b', cs, e, e0, e2, e3, e4⟩ := hβ.ok _ _ hres
      rw [hb] at e2; injection e2 with e2; injection e2 with e2; injection e2 with e2; injection e2 with e2; subst e2
      have hlen := hd.length
      have hlc := e4.length
      obtain ⟨w', k1, k2, k3⟩ := run_storeAt (P := C.P) (o := oo) hi (by rw [← Array.length_toList, ← hlen, hm]) (ones_den hd h1) e3 (by omega)
      refine fin (by rw [e1]; exact k1) ?_
      have hsat : SatN B ν H C.n { st with res := rset st.res uu (.cells (splice l nl oo)) } a w' := by
        refine hs.write hβ hres (b := b) (by simp [e0]) (fun k hk => by rw [k2, if_neg hk]) k3 ?_
        exact ⟨b, _, e, e0, hb, by rw [k2, if_pos rfl], splice_den e4 hd⟩
      exact put_next hsat hK hN (.any _)
    · exact h.elim
  · rename_i m _ _ nl uu sz i oo hi hnl heq
    rw [heq] at hx
    obtain ⟨b, nn, cc, e1, hb⟩ := hx.hp_inv
    obtain ⟨hd, h1⟩ := cells_den hy hnl
    have hlen := hd.length
    unfold vst2 at h
    split at h
    · rename_i sz' kk l hres
      obtain ⟨⟨hm, hl⟩, hK⟩ := h
      obtain ⟨b', cs, e, e0, e2, e3, e4, e5, e6⟩ := hβ.ok _ _ hres
      rw [hb] at e2; injection e2 with e2; injection e2 with e2 q1 q2; injection e2 with e2; injection e2 with e2; subst e2; subst q1; subst q2
      have hlc := e4.length
      obtain ⟨w', k1, k2, k3⟩ := run_storeAt (P := C.P) (o := i * sz + oo) hi (by rw [← Array.length_toList, ← hlen, hm]) (ones_den hd h1) e3 (by omega)
      refine fin (by rw [e1]; exact k1) ?_
      have hsat : SatN B ν H C.n { st with res := rset st.res uu (.lit sz' cc (splice l nl (i * sz + oo))) } a w' := by
        refine hs.write hβ hres (b := b) (by simp [e0]) (fun k hk => by rw [k2, if_neg hk]) k3 ?_
        exact ⟨b, _, e, e0, hb, by rw [k2, if_pos rfl], splice_den e4 hd, by rw [splice_len (by omega)]; exact e5, e6⟩
      exact put_next hsat hK hN (.any _)
    · rename_i α sz' enc xs hres
      obtain ⟨⟨rfl, hm, hrd, ho⟩, y, ⟨hi2, hy2⟩, hK⟩ := h
      obtain ⟨p, cc', e2, hle, e3⟩ := hβ.ok _ _ hres
      rw [hb] at e2; injection e2 with e2; injection e2 with e2 q1 q2; subst e2; subst q2
      rcases e3 with ⟨e3, _⟩ | ⟨b', cs, junk, e, e0, e4, e5, e6, e7⟩
      · omega
      injection e4 with e4; injection e4 with e4; subst e4
      obtain ⟨A, r, D, r1, r2, r3, r4, r5⟩ := rows_split i e6 hi2
      have hvl : (a.eval Y).cells.toList.length = m := by rw [← hlen, hm]
      have hll : i * sz' + oo + m ≤ (cs ++ junk).length := by rw [List.length_append, r1, List.length_append, List.length_append, r2, r3]; omega
      obtain ⟨w', k1, k2, k3⟩ := run_storeAt (P := C.P) (o := i * sz' + oo) hi (by rw [← Array.length_toList, hvl]) (ones_den hd h1) e5 hll
      refine fin (by rw [e1]; exact k1) ?_
      have hrow : RDenL H (enc y) (r.take oo ++ ((a.eval Y).cells.toList ++ r.drop (oo + (a.eval Y).cells.toList.length))) := by
        rw [← hy2]
        unfold splice
        rw [hlen]
        exact rdl_app (r4.take oo) (rdl_app (rds_den hd hrd) (r4.drop _))
      have hlr : (r.take oo ++ ((a.eval Y).cells.toList ++ r.drop (oo + (a.eval Y).cells.toList.length))).length = sz' := by
        rw [List.length_append, List.length_append, List.length_take, List.length_drop]; omega
      have hsat : SatN B ν H C.n { st with res := rset st.res uu (.sl sz' enc (xs.set i y)) } a w' := by
        refine hs.write hβ hres (b := b) (by simp [e0]) (fun k hk => by rw [k2, if_neg hk]) k3 ?_
        refine ⟨_, cc, by rw [List.length_set, ← q1]; exact hb, by rw [List.length_set]; exact hle, .inr ⟨b, _, junk, e, e0, rfl, ?_, r5 y _ hrow hlr, ?_⟩⟩
        · rw [k2, if_pos rfl]
          congr 3
          have := splice_mid A r (D ++ junk) (a.eval Y).cells.toList oo (by omega)
          rw [r1, List.append_assoc, List.append_assoc, ← r2, this]
          simp only [List.append_assoc]
        · have : (cs ++ junk).length = cc * sz' := e7
          rw [r1] at this
          simp only [List.length_append] at this hlr ⊢
          omega
      exact put_next hsat hK hN (.any _)
    · rename_i α sz' enc xss j s0 hres
      split at h
      · rename_i s1
        split at h
        · rename_i hji
          subst hji
          obtain ⟨⟨hm, hsz, hoo⟩, hK⟩ := h
          subst hm; subst hsz; subst hoo
          obtain ⟨b', hs', e, Bss, e0, e2, e3, e4, e5⟩ := hβ.ok _ _ hres
          rw [hb] at e2; injection e2 with e2; injection e2 with e2 q1 q2; injection e2 with e2; injection e2 with e2; subst e2
          have hvl : (a.eval Y).cells.toList.length = 1 := by rw [← hlen]; rfl
          obtain ⟨v1, hv1⟩ : ∃ v, (a.eval Y).cells.toList = [v] := by
            match hh : (a.eval Y).cells.toList, hvl with
            | [v], _ => exact ⟨v, rfl⟩
          have hlt : j < xss.length := e4.lt _ rfl
          have hlt2 : j < hs'.length := by rw [e4.l1]; exact hlt
          obtain ⟨w', k1, k2, k3⟩ := run_storeAt (P := C.P) (o := j * 1 + 0) hi (by rw [← Array.length_toList, hvl]) (ones_den hd h1) e3 (by omega)
          refine fin (by rw [e1]; exact k1) ?_
          have hset : hs'.take (j * 1 + 0) ++ ((a.eval Y).cells.toList ++ hs'.drop (j * 1 + 0 + (a.eval Y).cells.toList.length)) = hs'.set j v1 := by
            rw [hv1, List.set_eq_take_append_cons_drop, if_pos hlt2]
            simp
          have hden1 : Den ν H s1 v1 ∧ v1.oneCell' = true := by
            rw [hv1] at hd
            cases hd with
            | cons hd _ => exact ⟨hd, ones_den (.cons hd .nil) h1 v1 (by simp)⟩
          have hsat : SatN B ν H C.n { st with res := rset st.res uu (.nest sz' enc xss (some (j, s1))) } a w' := by
            refine hs.write hβ hres (b := b) (by simp [e0]) (fun k hk => by rw [k2, if_neg hk]) k3 ?_
            refine ⟨b, hs'.set j v1, e, Bss, e0, by rw [hb, q1, q2], by rw [k2, if_pos rfl, hset], ⟨by rw [List.length_set]; exact e4.l1, e4.l2, ?_, fun p hp => by injection hp with hp; subst hp; exact hlt⟩, e5⟩
            intro i xs v Bs g1 g2 g3
            rw [List.getElem?_set] at g2
            by_cases hij : j = i
            · subst hij
              rw [if_pos rfl, if_pos hlt2] at g2
              injection g2 with g2
              subst g2
              obtain ⟨r1, r2⟩ := e4.row j xs _ Bs g1 (List.getElem?_eq_getElem hlt2) g3
              exact ⟨hden1.2, fun _ => ⟨(r2.1 rfl).1, hden1.1⟩, fun h => absurd rfl h⟩
            · rw [if_neg hij] at g2
              obtain ⟨r1, r2⟩ := e4.row i xs _ Bs g1 g2 g3
              refine ⟨r1, fun h => absurd h hij, fun _ => (r2.2 hij).keep (Hp.le.refl _) (fun k q hk hq => ?_)⟩
              rw [k2, if_neg ?_]
              · exact hq
              · intro ek
                subst ek
                have : k ∈ Bss.flatten := List.mem_flatten.2 ⟨Bs, List.mem_of_getElem? g3, hk⟩
                exact (List.nodup_cons.1 e5).1 this
          exact put_next hsat hK hN (.any _)
        · exact h.elim
      · exact h.elim
    · exact h.elim
  · exact h.elim
theorem load_next {N : Act → World → Prop} {o : Oper} {Q : Exit → Act → World → Prop} {X : Operand} (ho : o.op = .load t X) (hs : SatN B ν H C.n st a w)
    (h : pc C.n o.dst (vload C.P st t (ev st X)) K st) (hN : Next B C.n K N) : o.wp C.P a w N Q :=
  pc_next hs h hN fun c s hr hc => by
    obtain ⟨v, h1, h2⟩ := vload_sound hs.res.ok hs.sub hr hc (ev_den hs.env X)
    refine ⟨v, ?_, h2⟩
    unfold execOp
    simp only [ho, Sem.run_bind, h1 w (Hp.le.refl _), Result.andThen_ok, Sem.run_pure]
theorem new_next {N : Act → World → Prop} {o : Oper} {Q : Exit → Act → World → Prop} {cs : List Value} {l : List SV} {e : TypeId} (hs : SatN B ν H C.n st a w) (hd : DenL ν H l cs)
    (hrun : (execOp a.eval o).run C.P w = .ok (.value (.pointer (some ⟨w.heap.size, 0, none⟩))) (w.alloc (.cells cs.toArray e (0, 0)))) (h : vnew C.n o.dst (.ptr st.nx 0) (.cells l) K st) (hN : Next B C.n K N) : o.wp C.P a w N Q := by
  have hn : NLe ν (upd ν st.nx (some (.pointer (some ⟨w.heap.size, 0, none⟩)))) := nle_upd (hs.fresh st.nx (Nat.le_refl _)).1
  have hsat := hs.alloc (.cells cs.toArray e (0, 0)) (.pointer (some ⟨w.heap.size, 0, none⟩)) (.cells l) [w.heap.size] (by simp)
    ⟨w.heap.size, cs, e, rfl, upd_same _ _ _, by rw [hp_alloc, if_pos rfl], hd.mono hn (Hp.le.refl _)⟩
  unfold Oper.wp
  rw [hrun]
  exact put_next hsat h hN (.ptr (upd_same _ _ _))
theorem alloc_next {N : Act → World → Prop} {o : Oper} {Q : Exit → Act → World → Prop} {e n b : Nat} {z : Value} (ho : o.op = .alloc e) (hi : (tdOf C.P e).inf = some (n, b, some z)) (hs : SatN B ν H C.n st a w)
    (h : vnew C.n o.dst (.ptr st.nx 0) (.cells (zcells z)) K st) (hN : Next B C.n K N) : o.wp C.P a w N Q := by
  refine new_next (e := e) hs (zcells_den z) ?_ h hN
  unfold execOp
  simp only [ho, Instr.alloc, newVar, newRow, Sem.run_bind, run_zero hi, Result.andThen_ok, run_newObj, Sem.run_pure, Array.toArray_toList]
  rfl
theorem run_box {e : Nat} {X : Operand} {o : Oper} (ho : o.op = .box e X) : (execOp a.eval o).run C.P w = .ok (.value (.pointer (some ⟨w.heap.size, 0, none⟩))) (w.alloc (.cells (a.eval X).cells.toList.toArray e (0, 0))) := by
  unfold execOp
  simp only [ho, Instr.box, newVar, newRow, Sem.run_bind, Result.andThen_ok, run_newObj, Sem.run_pure, Array.toArray_toList]
  rfl
open Classical in
/-- Something new that nobody will write. -/
theorem SatN.froze {n : Nat} (h : SatN B ν H n st a w) (o : Obj) : ∃ H', H.le H' ∧ H' w.heap.size = some o ∧ SatN B ν H' n st a (w.alloc o) := by
  refine ⟨fun b => if b = w.heap.size then some o else H b, ?_, if_pos rfl, ?_⟩
  · intro b q hb
    show (if b = w.heap.size then _ else _) = _
    rw [if_neg (by have := hp_lt (h.sub b q hb); omega)]; exact hb
  have hle : H.le (fun b => if b = w.heap.size then some o else H b) := by
    intro b q hb
    show (if b = w.heap.size then _ else _) = _
    rw [if_neg (by have := hp_lt (h.sub b q hb); omega)]; exact hb
  obtain ⟨β, hβ⟩ := h.res
  refine ⟨?_, h.subF.trans (hp_alloc_le o), h.subH.trans hle, ?_, fun k => (h.env k).mono (fun _ _ h => h) hle, h.size, ⟨β, ?_, hβ.dis, ?_⟩, h.fresh, h.keep, h.low, h.defers, ?_⟩
  · intro b q hb
    have hb' : (if b = w.heap.size then some o else H b) = some q := hb
    rw [hp_alloc]
    by_cases e : b = w.heap.size
    · rw [if_pos e] at hb' ⊢; exact hb'
    · rw [if_neg e] at hb' ⊢; exact h.sub b q hb'
  · intro b q hb hn
    show (if b = w.heap.size then _ else _) = _
    rw [if_neg (by have := hp_lt (h.subF b q hb); omega)]; exact h.newH b q hb hn
  · intro t r ht
    exact (hβ.ok t r ht).keep (fun _ _ h => h) hle (fun b q _ hq => hp_alloc_le o b q hq)
  · intro t r b ht hb
    have := hβ.own t r b ht hb
    obtain ⟨q, hq⟩ := (hβ.ok t r ht).blk_lt hb
    refine ⟨?_, this.2⟩
    show (if b = w.heap.size then _ else _) = _
    rw [if_neg (by have := hp_lt hq; omega)]; exact this.1
  · exact ⟨h.kp.os, h.kp.tape, h.kp.output, by have := h.kp.size; show _ ≤ (w.heap.push o).size; rw [Array.size_push]; omega, h.kp.drawn⟩
theorem box_next {N : Act → World → Prop} {o : Oper} {Q : Exit → Act → World → Prop} {e : Nat} {X : Operand} (ho : o.op = .box e X) (hs : SatN B ν H C.n st a w)
    (h : boxK C o.dst K st (cellsOf (ev st X))) (hN : Next B C.n K N) : o.wp C.P a w N Q := by
  unfold boxK at h
  split at h
  · rename_i l hl
    have hd := (cells_den (ev_den hs.env X) hl).1
    unfold boxF at h
    split at h
    · obtain ⟨hrd, h⟩ := h
      obtain ⟨H', h1, h2, h3⟩ := hs.froze (.cells (a.eval X).cells.toList.toArray e (0, 0))
      unfold Oper.wp
      rw [run_box ho]
      refine put_next h3 h hN (.rop ((rds_den hd hrd).mono h1) (fun j u hj => ?_))
      simp only [Hp.cell, h2, Option.isSome_none, Bool.false_eq_true, if_false, List.getElem?_toArray, Nat.zero_add]
      exact hj
    · exact new_next (e := e) hs hd (run_box ho) h hN
  · exact h.elim
end
end Go.Proofs.Ytbpobdlahighoaa.Sx
