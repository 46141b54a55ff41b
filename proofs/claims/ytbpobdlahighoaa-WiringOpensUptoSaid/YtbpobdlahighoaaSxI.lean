/- Loads; the world against the state; what is made anew; stores into cells. -/
import Derived.Test.YtbpobdlahighoaaSxH
namespace Go.Proofs.Ytbpobdlahighoaa.Sx
open Go
set_option linter.unusedVariables false
set_option linter.unusedSimpArgs false

/-! ### Loads -/
def vldA (P : Program) (st : St) (x : SV) : Option (List SV) := match x with
  | .ptr u o => match rlk st.res u with | some (.cells l) => some (l.drop o) | _ => none
  | .rop l => some l
  | .hp u sz i o => match rlk st.res u with
    | some (.sl sz' enc xs) => if sz' = sz then some ((encAt enc xs i).drop o) else none
    | some (.lit sz' m l) => if sz' = sz then some (l.drop (i * sz + o)) else none
    | some (.nest _ _ _ (some (j, s))) => if sz = 1 then if j = i then some ([s].drop o) else none else none
    | _ => none
  | _ => none
def vload (P : Program) (st : St) (t : Nat) (x : SV) : Option (Prop × SV) := match (tdOf P t).inf, vldA P st x with
  | some (n, _, _), some l => if (tdOf P t).kind.ok then match mkVal (tdOf P t).kind.agg (l.take n) with
    | some s => some ((l.take n).length = n ∧ ((tdOf P t).kind.agg = false → n = 1), s)
    | none => none
    else none
  | _, _ => none

section
variable {P : Program} {ν : Nat → Option Value} {H G : Hp} {st : St} {x y s : SV} {c : Prop} {u z : Value} {t : Nat} {w : World} {a : Act}
theorem rows_get {α : Type} {sz : Nat} {enc : α → List SV} : ∀ {xs : List α} {cs : List Value} (i : Nat) (x : α), RowsDen H sz enc xs cs → xs[i]? = some x →
    ∃ r, RDenL H (enc x) r ∧ r.length = sz ∧ ∀ j u, r[j]? = some u → cs[i * sz + j]? = some u
  | [], _, i, x, _, h => by simp at h
  | y :: xs, cs, 0, x, ⟨r, cs', e, hl, hd, _⟩, h => by
    simp only [List.getElem?_cons_zero, Option.some.injEq] at h
    subst h
    refine ⟨r, hd, hl, fun j u hu => ?_⟩
    rw [Nat.zero_mul, Nat.zero_add, e, List.getElem?_append_left (by rw [List.getElem?_eq_some_iff] at hu; exact hu.1)]
    exact hu
  | y :: xs, cs, i + 1, x, ⟨r, cs', e, hl, hd, hr⟩, h => by
    obtain ⟨q, h1, h2, h3⟩ := rows_get i x hr (by simpa using h)
    refine ⟨q, h1, h2, fun j u hu => ?_⟩
    rw [e, Nat.succ_mul, show i * sz + sz + j = r.length + (i * sz + j) by omega, List.getElem?_append_right (by omega), Nat.add_sub_cancel_left]
    exact h3 j u hu
/-- Where the cells of an address lie. -/
theorem vldA_sound {l : List SV} (hr : ∀ t r, rlk st.res t = some r → ∃ Bs, ResOk ν H G Bs t r) (hHG : H.le G) (h : vldA P st x = some l) (hx : Den ν H x u) :
    ∃ b o cs, u = .pointer (some ⟨b, o, none⟩) ∧ DenL ν H l cs ∧ ∀ j v, cs[j]? = some v → G.cell ⟨b, o + j, none⟩ = some v := by
  unfold vldA at h
  split at h
  · rename_i uu o
    split at h
    · rename_i l' hres
      injection h with h; subst h
      obtain ⟨b, rfl, hb⟩ := hx.ptr_inv
      obtain ⟨_, b', cs, e, _, e1, e2, e3⟩ := hr _ _ hres
      rw [hb] at e1; injection e1 with e1; injection e1 with e1; injection e1 with e1; injection e1 with e1
      subst e1
      refine ⟨b, o, cs.drop o, rfl, e3.drop o, fun j v hj => ?_⟩
      rw [List.getElem?_drop] at hj
      simp only [Hp.cell, e2, Option.isSome_none, Bool.false_eq_true, if_false, List.getElem?_toArray]
      exact hj
    · cases h
  · rename_i l'
    injection h with h; subst h
    obtain ⟨b, o, cs, rfl, hl, hc⟩ := hx.rop_inv
    exact ⟨b, o, cs, rfl, hl.den, fun j v hj => hHG.cell (hc j v hj)⟩
  · rename_i uu sz i o
    obtain ⟨b, n, cc, rfl, hb⟩ := hx.hp_inv
    split at h
    · rename_i α sz' enc xs hres
      split at h
      · rename_i hsz; subst hsz
        injection h with h; subst h
        cases hxi : xs[i]? with
        | none => refine ⟨b, _, [], rfl, ?_, fun j v hj => by simp at hj⟩; simp [encAt, hxi]; exact .nil
        | some xx =>
          obtain ⟨_, p, cc', e1, hle, e2⟩ := hr _ _ hres
          rw [hb] at e1; injection e1 with e1; injection e1 with e1 e3 e4
          rcases e2 with ⟨rfl, _⟩ | ⟨b', cs, junk, ee, _, rfl, e5, e6, _⟩
          · have : i < xs.length := (List.getElem?_eq_some_iff.1 hxi).1
            omega
          · injection e1 with e1; injection e1 with e1; subst e1
            obtain ⟨r, h1, h2, h3⟩ := rows_get i xx e6 hxi
            refine ⟨b, _, r.drop o, rfl, by rw [encAt_some hxi]; exact h1.den.drop o, fun j v hj => ?_⟩
            rw [List.getElem?_drop] at hj
            have := h3 _ _ hj
            simp only [Hp.cell, e5, Option.isSome_none, Bool.false_eq_true, if_false, List.getElem?_toArray]
            rw [Nat.add_assoc, List.getElem?_append_left (by rw [List.getElem?_eq_some_iff] at this; exact this.1)]
            exact this
      · cases h
    · rename_i sz' m l' hres
      split at h
      · rename_i hsz; subst hsz
        injection h with h; subst h
        obtain ⟨_, b', cs, ee, _, e1, e2, e3, _⟩ := hr _ _ hres
        rw [hb] at e1; injection e1 with e1; injection e1 with e1 _ _; injection e1 with e1; injection e1 with e1
        subst e1
        refine ⟨b, _, cs.drop (i * sz' + o), rfl, e3.drop _, fun j v hj => ?_⟩
        rw [List.getElem?_drop] at hj
        simp only [Hp.cell, e2, Option.isSome_none, Bool.false_eq_true, if_false, List.getElem?_toArray]
        exact hj
      · cases h
    · rename_i α sz' enc xss j s hres
      split at h
      · rename_i h1; subst h1
        split at h
        · rename_i hji; subst hji
          injection h with h; subst h
          obtain ⟨_, b', hs, ee, Bss, _, e1, e2, e3, _⟩ := hr _ _ hres
          rw [hb] at e1; injection e1 with e1; injection e1 with e1 _ _; injection e1 with e1; injection e1 with e1
          subst e1
          have hlt : j < xss.length := e3.lt _ rfl
          have g1 : xss[j]? = some xss[j] := List.getElem?_eq_getElem hlt
          have g2 : hs[j]? = some (hs[j]'(by rw [e3.l1]; exact hlt)) := List.getElem?_eq_getElem _
          have g3 : Bss[j]? = some (Bss[j]'(by rw [e3.l2]; exact hlt)) := List.getElem?_eq_getElem _
          have hd := ((e3.row j _ _ _ g1 g2 g3).2.1 rfl).2
          refine ⟨b, _, [hs[j]'(by rw [e3.l1]; exact hlt)].drop o, rfl, (DenL.cons hd .nil).drop o, fun k v hk => ?_⟩
          rw [List.getElem?_drop] at hk
          have hk0 : o + k = 0 := by
            rcases Nat.eq_zero_or_pos (o + k) with h | h
            · exact h
            · rw [List.getElem?_eq_none (by simp; omega)] at hk; cases hk
          have ho : o = 0 := by omega
          have hkk : k = 0 := by omega
          subst ho; subst hkk
          simp only [Nat.add_zero, List.getElem?_cons_zero, Option.some.injEq] at hk
          subst hk
          simp only [Hp.cell, e2, Option.isSome_none, Bool.false_eq_true, if_false, List.getElem?_toArray, Nat.mul_one, Nat.add_zero]
          exact g2
        · cases h
      · cases h
    · cases h
  · cases h
theorem vload_sound (hr : ∀ t r, rlk st.res t = some r → ∃ Bs, ResOk ν H G Bs t r) (hHG : H.le G) (h : vload P st t x = some (c, s)) (hc : c) (hx : Den ν H x u) :
    ∃ r, (∀ w, G.le (hp w) → (Instr.loadAt t u).run P w = .ok r w) ∧ Den ν H s r := by
  unfold vload at h
  split at h
  · rename_i n _ _ l hi hl
    split at h
    · rename_i hok
      split at h
      · rename_i v hv
        obtain ⟨rfl, rfl⟩ := some_pair h
        obtain ⟨b, o, cs, rfl, hd, hcell⟩ := vldA_sound hr hHG hl hx
        have hne : (tdOf P t).kind ≠ .other := by intro e; rw [e] at hok; cases hok
        have hdl := hd.length
        have hlen : (cs.take n).length = n := by have := hc.1; rw [List.length_take] at *; omega
        have hcell' : ∀ w, G.le (hp w) → ∀ j v, (cs.take n)[j]? = some v → w.cell? ((⟨b, o, none⟩ : Addr).add j) = some v := by
          intro w hw j v hj
          rw [Addr.add_none, cell_hp]
          rw [List.getElem?_take] at hj
          split at hj
          · exact hw.cell (hcell j v hj)
          · cases hj
        cases ha : (tdOf P t).kind.agg with
        | true =>
          rw [ha] at hv
          simp only [mkVal, Option.some.injEq] at hv
          subst hv
          refine ⟨.agg (cs.take n).toArray, fun w hw => ?_, .agg (hd.take n)⟩
          unfold Instr.loadAt loadVar
          simp only [Instr.sureAddr, Sem.run_bind, Sem.run_pure, Result.andThen_ok, run_isAgg hne, ha, if_true, run_size hi]
          have := run_loadCells_list (P := P) (w := w) ⟨b, o, none⟩ (cs.take n) (hcell' w hw)
          rw [hlen] at this
          rw [this]; rfl
        | false =>
          rw [ha] at hv
          have hn := hc.2 ha
          subst hn
          cases hlt : l.take 1 with
          | nil => rw [hlt] at hv; simp [mkVal] at hv
          | cons q r =>
            have hr : r = [] := by
              have := congrArg List.length hlt
              simp at this
              exact List.eq_nil_of_length_eq_zero (by omega)
            subst hr
            rw [hlt] at hv
            simp only [mkVal, Option.some.injEq] at hv
            subst hv
            have hg : l[0]? = some q := by
              have h1 : (l.take 1)[0]? = some q := by rw [hlt]; rfl
              simpa using h1
            obtain ⟨x, hx, hdx⟩ := hd.get hg
            refine ⟨x, fun w hw => ?_, hdx⟩
            have hcc := hcell' w hw 0 x (by simpa using hx)
            unfold Instr.loadAt loadVar
            simp only [Instr.sureAddr, Sem.run_bind, Sem.run_pure, Result.andThen_ok, run_isAgg hne, ha, Bool.false_eq_true, if_false, run_load]
            rw [Addr.add_none] at hcc
            rw [show (⟨b, o, none⟩ : Addr) = ⟨b, o + 0, none⟩ from rfl, hcc]
      · cases h
    · cases h
  · cases h
end

/-! ### The world against the state -/
structure Kp (w0 w : World) : Prop where
  os : w.os = w0.os
  tape : w.tape = w0.tape
  output : w.output = w0.output
  size : w0.heap.size ≤ w.heap.size
  drawn : w0.drawn ≤ w.drawn
/-- What a call began with: the world, the handles that came in (n0 of them), what nobody writes (H), what this call does not write (F). -/
structure Base where
  w : World
  ν : Nat → Option Value
  n : Nat
  H : Hp
  F : Hp
  ds : List Nat        -- the marks of its loops over iterators
def mark (D : Nat) : Deferred := { target := .collected D, args := #[] }
/-- The frame and the world of a running call meet the state. -/
structure SatN (B : Base) (ν : Nat → Option Value) (H : Hp) (n : Nat) (st : St) (a : Act) (w : World) : Prop where
  sub : H.le (hp w)
  subF : B.F.le (hp w)
  subH : B.H.le H
  newH : ∀ b o, B.F b = some o → B.H b = none → H b = none
  env : EnvOk ν H st.env a
  size : a.tmps.size = n
  res : SatE ν H B.F (hp w) st.res
  fresh : ∀ t, st.nx ≤ t → ν t = none ∧ rlk st.res t = none
  keep : ∀ t, t < B.n → t ∉ st.mv → ν t = B.ν t
  low : B.n ≤ st.nx
  defers : a.defers = B.ds.map mark
  kp : Kp B.w w
def St.put (st : St) (d : Nat) (s : SV) : St := { st with env := (d, s) :: st.env }
def upd {β : Type _} (f : Nat → β) (t : Nat) (v : β) : Nat → β := fun u => if u = t then v else f u
theorem upd_same {β : Type _} (f : Nat → β) (t : Nat) (v : β) : upd f t v t = v := by simp [upd]
theorem upd_ne {β : Type _} (f : Nat → β) {t u : Nat} (v : β) (h : u ≠ t) : upd f t v u = f u := by simp [upd, h]
theorem nle_upd {ν : Nat → Option Value} {t : Nat} {v : Value} (h : ν t = none) : NLe ν (upd ν t (some v)) := by
  intro u x hu
  by_cases e : u = t
  · subst e; rw [h] at hu; cases hu
  · rw [upd_ne _ _ e]; exact hu

section
variable {P : Program} {B : Base} {ν ν' : Nat → Option Value} {H G g : Hp} {n : Nat} {st : St} {x y s : SV} {c : Prop} {u z : Value} {t : Nat} {w w' : World} {a : Act}
theorem SatN.put (h : SatN B ν H n st a w) {d : Nat} {v : Value} (hd : d < n) (hv : Den ν H s v) : SatN B ν H n (st.put d s) (a.put (some d) v) w where
  sub := h.sub
  subF := h.subF
  subH := h.subH
  newH := h.newH
  env := by
    intro k
    show Den ν H (if d = k then s else lk st.env k) ((a.tmps.setIfInBounds d v).getD k undef)
    by_cases e : d = k
    · subst e
      rw [if_pos rfl]
      have : d < a.tmps.size := by rw [h.size]; exact hd
      simpa [Array.getD, this] using hv
    · rw [if_neg e]
      have := h.env k
      have e2 : (a.tmps.setIfInBounds d v).getD k undef = a.tmps.getD k undef := by
        simp only [Array.getD_eq_getD_getElem?]
        rw [Array.getElem?_setIfInBounds_ne e]
      rw [e2]; exact this
  size := by show (a.tmps.setIfInBounds d v).size = n; simp [h.size]
  res := h.res
  fresh := h.fresh
  keep := h.keep
  low := h.low
  defers := h.defers
  kp := h.kp
theorem SatN.drop (h : SatN B ν H n st a w) {d : Nat} {v : Value} (hd : d < n) : SatN B ν H n (st.put d .any) (a.put (some d) v) w := h.put hd (.any v)
theorem rows_mono {α : Type} {sz : Nat} {enc : α → List SV} (hl : H.le G) : ∀ {xs : List α} {cs : List Value}, RowsDen H sz enc xs cs → RowsDen G sz enc xs cs
  | [], _, h => h
  | _ :: _, _, ⟨r, cs', e, h1, h2, h3⟩ => ⟨r, cs', e, h1, h2.mono hl, rows_mono hl h3⟩
theorem SlOk.keep {α : Type} {sz : Nat} {enc : α → List SV} {xs : List α} {v : Value} {g' : Hp} {Bs : List Nat} (h : SlOk H g sz enc xs Bs v) (hl : H.le G) (hb : ∀ b o, b ∈ Bs → g b = some o → g' b = some o) : SlOk G g' sz enc xs Bs v := by
  obtain ⟨p, cc, e1, e2, e3⟩ := h
  refine ⟨p, cc, e1, e2, e3.imp id ?_⟩
  rintro ⟨b, cs, junk, e, e0, rfl, e4, e5, e6⟩
  exact ⟨b, cs, junk, e, e0, rfl, hb _ _ (by simp [e0]) e4, rows_mono hl e5, e6⟩
theorem NestOk.map {α : Type} {sz : Nat} {enc : α → List SV} {xss : List (List α)} {hs : List Value} {Bss : List (List Nat)} {hole : Option (Nat × SV)} {g' : Hp} (f : SV → SV) (h : NestOk ν H g sz enc hole xss hs Bss) (hD : ∀ s v, (∃ i, hole = some (i, s)) → Den ν H s v → Den ν' G (f s) v)
    (hS : ∀ xs v Bs, xs ∈ xss → Bs ∈ Bss → SlOk H g sz enc xs Bs v → SlOk G g' sz enc xs Bs v) : NestOk ν' G g' sz enc (hole.map fun p => (p.1, f p.2)) xss hs Bss := by
  refine ⟨h.l1, h.l2, fun i xs v Bs k1 k2 k3 => ?_, fun p hp => ?_⟩
  · obtain ⟨r1, r2⟩ := h.row i xs v Bs k1 k2 k3
    refine ⟨r1, ?_⟩
    cases hole with
    | none => exact hS _ _ _ (List.mem_of_getElem? k1) (List.mem_of_getElem? k3) r2
    | some q => exact ⟨fun e => ⟨(r2.1 e).1, hD _ _ ⟨_, rfl⟩ (r2.1 e).2⟩, fun e => hS _ _ _ (List.mem_of_getElem? k1) (List.mem_of_getElem? k3) (r2.2 e)⟩
  · cases hole with
    | none => cases hp
    | some q => simp only [Option.map_some, Option.some.injEq] at hp; subst hp; exact h.lt q rfl
theorem hole_id (hole : Option (Nat × SV)) : (hole.map fun p => (p.1, id p.2)) = hole := by cases hole <;> rfl
/-- A resource stays what it is where its block does. -/
theorem ResOk.keep {r : Res} {g' : Hp} {Bs : List Nat} (h : ResOk ν H g Bs t r) (hn : NLe ν ν') (hl : H.le G) (hb : ∀ b o, b ∈ Bs → g b = some o → g' b = some o) : ResOk ν' G g' Bs t r := by
  cases r with
  | gone => exact h
  | cells l => obtain ⟨b, cs, e, e0, e1, e2, e3⟩ := h; exact ⟨b, cs, e, e0, hn _ _ e1, hb _ _ (by simp [e0]) e2, e3.mono hn hl⟩
  | lit sz m l => obtain ⟨b, cs, e, e0, e1, e2, e3, e4, e5⟩ := h; exact ⟨b, cs, e, e0, hn _ _ e1, hb _ _ (by simp [e0]) e2, e3.mono hn hl, e4, e5⟩
  | sl sz enc xs =>
    obtain ⟨p, cc, e1, e2, e3⟩ := h
    refine ⟨p, cc, hn _ _ e1, e2, e3.imp id ?_⟩
    rintro ⟨b, cs, junk, e, e0, rfl, e4, e5, e6⟩
    exact ⟨b, cs, junk, e, e0, rfl, hb _ _ (by simp [e0]) e4, rows_mono hl e5, e6⟩
  | nest sz enc xss hole =>
    obtain ⟨b, hs, e, Bss, e0, e1, e2, e3, e4⟩ := h
    have := e3.map (ν' := ν') (G := G) (g' := g') id (fun s v _ hd => hd.mono hn hl) (fun xs v Bs _ hB hd => hd.keep hl (fun b o hb' => hb b o (by rw [e0]; exact List.mem_cons_of_mem _ (List.mem_flatten.2 ⟨Bs, hB, hb'⟩))))
    rw [hole_id] at this
    exact ⟨b, hs, e, Bss, e0, hn _ _ e1, hb _ _ (by simp [e0]) e2, this, e4⟩
  | mp ks kv => obtain ⟨b, es, ck, e0, e1, e2, e3⟩ := h; exact ⟨b, es, ck, e0, hn _ _ e1, hb _ _ (by simp [e0]) e2, e3⟩
theorem SlOk.blk_lt {α : Type} {sz : Nat} {enc : α → List SV} {xs : List α} {v : Value} {Bs : List Nat} (h : SlOk H g sz enc xs Bs v) {b : Nat} (hb : b ∈ Bs) : ∃ o, g b = some o := by
  obtain ⟨p, cc, e1, e2, e3⟩ := h
  rcases e3 with ⟨_, _, rfl⟩ | ⟨b', cs, junk, e, rfl, rfl, e4, _⟩
  · cases hb
  · have : b = b' := by simpa using hb
    subst this; exact ⟨_, e4⟩
/-- The blocks of a resource lie in the heap. -/
theorem ResOk.blk_lt {r : Res} {Bs : List Nat} (h : ResOk ν H g Bs t r) {b : Nat} (hb : b ∈ Bs) : ∃ o, g b = some o := by
  cases r with
  | gone => have h' : Bs = [] := h; subst h'; cases hb
  | cells l => obtain ⟨b', cs, e, rfl, e1, e2, e3⟩ := h; have : b = b' := by simpa using hb
               subst this; exact ⟨_, e2⟩
  | lit sz m l => obtain ⟨b', cs, e, rfl, e1, e2, e3⟩ := h; have : b = b' := by simpa using hb
                  subst this; exact ⟨_, e2⟩
  | sl sz enc xs =>
    obtain ⟨p, cc, e1, e2, e3⟩ := h
    rcases e3 with ⟨_, _, rfl⟩ | ⟨b', cs, junk, e, rfl, rfl, e4, _⟩
    · cases hb
    · have : b = b' := by simpa using hb
      subst this; exact ⟨_, e4⟩
  | nest sz enc xss hole =>
    obtain ⟨b', hs, e, Bss, rfl, e1, e2, e3, e4⟩ := h
    rcases List.mem_cons.1 hb with rfl | hb
    · exact ⟨_, e2⟩
    · obtain ⟨Bs, hB, hb⟩ := List.mem_flatten.1 hb
      obtain ⟨i, hi, hBi⟩ := List.mem_iff_getElem.1 hB
      have hi1 : i < xss.length := by rw [← e3.l2]; exact hi
      have hi2 : i < hs.length := by rw [e3.l1]; exact hi1
      obtain ⟨r1, r2⟩ := e3.row i _ _ Bs (List.getElem?_eq_getElem hi1) (List.getElem?_eq_getElem hi2) (by rw [List.getElem?_eq_getElem hi, hBi])
      cases hole with
      | none => exact SlOk.blk_lt r2 hb
      | some q =>
        by_cases e : q.1 = i
        · rw [(r2.1 e).1] at hb; cases hb
        · exact (r2.2 e).blk_lt hb
  | mp ks kv => obtain ⟨b', es, ck, rfl, e1, e2, e3⟩ := h; have : b = b' := by simpa using hb
                subst this; exact ⟨_, e2⟩
theorem hp_alloc (o : Obj) (b : Nat) : hp (w.alloc o) b = if b = w.heap.size then some o else hp w b := by
  show (w.heap.push o)[b]? = _
  rw [Array.getElem?_push]
  rfl
theorem hp_lt {b : Nat} {o : Obj} (h : hp w b = some o) : b < w.heap.size := (Array.getElem?_eq_some_iff.1 h).1
theorem hp_alloc_le (o : Obj) : (hp w).le (hp (w.alloc o)) := by
  intro b q hb
  rw [hp_alloc, if_neg (by have := hp_lt hb; omega)]; exact hb
theorem rlk_cons (l : List (Nat × Res)) (t u : Nat) (r : Res) : rlk ((t, r) :: l) u = if t = u then some r else rlk l u := rfl
/-- SOMETHING NEW: a block with what it holds. -/
theorem SatN.alloc (h : SatN B ν H n st a w) (o : Obj) (x : Value) (r : Res) (Bs : List Nat) (hBs : ∀ b ∈ Bs, b = w.heap.size)
    (hr : ResOk (upd ν st.nx (some x)) H (hp (w.alloc o)) Bs st.nx r) : SatN B (upd ν st.nx (some x)) H n { st with res := (st.nx, r) :: st.res, nx := st.nx + 1 } a (w.alloc o) := by
  obtain ⟨β, hres⟩ := h.res
  have hfr := h.fresh st.nx (Nat.le_refl _)
  have hn : NLe ν (upd ν st.nx (some x)) := nle_upd hfr.1
  have hne : ∀ t r, rlk st.res t = some r → t ≠ st.nx := fun t r ht e => by rw [e, hfr.2] at ht; cases ht
  have hold : ∀ t r b, rlk st.res t = some r → b ∈ β t → b < w.heap.size := fun t r b ht hb => by
    obtain ⟨o, ho⟩ := (hres.ok t r ht).blk_lt hb
    exact hp_lt ho
  refine ⟨h.sub.trans (hp_alloc_le o), h.subF.trans (hp_alloc_le o), h.subH, h.newH, fun k => (h.env k).mono hn (Hp.le.refl _), h.size, ⟨upd β st.nx Bs, ?_, ?_, ?_⟩, ?_, ?_, ?_, h.defers, ?_⟩
  · intro t r' ht
    rw [rlk_cons] at ht
    by_cases e : st.nx = t
    · subst e; rw [if_pos rfl] at ht; injection ht with ht; subst ht; rw [upd_same]; exact hr
    · rw [if_neg e] at ht
      rw [upd_ne _ _ (Ne.symm e)]
      exact (hres.ok t r' ht).keep hn (Hp.le.refl _) (fun b q _ hq => hp_alloc_le o b q hq)
  · intro t u r1 r2 b ht hu htu hb1 hb2
    rw [rlk_cons] at ht hu
    by_cases e1 : st.nx = t
    · subst e1
      rw [if_neg htu] at hu
      rw [upd_same] at hb1
      rw [upd_ne _ _ (Ne.symm htu)] at hb2
      have := hold _ _ _ hu hb2
      have := hBs _ hb1
      omega
    · rw [if_neg e1] at ht
      rw [upd_ne _ _ (Ne.symm e1)] at hb1
      by_cases e2 : st.nx = u
      · subst e2
        rw [upd_same] at hb2
        have := hold _ _ _ ht hb1
        have := hBs _ hb2
        omega
      · rw [if_neg e2] at hu
        rw [upd_ne _ _ (Ne.symm e2)] at hb2
        exact hres.dis t u r1 r2 b ht hu htu hb1 hb2
  · intro t r' b ht hyb
    rw [rlk_cons] at ht
    by_cases e : st.nx = t
    · subst e
      rw [upd_same] at hyb
      have := hBs _ hyb
      subst this
      constructor
      · cases hH : H w.heap.size with
        | none => rfl
        | some q => have := hp_lt (h.sub _ _ hH); omega
      · cases hH : B.F w.heap.size with
        | none => rfl
        | some q => have := hp_lt (h.subF _ _ hH); omega
    · rw [if_neg e] at ht
      rw [upd_ne _ _ (Ne.symm e)] at hyb
      exact hres.own t r' b ht hyb
  · intro t ht
    simp only at ht
    have := h.fresh t (by omega)
    refine ⟨by rw [upd_ne _ _ (by omega)]; exact this.1, ?_⟩
    rw [rlk_cons, if_neg (by omega)]; exact this.2
  · intro t ht hm
    rw [upd_ne _ _ (by have := h.low; omega)]
    exact h.keep t ht hm
  · have := h.low; simp only; omega
  · exact ⟨h.kp.os, h.kp.tape, h.kp.output, by have := h.kp.size; simp; omega, h.kp.drawn⟩
end
end Go.Proofs.Ytbpobdlahighoaa.Sx
