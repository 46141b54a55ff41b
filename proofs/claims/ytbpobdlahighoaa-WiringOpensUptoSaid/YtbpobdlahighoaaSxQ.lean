/- The contract of a function from what is shown of its state. -/
import Derived.Test.YtbpobdlahighoaaSxP2
import Derived.RangeFuncLeaves
namespace Go.Proofs.Ytbpobdlahighoaa.Sx
open Go
set_option linter.unusedVariables false
set_option linter.unusedSimpArgs false

section
variable {C : Cx} {B : Base} {P : Program} {ν ν' : Nat → Option Value} {H G F g : Hp} {st : St} {x y s : SV} {u z : Value} {t : Nat} {w w' : World} {a : Act} {d : Option Nat} {K : St → Prop} {ops : Array Oper} {Q : Exit → Act → World → Prop} {fin : Exit → Act → World → Prop}

mutual
theorem Den.unren {f : Nat → Nat} (hn : ∀ k x, ν (f k) = some x → ν' k = some x) : ∀ {s : SV} {x : Value}, Den ν H (s.ren f) x → Den ν' H s x
  | .any, x, _ => .any x
  | .v y, x, h => by have := Den.v_eq (ν := ν) (H := H) h; subst this; exact .r (.v _)
  | .h u, x, h => by
    have h1 : ν (f u) = some x := Den.h_inv h
    have h2 : x.oneCell' = true := one_den (s := .h (f u)) h rfl
    exact .h (hn _ _ h1) h2
  | .hp u sz i o, x, h => by
    obtain ⟨b, n, c, rfl, h1⟩ := Den.hp_inv (t := f u) h
    exact .hp (hn _ _ h1)
  | .ptr u o, x, h => by
    obtain ⟨b, rfl, h1⟩ := Den.ptr_inv (t := f u) h
    exact .ptr (hn _ _ h1)
  | .agg l, x, h => by
    obtain ⟨cs, rfl, h1⟩ := Den.agg_inv (l := SV.renL f l) h
    exact .agg (DenL.unren hn h1)
  | .tup l, x, h => by
    obtain ⟨cs, rfl, h1⟩ := Den.tup_inv (l := SV.renL f l) h
    exact .tup (DenL.unren hn h1)
  | .fn g a b, x, h => by
    obtain ⟨fs, cs, rfl, h1, h2⟩ := Den.fn_inv (a := SV.renL f a) (b := SV.renL f b) h
    exact .fn (DenL.unren hn h1) (DenL.unren hn h2)
  | .ro sz e xs y, x, h => by
    obtain ⟨rfl, h1⟩ := Den.ro_inv (ν := ν) (H := H) h
    exact .r h1
  | .rop l, x, h => by
    obtain ⟨b, o, cs, rfl, h1, h2⟩ := Den.rop_inv (ν := ν) (H := H) h
    exact .rop h1 h2
  | .rom S kv, x, h => by
    obtain ⟨b, es, ck, rfl, h1, h2, h3⟩ := Den.rom_inv (ν := ν) (H := H) h
    exact .r (.rom h1 h2 h3)
  | .hs u a b c, x, h => by
    obtain ⟨b, n, c, rfl, h1⟩ := Den.hs_inv (t := f u) h
    exact .hs (hn _ _ h1)
theorem DenL.unren {f : Nat → Nat} (hn : ∀ k x, ν (f k) = some x → ν' k = some x) : ∀ {s : List SV} {x : List Value}, DenL ν H (SV.renL f s) x → DenL ν' H s x
  | [], [], _ => .nil
  | s :: l, x :: xs, .cons h r => .cons (Den.unren hn h) (DenL.unren hn r)
end
theorem ResOk.unren {f : Nat → Nat} {Bs : List Nat} (hn : ∀ k x, ν (f k) = some x → ν' k = some x) {p : Res} (h : ResOk ν H g Bs (f t) (p.ren f)) : ResOk ν' H g Bs t p := by
  cases p with
  | gone => exact h
  | cells l => obtain ⟨b, cs, e, e0, e1, e2, e3⟩ := h; exact ⟨b, cs, e, e0, hn _ _ e1, e2, e3.unren hn⟩
  | lit sz m l => obtain ⟨b, cs, e, e0, e1, e2, e3, e4⟩ := h; exact ⟨b, cs, e, e0, hn _ _ e1, e2, e3.unren hn, by rw [renL_len] at e4; exact e4⟩
  | sl sz enc xs => obtain ⟨q, c, e1, e2⟩ := h; exact ⟨q, c, hn _ _ e1, e2⟩
  | mp ks kv => obtain ⟨b, es, ck, e0, e1, e2⟩ := h; exact ⟨b, es, ck, e0, hn _ _ e1, e2⟩
  | nest sz enc xss hole =>
    obtain ⟨b, hs, e, Bss, e0, e1, e2, e3, e4⟩ := h
    refine ⟨b, hs, e, Bss, e0, hn _ _ e1, e2, ⟨e3.l1, e3.l2, fun i xs v Bs k1 k2 k3 => ?_, fun p hp => e3.lt (p.1, p.2.ren f) (by rw [hp]; rfl)⟩, e4⟩
    obtain ⟨r1, r2⟩ := e3.row i xs v Bs k1 k2 k3
    refine ⟨r1, ?_⟩
    cases hole with
    | none => exact r2
    | some q => exact ⟨fun e => ⟨(r2.1 e).1, (r2.1 e).2.unren hn⟩, fun e => r2.2 e⟩

theorem vload_ptr {c : Prop} (h : vload P st t x = some (c, s)) (hx : Den ν H x u) : ∃ b o, u = .pointer (some ⟨b, o, none⟩) := by
  unfold vload vldA at h
  split at h
  · rename_i _ _ _ l hi hl
    split at hl
    · obtain ⟨b, rfl, _⟩ := hx.ptr_inv; exact ⟨_, _, rfl⟩
    · obtain ⟨b, o, cs, rfl, _⟩ := hx.rop_inv; exact ⟨_, _, rfl⟩
    · obtain ⟨b, n, c, rfl, _⟩ := hx.hp_inv; exact ⟨_, _, rfl⟩
    · cases hl
  · cases h
def rvar (tmps : Array Value) : ResultVar → Sem Value
  | .tmp t => pure (tmps.getD t undef)
  | .cell a t => do loadVar t (← asAddr (tmps.getD a undef))
theorem results_eq (fn : Func) (tmps : Array Value) : results fn tmps = (do let vs ← fn.results.mapM (rvar tmps); pure (if h : vs.size = 1 then vs[0] else .tuple vs)) := by
  unfold results
  congr 1
theorem resV_sound {n : Nat} (hs : SatN B ν H n st a w) : ∀ (rs : List ResultVar) (l : List (Prop × SV)), resV P st rs = some l → conj (l.map (·.1)) →
    ∃ vs, (rs.mapM (rvar a.tmps)).run P w = .ok vs w ∧ DenL ν H (l.map (·.2)) vs
  | [], l, h, _ => by
    simp only [resV, Option.some.injEq] at h
    subst h
    exact ⟨[], rfl, .nil⟩
  | .tmp t :: r, l, h, hc => by
    simp only [resV] at h
    split at h
    · rename_i l' hl
      injection h with h; subst h
      obtain ⟨vs, h1, h2⟩ := resV_sound hs r l' hl hc.2
      refine ⟨a.tmps.getD t undef :: vs, ?_, .cons (hs.env t) h2⟩
      simp only [List.mapM_cons, rvar, Sem.run_bind, Sem.run_pure, Result.andThen_ok, h1]
    · cases h
  | .cell q t :: r, l, h, hc => by
    simp only [resV] at h
    split at h
    · rename_i p l' hp hl
      injection h with h; subst h
      obtain ⟨vs, h1, h2⟩ := resV_sound hs r l' hl hc.2
      obtain ⟨c, s⟩ := p
      have hq := hs.env q
      obtain ⟨v, h3, h4⟩ := vload_sound hs.res.ok hs.sub hp hc.1 hq
      obtain ⟨b, o, e⟩ := vload_ptr hp hq
      refine ⟨v :: vs, ?_, .cons h4 h2⟩
      have h5 := h3 w (Hp.le.refl _)
      rw [e] at h5
      unfold Instr.loadAt at h5
      simp only [Instr.sureAddr, Sem.run_bind, Sem.run_pure, Result.andThen_ok] at h5
      simp only [List.mapM_cons, rvar, e, asAddr, Sem.run_bind, Sem.run_pure, Result.andThen_ok, h5, h1]
    · cases h
theorem pack_den {l : List SV} {vs : List Value} (h : DenL ν H l vs) : Den ν H (packV l) (if h : vs.toArray.size = 1 then vs.toArray[0] else .tuple vs.toArray) := by
  have hl := h.length
  cases h with
  | nil => exact .tup .nil
  | cons h1 r =>
    cases r with
    | nil => exact h1
    | cons h2 r =>
      rw [dif_neg (by simp)]
      exact .tup (.cons h1 (.cons h2 r))
theorem DenL.num {l : List SV} {vs : List Value} (h : DenL ν H l vs) (tail : Array Value) (k : Nat) : Den ν H (lk (num l 0) k) ((vs.toArray ++ tail).getD k undef) := by
  have key : ∀ (l : List SV) (vs : List Value) (j : Nat), DenL ν H l vs → ∀ k, lk (Sx.num l j) k = .any ∨ ∃ i x, k = j + i ∧ vs[i]? = some x ∧ Den ν H (lk (Sx.num l j) k) x := by
    intro l
    induction l with
    | nil => intro vs j h k; exact .inl rfl
    | cons s l ih =>
      intro vs j h k
      cases h with
      | cons h1 r =>
        have hl : lk (Sx.num (s :: l) j) k = if j = k then s else lk (Sx.num l (j + 1)) k := rfl
        rw [hl]
        by_cases e : j = k
        · rw [if_pos e]; exact .inr ⟨0, _, e.symm, rfl, h1⟩
        · rw [if_neg e]
          rcases ih _ (j + 1) r k with h2 | ⟨i, x, h2, h3, h4⟩
          · exact .inl h2
          · exact .inr ⟨i + 1, x, by omega, by simpa using h3, h4⟩
  rcases key l vs 0 h k with e | ⟨i, x, e1, e2, e3⟩
  · rw [e]; exact .any _
  · have hi : i < vs.length := (List.getElem?_eq_some_iff.1 e2).1
    have : (vs.toArray ++ tail).getD k undef = x := by
      rw [Array.getD_eq_getD_getElem?, show k = i by omega, Array.getElem?_append_left (by simpa using hi)]
      simp [e2]
    rw [this]; exact e3
/-- The marks of loops over iterators, come to one by one. -/
def shut : List Nat → World → World
  | [], W => W
  | D :: ds, W => shut ds (W.putObj D (.deferred none))
theorem shut_hp : ∀ (ds : List Nat) (W : World) (b : Nat), b ∉ ds → hp (shut ds W) b = hp W b
  | [], W, b, _ => rfl
  | D :: ds, W, b, h => by
    show hp (shut ds _) b = _
    rw [shut_hp ds _ b (fun h' => h (List.mem_cons_of_mem _ h'))]
    exact World.putObj_heap_other (fun e => h (by rw [e]; exact List.mem_cons_self))
theorem shut_same : ∀ (ds : List Nat) (W : World), (shut ds W).os = W.os ∧ (shut ds W).tape = W.tape ∧ (shut ds W).output = W.output ∧ W.heap.size ≤ (shut ds W).heap.size ∧ W.drawn ≤ (shut ds W).drawn
  | [], W => ⟨rfl, rfl, rfl, Nat.le_refl _, Nat.le_refl _⟩
  | D :: ds, W => by
    obtain ⟨h1, h2, h3, h4, h5⟩ := shut_same ds (W.putObj D (.deferred none))
    exact ⟨h1, h2, h3, by simp at h4; exact h4, h5⟩
theorem marks_leave {fn : Func} {tmps : Array Value} {R : Ending → World → Prop} : ∀ (ds : List Nat) (W : World), ds.Nodup → (∀ D ∈ ds, hp W D = some (.deferred (some []))) → LeavesIn Fence.wide 0 P fn tmps R [] .returning (shut ds W) →
    LeavesInM Fence.wide 0 P fn tmps R (ds.map mark) .returning W
  | [], W, _, _, h => h
  | D :: ds, W, hd, hm, h => by
    refine ⟨by simp, .inl ⟨D, _, rfl, run_takeDeferred (hm D (by simp)), ?_⟩⟩
    have hnd := List.nodup_cons.1 hd
    refine marks_leave ds _ hnd.2 (fun E hE => ?_) h
    have : E ≠ D := fun e => hnd.1 (by rw [← e]; exact hE)
    exact (World.putObj_heap_other this).trans (hm E (by simp [hE]))
open Classical in
/-- THE CONTRACT: shown of the state that the function begins with. -/
theorem tri_of_vc {f : FuncId} {fn : Func} {c : Code} {args : List SV} {pre : List Res} {mv : List Nat} {Q : SV → List Res → Prop} (ord : List (Nat × Ord)) (fz cut gh : List Nat) (fuel : Nat)
    (hf : P.funcs[f]? = some fn) (hb : fn.body = some c) (hcall : callable P f) (hm : P.follows .mixedOrders = true) (hok : drawOk ord c = true) (hn : args.length ≤ fn.ntmps)
    (h : vrun ⟨P, fn.ntmps, fn.results.toList, pre.length, mv, ord, fz, cut, gh, Q, false⟩ fuel [.code c] ⟨num args 0, num pre 0, pre.length, []⟩) : Tri P f args pre mv Q := by
  refine ⟨hcall, fun w ν H F vs hHF hF hargs hres hfr => ?_⟩
  have hlen := hargs.length
  refine callsIn_wide.1 (callsIn_of_wp_marks (F := Fence.wide) (n := 0) hf hb trivial ?_)
  let C : Cx := ⟨P, fn.ntmps, fn.results.toList, pre.length, mv, ord, fz, cut, gh, Q, false⟩
  let B : Base := ⟨w, ν, pre.length, H, F, []⟩
  have hs : SatN B ν H C.n ⟨num args 0, num pre 0, pre.length, []⟩ { tmps := vs.toArray ++ Array.replicate (fn.ntmps - vs.toArray.size) undef, defers := [] } w := by
    refine ⟨hHF.trans hF, hF, Hp.le.refl _, fun b o _ h => h, fun k => hargs.num _ k, ?_, hres, fun t ht => ⟨hfr t ht, ?_⟩, fun t _ _ => rfl, Nat.le_refl _, rfl, ⟨rfl, rfl, rfl, Nat.le_refl _, Nat.le_refl _⟩⟩
    · simp only [Array.size_append, List.size_toArray, Array.size_replicate, C]; omega
    · rw [num0]; exact List.getElem?_eq_none ht
  refine wpIn_mono (run_sound fuel C B B none (fun e a w' => match e with
    | .normal => bodyPostM Fence.wide 0 P fn _ .normal a w'
    | .ret => bodyPostM Fence.wide 0 P fn _ .ret a w'
    | _ => False) hm rfl (fun _ => rfl) (fun c a w h => h) (fun l a w h => h) (fun a w h => h) [.code c] _ _ _ ν H (fun _ => rfl) (fun _ => ?_) (by simpa [viOk] using hok) (Bext.refl List.nodup_nil (fun _ h => by cases h)) hs h) (fun e a w he => by
      cases e with
      | normal => exact he
      | ret => exact he
      | exit i => exact he.elim
      | goto l => exact he.elim
      | panic c => exact he.elim
      | outgrown => exact he.elim)
  · intro B1 st a1 w1 ν2 H2 hB1 hs1 hret
    obtain ⟨a, ha⟩ : ∃ a : Act, a = { a1 with defers := [] } := ⟨_, rfl⟩
    obtain ⟨w', hw'⟩ : ∃ w', w' = shut B1.ds w1 := ⟨_, rfl⟩
    have hnot : ∀ b q, hp w b = some q → b ∉ B1.ds := fun b q hb hd => by
      have := (hB1.marks b hd).2
      rw [show hp B.w b = hp w b from rfl, hb] at this; cases this
    have hBF : ∀ b q, F b = some q → B1.F b = some q := hB1.F
    have hs2 : SatN B ν2 H2 C.n st a w' := by
      refine hs1.move (B2 := B) hB1.w.symm hB1.ν.symm hB1.n.symm hB1.H.symm (by rw [ha]) (by rw [ha]; rfl) (fun b q hb => ?_) (fun b q hb => ?_) (fun b q hb hn => hs1.newH b q (hBF b q hb) hn) (fun b q g1 g2 g3 => ?_) (by rw [hw']; exact shut_same _ _)
      · have h1 := hs1.sub b q hb
        rw [hw', shut_hp _ _ _ (fun hd => ?_)]
        · exact h1
        · have hm' := hB1.marks b hd
          have hH : B1.H b = none := by
            rw [hB1.H]
            cases e : B.H b with
            | none => rfl
            | some q' => have := (hHF.trans hF) b q' e; rw [show hp w b = hp B.w b from rfl, hm'.2] at this; cases this
          have := hs1.newH b _ hm'.1 hH
          rw [this] at hb; cases hb
      · rw [hw', shut_hp _ _ _ (hnot b q (hF b q hb))]
        exact hs1.subF b q (hBF b q hb)
      · refine ⟨?_, ?_⟩
        · rw [hw', shut_hp _ _ _ (fun hd => by rw [(hB1.marks b hd).1] at g1; cases g1)]
          exact g3
        · cases e : B.F b with
          | none => rfl
          | some q' => rw [hBF b q' e] at g1; cases g1
    have key : ∃ v, (results fn a.tmps).run P w' = .ok v w' ∧ ∃ r post ν' H' y, Ending.returned v = .returned y ∧ Q r post ∧ pre.length ≤ post.length ∧ H.le H' ∧ H'.le (hp w') ∧ F.le (hp w') ∧ (∀ b o, F b = some o → H b = none → H' b = none) ∧
        Den ν' H' r y ∧ SatE ν' H' F (hp w') (num post 0) ∧ (∀ t, t < pre.length → t ∉ mv → ν' t = ν t) ∧ (∀ t, post.length ≤ t → ν' t = none) ∧ Kp w w' := by
      obtain ⟨l, h1, h2, σ, r, post, h3, h4, h5, h6, h7, h8, h9⟩ := hret
      obtain ⟨vs', k1, k2⟩ := resV_sound hs2 _ l h1 h2
      let ν3 : Nat → Option Value := fun k => if k < σ.length then ν2 (tagOf σ st.nx k) else none
      have hlt : ∀ t ∈ σ, True := fun _ _ => trivial
      have htag : ∀ k, (hk : k < σ.length) → tagOf σ st.nx k = σ[k] := fun k hk => by simp [tagOf, List.getElem?_eq_getElem hk]
      have hun : ∀ k x, ν2 (tagOf σ st.nx k) = some x → ν3 k = some x := fun k x hx => by
        show (if k < σ.length then _ else _) = _
        by_cases hk : k < σ.length
        · rw [if_pos hk]; exact hx
        · exfalso
          simp only [tagOf, List.getElem?_eq_none (show σ.length ≤ k by omega)] at hx
          rw [(hs2.fresh _ (by omega)).1] at hx; cases hx
      obtain ⟨β, hβ⟩ := hs2.res
      let β3 : Nat → List Nat := fun k => if rlk (num post 0) k = some .gone then [] else β (tagOf σ st.nx k)
      have hpo : ∀ k p, rlk (num post 0) k = some p → (p = .gone ∧ β3 k = []) ∨ (k < σ.length ∧ rlk st.res (tagOf σ st.nx k) = some (p.ren (tagOf σ st.nx)) ∧ ∀ b, b ∈ β3 k → b ∈ β (tagOf σ st.nx k)) := fun k p hk => by
        have hb : ∀ b, b ∈ β3 k → b ∈ β (tagOf σ st.nx k) := fun b hb => by
          have hb' : b ∈ (if rlk (num post 0) k = some .gone then [] else β (tagOf σ st.nx k)) := hb
          split at hb'
          · cases hb'
          · exact hb'
        by_cases hg : p = .gone
        · subst hg
          exact .inl ⟨rfl, if_pos hk⟩
        have hk2 := hk
        rw [num0] at hk
        have hkl : k < σ.length := by rw [h5]; exact (List.getElem?_eq_some_iff.1 hk).1
        rcases h9 k p hk with e | e
        · exact .inr ⟨hkl, e, hb⟩
        · exact absurd e hg
      have hβ3 : ∀ k p, rlk (num post 0) k = some p → p ≠ .gone → β3 k = β (tagOf σ st.nx k) := fun k p hk hg => if_neg (fun e => by rw [hk] at e; injection e with e; exact hg e)
      refine ⟨if h : vs'.toArray.size = 1 then vs'.toArray[0] else .tuple vs'.toArray, ?_, r, post, ν3, H2, _, rfl, h3, ?_, hs2.subH, hs2.sub, hs2.subF, hs2.newH, ?_, ⟨β3, ?_, ?_, ?_⟩, ?_, ?_, hs2.kp⟩
      · rw [results_eq, Array.mapM_eq_mapM_toList]
        have k3 : (List.mapM (rvar a.tmps) fn.results.toList).run P w' = .ok vs' w' := k1
        simp only [map_eq_pure_bind, Sem.run_bind, k3, Result.andThen_ok, Sem.run_pure]
      · rw [← h5]
        have := congrArg List.length h7
        simp only [List.length_take, List.length_range] at this
        show C.np ≤ _
        omega
      · have := pack_den k2
        rw [← h4] at this
        exact this.unren hun
      · intro k p hk
        by_cases hg : p = .gone
        · subst hg
          exact if_pos hk
        rcases hpo k p hk with ⟨e, _⟩ | ⟨h10, h11, _⟩
        · exact absurd e hg
        · rw [hβ3 k p hk hg]
          exact (hβ.ok _ _ h11).unren hun
      · intro j k p q b hj hk hjk e1 e2
        rcases hpo j p hj with ⟨_, g0⟩ | ⟨g1, g2, g3⟩
        · rw [g0] at e1; cases e1
        rcases hpo k q hk with ⟨_, g0⟩ | ⟨g4, g5, g6⟩
        · rw [g0] at e2; cases e2
        refine hβ.dis _ _ _ _ b g2 g5 (fun e => hjk ?_) (g3 b e1) (g6 b e2)
        rw [htag j g1, htag k g4] at e
        exact nodup_inj h6 g1 g4 e
      · intro k p b hk e1
        rcases hpo k p hk with ⟨_, g0⟩ | ⟨g1, g2, g3⟩
        · rw [g0] at e1; cases e1
        exact hβ.own _ _ b g2 (g3 b e1)
      · intro t ht hm
        have ht' : t < C.np := ht
        have e1 : (List.take C.np σ)[t]? = some t := by rw [h7]; simp [List.getElem?_range, ht']
        rw [List.getElem?_take, if_pos ht'] at e1
        have htl : t < σ.length := (List.getElem?_eq_some_iff.1 e1).1
        show (if t < σ.length then _ else _) = _
        rw [if_pos htl]
        have : tagOf σ st.nx t = t := by simp [tagOf, e1]
        rw [this]
        exact hs2.keep t ht (fun h => hm (h8 t h ht'))
      · intro t ht
        exact if_neg (by omega)
    constructor
    all_goals
      show LeavesInM Fence.wide 0 P fn a1.tmps _ a1.defers .returning w1
      rw [hs1.defers]
      refine marks_leave B1.ds w1 hB1.nodup (fun D hD => hs1.subF D _ (hB1.marks D hD).1) ?_
      rw [← hw']
      rw [ha] at key
      exact key
end
end Go.Proofs.Ytbpobdlahighoaa.Sx
