/- Regions whose order is drawn. -/
import Derived.Test.YtbpobdlahighoaaSxN
namespace Go.Proofs.Ytbpobdlahighoaa.Sx
open Go
set_option linter.unusedVariables false
set_option linter.unusedSimpArgs false

/-! ### Every order, with a condition that hangs on what has come up -/
section
variable {P : Program} {ops : Array Oper} {Q : Exit → Act → World → Prop} {md : Region.Mode} {S T : Array Bool → World → Prop}
def wpAnyS (P : Program) (md : Region.Mode) (ops : Array Oper) (Q : Exit → Act → World → Prop) (S : Array Bool → World → Prop) : Nat → Array Bool → Act → World → Prop
  | 0, listed, a, w => Region.ready md ops listed = [] ∧ Q .normal a w
  | fuel + 1, listed, a, w =>
    (Region.ready md ops listed = [] → Q .normal a w) ∧
    ∀ i ∈ Region.ready md ops listed, wpOp P ops Q i (fun a' w' => S (listed.setIfInBounds i true) w' ∧ wpAnyS P md ops Q S fuel (listed.setIfInBounds i true) a' w') a w
theorem wpAny_of_S : ∀ (fuel : Nat) (listed : Array Bool) (a : Act) (w : World), wpAnyS P md ops Q S fuel listed a w → wpAny P md ops Q fuel listed a w
  | 0, _, _, _, h => h
  | fuel + 1, _, _, _, h => ⟨h.1, fun i hi => wpOp_mono (fun a' w' h' => wpAny_of_S fuel _ a' w' h'.2) (h.2 i hi)⟩
theorem wpAnyS_mono (hST : ∀ l w, S l w → T l w) : ∀ (fuel : Nat) (listed : Array Bool) (a : Act) (w : World), wpAnyS P md ops Q S fuel listed a w → wpAnyS P md ops Q T fuel listed a w
  | 0, _, _, _, h => h
  | fuel + 1, _, _, _, h => ⟨h.1, fun i hi => wpOp_mono (fun a' w' h' => ⟨hST _ _ h'.1, wpAnyS_mono hST fuel _ a' w' h'.2⟩) (h.2 i hi)⟩
theorem wpAnyS_done {listed : Array Bool} {a : Act} {w : World} (hr : Region.ready md ops listed = []) (h : Q .normal a w) : ∀ fuel, wpAnyS P md ops Q S fuel listed a w
  | 0 => ⟨hr, h⟩
  | _ + 1 => ⟨fun _ => h, by rw [hr]; simp⟩
/-- AN OPERATION THAT MAY COME UP NOW MAY BE TAKEN FIRST: T says what its value needs. -/
theorem wpAnyS_first {i : Nat} {oi : Oper} {v : Value} {U : World → Prop} (hi : ops[i]? = some oi) (hsel : ∀ (j : Nat) (o : Oper) cs b, ops[j]? = some o → o.op ≠ .select cs b)
    (hQ : ∀ c a w, ¬ Q (.panic c) a w) (W : List Nat) (hW : ∀ j ∈ W, j = i ∨ ∃ o, ops[j]? = some o ∧ ∃ e ∈ o.after, Region.binds md e = true ∧ e.on ∈ W) (hSdn : ∀ l w, S (l.setIfInBounds i true) w → S l w)
    (hU : ∀ (l : Array Bool) (w' : World), (∀ j ∈ W, l.getD j true = false) → T (l.setIfInBounds i true) w' → U w') :
    ∀ (fuel : Nat) (listed : Array Bool) (a : Act) (w : World),
      (∀ j ∈ W, listed.getD j true = false) →
      (∀ j oj, ops[j]? = some oj → j ≠ i → listed.getD j true = false → (∀ e ∈ oj.after, Region.binds md e = true → e.on ≠ i) → oi.apart ops oj = true) →
      i ∈ Region.ready md ops listed → YieldsIf P ops U oi v a → S (listed.setIfInBounds i true) w → T (listed.setIfInBounds i true) w →
      wpAnyS P md ops Q (fun l w => S l w ∧ T l w) fuel (listed.setIfInBounds i true) (a.put oi.dst v) w → wpAnyS P md ops Q S (fuel + 1) listed a w := by
  intro fuel
  induction fuel with
  | zero =>
    intro listed a w hinv hfree hr hy hS hT H
    refine ⟨fun h => (by rw [h] at hr; cases hr), fun j hj => ?_⟩
    by_cases hji : j = i
    · subst hji; exact hy.wpOp hi (hU _ _ hinv hT) ⟨hS, H⟩
    · have := ready_mono hj hji
      rw [H.1] at this
      cases this
  | succ fuel ih =>
    intro listed a w hinv hfree hr hy hS hT H
    refine ⟨fun h => (by rw [h] at hr; cases hr), fun j hj => ?_⟩
    by_cases hji : j = i
    · subst hji; exact hy.wpOp hi (hU _ _ hinv hT) ⟨hS, wpAnyS_mono (fun _ _ h => h.1) _ _ _ _ H⟩
    · have h1 := H.2 j (ready_mono hj hji)
      obtain ⟨hjun, oj, hoj, hall⟩ := mem_ready.1 hj
      have hnot : ∀ e ∈ oj.after, Region.binds md e = true → e.on ≠ i := fun e he hb heq => by
        have h1 := hall e he hb
        have h0 := (mem_ready.1 hr).1
        rw [heq] at h1
        rcases Nat.lt_or_ge i listed.size with h' | h'
        · simp [h'] at h0 h1; rw [h0] at h1; cases h1
        · simp [Array.getElem?_eq_none h'] at h1
      have h2 := wpOp_putIf hoj (hfree j oj hoj hji hjun hnot) (fun cs b => hsel i oi cs b hi) (fun cs b => hsel j oj cs b hoj) (fun c a w h => absurd h (hQ _ _ _)) hy h1
      have hinv' : ∀ k ∈ W, (listed.setIfInBounds j true).getD k true = false := fun k hk => by
        have h3 := hinv k hk
        have : j ≠ k := by
          intro e; subst e
          rcases hW j hk with e | ⟨o, ho, e, he, hb, hon⟩
          · exact hji e
          · rw [hoj] at ho; injection ho with ho; subst ho
            have h5 := hall e he hb
            have h6 := hinv _ hon
            rcases Nat.lt_or_ge e.on listed.size with h' | h'
            · simp [h'] at h5 h6; rw [h6] at h5; cases h5
            · simp [Array.getElem?_eq_none h'] at h5
        rw [getD_set_ne true this]; exact h3
      have hfree' : ∀ k ok, ops[k]? = some ok → k ≠ i → (listed.setIfInBounds j true).getD k true = false →
          (∀ e ∈ ok.after, Region.binds md e = true → e.on ≠ i) → oi.apart ops ok = true := fun k ok hk hki hun hno => by
        refine hfree k ok hk hki ?_ hno
        by_cases hjk : j = k
        · subst hjk; exact hjun
        · rw [getD_set_ne true hjk] at hun; exact hun
      refine wpOp_mono (fun a' w' h3 => ?_) h2
      obtain ⟨hy', hST', h4⟩ := h3
      rw [Array.setIfInBounds_comm _ _ (Ne.symm hji)] at hST' h4
      exact ⟨hSdn _ _ hST'.1, ih (listed.setIfInBounds j true) a' w' hinv' hfree' (ready_mono hr (Ne.symm hji)) hy' hST'.1 hST'.2 h4⟩
end

/-! ### What kind of operation, which order -/
def opK (o : Op) : Nat := match o with
  | .move _ => 0 | .assign _ => 0 | .pick .. => 0 | .nilCheck _ => 0 | .binOp .. => 0 | .unOp .. => 0 | .convert .. => 0 | .fieldAddr .. => 0 | .field .. => 0
  | .indexAddr .. => 0 | .index .. => 0 | .extract .. => 0 | .build .. => 0 | .makeFunc .. => 0 | .slice .. => 0
  | .load .. => 1 | .lookup .. => 1
  | .alloc _ => 3 | .box .. => 3 | .makeMap _ none => 3 | .buildSlice .. => 3 | .makeSlice .. => 3
  | .call c => match c.callee with | .builtin .len => 0 | .builtin .min => 0 | .builtin .max => 0 | _ => 2
  | _ => 2
theorem opK_cases (o : Op) : opK o = 0 ∨ opK o = 1 ∨ opK o = 2 ∨ opK o = 3 := by
  unfold opK
  split <;> first | exact .inl rfl | exact .inr (.inl rfl) | exact .inr (.inr (.inl rfl)) | exact .inr (.inr (.inr rfl)) | (split <;> first | exact .inl rfl | exact .inr (.inr (.inl rfl)))
/-- The operations of a region that wait for one of W, or for one that waits .. -/
def waitK (ops : Array Oper) (W : List Nat) (j : Nat) : Bool := match ops[j]? with
  | some o => o.after.any (fun e => Region.binds .any e && W.contains e.on)
  | none => false
def waitL (ops : Array Oper) : List Nat → List Nat → List Nat
  | [], W => W
  | j :: r, W => waitL ops r (if waitK ops W j then j :: W else W)
theorem waitL_spec {ops : Array Oper} {i : Nat} : ∀ (r W : List Nat), (∀ j ∈ W, j = i ∨ ∃ o, ops[j]? = some o ∧ ∃ e ∈ o.after, Region.binds .any e = true ∧ e.on ∈ W) →
    ∀ j ∈ waitL ops r W, j = i ∨ ∃ o, ops[j]? = some o ∧ ∃ e ∈ o.after, Region.binds .any e = true ∧ e.on ∈ waitL ops r W
  | [], W, h => h
  | k :: r, W, h => by
    unfold waitL
    apply waitL_spec r
    split
    · rename_i hk
      intro j hj
      rcases List.mem_cons.1 hj with rfl | hj
      · right
        unfold waitK at hk
        split at hk
        · rename_i o ho
          obtain ⟨e, he, hb⟩ := Array.any_eq_true'.1 hk
          simp only [Bool.and_eq_true, List.contains_iff_mem] at hb
          exact ⟨o, ho, e, he, hb.1, List.mem_cons_of_mem _ hb.2⟩
        · cases hk
      · rcases h j hj with e | ⟨o, ho, e, he, hb, hon⟩
        · exact .inl e
        · exact .inr ⟨o, ho, e, he, hb, List.mem_cons_of_mem _ hon⟩
    · exact h
def waits (ops : Array Oper) (i : Nat) : List Nat := waitL ops (List.range ops.size) [i]
def allWait (ops : Array Oper) (listed : Array Bool) (i : Nat) : Bool := (waits ops i).all (fun j => !listed.getD j true) && (List.range ops.size).all fun j => listed.getD j true || match ops[j]? with
  | some oj => opK oj.op != 2 || (waits ops i).contains j
  | none => true
def Ord.heads : Ord → List Nat
  | .nil => []
  | .op i _ => [i]
  | .ro i _ => [i]
  | .alt a b => a.heads ++ b.heads
def okO (ops : Array Oper) : Ord → Bool → Nat → Array Bool → Bool
  | .nil, al, _, l => !al && (Region.ready .any ops l).isEmpty
  | .op i r, al, f, l => match ops[i]?, f with
    | some o, f + 1 => (match opK o.op with
      | 0 => !al && ((Region.ready .any ops l).contains i && Region.free .any ops l i)
      | 1 => (Region.ready .any ops l).contains i && (al || (Region.free .any ops l i && allWait ops l i))
      | _ => (Region.ready .any ops l).contains i && (al || (Region.ready .any ops l == [i]))) && okO ops r false f (l.setIfInBounds i true)
    | _, _ => false
  | .ro i r, al, f, l => match ops[i]?, f with
    | some o, f + 1 => (opK o.op == 1 && (!al && ((Region.ready .any ops l).contains i && Region.free .any ops l i))) && okO ops r false f (l.setIfInBounds i true)
    | _, _ => false
  | .alt a b, al, f, l => (al || ((a.heads ++ b.heads) == Region.ready .any ops l)) && (okO ops a true f l && okO ops b true f l)

section
variable {C : Cx} {B : Base} {ν ν' : Nat → Option Value} {H G F g : Hp} {st : St} {x y s : SV} {u z : Value} {t : Nat} {w w' : World} {a : Act} {d : Option Nat} {K : St → Prop} {ops : Array Oper} {Q : Exit → Act → World → Prop} {S : Array Bool → World → Prop}
def newE (ops : Array Oper) (l0 l : Array Bool) : Prop := ∃ (j : Nat) (o : Oper), ops[j]? = some o ∧ opK o.op = 2 ∧ l0.getD j true = false ∧ l.getD j false = true
structure SpecS (ops : Array Oper) (S : Array Bool → World → Prop) (F : Hp) (l0 : Array Bool) (w0 : World) : Prop where
  up : ∀ l w', (∀ k : Nat, l0.getD k false = true → l.getD k false = true) → F.le (hp w') → (newE ops l0 l ∨ (hp w0).le (hp w')) → S l w'
  dn : ∀ (i : Nat) (o : Oper) l w', ops[i]? = some o → opK o.op ≠ 2 → S (l.setIfInBounds i true) w' → S l w'
theorem newE_set {l0 l : Array Bool} {i : Nat} {o : Oper} (hi : ops[i]? = some o) (hk : opK o.op ≠ 2) : newE ops l0 (l.setIfInBounds i true) ↔ newE ops l0 l := by
  constructor
  · rintro ⟨j, oj, h1, h2, h3, h4⟩
    have : i ≠ j := fun e => by subst e; rw [hi] at h1; injection h1 with h1; subst h1; exact hk h2
    rw [getD_set_ne false this] at h4
    exact ⟨j, oj, h1, h2, h3, h4⟩
  · rintro ⟨j, oj, h1, h2, h3, h4⟩
    exact ⟨j, oj, h1, h2, h3, getD_set_true h4⟩
theorem newE_from {l0 l : Array Bool} {i : Nat} {o : Oper} (hi : ops[i]? = some o) (hk : opK o.op ≠ 2) (h : newE ops (l0.setIfInBounds i true) l) : newE ops l0 l := by
  obtain ⟨j, oj, h1, h2, h3, h4⟩ := h
  have : i ≠ j := fun e => by subst e; rw [hi] at h1; injection h1 with h1; subst h1; exact hk h2
  rw [getD_set_ne true this] at h3
  exact ⟨j, oj, h1, h2, h3, h4⟩
/-- Behind an operation that is taken first. -/
theorem SpecS.take {l0 : Array Bool} {i : Nat} {o : Oper} {T : Array Bool → World → Prop} (hS : SpecS ops S F l0 w) (hi : ops[i]? = some o) (hk : opK o.op ≠ 2) (hFG : F.le G)
    (hT : ∀ l w', G.le (hp w') → (newE ops l0 l ∨ (hp w).le (hp w')) → T l w') (hTd : ∀ (i : Nat) (o : Oper) l w', ops[i]? = some o → opK o.op ≠ 2 → T (l.setIfInBounds i true) w' → T l w') :
    SpecS ops (fun l w => S l w ∧ T l w) G (l0.setIfInBounds i true) w where
  up l w' hl hF hn := by
    have hn' : newE ops l0 l ∨ (hp w).le (hp w') := hn.imp (newE_from hi hk) id
    exact ⟨hS.up l w' (fun k h => hl k (getD_set_true h)) (hFG.trans hF) hn', hT l w' hF hn'⟩
  dn j o l w' hj hk h := ⟨hS.dn j o l w' hj hk h.1, hTd j o l w' hj hk h.2⟩
/-- Behind any other. -/
theorem SpecS.step {l0 : Array Bool} {i : Nat} {o : Oper} (hS : SpecS ops S F l0 w) (hi : ops[i]? = some o) (hk : opK o.op = 2) (hl : l0.getD i true = false) : SpecS ops S F (l0.setIfInBounds i true) w' ∧ ∀ w', F.le (hp w') → S (l0.setIfInBounds i true) w' := by
  have hlt : i < l0.size := by
    rcases Nat.lt_or_ge i l0.size with h' | h'
    · exact h'
    · simp [Array.getElem?_eq_none h'] at hl
  have hset : (l0.setIfInBounds i true).getD i false = true := by simp [hlt]
  refine ⟨⟨fun l w'' h1 h2 _ => hS.up l w'' (fun k h => h1 k (getD_set_true h)) h2 (.inl ⟨i, o, hi, hk, hl, h1 i hset⟩), hS.dn⟩, fun w'' h2 => ?_⟩
  exact hS.up _ w'' (fun k h => getD_set_true h) h2 (.inl ⟨i, o, hi, hk, hl, hset⟩)

/-- Behind what makes something new. -/
theorem SpecS.stepW {l0 : Array Bool} {i : Nat} {o : Oper} (hS : SpecS ops S F l0 w) (hi : ops[i]? = some o) (hk : opK o.op ≠ 2) (hw : (hp w).le (hp w')) (hF : F.le (hp w')) : SpecS ops S F (l0.setIfInBounds i true) w' ∧ S (l0.setIfInBounds i true) w' :=
  ⟨⟨fun l w'' h1 h2 h3 => hS.up l w'' (fun k h => h1 k (getD_set_true h)) h2 (h3.imp (newE_from hi hk) (fun h => hw.trans h)), hS.dn⟩, hS.up _ w' (fun k h => getD_set_true h) hF (.inr hw)⟩
theorem new_nextW {N : Act → World → Prop} {o : Oper} {cs : List Value} {l : List SV} {e : TypeId} (hs : SatN B ν H C.n st a w) (hd : DenL ν H l cs)
    (hrun : (execOp a.eval o).run C.P w = .ok (.value (.pointer (some ⟨w.heap.size, 0, none⟩))) (w.alloc (.cells cs.toArray e (0, 0)))) (h : vnew C.n o.dst (.ptr st.nx 0) (.cells l) K st)
    (hN : ∀ st' a' w' ν H, SatN B ν H C.n st' a' w' → K st' → (hp w).le (hp w') → N a' w') : o.wp C.P a w N Q := by
  have hn : NLe ν (upd ν st.nx (some (.pointer (some ⟨w.heap.size, 0, none⟩)))) := nle_upd (hs.fresh st.nx (Nat.le_refl _)).1
  have hsat := hs.alloc (.cells cs.toArray e (0, 0)) (.pointer (some ⟨w.heap.size, 0, none⟩)) (.cells l) [w.heap.size] (by simp)
    ⟨w.heap.size, cs, e, rfl, upd_same _ _ _, by rw [hp_alloc, if_pos rfl], hd.mono hn (Hp.le.refl _)⟩
  unfold Oper.wp
  rw [hrun]
  show N _ _
  unfold vnew at h
  cases hdst : o.dst with
  | none => rw [hdst] at h; exact hN _ _ _ _ _ hsat h (hp_alloc_le _)
  | some d => rw [hdst] at h; exact hN _ _ _ _ _ (hsat.put h.1 (.ptr (upd_same _ _ _))) h.2 (hp_alloc_le _)
theorem vop_nextW {N : Act → World → Prop} {o : Oper} (hk : opK o.op = 3) (hs : SatN B ν H C.n st a w) (h : vop C o.dst o.op K st)
    (hN : ∀ st' a' w' ν H, SatN B ν H C.n st' a' w' → K st' → (hp w).le (hp w') → N a' w') : o.wp C.P a w N Q := by
  unfold opK at hk
  split at hk <;> try cases hk
  · rename_i e ho
    rw [ho] at h
    have h' : allocK C.n o.dst K st (tdOf C.P e).inf := h
    unfold allocK at h'
    split at h'
    · rename_i x y z hi
      refine new_nextW (e := e) hs (zcells_den z) ?_ h' hN
      unfold execOp
      simp only [ho, Instr.alloc, newVar, newRow, Sem.run_bind, run_zero hi, Result.andThen_ok, run_newObj, Sem.run_pure, Array.toArray_toList]
      rfl
    · exact h'.elim
  · rename_i e X ho
    rw [ho] at h
    have h' : boxK C o.dst K st (cellsOf (ev st X)) := h
    unfold boxK at h'
    split at h'
    · rename_i l hl
      have hd := (cells_den (ev_den hs.env X) hl).1
      unfold boxF at h'
      split at h'
      · obtain ⟨hrd, h'⟩ := h'
        obtain ⟨H', h1, h2, h3⟩ := hs.froze (.cells (a.eval X).cells.toList.toArray e (0, 0))
        unfold Oper.wp
        rw [run_box ho]
        show N _ _
        have hden : Den ν H' (.rop l) (.pointer (some ⟨w.heap.size, 0, none⟩)) := .rop ((rds_den hd hrd).mono h1) (fun j u hj => by
          simp only [Hp.cell, h2, Option.isSome_none, Bool.false_eq_true, if_false, List.getElem?_toArray, Nat.zero_add]
          exact hj)
        cases hdst : o.dst with
        | none => rw [hdst] at h'; exact hN _ _ _ _ _ h3 h' (hp_alloc_le _)
        | some d => rw [hdst] at h'; exact hN _ _ _ _ _ (h3.put h'.1 hden) h'.2 (hp_alloc_le _)
      · exact new_nextW (e := e) hs hd (run_box ho) h' hN
    · exact h'.elim
  · rename_i mt ho
    rw [ho] at h
    exact makeMap_next ho hs h hN
  · rename_i tt n p ho
    rw [ho] at h
    exact buildSlice_next ho hs h hN
  · rename_i tt x y ho
    rw [ho] at h
    exact makeSlice_next ho hs h hN
  · split at hk <;> cases hk
/-- The world may be frozen as far as it is told by H and F. -/
theorem SatN.rebase (h : SatN B ν H C.n st a w) : ∃ G, B.F.le G ∧ H.le G ∧ G.le (hp w) ∧ SatN { B with H := H, F := G } ν H C.n st a w ∧
    ∀ ν' H' st' a' w', SatN { B with H := H, F := G } ν' H' C.n st' a' w' → SatN B ν' H' C.n st' a' w' := by
  refine ⟨fun b => if (B.F b).isSome || (H b).isSome then hp w b else none, ?_, ?_, ?_, ?_, ?_⟩
  · intro b o hb; simp [hb, h.subF b o hb]
  · intro b o hb; simp [hb, h.sub b o hb]
  · intro b o hb
    simp only at hb
    split at hb
    · exact hb
    · cases hb
  · obtain ⟨β, hβ⟩ := h.res
    refine ⟨h.sub, ?_, Hp.le.refl _, fun b o _ hn => hn, h.env, h.size, ⟨β, hβ.ok, hβ.dis, fun t r b ht hb => ?_⟩, h.fresh, h.keep, h.low, h.defers, h.kp⟩
    · intro b o hb
      simp only at hb
      split at hb
      · exact hb
      · cases hb
    · have := hβ.own t r b ht hb
      exact ⟨this.1, by simp [this.1, this.2]⟩
  · intro ν' H' st' a' w' k
    obtain ⟨β, hβ⟩ := k.res
    refine ⟨k.sub, ?_, h.subH.trans k.subH, ?_, k.env, k.size, ⟨β, hβ.ok, hβ.dis, fun t r b ht hb => ?_⟩, k.fresh, k.keep, k.low, k.defers, k.kp⟩
    · intro b o hb
      exact k.subF b o (by simp [hb, h.subF b o hb])
    · intro b o hb hn
      exact k.newH b o (by simp [hb, h.subF b o hb]) (h.newH b o hb hn)
    · have := hβ.own t r b ht hb
      refine ⟨this.1, ?_⟩
      cases e : B.F b with
      | none => rfl
      | some o => have h3 := this.2; simp [e, h.subF b o e] at h3
theorem SatN.drawn (h : SatN B ν H C.n st a w) : SatN B ν H C.n st a { w with drawn := w.drawn + 1 } :=
  ⟨h.sub, h.subF, h.subH, h.newH, h.env, h.size, h.res, h.fresh, h.keep, h.low, h.defers, ⟨h.kp.os, h.kp.tape, h.kp.output, h.kp.size, Nat.le_succ_of_le h.kp.drawn⟩⟩

theorem pc_yields {n : Nat} {r : Option (Prop × SV)} {o : Oper} {U : World → Prop} (hs : SatN B ν H n st a w) (h : pc n o.dst r K st)
    (hr : ∀ c s, r = some (c, s) → c → ∃ v, (∀ w, U w → (execOp a.eval o).run C.P w = .ok (.value v) w) ∧ Den ν H s v) :
    ∃ v st', (∀ w, U w → (execOp a.eval o).run C.P w = .ok (.value v) w) ∧ SatN B ν H n st' (a.put o.dst v) w ∧ K st' := by
  cases r with
  | none => exact h.elim
  | some r =>
    obtain ⟨c, s⟩ := r
    obtain ⟨v, h1, h2⟩ := hr c s rfl h.1
    have h3 := h.2
    cases hd : o.dst with
    | none => rw [hd] at h3; exact ⟨v, st, h1, hs, h3⟩
    | some d => rw [hd] at h3; exact ⟨v, _, h1, hs.put h3.1 h2, h3.2⟩
/-- What an operation that touches no memory yields. -/
theorem vop_yields {o : Oper} (hs : SatN B ν H C.n st a w) (hk : opK o.op = 0) (h : vop C o.dst o.op K st) :
    ∃ v st', (∀ w, True → (execOp a.eval o).run C.P w = .ok (.value v) w) ∧ SatN B ν H C.n st' (a.put o.dst v) w ∧ K st' := by
  have hp : ∀ {K : St → Prop}, pc C.n o.dst (vpure C.P o.op st) K st → ∃ v st', (∀ w, True → (execOp a.eval o).run C.P w = .ok (.value v) w) ∧ SatN B ν H C.n st' (a.put o.dst v) w ∧ K st' := fun h =>
    pc_yields hs h fun c s hr hc => by
      obtain ⟨v, h1, h2⟩ := vpure_sound (o := o) hs.env hs.res hr hc
      exact ⟨v, fun w _ => h1 w, h2⟩
  have hm : ∀ (x : Operand), (execOp a.eval o = (do pure (.value (a.eval x)))) → vput C.n o.dst (ev st x) K st → ∃ v st', (∀ w, True → (execOp a.eval o).run C.P w = .ok (.value v) w) ∧ SatN B ν H C.n st' (a.put o.dst v) w ∧ K st' := fun x he h =>
    pc_yields (r := some (True, ev st x)) hs ⟨trivial, h⟩ fun c s hr _ => by
      obtain ⟨rfl, rfl⟩ := some_pair hr
      exact ⟨a.eval x, fun w _ => by rw [he]; rfl, ev_den hs.env x⟩
  unfold vop at h
  unfold opK at hk
  split at h
  · rename_i x ho; exact hm x (by unfold execOp; simp only [ho]) h
  · rename_i x ho; exact hm x (by unfold execOp; simp only [ho]) h
  iterate 13 (rename_i ho; exact hp (by rw [ho]; exact h))
  · rename_i t x ho; rw [ho] at hk; cases hk
  · rename_i e ho; rw [ho] at hk; cases hk
  · rename_i e x ho; rw [ho] at hk; cases hk
  · rename_i t x y ho; rw [ho] at hk; cases hk
  · rename_i mt ho; rw [ho] at hk; cases hk
  · rename_i mt m k ok ho; rw [ho] at hk; cases hk
  · rename_i tt n p ho; rw [ho] at hk; cases hk
  · rename_i tt x y ho; rw [ho] at hk; cases hk
  · rename_i mt m k x ho; rw [ho] at hk; cases hk
  · rename_i c ho
    rw [ho] at hk
    unfold vcall at h
    split at h
    · rename_i f hf; simp only [hf] at hk; cases hk
    · exact hp (by rw [ho]; exact h)
    · exact hp (by rw [ho]; exact h)
    · exact hp (by rw [ho]; exact h)
    · rename_i hf; simp only [hf] at hk; cases hk
    · rename_i hf; simp only [hf] at hk; cases hk
    · rename_i hf; simp only [hf] at hk; cases hk
    · exact h.elim
  · exact h.elim
theorem load_yields {o : Oper} (hs : SatN B ν H C.n st a w) (hk : opK o.op = 1) (h : vop C o.dst o.op K st) :
    ∃ v st', (∀ w', (hp w).le (hp w') → (execOp a.eval o).run C.P w' = .ok (.value v) w') ∧ SatN B ν H C.n st' (a.put o.dst v) w ∧ K st' := by
  unfold opK at hk
  split at hk <;> try cases hk
  · rename_i t X ho
    rw [ho] at h
    exact pc_yields hs h fun c s hr hc => by
      obtain ⟨v, h1, h2⟩ := vload_sound hs.res.ok hs.sub hr hc (ev_den hs.env X)
      refine ⟨v, fun w' hw' => ?_, h2⟩
      unfold execOp
      simp only [ho, Sem.run_bind, h1 w' hw', Result.andThen_ok, Sem.run_pure]
  · rename_i mt m k ok ho
    rw [ho] at h
    exact pc_yields hs h fun c s hr hc => by
      obtain ⟨v, h1, h2⟩ := lookG_sound hs.res hs.sub hr hc (ev_den hs.env m) (ev_den hs.env k)
      refine ⟨v, fun w' hw' => ?_, h2⟩
      unfold execOp
      simp only [ho, Sem.run_bind, h1 w' (.inl hw'), Result.andThen_ok, Sem.run_pure]
  · split at hk <;> cases hk
theorem ro_yields {o : Oper} (hs : SatN B ν H C.n st a w) (hk : opK o.op = 1) (hro : opIsRo st o.op = true) (hHG : H.le G) (h : vop C o.dst o.op K st) :
    ∃ v st', (∀ w', G.le (hp w') → (execOp a.eval o).run C.P w' = .ok (.value v) w') ∧ SatN B ν H C.n st' (a.put o.dst v) w ∧ K st' := by
  unfold opK at hk
  split at hk <;> try cases hk
  · rename_i t X ho
    rw [ho] at h hro
    have hro' : isRop (ev st X) = true := hro
    have hl : ∃ l, ev st X = .rop l := by
      generalize ev st X = q at hro'
      cases q <;> first | exact ⟨_, rfl⟩ | cases hro'
    obtain ⟨l, hl⟩ := hl
    have h' : pc C.n o.dst (vload C.P { st with res := [] } t (ev st X)) K st := by
      have : vload C.P { st with res := [] } t (ev st X) = vload C.P st t (ev st X) := by rw [hl]; rfl
      rw [this]; exact h
    exact pc_yields hs h' fun c s hr hc => by
      obtain ⟨v, h1, h2⟩ := vload_sound (G := G) (fun t r ht => by cases ht) hHG hr hc (ev_den hs.env X)
      refine ⟨v, fun w' hw' => ?_, h2⟩
      unfold execOp
      simp only [ho, Sem.run_bind, h1 w' hw', Result.andThen_ok, Sem.run_pure]
  · rename_i mt m k ok ho
    rw [ho] at h hro
    have hro' : isRom (ev st m) = true := hro
    exact pc_yields hs h fun c s hr hc => by
      obtain ⟨v, h1, h2⟩ := lookG_sound hs.res hs.sub hr hc (ev_den hs.env m) (ev_den hs.env k)
      refine ⟨v, fun w' hw' => ?_, h2⟩
      unfold execOp
      simp only [ho, Sem.run_bind, h1 w' (.inr ⟨hro', hHG.trans hw'⟩), Result.andThen_ok, Sem.run_pure]
  · split at hk <;> cases hk

/-- An operation with its guard: it is wanted and done, or not wanted. -/
theorem vordg_cases {o : Oper} (hs : SatN B ν H C.n st a w) {ro : Bool} (h : vordg C ro ops o K st) :
    (∃ st', SatN B ν H C.n st' a w ∧ Region.wanted o (yielded ops a.tmps) = true ∧ vopr C ro o.dst o.op K st') ∨
    (∃ st', SatN B ν H C.n st' a w ∧ Region.wanted o (yielded ops a.tmps) = false ∧ vput C.n o.dst (.v undef) K st') := by
  unfold vordg at h
  split at h
  · rename_i hg
    exact .inl ⟨st, hs, by simp [Region.wanted, hg], h⟩
  · rename_i j want hg
    split at h
    · rename_i e he
      split at h
      · rename_i b hb
        obtain ⟨hlt, h1, h2⟩ := h
        have hv := hs.env e
        rw [hb] at hv
        have hv' := hv.v_eq
        have hsz : e < a.tmps.size := by rw [hs.size]; exact hlt
        have hy : yielded ops a.tmps j = some b := by
          unfold yielded
          rw [he]
          simp only [Option.bind_some]
          have : a.tmps[e]? = some (.bool b) := by
            have : a.tmps.getD e undef = .bool b := hv'
            simp only [Array.getD, hsz, dite_true] at this
            rw [Array.getElem?_eq_getElem hsz]; exact congrArg some this
          rw [this]
        have hself : ∀ v, Den ν H (.v (.bool v)) (.bool b) → SatN B ν H C.n (st.put e (.v (.bool v))) a w := by
          intro v hv2
          refine { hs with env := fun k => ?_ }
          show Den ν H (if e = k then _ else lk st.env k) _
          by_cases ek : e = k
          · subst ek; rw [if_pos rfl, hv']; exact hv2
          · rw [if_neg ek]; exact hs.env k
        have hw : Region.wanted o (yielded ops a.tmps) = (b == want) := by simp [Region.wanted, hg, hy]
        by_cases hbw : b = want
        · subst hbw
          exact .inl ⟨_, hself b (.r (.v _)), by rw [hw]; simp, h1 rfl⟩
        · have hbn : b = !want := by cases b <;> cases want <;> simp_all
          exact .inr ⟨_, hself (!want) (by rw [hbn]; exact .r (.v _)), by rw [hw]; simpa using hbw, h2 hbn⟩
      · rename_i cs hb
        obtain ⟨hlt, h1⟩ := h
        have hv := hs.env e
        rw [hb] at hv
        have hv' := hv.v_eq
        have hsz : e < a.tmps.size := by rw [hs.size]; exact hlt
        have hy : yielded ops a.tmps j = none := by
          unfold yielded
          rw [he]
          simp only [Option.bind_some]
          have : a.tmps[e]? = some (.tuple cs) := by
            have : a.tmps.getD e undef = .tuple cs := hv'
            simp only [Array.getD, hsz, dite_true] at this
            rw [Array.getElem?_eq_getElem hsz]; exact congrArg some this
          rw [this]
        exact .inr ⟨st, hs, by simp [Region.wanted, hg, hy], h1⟩
      · exact h.elim
    · exact h.elim


theorem vput_undef {o : Oper} {n : Nat} (hs : SatN B ν H n st a w) (h : vput n o.dst (.v undef) K st) : ∃ st', SatN B ν H n st' (a.put o.dst undef) w ∧ K st' := by
  cases hd : o.dst with
  | none => rw [hd] at h; exact ⟨st, hs, h⟩
  | some d => rw [hd] at h; exact ⟨_, hs.put h.1 (.r (.v undef)), h.2⟩
theorem takes {o : Oper} {ro : Bool} {U : World → Prop} (hs : SatN B ν H C.n st a w) (h : vordg C ro ops o K st)
    (hy : ∀ st', SatN B ν H C.n st' a w → vopr C ro o.dst o.op K st' → ∃ v st'', (∀ w, U w → (execOp a.eval o).run C.P w = .ok (.value v) w) ∧ SatN B ν H C.n st'' (a.put o.dst v) w ∧ K st'') :
    ∃ v st', YieldsIf C.P ops U o v a ∧ SatN B ν H C.n st' (a.put o.dst v) w ∧ K st' := by
  rcases vordg_cases hs h with ⟨st', hs', hw, h'⟩ | ⟨st', hs', hw, h'⟩
  · obtain ⟨v, st'', h1, h2, h3⟩ := hy st' hs' h'
    exact ⟨v, st'', .inl ⟨hw, h1⟩, h2, h3⟩
  · obtain ⟨st'', h2, h3⟩ := vput_undef hs' h'
    exact ⟨undef, st'', .inr ⟨hw, rfl⟩, h2, h3⟩
theorem okO_heads : ∀ (o : Ord) (f : Nat) (l : Array Bool), okO ops o true f l = true → o.heads ≠ []
  | .nil, f, l, h => by simp [okO] at h
  | .op i r, f, l, h => by simp [Ord.heads]
  | .ro i r, f, l, h => by simp [Ord.heads]
  | .alt a b, f, l, h => by
    simp only [okO, Bool.true_or, Bool.true_and, Bool.and_eq_true] at h
    have := okO_heads a f l h.1
    simp [Ord.heads, this]
/-- THE SYMBOLIC WALK OF A DRAWN REGION IS ONE OF EVERY ORDER. -/
theorem vord_sound (hnp : B.n = C.np) (hsel : Region.noSelect ops = true) (hQ : ∀ c a w, ¬ Q (.panic c) a w) : ∀ (o : Ord) (f : Nat) (l : Array Bool) (B : Base) (S : Array Bool → World → Prop) (ν : Nat → Option Value) (H : Hp) (st : St) (a : Act) (w : World),
    B.n = C.np → SatN B ν H C.n st a w → SpecS ops S B.F l w → vord C ops K o st → Next B C.n K (Q .normal) →
      (okO ops o false f l = true → wpAnyS C.P .any ops Q S f l a w) ∧
      (okO ops o true f l = true → ∃ f', f = f' + 1 ∧ ∀ i ∈ o.heads, wpOp C.P ops Q i (fun a' w' => S (l.setIfInBounds i true) w' ∧ wpAnyS C.P .any ops Q S f' (l.setIfInBounds i true) a' w') a w) := by
  intro o
  induction o with
  | nil =>
    intro f l B S ν H st a w hnp hs hS h hN
    refine ⟨fun hok => ?_, fun hok => by simp [okO] at hok⟩
    simp only [okO, Bool.not_false, Bool.true_and, List.isEmpty_iff] at hok
    exact wpAnyS_done hok (hN _ _ _ _ _ hs h) _
  | op i r ih =>
    intro f l B S ν H st a w hnp hs hS h hN
    simp only [vord] at h
    cases hi : ops[i]? with
    | none => rw [hi] at h; exact h.elim
    | some o =>
    rw [hi] at h
    simp only [] at h
    cases f with
    | zero => constructor <;> intro hok <;> simp [okO, hi] at hok
    | succ f =>
    have step : opK o.op = 2 ∨ opK o.op = 3 → (Region.ready .any ops l).contains i = true → okO ops r false f (l.setIfInBounds i true) = true → wpOp C.P ops Q i (fun a' w' => S (l.setIfInBounds i true) w' ∧ wpAnyS C.P .any ops Q S f (l.setIfInBounds i true) a' w') a w := by
      intro hk hr hok
      have hun : l.getD i true = false := (mem_ready.1 (by simpa using hr)).1
      have hNw : ∀ st' a' w' ν H, opK o.op = 3 → SatN B ν H C.n st' a' w' → vord C ops K r st' → (hp w).le (hp w') → S (l.setIfInBounds i true) w' ∧ wpAnyS C.P .any ops Q S f (l.setIfInBounds i true) a' w' := by
        intro st' a' w' ν' H' hk3 hs' h' hle
        have := hS.stepW hi (by rw [hk3]; decide) hle hs'.subF
        exact ⟨this.2, (ih f _ B S ν' H' st' a' w' hnp hs' this.1 h' hN).1 hok⟩
      unfold wpOp
      simp only [hi]
      rcases hk with hk | hk
      · have hNx : Next B C.n (vord C ops K r) (fun a' w' => S (l.setIfInBounds i true) w' ∧ wpAnyS C.P .any ops Q S f (l.setIfInBounds i true) a' w') := by
          intro st' a' w' ν' H' hs' h'
          have := hS.step (w' := w') hi hk hun
          exact ⟨this.2 w' hs'.subF, (ih f _ B S ν' H' st' a' w' hnp hs' this.1 h' hN).1 hok⟩
        rcases vordg_cases hs h with ⟨st', hs', hw, h'⟩ | ⟨st', hs', hw, h'⟩
        · rw [if_pos hw]
          exact .inl (vop_next hnp hs' h' hNx)
        · rw [if_neg (by rw [hw]; simp)]
          exact put_next hs' h' hNx (.r (.v _))
      · rcases vordg_cases hs h with ⟨st', hs', hw, h'⟩ | ⟨st', hs', hw, h'⟩
        · rw [if_pos hw]
          exact .inl (vop_nextW hk hs' h' (fun st a w' ν H k1 k2 k3 => hNw st a w' ν H hk k1 k2 k3))
        · rw [if_neg (by rw [hw]; simp)]
          obtain ⟨st'', k1, k2⟩ := vput_undef hs' h'
          exact hNw st'' _ w ν H hk k1 k2 (Hp.le.refl _)
    constructor
    · intro hok
      simp only [okO, hi, Bool.and_eq_true] at hok
      obtain ⟨h1, h2⟩ := hok
      split at h1
      · rename_i hk
        simp only [Bool.not_false, Bool.true_and, Bool.and_eq_true] at h1
        obtain ⟨v, st', hy, hs', hK⟩ := takes (U := fun _ => True) hs h (fun st' hs' h' => vop_yields hs' hk h')
        have hS' := hS.take hi (by rw [hk]; decide) (Hp.le.refl _) (T := fun _ _ => True) (fun _ _ _ _ => trivial) (fun _ _ _ _ _ _ _ => trivial)
        refine wpAnyS_first hi (Region.noSelect_spec hsel) hQ [] (fun j hj => by cases hj) (fun l' w' h => hS.dn i o l' w' hi (by rw [hk]; decide) h) (T := fun _ _ => True) (U := fun _ => True) (fun _ _ _ _ => trivial) f l a w
          (fun j hj => by cases hj) (Region.free_spec hi h1.2) (by simpa using h1.1) hy ?_ trivial ?_
        · exact hS.up _ _ (fun k h => getD_set_true h) hs.subF (.inr (Hp.le.refl _))
        · exact (ih f _ B _ ν H st' _ w hnp hs' hS' hK hN).1 h2
      · rename_i hk
        simp only [Bool.false_or, Bool.and_eq_true] at h1
        obtain ⟨v, st', hy, hs', hK⟩ := takes (U := fun w' => (hp w).le (hp w')) hs h (fun st' hs' h' => load_yields hs' hk h')
        have hS' := hS.take hi (by rw [hk]; decide) (Hp.le.refl _) (T := fun l' w' => newE ops l l' ∨ (hp w).le (hp w')) (fun _ _ _ h => h) (fun j oj l' w' hj hkj h => h.imp (newE_set hj hkj).1 id)
        refine wpAnyS_first hi (Region.noSelect_spec hsel) hQ (waits ops i) (waitL_spec _ _ (fun j hj => .inl (by simpa using hj))) (fun l' w' h => hS.dn i o l' w' hi (by rw [hk]; decide) h) (T := fun l' w' => newE ops l l' ∨ (hp w).le (hp w')) (U := fun w' => (hp w).le (hp w')) ?_ f l a w
          (fun j hj => by have hw := h1.2.2; simp only [allWait, Bool.and_eq_true, List.all_eq_true] at hw; simpa using hw.1 j hj) (Region.free_spec hi h1.2.1) (by simpa using h1.1) hy ?_ (.inr (Hp.le.refl _)) ?_
        · intro l' w' hinv hT
          rcases hT with hT | hT
          · exfalso
            obtain ⟨j, oj, k1, k2, k3, k4⟩ := (newE_set hi (by rw [hk]; decide)).1 hT
            have hw := h1.2.2
            simp only [allWait, Bool.and_eq_true, List.all_eq_true, List.mem_range] at hw
            have := hw.2 j (Array.getElem?_eq_some_iff.1 k1).1
            rw [k3, k1] at this
            simp only [Bool.false_or, k2, bne_self_eq_false, List.contains_iff_mem] at this
            have := hinv j this
            rcases Nat.lt_or_ge j l'.size with h' | h'
            · simp [h'] at this k4; rw [this] at k4; cases k4
            · simp [Array.getElem?_eq_none h'] at k4
          · exact hT
        · exact hS.up _ _ (fun k h => getD_set_true h) hs.subF (.inr (Hp.le.refl _))
        · exact (ih f _ B _ ν H st' _ w hnp hs' hS' hK hN).1 h2
      · rename_i hk0 hk1
        have hk : opK o.op = 2 ∨ opK o.op = 3 := by
          rcases opK_cases o.op with h | h | h
          · exact absurd h hk0
          · exact absurd h hk1
          · exact h
        simp only [Bool.and_eq_true, Bool.false_or] at h1
        have hr : Region.ready .any ops l = [i] := by simpa using h1.2
        refine ⟨fun h0 => (by rw [h0] at hr; cases hr), fun j hj => ?_⟩
        rw [hr] at hj
        have : j = i := by simpa using hj
        subst this
        exact step hk h1.1 h2
    · intro hok
      simp only [okO, hi, Bool.and_eq_true] at hok
      obtain ⟨h1, h2⟩ := hok
      split at h1
      · simp at h1
      · rename_i hk
        simp only [Bool.true_or, Bool.and_true] at h1
        refine ⟨f, rfl, fun j hj => ?_⟩
        have : j = i := by simpa [Ord.heads] using hj
        subst this
        obtain ⟨v, st', hy, hs', hK⟩ := takes (U := fun w' => (hp w).le (hp w')) hs h (fun st' hs' h' => load_yields hs' hk h')
        have hS' := hS.stepW hi (by rw [hk]; decide) (Hp.le.refl _) hs.subF
        exact hy.wpOp hi (Hp.le.refl _) ⟨hS'.2, (ih f _ B S ν H st' _ w hnp hs' hS'.1 hK hN).1 h2⟩
      · rename_i hk0 hk1
        have hk : opK o.op = 2 ∨ opK o.op = 3 := by
          rcases opK_cases o.op with h | h | h
          · exact absurd h hk0
          · exact absurd h hk1
          · exact h
        simp only [Bool.and_eq_true] at h1
        refine ⟨f, rfl, fun j hj => ?_⟩
        have : j = i := by simpa [Ord.heads] using hj
        subst this
        exact step hk h1.1 h2
  | ro i r ih =>
    intro f l B S ν H st a w hnp hs hS h hN
    simp only [vord] at h
    cases hi : ops[i]? with
    | none => rw [hi] at h; exact h.elim
    | some o =>
    rw [hi] at h
    simp only [] at h
    cases f with
    | zero => constructor <;> intro hok <;> simp [okO, hi] at hok
    | succ f =>
    constructor
    · intro hok
      simp only [okO, hi, Bool.and_eq_true, Bool.not_false, Bool.true_and, beq_iff_eq] at hok
      obtain ⟨⟨hk, h1⟩, h2⟩ := hok
      obtain ⟨G, g1, g2, g3, g4, g5⟩ := hs.rebase
      obtain ⟨v, st', hy, hs', hK⟩ := takes (U := fun w' => G.le (hp w')) g4 h (fun st' hs' h' => ro_yields hs' hk h'.1 g2 h'.2)
      have hS' := hS.take hi (by rw [hk]; decide) g1 (T := fun _ w' => G.le (hp w')) (fun _ _ h _ => h) (fun _ _ _ _ _ _ h => h)
      refine wpAnyS_first hi (Region.noSelect_spec hsel) hQ [] (fun j hj => by cases hj) (fun l' w' h => hS.dn i o l' w' hi (by rw [hk]; decide) h) (T := fun _ w' => G.le (hp w')) (U := fun w' => G.le (hp w')) (fun _ _ _ h => h) f l a w
        (fun j hj => by cases hj) (Region.free_spec hi h1.2) (by simpa using h1.1) hy ?_ g3 ?_
      · exact hS.up _ _ (fun k h => getD_set_true h) hs.subF (.inr (Hp.le.refl _))
      · exact (ih f _ { B with H := H, F := G } _ ν H st' _ w hnp hs' hS' hK (fun st a w ν H k => hN st a w ν H (g5 _ _ _ _ _ k))).1 h2
    · intro hok
      simp [okO, hi] at hok
  | alt x y ihx ihy =>
    intro f l B S ν H st a w hnp hs hS h hN
    have key : (okO ops x true f l && okO ops y true f l) = true → ∃ f', f = f' + 1 ∧ ∀ i ∈ x.heads ++ y.heads, wpOp C.P ops Q i (fun a' w' => S (l.setIfInBounds i true) w' ∧ wpAnyS C.P .any ops Q S f' (l.setIfInBounds i true) a' w') a w := by
      intro hok
      simp only [Bool.and_eq_true] at hok
      obtain ⟨f1, e1, h1⟩ := (ihx f l B S ν H st a w hnp hs hS h.1 hN).2 hok.1
      obtain ⟨f2, e2, h2⟩ := (ihy f l B S ν H st a w hnp hs hS h.2 hN).2 hok.2
      have : f1 = f2 := by omega
      subst this
      refine ⟨f1, e1, fun i hi => ?_⟩
      rcases List.mem_append.1 hi with hi | hi
      · exact h1 i hi
      · exact h2 i hi
    constructor
    · intro hok
      simp only [okO, Bool.false_or, Bool.and_eq_true] at hok
      obtain ⟨f1, rfl, h1⟩ := key (by simp [hok.2])
      have hr : x.heads ++ y.heads = Region.ready .any ops l := by simpa using hok.1
      refine ⟨fun h0 => ?_, fun i hi => h1 i (by rw [hr]; exact hi)⟩
      exfalso
      rw [h0] at hr
      simp only [List.append_eq_nil_iff] at hr
      exact okO_heads x _ _ hok.2.1 hr.1
    · intro hok
      simp only [okO, Bool.true_or, Bool.true_and] at hok
      exact key hok
/-- Of a whole region. -/
theorem region_sound {id : Nat} {o : Ord} (hnp : B.n = C.np) (hm : C.P.follows .mixedOrders = true) (hsel : Region.noSelect ops = true) (hQ : ∀ c a w, ¬ Q (.panic c) a w)
    (hok : okO ops o false ops.size (Array.replicate ops.size false) = true) (hs : SatN B ν H C.n st a w) (h : vord C ops K o st) (hN : Next B C.n K (Q .normal)) : wpAny C.P .any ops Q ops.size (Array.replicate ops.size false) a { w with drawn := w.drawn + 1 } :=
  (wpAny_of_S _ _ _ _ ((vord_sound hnp hsel hQ o ops.size _ B (fun _ _ => True) ν H st a _ hnp hs.drawn ⟨fun _ _ _ _ _ => trivial, fun _ _ _ _ _ _ _ => trivial⟩ h hN).1 hok))
end
end Go.Proofs.Ytbpobdlahighoaa.Sx
