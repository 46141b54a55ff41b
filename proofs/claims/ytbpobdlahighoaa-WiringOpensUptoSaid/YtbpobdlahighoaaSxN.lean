/- The engine tells the truth: pieces of code, loops, and a whole function. -/
import Derived.Test.YtbpobdlahighoaaSxM
import Derived.Test.YtbpobdlahighoaaSxKm
import Derived.Test.YtbpobdlahighoaaSxMg
import Derived.OrdersIn
namespace Go.Proofs.Ytbpobdlahighoaa.Sx
open Go
set_option linter.unusedVariables false
set_option linter.unusedSimpArgs false

section
variable {C : Cx} {B : Base} {ν ν' : Nat → Option Value} {H G F g : Hp} {st : St} {x y s : SV} {u z : Value} {t : Nat} {w w' : World} {a : Act} {d : Option Nat} {K : St → Prop}

theorem call_next {N : Act → World → Prop} {o : Oper} {Q : Exit → Act → World → Prop} {c : Call} (ho : o.op = .call c) (hnp : B.n = C.np) (hs : SatN B ν H C.n st a w)
    (h : vcall C o.dst c K st) (hN : Next B C.n K N) : o.wp C.P a w N Q := by
  unfold vcall at h
  split at h
  · rename_i f hf
    split at h
    · rename_i g first cap hev
      have hfd := ev_den hs.env f
      rw [hev] at hfd
      obtain ⟨fs, cs, e1, d1, d2⟩ := hfd.fn_inv
      obtain ⟨σ, ls, mv, Q', k1, k2, k3, k4, k5⟩ := h
      have hargs : DenL ν H (first ++ (c.args.toList.map (ev st) ++ cap)) (fs ++ (c.args.toList.map a.eval ++ cs)) := d1.app ((map_den hs.env c.args.toList).app d2)
      have hcb := (k4 (fun _ => undef)).1
      have hexec : (execOp a.eval o).run C.P w = .ok (.enter g (fs ++ (c.args.toList.map a.eval ++ cs)).toArray) w := by
        unfold execOp
        simp only [ho, resolve, hf, e1, Deferred.ofValue, Sem.run_bind, Sem.run_pure, Result.andThen_ok, invoke]
        rw [hcb]
        congr 2
        apply Array.toList_inj.1
        simp
      unfold Oper.wp
      rw [hexec]
      show Calls C.P g _ w _
      exact call_sat (mv := mv) hnp hs hargs k1 k2 k3 k4 (fun r post h1 h2 => (k5 r post h1 h2).1) (fun r post h1 h2 ν2 H2 y w' hd hsat => put_next hsat (k5 r post h1 h2).2 hN hd)
    · exact h.elim
  · rename_i hc
    exact pure_next hs (by rw [ho]; exact h) hN
  · rename_i hc
    exact pure_next hs (by rw [ho]; exact h) hN
  · rename_i hc
    exact pure_next hs (by rw [ho]; exact h) hN
  · rename_i hc
    split at h
    · rename_i m k mt ha ht
      exact delete_next ho hc ha ht hs h hN
    · exact h.elim
  · rename_i hc
    split at h
    · rename_i x y t' t'' ha ht
      obtain ⟨rfl, h⟩ := h
      exact append_next ho hc ha ht hs h hN
    · exact h.elim
  · rename_i hc
    split at h
    · rename_i x t' ha ht
      exact clear_next ho hc ha ht hs h hN
    · exact h.elim
  · exact h.elim
theorem look_next {N : Act → World → Prop} {o : Oper} {Q : Exit → Act → World → Prop} {mt : TypeId} {m k : Operand} {ok : Bool} (ho : o.op = .lookup mt m k ok) (hs : SatN B ν H C.n st a w)
    (h : pc C.n o.dst (lookG C.P ok (mapR C.P st mt (ev st m)) (valOf (ev st k))) K st) (hN : Next B C.n K N) : o.wp C.P a w N Q :=
  pc_next hs h hN fun c s hr hc => by
    obtain ⟨v, h1, h2⟩ := lookG_sound hs.res hs.sub hr hc (ev_den hs.env m) (ev_den hs.env k)
    refine ⟨v, ?_, h2⟩
    unfold execOp
    simp only [ho, Sem.run_bind, h1 w (.inl (Hp.le.refl _)), Result.andThen_ok, Sem.run_pure]
theorem vop_next {N : Act → World → Prop} {o : Oper} {Q : Exit → Act → World → Prop} (hnp : B.n = C.np) (hs : SatN B ν H C.n st a w) (h : vop C o.dst o.op K st) (hN : Next B C.n K N) : o.wp C.P a w N Q := by
  unfold vop at h
  split at h
  · rename_i x ho; exact pc_next (r := some (True, ev st x)) hs ⟨trivial, h⟩ hN (fun c s hr _ => by obtain ⟨rfl, rfl⟩ := some_pair hr; exact ⟨a.eval x, by unfold execOp; simp only [ho]; rfl, ev_den hs.env x⟩)
  · rename_i x ho; exact pc_next (r := some (True, ev st x)) hs ⟨trivial, h⟩ hN (fun c s hr _ => by obtain ⟨rfl, rfl⟩ := some_pair hr; exact ⟨a.eval x, by unfold execOp; simp only [ho]; rfl, ev_den hs.env x⟩)
  iterate 13 (rename_i ho; exact pure_next hs (by rw [ho]; exact h) hN)
  · rename_i t x ho; exact load_next ho hs h hN
  · rename_i e ho
    split at h
    · rename_i hi; exact alloc_next ho hi hs h hN
    · exact h.elim
  · rename_i e x ho; exact box_next ho hs h hN
  · rename_i t x y ho; exact store_next ho hs h hN
  · rename_i mt ho; exact makeMap_next ho hs h (fun st a w ν H k1 k2 _ => hN st a w ν H k1 k2)
  · rename_i mt m k ok ho; exact look_next ho hs h hN
  · rename_i tt n p ho; exact buildSlice_next ho hs h (fun st a w ν H k1 k2 _ => hN st a w ν H k1 k2)
  · rename_i tt x y ho; exact makeSlice_next ho hs h (fun st a w ν H k1 k2 _ => hN st a w ν H k1 k2)
  · rename_i mt m k x ho; exact update_next ho hs h hN
  · rename_i c ho; exact call_next ho hnp hs h hN
  · exact h.elim
/-- The operations of a region, in the text's order. -/
theorem vops_sound {all : Array Oper} {Q : Exit → Act → World → Prop} (hnp : B.n = C.np) : ∀ (l : List Nat) (r : List Oper) (K : St → Prop) (st : St) (a : Act) (w : World) (ν : Nat → Option Value) (H : Hp), (∀ (k : Nat), r[k]? = (l[k]?).bind (all[·]?)) → r.length = l.length → SatN B ν H C.n st a w →
    vops C all r K st → Next B C.n K (Q .normal) → wpOps C.P all Q l a w
  | [], r, K, st, a, w, ν, H, hr, hlen, hs, h, hN => by
    have : r = [] := List.eq_nil_of_length_eq_zero hlen
    subst this
    exact hN _ _ _ _ _ hs h
  | i :: l, [], K, st, a, w, ν, H, hr, hlen, hs, h, hN => by cases hlen
  | i :: l, o :: r, K, st, a, w, ν, H, hr, hlen, hs, h, hN => by
    have hi : all[i]? = some o := by have := hr 0; simpa using this.symm
    have ih : ∀ st a w ν H, SatN B ν H C.n st a w → vops C all r K st → wpOps C.P all Q l a w := fun st a w ν H hs h => vops_sound hnp l r K st a w ν H (fun k => by have := hr (k + 1); simpa using this) (by simpa using hlen) hs h hN
    have hNx : Next B C.n (vops C all r K) (wpOps C.P all Q l) := fun st a w ν H hs h => ih st a w ν H hs h
    simp only [wpOps, hi]
    unfold vops at h
    split at h
    · rename_i hg
      have : Region.wanted o (yielded all a.tmps) = true := by simp [Region.wanted, hg]
      rw [if_pos this]
      exact .inl (vop_next hnp hs h hNx)
    · rename_i j want hg
      split at h
      · rename_i e he
        split at h
        · rename_i b hb
          obtain ⟨hlt, h1, h2⟩ := h
          have hv := hs.env e
          rw [hb] at hv
          have hv' := hv.v_eq
          have hsz : e < a.tmps.size := by rw [hs.size]; exact hlt
          have hy : yielded all a.tmps j = some b := by
            unfold yielded
            rw [he]
            simp only [Option.bind_some]
            have : a.tmps[e]? = some (.bool b) := by
              have : a.tmps.getD e undef = .bool b := hv'
              simp only [Array.getD, hsz, dite_true] at this
              rw [Array.getElem?_eq_getElem hsz]; exact congrArg some this
            rw [this]
          have hself : ∀ v, Den ν H (.v (.bool v)) (.bool b) → SatN B ν H C.n (st.put e (.v (.bool v))) a w := by
            intro v hv2
            refine { hs with env := fun k => ?_ }
            show Den ν H (if e = k then _ else lk st.env k) _
            by_cases ek : e = k
            · subst ek; rw [if_pos rfl, hv']; exact hv2
            · rw [if_neg ek]; exact hs.env k
          have hw : Region.wanted o (yielded all a.tmps) = (b == want) := by simp [Region.wanted, hg, hy]
          rw [hw]
          by_cases hbw : b = want
          · subst hbw
            rw [if_pos (by simp)]
            exact .inl (vop_next hnp (hself b (.r (.v _))) (h1 rfl) hNx)
          · have hbn : b = !want := by cases b <;> cases want <;> simp_all
            rw [if_neg (by simpa using hbw)]
            exact put_next (hself (!want) (by rw [hbn]; exact .r (.v _))) (h2 hbn) hNx (.r (.v _))
        · rename_i cs hb
          obtain ⟨hlt, h1⟩ := h
          have hv := hs.env e
          rw [hb] at hv
          have hv' := hv.v_eq
          have hsz : e < a.tmps.size := by rw [hs.size]; exact hlt
          have hy : yielded all a.tmps j = none := by
            unfold yielded
            rw [he]
            simp only [Option.bind_some]
            have : a.tmps[e]? = some (.tuple cs) := by
              have : a.tmps.getD e undef = .tuple cs := hv'
              simp only [Array.getD, hsz, dite_true] at this
              rw [Array.getElem?_eq_getElem hsz]; exact congrArg some this
            rw [this]
          have hw : Region.wanted o (yielded all a.tmps) = false := by simp [Region.wanted, hg, hy]
          rw [hw, if_neg (by simp)]
          exact put_next hs h1 hNx (.r (.v _))
        · exact h.elim
      · exact h.elim

/-! ### In a round everything that is no deferring goes as everywhere -/
def Fr (r : Option Nat) : Fence := { Fence.wide with round := r }
theorem calls_fr {r : Option Nat} {n : Nat} {P : Program} {f : FuncId} {args : Array Value} {R : Ending → World → Prop} (h : Calls P f args w R) : CallsIn (Fr r) n P f args w R := callsIn_wide (n := n).2 h
theorem op_in {r : Option Nat} {P : Program} {o : Oper} {N : Act → World → Prop} {Q : Exit → Act → World → Prop} (hd : ∀ c, o.op ≠ .defer c) (h : o.wp P a w N Q) : o.wpIn (Fr r) 0 P a w N Q := by
  have hn : ∀ p : Prop, ((Fr r).depth.isSome = true → p) := fun p h => by simp [Fr, Fence.wide] at h
  unfold Oper.wpIn
  refine ⟨fun f _ => trivial, ?_⟩
  rw [Oper.semAt_eq _ _ _ hd]
  unfold Oper.wp at h
  generalize (execOp a.eval o).run P w = x at h ⊢
  cases x with
  | ok n w' =>
    cases n with
    | value v => exact h
    | skip => exact h
    | defer d => exact h
    | enter f args => exact ⟨hn _, calls_fr h⟩
    | row row args => exact ⟨hn _, fun c cs _ => let ⟨v, w2, k1, k2⟩ := h c cs; ⟨v, w2, k1, stepsIn_wide.2 k2⟩⟩
    | _ => exact h.elim
  | halt x w' => cases x <;> exact h
def noDefer (ops : Array Oper) : Bool := ops.all fun o => match o.op with | .defer _ => false | _ => true
theorem noDefer_spec {ops : Array Oper} (h : noDefer ops = true) (i : Nat) (o : Oper) (hi : ops[i]? = some o) : ∀ c, o.op ≠ .defer c := by
  intro c hc
  obtain ⟨hlt, rfl⟩ := Array.getElem?_eq_some_iff.1 hi
  have := Array.all_eq_true.1 h i hlt
  rw [hc] at this; cases this
theorem ops_in {r : Option Nat} {P : Program} {all : Array Oper} {Q : Exit → Act → World → Prop} (hd : noDefer all = true) (hL : ∀ a w, ¬ Q .outgrown a w) : ∀ (l : List Nat) (a : Act) (w : World), wpOps P all Q l a w → wpOpsIn (Fr r) 0 P all Q l a w
  | [], a, w, h => h
  | i :: l, a, w, h => by
    simp only [wpOps, wpOpsIn] at h ⊢
    cases ho : all[i]? with
    | none => rw [ho] at h; exact ops_in hd hL l a w h
    | some o =>
      rw [ho] at h
      simp only at h ⊢
      split at h
      · rename_i hw
        rw [if_pos hw]
        rcases h with h | ⟨_, a', w', h⟩
        · exact Oper.wpIn_mono (fun a w => ops_in hd hL l a w) (op_in (noDefer_spec hd i o ho) h)
        · exact absurd h (hL _ _)
      · rename_i hw
        rw [if_neg hw]
        exact ⟨fun f _ => trivial, ops_in hd hL l _ w h⟩
theorem any_in {r : Option Nat} {P : Program} {md : Region.Mode} {all : Array Oper} {Q : Exit → Act → World → Prop} (hd : noDefer all = true) (hL : ∀ a w, ¬ Q .outgrown a w) : ∀ (fuel : Nat) (listed : Array Bool) (a : Act) (w : World), wpAny P md all Q fuel listed a w → wpAnyIn (Fr r) 0 P md all Q fuel listed a w
  | 0, listed, a, w, h => h
  | fuel + 1, listed, a, w, h => by
    refine ⟨h.1, fun i hi => ?_⟩
    have h2 := h.2 i hi
    unfold wpOp at h2
    unfold wpOpIn
    cases ho : all[i]? with
    | none => rw [ho] at h2; exact any_in hd hL fuel _ a w h2
    | some o =>
      rw [ho] at h2
      simp only at h2 ⊢
      split at h2
      · rename_i hw
        rw [if_pos hw]
        rcases h2 with h | ⟨_, a', w', h⟩
        · exact Oper.wpIn_mono (fun a w => any_in hd hL fuel _ a w) (op_in (noDefer_spec hd i o ho) h)
        · exact absurd h (hL _ _)
      · rename_i hw
        rw [if_neg hw]
        exact ⟨fun f _ => trivial, any_in hd hL fuel _ _ w h2⟩

/-! ### What is still to do -/
/-- The base with the marks of loops over iterators that have come. -/
structure Bext (B0 B : Base) : Prop where
  w : B.w = B0.w
  ν : B.ν = B0.ν
  n : B.n = B0.n
  H : B.H = B0.H
  F : B0.F.le B.F
  nodup : B.ds.Nodup
  marks : ∀ D ∈ B.ds, B.F D = some (.deferred (some [])) ∧ hp B0.w D = none
theorem Bext.trans {A B D : Base} (h : Bext A B) (k : Bext B D) : Bext A D := ⟨k.w.trans h.w, k.ν.trans h.ν, k.n.trans h.n, k.H.trans h.H, h.F.trans k.F, k.nodup, fun D hD => ⟨(k.marks D hD).1, by rw [← h.w]; exact (k.marks D hD).2⟩⟩
def sem (C : Cx) (B : Base) (r : Option Nat) (fin : Exit → Act → World → Prop) : List VI → Exit → Act → World → Prop
  | [], e, a, w => fin e a w
  | .code c :: k, .normal, a, w => c.wpIn (Fr r) 0 C.P (sem C B r fin k) a w
  | .code _ :: k, e, a, w => sem C B r fin k e a w
  | .blk _ :: k, .normal, a, w => sem C B r fin k .normal a w
  | .blk id :: k, .exit i, a, w => if i = id then sem C B r fin k .normal a w else sem C B r fin k (.exit i) a w
  | .blk _ :: k, e, a, w => sem C B r fin k e a w
  | .loop E :: _, .normal, a, w => ∃ B' ν H st, Bext B B' ∧ SatN B' ν H C.n st a w ∧ E st
  | .loop _ :: k, e, a, w => sem C B r fin k e a w
  | .stop E :: _, e, a, w => (match e with | .normal => True | .ret => True | .exit _ => True | _ => False) ∧ ∃ B' ν H st, Bext B B' ∧ SatN B' ν H C.n st a w ∧ E e st
variable {r : Option Nat}
theorem sem_then (fin : Exit → Act → World → Prop) (b : Code) (k : List VI) : ∀ e a w, sem C B r fin (.code b :: k) e a w ↔ Exit.then (b.wpIn (Fr r) 0 C.P (sem C B r fin k)) (sem C B r fin k) e a w := by
  intro e a w; cases e <;> rfl
theorem sem_blk (fin : Exit → Act → World → Prop) (id : Nat) (k : List VI) : ∀ e a w, sem C B r fin (.blk id :: k) e a w ↔ Exit.inBlock id (sem C B r fin k) e a w := by
  intro e a w; cases e <;> rfl
theorem sem_exit (fin : Exit → Act → World → Prop) (id : Nat) : ∀ (k k' : List VI) (a : Act) (w : World), popTo id k = some k' → sem C B r fin k' .normal a w → sem C B r fin k (.exit id) a w
  | [], _, _, _, h, _ => by cases h
  | .blk i :: k, k', a, w, h, hk => by
    unfold popTo at h
    show (if id = i then _ else _)
    by_cases e : i = id
    · rw [if_pos e] at h; injection h with h; subst h; rw [if_pos e.symm]; exact hk
    · rw [if_neg e] at h; rw [if_neg (fun h => e h.symm)]; exact sem_exit fin id k k' a w h hk
  | .code _ :: k, k', a, w, h, hk => sem_exit fin id k k' a w h hk
  | .loop _ :: k, k', a, w, h, hk => sem_exit fin id k k' a w h hk
theorem sem_exitB (fin : Exit → Act → World → Prop) (id : Nat) {E : Exit → St → Prop} : ∀ (k : List VI) (a : Act) (w : World), popTo id k = none → bot k = some E → (∃ B' ν H st, Bext B B' ∧ SatN B' ν H C.n st a w ∧ E (.exit id) st) → sem C B r fin k (.exit id) a w
  | [], _, _, _, h, _ => by cases h
  | .blk i :: k, a, w, h, hb, hk => by
    unfold popTo at h
    show (if id = i then _ else _)
    by_cases e : i = id
    · rw [if_pos e] at h; cases h
    · rw [if_neg e] at h; rw [if_neg (fun h => e h.symm)]; exact sem_exitB fin id k a w h hb hk
  | .code _ :: k, a, w, h, hb, hk => sem_exitB fin id k a w h hb hk
  | .loop _ :: k, a, w, h, hb, hk => sem_exitB fin id k a w h hb hk
  | .stop E :: _, a, w, h, hb, hk => by injection hb with hb; subst hb; exact ⟨trivial, hk⟩
theorem sem_ret (fin : Exit → Act → World → Prop) : ∀ (k : List VI) (a : Act) (w : World), bot k = none → fin .ret a w → sem C B r fin k .ret a w
  | [], _, _, _, h => h
  | .blk _ :: k, a, w, hb, h => sem_ret fin k a w hb h
  | .code _ :: k, a, w, hb, h => sem_ret fin k a w hb h
  | .loop _ :: k, a, w, hb, h => sem_ret fin k a w hb h
  | .stop _ :: _, _, _, hb, _ => by cases hb
theorem sem_retB (fin : Exit → Act → World → Prop) {E : Exit → St → Prop} : ∀ (k : List VI) (a : Act) (w : World), bot k = some E → (∃ B' ν H st, Bext B B' ∧ SatN B' ν H C.n st a w ∧ E .ret st) → sem C B r fin k .ret a w
  | [], _, _, hb, h => by cases hb
  | .blk _ :: k, a, w, hb, h => sem_retB fin k a w hb h
  | .code _ :: k, a, w, hb, h => sem_retB fin k a w hb h
  | .loop _ :: k, a, w, hb, h => sem_retB fin k a w hb h
  | .stop _ :: _, _, _, hb, h => by injection hb with hb; subst hb; exact ⟨trivial, h⟩
/-- A loop by a family of states. -/
theorem wpIn_loop_ix {F : Fence} {n : Nat} {P : Program} {Q : Exit → Act → World → Prop} {c : Code} {ι : Type} (I : ι → Act → World → Prop) (μ : ι → Nat) (round : ∀ i a w, I i a w → c.wpIn F n P (Exit.then (fun a' w' => ∃ i', I i' a' w' ∧ μ i' < μ i) Q) a w) :
    ∀ i a w, I i a w → (Code.loop c).wpIn F n P Q a w := by
  intro i a w h₀ b k cs hro hb hr
  have key : ∀ j i a w, μ i = j → I i a w → ∃ e a' w', Q e a' w' ∧ ArrivesIn (Machine.fenced P F) P (lone (b.atR a (.code c :: .inLoop c :: k)) cs w) b k cs e a' w' := by
    intro j
    induction j using Nat.strongRecOn with
    | _ j ih =>
      intro i a w hn hI
      obtain ⟨e, a₁, w₁, hq, harr⟩ := round i a w hI b (.inLoop c :: k) cs hro hb hr
      cases e with
      | normal =>
        obtain ⟨i', hI₁, hlt⟩ := hq
        obtain ⟨e₂, a₂, w₂, hq₂, harr₂⟩ := ih (μ i') (hn ▸ hlt) i' a₁ w₁ rfl hI₁
        exact ⟨e₂, a₂, w₂, hq₂, .of_steps (StepsIn.trans harr (.one (fenced_calm hb hr rfl) stepR_inLoop)) harr₂⟩
      | exit id => exact ⟨_, a₁, w₁, hq, .pass (x := .inLoop c) rfl (fun _ _ => .inl (by simp)) harr⟩
      | goto l => exact ⟨_, a₁, w₁, hq, .pass (x := .inLoop c) rfl (fun _ _ => .inl (by simp)) harr⟩
      | ret => exact ⟨_, a₁, w₁, hq, .pass (x := .inLoop c) rfl (fun _ _ => .inl (by simp)) harr⟩
      | panic ch => exact ⟨_, a₁, w₁, hq, .pass (x := .inLoop c) rfl (fun _ _ => .inl (by simp)) harr⟩
      | outgrown => exact ⟨_, a₁, w₁, hq, .pass (x := .inLoop c) rfl (fun _ _ => .inl (by simp)) harr⟩
  obtain ⟨e, a', w', hq, harr⟩ := key _ i a w rfl h₀
  exact ⟨e, a', w', hq, .of_steps (.one (fenced_calm hb hr rfl) stepR_loop) harr⟩
end
end Go.Proofs.Ytbpobdlahighoaa.Sx
