/- The engine tells the truth: pieces of code, loops, and a whole function. -/
import Derived.Test.YtbpobdlahighoaaSxM
import Derived.Test.YtbpobdlahighoaaSxKm
import Derived.Test.YtbpobdlahighoaaSxMg
namespace Go.Proofs.Ytbpobdlahighoaa.Sx
open Go
set_option linter.unusedVariables false
set_option linter.unusedSimpArgs false

section
variable {C : Cx} {B : Base} {ν ν' : Nat → Option Value} {H G F g : Hp} {st : St} {x y s : SV} {u z : Value} {t : Nat} {w w' : World} {a : Act} {d : Option Nat} {K : St → Prop}

theorem call_next {N : Act → World → Prop} {o : Oper} {Q : Exit → Act → World → Prop} {c : Call} (ho : o.op = .call c) (hnp : B.n = C.np) (hs : SatN B ν H C.n st a w)
    (h : vcall C o.dst c K st) (hN : Next B C.n K N) : o.wp C.P a w N Q := by
  unfold vcall at h
  split at h
  · rename_i f hf
    split at h
    · rename_i g first cap hev
      have hfd := ev_den hs.env f
      rw [hev] at hfd
      obtain ⟨fs, cs, e1, d1, d2⟩ := hfd.fn_inv
      obtain ⟨σ, ls, mv, Q', k1, k2, k3, k4, k5⟩ := h
      have hargs : DenL ν H (first ++ (c.args.toList.map (ev st) ++ cap)) (fs ++ (c.args.toList.map a.eval ++ cs)) := d1.app ((map_den hs.env c.args.toList).app d2)
      have hcb := (k4 (fun _ => undef)).1
      have hexec : (execOp a.eval o).run C.P w = .ok (.enter g (fs ++ (c.args.toList.map a.eval ++ cs)).toArray) w := by
        unfold execOp
        simp only [ho, resolve, hf, e1, Deferred.ofValue, Sem.run_bind, Sem.run_pure, Result.andThen_ok, invoke]
        rw [hcb]
        congr 2
        apply Array.toList_inj.1
        simp
      unfold Oper.wp
      rw [hexec]
      show Calls C.P g _ w _
      exact call_sat (mv := mv) hnp hs hargs k1 k2 k3 k4 (fun r post h1 h2 => (k5 r post h1 h2).1) (fun r post h1 h2 ν2 H2 y w' hd hsat => put_next hsat (k5 r post h1 h2).2 hN hd)
    · exact h.elim
  · rename_i hc
    exact pure_next hs (by rw [ho]; exact h) hN
  · rename_i hc
    exact pure_next hs (by rw [ho]; exact h) hN
  · rename_i hc
    exact pure_next hs (by rw [ho]; exact h) hN
  · rename_i hc
    split at h
    · rename_i m k mt ha ht
      exact delete_next ho hc ha ht hs h hN
    · exact h.elim
  · rename_i hc
    split at h
    · rename_i x y t' t'' ha ht
      obtain ⟨rfl, h⟩ := h
      exact append_next ho hc ha ht hs h hN
    · exact h.elim
  · rename_i hc
    split at h
    · rename_i x t' ha ht
      exact clear_next ho hc ha ht hs h hN
    · exact h.elim
  · exact h.elim
theorem look_next {N : Act → World → Prop} {o : Oper} {Q : Exit → Act → World → Prop} {mt : TypeId} {m k : Operand} {ok : Bool} (ho : o.op = .lookup mt m k ok) (hs : SatN B ν H C.n st a w)
    (h : pc C.n o.dst (lookG C.P ok (mapR C.P st mt (ev st m)) (valOf (ev st k))) K st) (hN : Next B C.n K N) : o.wp C.P a w N Q :=
  pc_next hs h hN fun c s hr hc => by
    obtain ⟨v, h1, h2⟩ := lookG_sound hs.res hs.sub hr hc (ev_den hs.env m) (ev_den hs.env k)
    refine ⟨v, ?_, h2⟩
    unfold execOp
    simp only [ho, Sem.run_bind, h1 w (.inl (Hp.le.refl _)), Result.andThen_ok, Sem.run_pure]
theorem vop_next {N : Act → World → Prop} {o : Oper} {Q : Exit → Act → World → Prop} (hnp : B.n = C.np) (hs : SatN B ν H C.n st a w) (h : vop C o.dst o.op K st) (hN : Next B C.n K N) : o.wp C.P a w N Q := by
  unfold vop at h
  split at h
  · rename_i x ho; exact pc_next (r := some (True, ev st x)) hs ⟨trivial, h⟩ hN (fun c s hr _ => by obtain ⟨rfl, rfl⟩ := some_pair hr; exact ⟨a.eval x, by unfold execOp; simp only [ho]; rfl, ev_den hs.env x⟩)
  · rename_i x ho; exact pc_next (r := some (True, ev st x)) hs ⟨trivial, h⟩ hN (fun c s hr _ => by obtain ⟨rfl, rfl⟩ := some_pair hr; exact ⟨a.eval x, by unfold execOp; simp only [ho]; rfl, ev_den hs.env x⟩)
  iterate 13 (rename_i ho; exact pure_next hs (by rw [ho]; exact h) hN)
  · rename_i t x ho; exact load_next ho hs h hN
  · rename_i e ho
    split at h
    · rename_i hi; exact alloc_next ho hi hs h hN
    · exact h.elim
  · rename_i e x ho; exact box_next ho hs h hN
  · rename_i t x y ho; exact store_next ho hs h hN
  · rename_i mt ho; exact makeMap_next ho hs h (fun st a w ν H k1 k2 _ => hN st a w ν H k1 k2)
  · rename_i mt m k ok ho; exact look_next ho hs h hN
  · rename_i tt n p ho; exact buildSlice_next ho hs h (fun st a w ν H k1 k2 _ => hN st a w ν H k1 k2)
  · rename_i tt x y ho; exact makeSlice_next ho hs h (fun st a w ν H k1 k2 _ => hN st a w ν H k1 k2)
  · rename_i mt m k x ho; exact update_next ho hs h hN
  · rename_i c ho; exact call_next ho hnp hs h hN
  · exact h.elim
/-- The operations of a region, in the text's order. -/
theorem vops_sound {all : Array Oper} {Q : Exit → Act → World → Prop} (hnp : B.n = C.np) : ∀ (l : List Nat) (r : List Oper) (K : St → Prop) (st : St) (a : Act) (w : World) (ν : Nat → Option Value) (H : Hp), (∀ (k : Nat), r[k]? = (l[k]?).bind (all[·]?)) → r.length = l.length → SatN B ν H C.n st a w →
    vops C all r K st → Next B C.n K (Q .normal) → wpOps C.P all Q l a w
  | [], r, K, st, a, w, ν, H, hr, hlen, hs, h, hN => by
    have : r = [] := List.eq_nil_of_length_eq_zero hlen
    subst this
    exact hN _ _ _ _ _ hs h
  | i :: l, [], K, st, a, w, ν, H, hr, hlen, hs, h, hN => by cases hlen
  | i :: l, o :: r, K, st, a, w, ν, H, hr, hlen, hs, h, hN => by
    have hi : all[i]? = some o := by have := hr 0; simpa using this.symm
    have ih : ∀ st a w ν H, SatN B ν H C.n st a w → vops C all r K st → wpOps C.P all Q l a w := fun st a w ν H hs h => vops_sound hnp l r K st a w ν H (fun k => by have := hr (k + 1); simpa using this) (by simpa using hlen) hs h hN
    have hNx : Next B C.n (vops C all r K) (wpOps C.P all Q l) := fun st a w ν H hs h => ih st a w ν H hs h
    simp only [wpOps, hi]
    unfold vops at h
    split at h
    · rename_i hg
      have : Region.wanted o (yielded all a.tmps) = true := by simp [Region.wanted, hg]
      rw [if_pos this]
      exact .inl (vop_next hnp hs h hNx)
    · rename_i j want hg
      split at h
      · rename_i e he
        split at h
        · rename_i b hb
          obtain ⟨hlt, h1, h2⟩ := h
          have hv := hs.env e
          rw [hb] at hv
          have hv' := hv.v_eq
          have hsz : e < a.tmps.size := by rw [hs.size]; exact hlt
          have hy : yielded all a.tmps j = some b := by
            unfold yielded
            rw [he]
            simp only [Option.bind_some]
            have : a.tmps[e]? = some (.bool b) := by
              have : a.tmps.getD e undef = .bool b := hv'
              simp only [Array.getD, hsz, dite_true] at this
              rw [Array.getElem?_eq_getElem hsz]; exact congrArg some this
            rw [this]
          have hself : ∀ v, Den ν H (.v (.bool v)) (.bool b) → SatN B ν H C.n (st.put e (.v (.bool v))) a w := by
            intro v hv2
            refine { hs with env := fun k => ?_ }
            show Den ν H (if e = k then _ else lk st.env k) _
            by_cases ek : e = k
            · subst ek; rw [if_pos rfl, hv']; exact hv2
            · rw [if_neg ek]; exact hs.env k
          have hw : Region.wanted o (yielded all a.tmps) = (b == want) := by simp [Region.wanted, hg, hy]
          rw [hw]
          by_cases hbw : b = want
          · subst hbw
            rw [if_pos (by simp)]
            exact .inl (vop_next hnp (hself b (.r (.v _))) (h1 rfl) hNx)
          · have hbn : b = !want := by cases b <;> cases want <;> simp_all
            rw [if_neg (by simpa using hbw)]
            exact put_next (hself (!want) (by rw [hbn]; exact .r (.v _))) (h2 hbn) hNx (.r (.v _))
        · rename_i cs hb
          obtain ⟨hlt, h1⟩ := h
          have hv := hs.env e
          rw [hb] at hv
          have hv' := hv.v_eq
          have hsz : e < a.tmps.size := by rw [hs.size]; exact hlt
          have hy : yielded all a.tmps j = none := by
            unfold yielded
            rw [he]
            simp only [Option.bind_some]
            have : a.tmps[e]? = some (.tuple cs) := by
              have : a.tmps.getD e undef = .tuple cs := hv'
              simp only [Array.getD, hsz, dite_true] at this
              rw [Array.getElem?_eq_getElem hsz]; exact congrArg some this
            rw [this]
          have hw : Region.wanted o (yielded all a.tmps) = false := by simp [Region.wanted, hg, hy]
          rw [hw, if_neg (by simp)]
          exact put_next hs h1 hNx (.r (.v _))
        · exact h.elim
      · exact h.elim

/-! ### What is still to do -/
def sem (C : Cx) (B : Base) (fin : Exit → Act → World → Prop) : List VI → Exit → Act → World → Prop
  | [], e, a, w => fin e a w
  | .code c :: k, .normal, a, w => c.wp C.P (sem C B fin k) a w
  | .code _ :: k, e, a, w => sem C B fin k e a w
  | .blk _ :: k, .normal, a, w => sem C B fin k .normal a w
  | .blk id :: k, .exit i, a, w => if i = id then sem C B fin k .normal a w else sem C B fin k (.exit i) a w
  | .blk _ :: k, e, a, w => sem C B fin k e a w
  | .loop E :: _, .normal, a, w => ∃ ν H st, SatN B ν H C.n st a w ∧ E st
  | .loop _ :: k, e, a, w => sem C B fin k e a w
theorem sem_then (fin : Exit → Act → World → Prop) (b : Code) (k : List VI) : ∀ e a w, sem C B fin (.code b :: k) e a w ↔ Exit.then (b.wp C.P (sem C B fin k)) (sem C B fin k) e a w := by
  intro e a w; cases e <;> rfl
theorem sem_blk (fin : Exit → Act → World → Prop) (id : Nat) (k : List VI) : ∀ e a w, sem C B fin (.blk id :: k) e a w ↔ Exit.inBlock id (sem C B fin k) e a w := by
  intro e a w; cases e <;> rfl
theorem sem_exit (fin : Exit → Act → World → Prop) (id : Nat) : ∀ (k k' : List VI) (a : Act) (w : World), popTo id k = some k' → sem C B fin k' .normal a w → sem C B fin k (.exit id) a w
  | [], _, _, _, h, _ => by cases h
  | .blk i :: k, k', a, w, h, hk => by
    unfold popTo at h
    show (if id = i then _ else _)
    by_cases e : i = id
    · rw [if_pos e] at h; injection h with h; subst h; rw [if_pos e.symm]; exact hk
    · rw [if_neg e] at h; rw [if_neg (fun h => e h.symm)]; exact sem_exit fin id k k' a w h hk
  | .code _ :: k, k', a, w, h, hk => sem_exit fin id k k' a w h hk
  | .loop _ :: k, k', a, w, h, hk => sem_exit fin id k k' a w h hk
theorem sem_ret (fin : Exit → Act → World → Prop) : ∀ (k : List VI) (a : Act) (w : World), fin .ret a w → sem C B fin k .ret a w
  | [], _, _, h => h
  | .blk _ :: k, a, w, h => sem_ret fin k a w h
  | .code _ :: k, a, w, h => sem_ret fin k a w h
  | .loop _ :: k, a, w, h => sem_ret fin k a w h
/-- A loop by a family of states. -/
theorem wp_loop_ix {P : Program} {Q : Exit → Act → World → Prop} {c : Code} {ι : Type} (I : ι → Act → World → Prop) (μ : ι → Nat) (round : ∀ i a w, I i a w → c.wp P (Exit.then (fun a' w' => ∃ i', I i' a' w' ∧ μ i' < μ i) Q) a w) :
    ∀ i a w, I i a w → (Code.loop c).wp P Q a w := by
  intro i a w h₀ b k cs
  have key : ∀ n i a w, μ i = n → I i a w → ∃ e a' w', Q e a' w' ∧ Arrives P (lone (b.at a (.code c :: .inLoop c :: k)) cs w) b k cs e a' w' := by
    intro n
    induction n using Nat.strongRecOn with
    | _ n ih =>
      intro i a w hn hI
      obtain ⟨e, a₁, w₁, hq, harr⟩ := round i a w hI b (.inLoop c :: k) cs
      cases e with
      | normal =>
        obtain ⟨i', hI₁, hlt⟩ := hq
        obtain ⟨e₂, a₂, w₂, hq₂, harr₂⟩ := ih (μ i') (hn ▸ hlt) i' a₁ w₁ rfl hI₁
        exact ⟨e₂, a₂, w₂, hq₂, .of_steps (Steps.trans harr (.one step_inLoop)) harr₂⟩
      | exit id => exact ⟨_, a₁, w₁, hq, .pass (x := .inLoop c) rfl (fun _ _ => .inl (by simp)) harr⟩
      | goto l => exact ⟨_, a₁, w₁, hq, .pass (x := .inLoop c) rfl (fun _ _ => .inl (by simp)) harr⟩
      | ret => exact ⟨_, a₁, w₁, hq, .pass (x := .inLoop c) rfl (fun _ _ => .inl (by simp)) harr⟩
      | panic ch => exact ⟨_, a₁, w₁, hq, .pass (x := .inLoop c) rfl (fun _ _ => .inl (by simp)) harr⟩
      | outgrown => exact ⟨_, a₁, w₁, hq, .pass (x := .inLoop c) rfl (fun _ _ => .inl (by simp)) harr⟩
  obtain ⟨e, a', w', hq, harr⟩ := key _ i a w rfl h₀
  exact ⟨e, a', w', hq, .of_steps (.one step_loop) harr⟩
end
end Go.Proofs.Ytbpobdlahighoaa.Sx
