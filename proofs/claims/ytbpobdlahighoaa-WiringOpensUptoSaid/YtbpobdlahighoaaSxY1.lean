/- Iterators: what is told of the state between the calls of yield. -/
import Derived.Maps.RangeRun
import Derived.Laws.IdiomRangeMap
import Derived.Test.YtbpobdlahighoaaSxR
namespace Go.Proofs.Ytbpobdlahighoaa.Sx
open Go
set_option linter.unusedVariables false
set_option linter.unusedSimpArgs false

section
variable {β : Type} {J : List β → List Nat → World → Prop} {P : Program} {B : Base} {ν : Nat → Option Value} {H H0 : Hp} {st : St} {n : Nat} {w W' : World} {a : Act} {pre pre' : List β} {T T' : List Nat}
/-- An iterator at work: the loop's invariant holds of the world of the base. -/
structure IS (J : List β → List Nat → World → Prop) (H0 : Hp) (pre : List β) (T : List Nat) (B : Base) : Prop where
  F : ∀ b, b ∉ T → B.F b = hp B.w b
  Fle : B.F.le (hp B.w)
  H : ∀ b q, B.H b = some q → H0 b = some q ∨ b ∈ T
  H0 : H0.le B.H
  J : J pre T B.w
  ds : B.ds = []
/-- Where an iterator begins. -/
def baseI (W : World) (H0 : Hp) : Base := ⟨W, fun _ => none, 0, H0, hp W, []⟩
theorem IS.start {args : List SV} {vs : List Value} {W : World} (hargs : DenL (fun _ => none) H0 args vs) (hHW : H0.le (hp W)) (h0 : J [] [] W) (hn : args.length ≤ n) :
    IS J H0 [] [] (baseI W H0) ∧ SatN (baseI W H0) (fun _ => none) H0 n ⟨num args 0, [], 0, []⟩ { tmps := vs.toArray ++ Array.replicate (n - vs.toArray.size) undef, defers := [] } W := by
  refine ⟨⟨fun _ _ => rfl, Hp.le.refl _, fun b q h => .inl h, Hp.le.refl _, h0, rfl⟩, ⟨hHW, Hp.le.refl _, Hp.le.refl _, fun b o _ h => h, fun k => hargs.num _ k, ?_, ⟨fun _ => [], ⟨fun t r h => by (cases h), fun t u r q b h => by (cases h), fun t r b h => by (cases h)⟩⟩, fun t _ => ⟨rfl, rfl⟩, fun _ _ _ => rfl, Nat.le_refl _, rfl, ⟨rfl, rfl, rfl, Nat.le_refl _, Nat.le_refl _⟩⟩⟩
  have := hargs.length
  simp only [Array.size_append, List.size_toArray, Array.size_replicate]
  omega
theorem IS.steps (hI : IS J H0 pre T B) (hs : SatN B ν H n st a w) : Steps' T (T ++ List.range' B.w.heap.size (w.heap.size - B.w.heap.size)) B.w w := by
  refine ⟨hs.kp.os, hs.kp.tape, hs.kp.output, hs.kp.size, hs.kp.drawn, fun b o hb ho => hs.subF b o (by rw [hI.F b hb]; exact ho), fun b hb => List.mem_append_left _ hb, fun b hb => ?_⟩
  rcases List.mem_append.1 hb with h | h
  · exact .inl h
  · have := List.mem_range'_1.1 h
    have := hs.kp.size
    exact .inr ⟨by omega, by omega⟩
theorem IS.rebase (hJ : AbidesT J) (hI : IS J H0 pre T B) (hs : SatN B ν H n st a w) :
    ∃ T' B1, B1.w = w ∧ B1.n = B.n ∧ B1.H = H ∧ B.F.le B1.F ∧ (∀ b ∈ T, b ∈ T') ∧ IS J H0 pre T' B1 ∧ SatN B1 ν H n st a w := by
  obtain ⟨F', f1, f2, f3, f4⟩ := hs.round
  have hst := hI.steps hs
  have hlow := hs.low
  refine ⟨_, ⟨w, ν, B.n, H, F', []⟩, rfl, rfl, rfl, f1, (fun b hb => List.mem_append_left _ hb), ⟨fun b hb => ?_, f2, fun b q hb => ?_, hI.H0.trans hs.subH, hJ _ _ _ _ _ hI.J hst, rfl⟩, ⟨hs.sub, f2, Hp.le.refl _, fun b q _ h => h, hs.env, hs.size, f4, hs.fresh, fun _ _ _ => rfl, hlow, by rw [hs.defers, hI.ds], ⟨rfl, rfl, rfl, Nat.le_refl _, Nat.le_refl _⟩⟩⟩
  · show F' b = hp w b
    cases e : F' b with
    | some q => exact (f2 b q e).symm
    | none =>
      cases e2 : hp w b with
      | none => rfl
      | some q =>
        exfalso
        have h1 := (f3 b q e2 e).1
        have hlt := hp_lt e2
        by_cases hT : b ∈ T
        · exact hb (List.mem_append_left _ hT)
        · rw [hI.F b hT] at h1
          have : B.w.heap.size ≤ b := by
            rcases Nat.lt_or_ge b B.w.heap.size with h | h
            · exfalso
              have : hp B.w b = some B.w.heap[b] := Array.getElem?_eq_getElem h
              rw [this] at h1; cases h1
            · exact h
          exact hb (List.mem_append_right _ (List.mem_range'_1.2 ⟨this, by omega⟩))
  · replace hb : H b = some q := hb
    cases e : B.H b with
    | some q' =>
      have := hs.subH b q' e
      rw [this] at hb; injection hb with hb; subst hb
      rcases hI.H b q' e with h | h
      · exact .inl h
      · exact .inr (List.mem_append_left _ h)
    | none =>
      cases e2 : B.F b with
      | some q' => have := hs.newH b q' e2 e; rw [this] at hb; cases hb
      | none =>
        have hlt := hp_lt (hs.sub b q hb)
        by_cases hT : b ∈ T
        · exact .inr (List.mem_append_left _ hT)
        · rw [hI.F b hT] at e2
          have : B.w.heap.size ≤ b := by
            rcases Nat.lt_or_ge b B.w.heap.size with h | h
            · exfalso
              have : hp B.w b = some B.w.heap[b] := Array.getElem?_eq_getElem h
              rw [this] at e2; cases e2
            · exact h
          exact .inr (List.mem_append_right _ (List.mem_range'_1.2 ⟨this, by omega⟩))
/-- Over to another world. -/
theorem IS.jump {J' : List β → List Nat → World → Prop} (hI : IS J H0 pre T B) (hs : SatN B ν H n st a w) (hw : B.w = w) (hBH : B.H = H) (hT : ∀ b ∈ T, b ∈ T') (hJ' : J' pre' T' W') (hk : ∀ b q, b ∈ T → B.F b = none → hp w b = some q → hp W' b = some q) (hH : H.le (hp W')) :
    ∃ B1, B1.w = W' ∧ B1.n = B.n ∧ B1.H = H ∧ (∀ b, (B.F b ≠ none ∨ w.heap.size ≤ b) → B1.F b = hp W' b) ∧ IS J' H0 pre' T' B1 ∧ SatN B1 ν H n st a W' := by
  classical
  subst hw
  have hown : ∀ β', SatR ν H B.F (hp B.w) β' st.res → ∀ t r b, rlk st.res t = some r → b ∈ β' t → ∃ q, hp B.w b = some q ∧ hp W' b = some q ∧ (b ∈ T ∧ B.F b = none ∧ b < B.w.heap.size) ∧ H b = none := fun β' hβ t r b ht hb => by
    obtain ⟨q, hq⟩ := (hβ.ok t r ht).blk_lt hb
    have ho := hβ.own t r b ht hb
    have hbT : b ∈ T := by
      apply Classical.byContradiction
      intro h
      have := hI.F b h
      rw [ho.2, hq] at this; cases this
    exact ⟨q, hq, hk b q hbT ho.2 hq, ⟨hbT, ho.2, hp_lt hq⟩, ho.1⟩
  have hF : ∀ b, (if b ∈ T ∧ B.F b = none ∧ b < B.w.heap.size then none else hp W' b) = none ∨ (if b ∈ T ∧ B.F b = none ∧ b < B.w.heap.size then none else hp W' b) = hp W' b := fun b => by
    by_cases h : b ∈ T ∧ B.F b = none ∧ b < B.w.heap.size
    · rw [if_pos h]; exact .inl rfl
    · rw [if_neg h]; exact .inr rfl
  refine ⟨⟨W', ν, B.n, H, fun b => if b ∈ T ∧ B.F b = none ∧ b < B.w.heap.size then none else hp W' b, []⟩, rfl, rfl, rfl, fun b hb => ?_, ⟨fun b hb => ?_, fun b q hb => ?_, fun b q hb => ?_, by rw [← hBH]; exact hI.H0, hJ', rfl⟩,
    ⟨hH, fun b q hb => ?_, Hp.le.refl _, fun b q _ h => h, hs.env, hs.size, ?_, hs.fresh, fun _ _ _ => rfl, hs.low, by rw [hs.defers, hI.ds], ⟨rfl, rfl, rfl, Nat.le_refl _, Nat.le_refl _⟩⟩⟩
  · exact if_neg (fun h => hb.elim (fun e => e h.2.1) (fun e => by omega))
  · exact if_neg (fun h => hb (hT b h.1))
  · replace hb : (if b ∈ T ∧ B.F b = none ∧ b < B.w.heap.size then none else hp W' b) = some q := hb
    rcases hF b with h | h
    · rw [h] at hb; cases hb
    · rw [h] at hb; exact hb
  · rcases hI.H b q (by rw [hBH]; exact hb) with h | h
    · exact .inl h
    · exact .inr (hT b h)
  · replace hb : (if b ∈ T ∧ B.F b = none ∧ b < B.w.heap.size then none else hp W' b) = some q := hb
    rcases hF b with h | h
    · rw [h] at hb; cases hb
    · rw [h] at hb; exact hb
  · obtain ⟨β', hβ⟩ := hs.res
    refine ⟨β', fun t r ht => ?_, hβ.dis, fun t r b ht hb => ?_⟩
    · refine (hβ.ok t r ht).keep (fun _ _ h => h) (Hp.le.refl _) (fun b q hb hq => ?_)
      obtain ⟨q', h1, h2, _⟩ := hown β' hβ t r b ht hb
      rw [h1] at hq; injection hq with hq; subst hq; exact h2
    · obtain ⟨q', h1, h2, h3, h4⟩ := hown β' hβ t r b ht hb
      exact ⟨h4, if_pos h3⟩
/-- A round. -/
theorem IS.yield {Jx : List β → List Nat → World → Prop} {encs : β → Array Value} {Nx : List β → β → Prop} {l : Nat} {x : β} (hJ : AbidesT J)
    (hY : ∀ pre T x W1, J pre T W1 → H0.le (hp W1) → Nx pre x → YieldAt Fence.wide 0 P l (encs x) W1 fun e W' => (e = .returned (.bool true) ∧ J (pre ++ [x]) T W' ∧ H0.le (hp W') ∧ ∀ b ∈ T, hp W' b = hp W1 b) ∨ (e = .returned (.bool false) ∧ Jx (pre ++ [x]) T W'))
    (hI : IS J H0 pre T B) (hs : SatN B ν H n st a w) (hx : Nx pre x) :
    YieldAt Fence.wide 0 P l (encs x) w fun e W' => (e = .returned (.bool true) ∧ ∃ T' B', B'.n = B.n ∧ B'.H = H ∧ (∀ b q, B.F b = some q → b ∈ T → B'.F b = some q) ∧ (∀ b, b ∈ T → b ∈ T') ∧ IS J H0 (pre ++ [x]) T' B' ∧ SatN B' ν H n st a W') ∨ (e = .returned (.bool false) ∧ ∃ T', Jx (pre ++ [x]) T' W') := by
  have hst := hI.steps hs
  obtain ⟨T1, B1, hw1, hn1, hH1, hF1, hT1, hI1, hs1⟩ := hI.rebase hJ hs
  have hJ1 := hI1.J
  rw [hw1] at hJ1
  have hJ2 := hJ _ _ _ _ _ hI.J hst
  obtain ⟨fn, tmps, assign, body, hy, hR⟩ := hY _ _ x w hJ1 ((hI.H0.trans hs.subH).trans hs.sub) hx
  refine ⟨fn, tmps, assign, body, hy, hR.mono ?_⟩
  rintro e W' (⟨rfl, h1, h2, h3⟩ | ⟨rfl, h1⟩)
  · refine .inl ⟨rfl, T1, ?_⟩
    obtain ⟨B2, hw2, hn2, hH2, hF2, hI2, hs2⟩ := hI1.jump (J' := J) (T' := T1) (pre' := pre ++ [x]) (W' := W') hs1 hw1 hH1 (fun _ h => h) h1 (fun b q hb _ hq => by rw [h3 b hb]; exact hq) (fun b q hb => by
      rcases hI1.H b q (by rw [hH1]; exact hb) with h | h
      · exact h2 b q h
      · rw [h3 b h]; exact hs1.sub b q hb)
    refine ⟨B2, hn2.trans hn1, hH2, fun b q hb hbT => ?_, hT1, hI2, hs2⟩
    have h4 := hF1 b q hb
    rw [hF2 b (.inl (by rw [h4]; simp)), h3 b (hT1 b hbT)]
    exact hs1.subF b q h4
  · exact .inr ⟨rfl, T1, h1⟩
end
/-- A range over an iterator. -/
theorem rangeR {C : Cx} {f : Nat} {k : List VI} {ps : List Nat} {assign body : Code} {st : St} {g : FuncId} {cap : List SV} {α ι : Type} {enc : α → List SV} {Nx : List α → α → Prop} {S Sp : List α → Prop} (I : List α → ι → Prop) (res : ι → List (Nat × Res)) (mvs : List Nat) (i₀ : ι)
    (hit : IterOk C.P g cap enc Nx S Sp) (hrd : C.rd = false) (hcap : cap.all rd = true) (hlen : ∀ x, (enc x).length = ps.length) (hps : ∀ p ∈ ps, p < C.n) (h0 : I [] i₀) (hm : matR st.res (res i₀)) (hlt : ∀ i, resLt st.nx (rover st.res (res i)) = true)
    (hround : ∀ pre x i, I pre i → Nx pre x → ∀ E : Exit → St → Prop, (∀ st' i', I (pre ++ [x]) i' → matR st'.res (rover st.res (res i')) → (∀ t ∈ st'.mv, t ∈ mvs) → E .normal st') →
        (∀ st', RetVC C ⟨outerEnv st (mvs ++ st'.mv), st'.res, st'.nx, st'.mv ++ (mvs ++ st.mv)⟩ → E .ret st') →
        (∀ id k' st', popTo id k = some k' → vrun C f k' ⟨outerEnv st (mvs ++ st'.mv), st'.res, st'.nx, st'.mv ++ (mvs ++ st.mv)⟩ → E (.exit id) st') →
        vrun { C with np := st.nx, rd := true } f [.code assign, .stop fun e st1 => e = .normal ∧ vrun { C with np := st.nx, rd := true } f [.code body, .stop E] st1] ⟨roundEnv ps (enc x) (outerEnv st mvs), rover st.res (res i), st.nx, []⟩)
    (hdone : ∀ xs i, S xs → I xs i → vrun C f k ⟨outerEnv st mvs, rover st.res (res i), st.nx, mvs ++ st.mv⟩) : rangeK C f k ps assign body st (.fn g [] cap) :=
  ⟨⟨hrd, hcap⟩, α, enc, Nx, S, Sp, hit, hlen, hps, ι, I, res, mvs, i₀, h0, hm, hlt, fun pre x i hI hx E h1 h2 h3 => hround pre x i hI hx E (fun st' i' a b c => h1 st' ⟨i', a, b, c⟩) h2 h3, hdone⟩
@[go_sem] theorem roundEnv_nil {env : List (Nat × SV)} : roundEnv [] [] env = env := rfl
end Go.Proofs.Ytbpobdlahighoaa.Sx
/- Iterators: operations between the calls of yield. -/
namespace Go.Proofs.Ytbpobdlahighoaa.Sx
open Go
set_option linter.unusedVariables false
set_option linter.unusedSimpArgs false

section
variable {β : Type} {J Jx : List β → List Nat → World → Prop} {C : Cx} {P : Program} {B : Base} {ν : Nat → Option Value} {H H0 : Hp} {st : St} {n l : Nat} {w W' : World} {a : Act} {pre pre' : List β} {T T' : List Nat} {o : Oper} {N : Act → World → Prop} {Q : Exit → Act → World → Prop} {K : St → Prop} {all : Array Oper} {L : List Nat} {v : Value}
theorem opsI_cons {i : Nat} (hi : all.toList[i]? = some o) (hg : o.guard = none) (h : o.wpIn (Fr none) 0 P a w (wpOpsIn (Fr none) 0 P all Q L) Q) : wpOpsIn (Fr none) 0 P all Q (i :: L) a w := by
  rw [Array.getElem?_toList] at hi
  simp only [wpOpsIn, hi]
  rw [if_pos (by simp [Region.wanted, hg])]
  exact h
theorem op_raw (hd : ∀ c, o.op ≠ .defer c) (hr : (execOp a.eval o).run P w = .ok (.value v) W') (hN : N (a.put o.dst v) W') : o.wpIn (Fr none) 0 P a w N Q := op_in hd (by unfold Oper.wp; rw [hr]; exact hN)
theorem op_eng (hd : ∀ c, o.op ≠ .defer c) (hnp : B.n = C.np) (hs : SatN B ν H C.n st a w) (h : vop C o.dst o.op K st) (hN : ∀ st a w ν H, SatN B ν H C.n st a w → K st → N a w) : o.wpIn (Fr none) 0 C.P a w N Q := op_in hd (vop_next hnp hs h hN)
/-- A call of yield. -/
theorem op_yield {c : Call} {f : Operand} {args : Array Value} {R : Ending → World → Prop} (ho : o.op = .call c) (hc : c.callee = .value f) (hf : a.eval f = .func (.yield l) #[] #[]) (ha : c.args.map a.eval = args) (hY : YieldAt Fence.wide 0 P l args w R)
    (hR : ∀ e w', R e w' → ∃ v, e = .returned v ∧ N (a.put o.dst v) w') : o.wpIn (Fr none) 0 P a w N Q := by
  obtain ⟨fn, tmps, assign, body, hy, hr⟩ := hY
  unfold Oper.wpIn
  refine ⟨fun _ _ => trivial, ?_⟩
  have e1 : (Fr none).round = none := rfl
  rw [e1, Oper.semAt_none]
  have hrun : (execOp a.eval o).run P w = .ok (.round l fn tmps assign body) w := by
    unfold execOp
    simp only [ho, resolve, hc, hf, ha, Deferred.ofValue, Sem.run_bind, Sem.run_pure, Result.andThen_ok, invoke]
    simpa using hy
  rw [hrun, Oper.uponIn_round]
  refine ⟨fun h => by simp [Fr, Fence.wide] at h, RoundIn.mono hr ?_⟩
  intro e w' he
  obtain ⟨v, rfl, h⟩ := hR e w' he
  exact h
theorem op_not {x : Nat} {ty : TypeId} {b : Bool} (ho : o.op = .unOp .not ty (.tmp x)) (hv : a.tmps.getD x undef = .bool b) (hN : N (a.put o.dst (.bool (!b))) w) : o.wpIn (Fr none) 0 P a w N Q := by
  refine op_raw (v := .bool (!b)) (W' := w) (fun c h => by rw [ho] at h; cases h) ?_ hN
  unfold execOp
  have he : a.eval (.tmp x) = .bool b := hv
  simp only [ho, he]
  rfl
theorem results_none {fn : Func} {tmps : Array Value} (h : fn.results = #[]) : (results fn tmps).run P w = .ok (.tuple #[]) w := by
  rw [results_eq, h]
  simp [Sem.run_bind, Sem.run_pure, Result.andThen_ok]
theorem put_getD {a : Act} {d : Nat} {v : Value} (h : d < a.tmps.size) : (a.put (some d) v).tmps.getD d undef = v := by
  simp [Act.put, Array.getD, h]
end
end Go.Proofs.Ytbpobdlahighoaa.Sx
