/- Words for the proofs of single functions. -/
import Derived.Test.YtbpobdlahighoaaSxQ
import Derived.Test.YtbpobdlahighoaaSxT
namespace Go.Proofs.Ytbpobdlahighoaa.Sx
open Go
set_option linter.unusedVariables false

theorem callable_of {P : Program} {f : Nat} {fn : Func} (h1 : P.funcs[f]? = some fn) (h2 : fn.body.isNone = false) (h3 : (fn.name == "runtime.NumGoroutine") = false) : callable P f := by
  intro args w
  unfold callFunc
  simp only [Sem.run, program, Sem.bind, bind, h1, h3, pure, h2, Bool.false_eq_true, if_false]
/-- A function of the program by its walk; 'gh': the regions behind which the state is told otherwise. -/
theorem tri_fnG {P : Program} {f : FuncId} {args : List SV} {pre : List Res} {mv : List Nat} {Q : SV → List Res → Prop} (fn : Func) (ord : List (Nat × Ord)) (fz cut gh : List Nat) (fuel : Nat)
    (hf : P.funcs[f]? = some fn) (hb : fn.body = some (fn.body.getD .skip)) (hm : P.follows .mixedOrders = true) (h2 : fn.body.isNone = false) (h3 : (fn.name == "runtime.NumGoroutine") = false)
    (hok : drawOk ord (fn.body.getD .skip) = true) (hn : args.length ≤ fn.ntmps)
    (h : vrun ⟨P, fn.ntmps, fn.results.toList, pre.length, mv, ord, fz, cut, gh, Q, false⟩ fuel [.code (fn.body.getD .skip)] ⟨num args 0, num pre 0, pre.length, []⟩) : Tri P f args pre mv Q :=
  tri_of_vc ord fz cut gh fuel hf hb (callable_of hf h2 h3) hm hok hn h
/-- A function of the program by its walk. -/
theorem tri_fn {P : Program} {f : FuncId} {args : List SV} {pre : List Res} {mv : List Nat} {Q : SV → List Res → Prop} (fn : Func) (ord : List (Nat × Ord)) (fz cut : List Nat) (fuel : Nat)
    (hf : P.funcs[f]? = some fn) (hb : fn.body = some (fn.body.getD .skip)) (hm : P.follows .mixedOrders = true) (h2 : fn.body.isNone = false) (h3 : (fn.name == "runtime.NumGoroutine") = false)
    (hok : drawOk ord (fn.body.getD .skip) = true) (hn : args.length ≤ fn.ntmps)
    (h : vrun ⟨P, fn.ntmps, fn.results.toList, pre.length, mv, ord, fz, cut, [], Q, false⟩ fuel [.code (fn.body.getD .skip)] ⟨num args 0, num pre 0, pre.length, []⟩) : Tri P f args pre mv Q :=
  tri_of_vc ord fz cut [] fuel hf hb (callable_of hf h2 h3) hm hok hn h
mutual
theorem ren_lt {f : Nat → Nat} : ∀ (s : SV), s.lt 0 = true → s.ren f = s
  | .any, _ => rfl
  | .v _, _ => rfl
  | .h u, h => by simp [SV.lt] at h
  | .hp u _ _ _, h => by simp [SV.lt] at h
  | .ptr u _, h => by simp [SV.lt] at h
  | .agg l, h => by simp only [SV.ren, renL_lt l h]
  | .tup l, h => by simp only [SV.ren, renL_lt l h]
  | .fn g a b, h => by
    simp only [SV.lt, Bool.and_eq_true] at h
    simp only [SV.ren, renL_lt a h.1, renL_lt b h.2]
  | .ro .., _ => rfl
  | .rop _, _ => rfl
  | .rom .., _ => rfl
  | .hs u _ _ _, h => by simp [SV.lt] at h
theorem renL_lt {f : Nat → Nat} : ∀ (l : List SV), SV.ltL 0 l = true → SV.renL f l = l
  | [], _ => rfl
  | s :: l, h => by
    simp only [SV.ltL, Bool.and_eq_true] at h
    simp only [SV.renL, ren_lt s h.1, renL_lt l h.2]
end
/-- The end of a function that hands nothing on. -/
def retv (Q : SV → List Res → Prop) : Option (List (Prop × SV)) → Prop
  | some l => conj (l.map (·.1)) ∧ (packV (l.map (·.2))).lt 0 = true ∧ Q (packV (l.map (·.2))) []
  | none => False
@[go_sem] theorem retv_eq {Q : SV → List Res → Prop} {l} : retv Q (some l) = (conj (l.map (·.1)) ∧ (packV (l.map (·.2))).lt 0 = true ∧ Q (packV (l.map (·.2))) []) := rfl
theorem ret0 {C : Cx} {st : St} (hnp : C.np = 0) (h : retv C.Q (resV C.P st C.rs)) : RetVC C st := by
  cases hl : resV C.P st C.rs with
  | none => rw [hl] at h; exact h.elim
  | some l =>
    rw [hl] at h
    obtain ⟨h1, h2, h3⟩ := h
    exact ⟨l, hl, h1, [], _, [], h3, ren_lt _ h2, rfl, List.nodup_nil, by rw [hnp]; rfl, fun t _ ht => by omega, fun k p h => by simp at h⟩
mutual
theorem hand_lt {res : List (Nat × Res)} {ls σ : List Nat} {ρ : Nat → Value} : ∀ (s : SV), s.lt 0 = true → s.hand res ls ρ σ = s
  | .any, _ => rfl
  | .v _, _ => rfl
  | .h u, h => by simp [SV.lt] at h
  | .hp u _ _ _, h => by simp [SV.lt] at h
  | .ptr u _, h => by simp [SV.lt] at h
  | .agg l, h => by simp only [SV.hand, handL_lt l h]
  | .tup l, h => by simp only [SV.hand, handL_lt l h]
  | .fn g a b, h => by
    simp only [SV.lt, Bool.and_eq_true] at h
    simp only [SV.hand, handL_lt a h.1, handL_lt b h.2]
  | .ro .., _ => rfl
  | .rop _, _ => rfl
  | .rom .., _ => rfl
  | .hs u _ _ _, h => by simp [SV.lt] at h
theorem handL_lt {res : List (Nat × Res)} {ls σ : List Nat} {ρ : Nat → Value} : ∀ (l : List SV), SV.ltL 0 l = true → SV.handL res ls ρ σ l = l
  | [], _ => rfl
  | s :: l, h => by
    simp only [SV.ltL, Bool.and_eq_true] at h
    simp only [SV.handL, hand_lt s h.1, handL_lt l h.2]
end
/-- A call that is handed nothing of the caller's memory, and hands nothing back. -/
theorem call0 {P : Program} {np n : Nat} {f : FuncId} {args : List SV} {d : Option Nat} {K : St → Prop} {st : St} {r : SV} (hT : TriF P f args [] [] r []) (ha : SV.ltL 0 args = true) (hr : r.lt 0 = true) (hK : vput n d r K st) : CallVC P np n f args d K st := by
  refine ⟨[], [], [], fun r' post' => r' = r ∧ post' = [], List.nodup_nil, (fun t ht => by cases ht), (fun t ht => by cases ht), (fun ρ => by rw [handL_lt args ha]; exact hT), ?_⟩
  rintro r' post' ⟨rfl, rfl⟩ _
  exact ⟨.inl rfl, by rw [ren_lt r' hr]; exact hK⟩
theorem call0Q {P : Program} {np n : Nat} {f : FuncId} {args : List SV} {d : Option Nat} {K : St → Prop} {st : St} {Q : SV → Prop} (hT : Tri P f args [] [] fun r' post' => (Q r' ∧ r'.lt 0 = true) ∧ post' = []) (ha : SV.ltL 0 args = true) (hK : ∀ r, Q r → vput n d r K st) : CallVC P np n f args d K st := by
  refine ⟨[], [], [], _, List.nodup_nil, (fun t ht => by cases ht), (fun t ht => by cases ht), (fun ρ => by rw [handL_lt args ha]; exact hT), ?_⟩
  rintro r' post' ⟨⟨h1, h2⟩, rfl⟩ _
  exact ⟨.inl rfl, by rw [ren_lt r' h2]; exact hK r' h1⟩
/-- A loop that writes no memory. -/
theorem loop0 {C : Cx} {run : List VI → St → Prop} {body : Code} {k : List VI} {st : St} {ι : Type} (I : ι → Prop) (ks : List Nat) (env : ι → List (Nat × SV)) (μ : ι → Nat) (i₀ : ι) (h0 : I i₀) (h1 : matE st.env (env i₀))
    (h2 : ∀ i, envLt st.nx (env i ++ kept st.env ks) = true) (h3 : resLt st.nx st.res = true)
    (h : ∀ i, I i → ∀ E : St → Prop, (∀ st' i', I i' → μ i' < μ i → matE st'.env (env i' ++ kept st.env ks) → matR st'.res st.res → (∀ t ∈ st'.mv, t ∈ st.mv) → E st') → run (.code body :: .loop E :: k) ⟨env i ++ kept st.env ks, st.res, st.nx, st.mv⟩) : LoopVC C run body k st :=
  ⟨ι, I, ks, env, fun _ => [], st.mv, μ, i₀, h0, h1, trivial, fun _ h => h, fun i => ⟨h2 i, h3⟩, fun i hI E hE => h i hI E (fun st' i' a b c d e => hE st' ⟨i', a, b, c, d, e⟩)⟩

/-- The end of a function that hands resources on: σ says which. -/
def postV (st : St) (f : Nat → Nat) : List Res → Nat → Prop
  | [], _ => True
  | p :: l, k => (rlk st.res (f k) = some (p.ren f) ∨ p = .gone) ∧ postV st f l (k + 1)
def retvS (C : Cx) (st : St) (σ : List Nat) (r : SV) (post : List Res) : Option (List (Prop × SV)) → Prop
  | some l => conj (l.map (·.1)) ∧ C.Q r post ∧ SV.ren (tagOf σ st.nx) r = packV (l.map (·.2)) ∧ (σ.length = post.length ∧ σ.Nodup ∧ σ.take C.np = List.range C.np) ∧ (∀ t ∈ st.mv, t < C.np → t ∈ C.mv) ∧ postV st (tagOf σ st.nx) post 0
  | none => False
@[go_sem] theorem retvS_eq {C st σ r post l} : retvS C st σ r post (some l) = (conj (l.map (·.1)) ∧ C.Q r post ∧ SV.ren (tagOf σ st.nx) r = packV (l.map (·.2)) ∧ (σ.length = post.length ∧ σ.Nodup ∧ σ.take C.np = List.range C.np) ∧ (∀ t ∈ st.mv, t < C.np → t ∈ C.mv) ∧ postV st (tagOf σ st.nx) post 0) := rfl
theorem postV_get {st : St} {f : Nat → Nat} : ∀ {post : List Res} {j : Nat}, postV st f post j → ∀ k p, post[k]? = some p → rlk st.res (f (j + k)) = some (p.ren f) ∨ p = .gone
  | [], _, _, k, p, h => by simp at h
  | q :: post, j, h, 0, p, hp => by
    simp only [List.getElem?_cons_zero, Option.some.injEq] at hp
    subst hp; exact h.1
  | q :: post, j, h, k + 1, p, hp => by
    have := postV_get h.2 k p (by simpa using hp)
    rw [show j + (k + 1) = j + 1 + k by omega]; exact this
theorem retS {C : Cx} {st : St} (σ : List Nat) (r : SV) (post : List Res) (h : retvS C st σ r post (resV C.P st C.rs)) : RetVC C st := by
  cases hl : resV C.P st C.rs with
  | none => rw [hl] at h; exact h.elim
  | some l =>
    rw [hl] at h
    obtain ⟨h1, h2, h3, ⟨h4, h5, h6⟩, h7, h8⟩ := h
    exact ⟨l, hl, h1, σ, r, post, h2, h3, h4, h5, h6, h7, fun k p hp => by have := postV_get h8 k p hp; rwa [Nat.zero_add] at this⟩
/-- A call that is handed resources. -/
theorem callS {P : Program} {np n : Nat} {f : FuncId} {args args' : List SV} {d : Option Nat} {K : St → Prop} {st : St} {pre : List Res} {Q : SV → List Res → Prop} (σ mv : List Nat) (hT : Tri P f args' pre mv Q) (h1 : σ.Nodup) (h2 : ∀ t ∈ σ, (rlk st.res t).isSome = true)
    (ha : ∀ ρ, SV.handL st.res [] ρ σ args = args') (hp : ∀ ρ, preOf st.res [] ρ σ σ = pre)
    (hK : ∀ r post, Q r post → vput n d (r.ren (tagOf σ st.nx)) K { st.kills (movd σ mv) with res := rsets (st.kills (movd σ mv)).res (tagOf σ st.nx) post 0, nx := st.nx + (post.length - σ.length), mv := (movd σ mv).filter (· < np) ++ st.mv }) : CallVC P np n f args d K st :=
  ⟨σ, [], mv, Q, h1, h2, (fun t ht => by cases ht), (fun ρ => by rw [ha, hp]; exact hT), fun r post hq _ => ⟨.inl rfl, hK r post hq⟩⟩
/-- A loop that writes memory. -/
theorem loopR {C : Cx} {run : List VI → St → Prop} {body : Code} {k : List VI} {st : St} {ι : Type} (I : ι → Prop) (ks : List Nat) (env : ι → List (Nat × SV)) (res : ι → List (Nat × Res)) (mvs : List Nat) (μ : ι → Nat) (i₀ : ι) (h0 : I i₀) (h1 : matE st.env (env i₀)) (h1' : matR st.res (res i₀)) (hm : ∀ t ∈ st.mv, t ∈ mvs)
    (h2 : ∀ i, envLt st.nx (env i ++ kept st.env ks) = true) (h3 : ∀ i, resLt st.nx (rover st.res (res i)) = true)
    (h : ∀ i, I i → ∀ E : St → Prop, (∀ st' i', I i' → μ i' < μ i → matE st'.env (env i' ++ kept st.env ks) → matR st'.res (rover st.res (res i')) → (∀ t ∈ st'.mv, t ∈ mvs) → E st') → run (.code body :: .loop E :: k) ⟨env i ++ kept st.env ks, rover st.res (res i), st.nx, mvs⟩) : LoopVC C run body k st :=
  ⟨ι, I, ks, env, res, mvs, μ, i₀, h0, h1, h1', hm, fun i => ⟨h2 i, h3 i⟩, fun i hI E hE => h i hI E (fun st' i' a b c d e => hE st' ⟨i', a, b, c, d, e⟩)⟩
attribute [go_sem] List.getElem?_nil Nat.sub_zero Nat.sub_self postV.eq_1 postV.eq_2 List.nodup_nil List.nodup_cons List.mem_cons List.not_mem_nil or_false false_or List.range_zero

/-- The first place where a condition holds, or -1. -/
def ix {α : Type} (p : α → Bool) (l : List α) : Int := match l.findIdx? p with | some i => i | none => -1
theorem ix_some {α : Type} {p : α → Bool} {l : List α} {i : Nat} {y : α} (hy : l[i]? = some y) (h : p y = true) (hx : ∀ j z, j < i → l[j]? = some z → p z = false) : ix p l = i := by
  have hi := List.getElem?_eq_some_iff.1 hy
  have : l.findIdx? p = some i := by
    rw [List.findIdx?_eq_some_iff_getElem]
    refine ⟨hi.1, by rw [hi.2]; exact h, fun j hj => ?_⟩
    have := hx j _ hj (List.getElem?_eq_getElem (by have := hi.1; omega))
    simpa using this
  simp [ix, this]
theorem ix_none {α : Type} {p : α → Bool} {l : List α} (hx : ∀ j z, j < l.length → l[j]? = some z → p z = false) : ix p l = -1 := by
  have : l.findIdx? p = none := by
    rw [List.findIdx?_eq_none_iff]
    intro y hy
    obtain ⟨j, hj, e⟩ := List.mem_iff_getElem.1 hy
    exact hx j y hj (by rw [List.getElem?_eq_getElem hj, e])
  simp [ix, this]
theorem any_some {α : Type} {p : α → Bool} {l : List α} {i : Nat} {y : α} (hy : l[i]? = some y) (h : p y = true) : l.any p = true :=
  List.any_eq_true.2 ⟨y, List.mem_of_getElem? hy, h⟩
theorem any_none {α : Type} {p : α → Bool} {l : List α} (hx : ∀ j z, j < l.length → l[j]? = some z → p z = false) : l.any p = false := by
  rw [List.any_eq_false]
  intro y hy
  obtain ⟨j, hj, e⟩ := List.mem_iff_getElem.1 hy
  have := hx j y hj (by rw [List.getElem?_eq_getElem hj, e])
  simp [this]
/-- What was so of the first i is so of one more. -/
theorem snoc_inv {α : Type} {p : α → Bool} {l : List α} {i : Nat} {y : α} (hy : l[i]? = some y) (h : p y = false) (hx : ∀ j z, j < i → l[j]? = some z → p z = false) : ∀ j z, j < i + 1 → l[j]? = some z → p z = false := by
  intro j z hj hz
  rcases Nat.lt_or_ge j i with h1 | h1
  · exact hx j z h1 hz
  · have : j = i := by omega
    subst this
    rw [hy] at hz; injection hz with hz; subst hz; exact h
theorem get_lt {α : Type} {l : List α} {i : Nat} (h : (i : Int) < l.length) : ∃ y, l[i]? = some y := ⟨l[i]'(by omega), List.getElem?_eq_getElem _⟩
theorem inI64_of {n : Int} (h1 : 0 ≤ n) (h2 : n ≤ 4294967296) : inI64 n := ⟨by omega, by omega⟩
theorem inI64_nat {i n : Nat} (h1 : i ≤ n) (h2 : n ≤ 1048576) : inI64 (i + 1) := ⟨by omega, by omega⟩
/-- The first number below n at which a code is not 0, with that code; or (0, 0). -/
def fe (f : Nat → Int) (n : Nat) : Int × Int := match (List.range n).find? (fun i => decide (f i ≠ 0)) with | some i => (f i, i) | none => (0, 0)
theorem fe_some {f : Nat → Int} {n i : Nat} (hi : i < n) (h : f i ≠ 0) (hx : ∀ j, j < i → f j = 0) : fe f n = (f i, (i : Int)) := by
  have : (List.range n).find? (fun i => decide (f i ≠ 0)) = some i := by
    rw [List.find?_eq_some_iff_getElem]
    refine ⟨by simpa using h, i, by simpa using hi, by simp, fun j hj => ?_⟩
    have := hx j hj
    simp [this]
  unfold fe; rw [this]
theorem fe_none {f : Nat → Int} {n : Nat} (hx : ∀ j, j < n → f j = 0) : fe f n = (0, 0) := by
  have : (List.range n).find? (fun i => decide (f i ≠ 0)) = none := by
    rw [List.find?_eq_none]
    intro j hj
    have := hx j (by simpa using hj)
    simp [this]
  unfold fe; rw [this]
theorem fe_snoc {f : Nat → Int} {i : Nat} (h : f i = 0) (hx : ∀ j, j < i → f j = 0) : ∀ j, j < i + 1 → f j = 0 := by
  intro j hj
  rcases Nat.lt_or_ge j i with h1 | h1
  · exact hx j h1
  · have : j = i := by omega
    subst this; exact h
theorem ix_find {α : Type} (p : α → Bool) (l : List α) : (l.find? p = none ∧ ix p l = -1) ∨ ∃ (i : Nat) (y : α), l.find? p = some y ∧ l[i]? = some y ∧ p y = true ∧ ix p l = (i : Int) := by
  cases h : l.findIdx? p with
  | none => exact .inl ⟨by rw [List.find?_eq_none]; rw [List.findIdx?_eq_none_iff] at h; simpa using h, by simp [ix, h]⟩
  | some i =>
    rw [List.findIdx?_eq_some_iff_getElem] at h
    obtain ⟨h1, h2, h3⟩ := h
    refine .inr ⟨i, l[i], ?_, List.getElem?_eq_getElem h1, h2, ?_⟩
    · rw [List.find?_eq_some_iff_getElem]
      exact ⟨h2, i, h1, rfl, fun j hj => by simpa using h3 j hj⟩
    · exact ix_some (List.getElem?_eq_getElem h1) h2 (fun j z hj hz => by
        have := h3 j hj
        obtain ⟨hl, e⟩ := List.getElem?_eq_some_iff.1 hz
        subst e; simpa using this)
theorem find_some {α : Type} {p : α → Bool} {l : List α} {i : Nat} {y : α} (hy : l[i]? = some y) (h : p y = true) (hx : ∀ j z, j < i → l[j]? = some z → p z = false) : l.find? p = some y := by
  obtain ⟨h1, h2⟩ := List.getElem?_eq_some_iff.1 hy
  rw [List.find?_eq_some_iff_getElem]
  refine ⟨h, i, h1, h2, fun j hj => ?_⟩
  simp [hx j _ hj (List.getElem?_eq_getElem (by omega))]
theorem find_none {α : Type} {p : α → Bool} {l : List α} (hx : ∀ j z, j < l.length → l[j]? = some z → p z = false) : l.find? p = none := by
  rw [List.find?_eq_none]
  intro y hy
  obtain ⟨j, hj, e⟩ := List.mem_iff_getElem.1 hy
  simp [hx j y hj (by rw [List.getElem?_eq_getElem hj, e])]
/-- Whether all records do, each with its place. -/
def allI {α : Type} (q : Nat → α → Bool) (l : List α) : Bool := (List.range l.length).all fun i => match l[i]? with | some y => q i y | none => true
theorem allI_false {α : Type} {q : Nat → α → Bool} {l : List α} {i : Nat} {y : α} (hy : l[i]? = some y) (h : q i y = false) : allI q l = false := by
  unfold allI
  rw [List.all_eq_false]
  exact ⟨i, by simpa using (List.getElem?_eq_some_iff.1 hy).1, by simp [hy, h]⟩
theorem allI_true {α : Type} {q : Nat → α → Bool} {l : List α} (hx : ∀ j z, j < l.length → l[j]? = some z → q j z = true) : allI q l = true := by
  unfold allI
  rw [List.all_eq_true]
  intro j hj
  have hj : j < l.length := by simpa using hj
  simp [List.getElem?_eq_getElem hj, hx j _ hj (List.getElem?_eq_getElem hj)]
theorem snocI {α : Type} {q : Nat → α → Bool} {l : List α} {i : Nat} {y : α} (hy : l[i]? = some y) (h : q i y = true) (hx : ∀ j z, j < i → l[j]? = some z → q j z = true) : ∀ j z, j < i + 1 → l[j]? = some z → q j z = true := by
  intro j z hj hz
  rcases Nat.lt_or_ge j i with h1 | h1
  · exact hx j z h1 hz
  · have : j = i := by omega
    subst this
    rw [hy] at hz; injection hz with hz; subst hz; exact h
end Go.Proofs.Ytbpobdlahighoaa.Sx
