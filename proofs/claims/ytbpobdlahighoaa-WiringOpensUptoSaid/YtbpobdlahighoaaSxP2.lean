/- The engine tells the truth: a range over a function. -/
import Derived.Test.YtbpobdlahighoaaSxP
namespace Go.Proofs.Ytbpobdlahighoaa.Sx
open Go
set_option linter.unusedVariables false
set_option linter.unusedSimpArgs false

/-- The base while a loop over an iterator runs: its record at l, its block for deferred calls at D, the iterator's own blocks T. -/
def BL (B : Base) (l D : Nat) (o : Loop) (T : List Nat) (W : World) : Base :=
  ⟨B.w, B.ν, B.n, B.H, fun b => if b = l then some (.loop o) else if b = D then some (.deferred (some [])) else if b ∈ T then hp W b else B.F b, D :: B.ds⟩
/-- Where the blocks lie. -/
structure Lies (B : Base) (D l : Nat) (T : List Nat) (W : World) : Prop where
  hl : l = D + 1
  hT : ∀ b ∈ T, l < b ∧ b < W.heap.size
  hH : ∀ b, D ≤ b → B.H b = none
  hF : ∀ b, D ≤ b → B.F b = none
section
variable {B : Base} {ν ν' : Nat → Option Value} {H G F g : Hp} {st : St} {t : Nat} {w w' W W' : World} {a : Act} {n l D : Nat} {o o' : Loop} {T T' : List Nat}
theorem hp_ge {b : Nat} (h : W.heap.size ≤ b) : hp W b = none := by
  show W.heap[b]? = none
  exact Array.getElem?_eq_none h
theorem BL_l : (BL B l D o T W).F l = some (.loop o) := by simp [BL]
theorem BL_D (h : l = D + 1) : (BL B l D o T W).F D = some (.deferred (some [])) := by simp [BL, h]
theorem BL_T (L : Lies B D l T W) {b : Nat} (hb : b ∈ T) : (BL B l D o T W).F b = hp W b := by
  have := L.hT b hb; have := L.hl
  simp only [BL]
  rw [if_neg (by omega), if_neg (by omega), if_pos hb]
theorem BL_B (L : Lies B D l T W) {b : Nat} {q : Obj} (hb : B.F b = some q) : (BL B l D o T W).F b = some q := by
  have h1 : b < D := by
    rcases Nat.lt_or_ge b D with h | h
    · exact h
    · rw [L.hF b h] at hb; cases hb
  have := L.hl
  simp only [BL]
  rw [if_neg (by omega), if_neg (by omega), if_neg (fun h => by have := L.hT b h; omega)]
  exact hb
/-- What the base names, one by one. -/
theorem BL_cases (L : Lies B D l T W) {b : Nat} {q : Obj} (hb : (BL B l D o T W).F b = some q) : (b = l ∧ q = .loop o) ∨ (b = D ∧ q = .deferred (some [])) ∨ (b ∈ T ∧ hp W b = some q) ∨ B.F b = some q := by
  simp only [BL] at hb
  split at hb
  · rename_i h; exact .inl ⟨h, by injection hb with hb; exact hb.symm⟩
  · split at hb
    · rename_i h; exact .inr (.inl ⟨h, by injection hb with hb; exact hb.symm⟩)
    · split at hb
      · rename_i h; exact .inr (.inr (.inl ⟨h, hb⟩))
      · exact .inr (.inr (.inr hb))
theorem BL_none (L : Lies B D l T W) {b : Nat} (hb : (BL B l D o T W).F b = none) : b ≠ l ∧ b ≠ D ∧ (∀ q, hp W b = some q → b ∉ T) ∧ B.F b = none := by
  refine ⟨fun e => ?_, fun e => ?_, fun q hq ht => ?_, ?_⟩
  · subst e; rw [BL_l] at hb; cases hb
  · subst e; rw [BL_D L.hl] at hb; cases hb
  · rw [BL_T L ht, hq] at hb; cases hb
  · cases e : B.F b with
    | none => rfl
    | some q => rw [BL_B L e] at hb; cases hb
/-- A step of the iterator. -/
theorem BL_step (L : Lies B D l T W) (hs : SatN (BL B l D o T W) ν H n st a W) (hst : Steps' T T' W W') : Lies B D l T' W' ∧ SatN (BL B l D o T' W') ν H n st a W' := by
  have hH : ∀ b q, H b = some q → b ∉ T := fun b q hb ht => by
    obtain ⟨h1, h2⟩ := L.hT b ht
    have h3 : ∃ q, hp W b = some q := ⟨_, Array.getElem?_eq_getElem h2⟩
    obtain ⟨q', h3⟩ := h3
    have := hs.newH b q' (by rw [BL_T L ht]; exact h3) (L.hH b (by have := L.hl; omega))
    rw [this] at hb; cases hb
  have hlT : l ∉ T := fun h => by have := L.hT l h; omega
  have hDT : D ∉ T := fun h => by have := L.hT D h; have := L.hl; omega
  have hl : hp W l = some (.loop o) := hs.subF _ _ BL_l
  have hD : hp W D = some (.deferred (some [])) := hs.subF _ _ (BL_D L.hl)
  have L' : Lies B D l T' W' := ⟨L.hl, fun b hb => by
    rcases hst.new b hb with h | h
    · have := L.hT b h; have := hst.size; omega
    · have := hp_lt hl; omega, L.hH, L.hF⟩
  refine ⟨L', hs.move (B2 := BL B l D o T' W') (a' := a) rfl rfl rfl rfl rfl hs.defers (fun b q hb => hst.block b q (hH b q hb) (hs.sub b q hb)) (fun b q hb => ?_) (fun b q hb hn => ?_) (fun b q h1 h2 h3 => ?_) ⟨hst.os, hst.tape, hst.output, hst.size, hst.drawn⟩⟩
  · rcases BL_cases L' hb with ⟨rfl, rfl⟩ | ⟨rfl, rfl⟩ | ⟨_, h⟩ | h
    · exact hst.block _ _ hlT hl
    · exact hst.block _ _ hDT hD
    · exact h
    · have h2 := hs.subF b q (BL_B L h)
      refine hst.block b q (fun ht => ?_) h2
      have := L.hT b ht; have := L.hF b (by have := L.hl; omega); rw [this] at h; cases h
  · rcases BL_cases L' hb with ⟨rfl, rfl⟩ | ⟨rfl, rfl⟩ | ⟨ht, h⟩ | h
    · exact hs.newH _ _ BL_l hn
    · exact hs.newH _ _ (BL_D L.hl) hn
    · rcases hst.new b ht with h1 | h1
      · cases e : H b with
        | none => rfl
        | some q' => exact absurd h1 (hH b q' e)
      · cases e : H b with
        | none => rfl
        | some q' => have := hs.sub b q' e; rw [hp_ge h1.1] at this; cases this
    · exact hs.newH b q (BL_B L h) hn
  · obtain ⟨k1, k2, k3, k4⟩ := BL_none L h1
    refine ⟨hst.block b q (k3 q h3) h3, ?_⟩
    cases e : (BL B l D o T' W').F b with
    | none => rfl
    | some q' =>
      rcases BL_cases L' e with ⟨h, _⟩ | ⟨h, _⟩ | ⟨ht, _⟩ | h
      · exact absurd h k1
      · exact absurd h k2
      · rcases hst.new b ht with h5 | h5
        · exact absurd h5 (k3 q h3)
        · rw [hp_ge h5.1] at h3; cases h3
      · rw [k4] at h; cases h
theorem hp_putO {q : Obj} {b : Nat} (h : l < W.heap.size) : hp (W.putObj l q) b = if b = l then some q else hp W b := by
  by_cases e : b = l
  · subst e; rw [if_pos rfl]; exact World.putObj_heap_same h
  · rw [if_neg e]; exact World.putObj_heap_other e
theorem put_same (l : Nat) (q : Obj) : (W.putObj l q).os = W.os ∧ (W.putObj l q).tape = W.tape ∧ (W.putObj l q).output = W.output ∧ W.heap.size ≤ (W.putObj l q).heap.size ∧ W.drawn ≤ (W.putObj l q).drawn :=
  ⟨rfl, rfl, rfl, by simp, Nat.le_refl _⟩
/-- The loop's record turns. -/
theorem BL_turn (L : Lies B D l T W) (hs : SatN (BL B l D o T W) ν H n st a W) (o' : Loop) : Lies B D l T (W.putObj l (.loop o')) ∧ SatN (BL B l D o' T (W.putObj l (.loop o'))) ν H n st a (W.putObj l (.loop o')) := by
  have hl : hp W l = some (.loop o) := hs.subF _ _ BL_l
  have hlt := hp_lt hl
  have hll : H l = none := hs.newH l _ BL_l (L.hH l (by have := L.hl; omega))
  have L' : Lies B D l T (W.putObj l (.loop o')) := ⟨L.hl, fun b hb => by simpa using L.hT b hb, L.hH, L.hF⟩
  refine ⟨L', hs.move (B2 := BL B l D o' T (W.putObj l (.loop o'))) (a' := a) rfl rfl rfl rfl rfl hs.defers (fun b q hb => ?_) (fun b q hb => ?_) (fun b q hb hn => ?_) (fun b q h1 h2 h3 => ?_) (put_same _ _)⟩
  · rw [hp_putO hlt, if_neg (fun e => by subst e; rw [hll] at hb; cases hb)]; exact hs.sub b q hb
  · rcases BL_cases L' hb with ⟨rfl, rfl⟩ | ⟨rfl, rfl⟩ | ⟨_, h⟩ | h
    · rw [hp_putO hlt, if_pos rfl]
    · rw [hp_putO hlt, if_neg (by have := L.hl; omega)]; exact hs.subF _ _ (BL_D L.hl)
    · exact h
    · have h2 := hs.subF b q (BL_B L h)
      rw [hp_putO hlt, if_neg (fun e => by subst e; rw [L.hF _ (by have := L.hl; omega)] at h; cases h)]; exact h2
  · rcases BL_cases L' hb with ⟨rfl, rfl⟩ | ⟨rfl, rfl⟩ | ⟨ht, h⟩ | h
    · exact hll
    · exact hs.newH _ _ (BL_D L.hl) hn
    · rw [hp_putO hlt, if_neg (by have := L.hT b ht; omega)] at h
      exact hs.newH b q (by rw [BL_T L ht]; exact h) hn
    · exact hs.newH b q (BL_B L h) hn
  · obtain ⟨k1, k2, k3, k4⟩ := BL_none L h1
    refine ⟨by rw [hp_putO hlt, if_neg k1]; exact h3, ?_⟩
    cases e : (BL B l D o' T (W.putObj l (.loop o'))).F b with
    | none => rfl
    | some q' =>
      rcases BL_cases L' e with ⟨h, _⟩ | ⟨h, _⟩ | ⟨ht, _⟩ | h
      · exact absurd h k1
      · exact absurd h k2
      · exact absurd ht (k3 q h3)
      · rw [k4] at h; cases h
open Classical in
/-- The base of a round: whatever is not one's own is kept. -/
theorem SatN.round (h : SatN B ν H n st a W) : ∃ F', B.F.le F' ∧ F'.le (hp W) ∧ (∀ b q, hp W b = some q → F' b = none → B.F b = none ∧ H b = none) ∧ SatE ν H F' (hp W) st.res := by
  obtain ⟨β, hβ⟩ := h.res
  refine ⟨fun b => if ∃ t r, rlk st.res t = some r ∧ b ∈ β t then none else hp W b, fun b q hb => ?_, fun b q hb => ?_, fun b q hb hn => ?_, β, hβ.ok, hβ.dis, fun t r b ht hb => ⟨(hβ.own t r b ht hb).1, if_pos ⟨t, r, ht, hb⟩⟩⟩
  · show (if _ then none else hp W b) = _
    rw [if_neg (fun ⟨t, r, ht, hm⟩ => by rw [(hβ.own t r b ht hm).2] at hb; cases hb)]
    exact h.subF b q hb
  · simp only at hb
    split at hb
    · cases hb
    · exact hb
  · simp only at hn
    split at hn
    · rename_i e
      obtain ⟨t, r, ht, hm⟩ := e
      exact ⟨(hβ.own t r b ht hm).2, (hβ.own t r b ht hm).1⟩
    · rw [hb] at hn; cases hn
end
end Go.Proofs.Ytbpobdlahighoaa.Sx
/- The engine tells the truth: whole pieces of code, loops over iterators with them. -/
namespace Go.Proofs.Ytbpobdlahighoaa.Sx
open Go
set_option linter.unusedVariables false
set_option linter.unusedSimpArgs false

/-- What is shown of the state is so of the machine, with so much fuel. -/
def RunOk (f : Nat) : Prop := ∀ (C : Cx) (B0 B : Base) (r : Option Nat) (fin : Exit → Act → World → Prop), C.P.follows .mixedOrders = true → B0.n = C.np → (C.rd = false → r = none) → (∀ c a w, ¬ fin (.panic c) a w) → (∀ l a w, ¬ fin (.goto l) a w) → (∀ a w, ¬ fin .outgrown a w) →
  ∀ (k : List VI) (st : St) (a : Act) (w : World) (ν : Nat → Option Value) (H : Hp), (C.rd = false → bot k = none) → (bot k = none → ∀ B st a w ν H, Bext B0 B → SatN B ν H C.n st a w → RetVC C st → fin .ret a w ∧ fin .normal a w) → (∀ x ∈ k, viOk C.ord x) →
    Bext B0 B → SatN B ν H C.n st a w → vrun C f k st → sem C B0 r fin k .normal a w

section
variable {C : Cx} {B B' B0 : Base} {ν ν' ν1 ν2 : Nat → Option Value} {H H' G : Hp} {st st3 : St} {t n l D : Nat} {w w' W W3 : World} {a a2 : Act} {o : Loop} {T : List Nat}
theorem Bext.refl (h1 : B.ds.Nodup) (h2 : ∀ D ∈ B.ds, B.F D = some (.deferred (some [])) ∧ hp B.w D = none) : Bext B B := ⟨rfl, rfl, rfl, rfl, fun _ _ h => h, h1, h2⟩
/-- Behind a round: the state as the loop's own base tells it. -/
theorem SatN.back {env4 : List (Nat × SV)} {res4 : List (Nat × Res)} {nx4 : Nat} {mv4 : List Nat} {ν4 : Nat → Option Value} {aD : Act} {o o4 : Loop} {B3 : Base}
    (L : Lies B D l T W) (hsat : SatN (BL B l D o T W) ν' H' n st aD W) (hF : (BL B l D o T W).F.le G) (hlG : ∀ b, b ≠ l → ∀ q, G b = some q → B3.F b = some q) (hl3 : ∃ q, B3.F l = some q) (hH3 : B3.H = H') (hw3 : B3.w = B.w) (hs3 : SatN B3 ν2 H n st3 a2 W3)
    (henv : EnvOk ν4 H env4 aD) (hres : ∀ β, SatR ν2 H B3.F (hp W3) β st3.res → (∀ t r, rlk res4 t = some r → ResOk ν4 H (hp W3) (β t) t r ∧ ∃ r3, rlk st3.res t = some r3)) (hfr : ∀ t, nx4 ≤ t → ν4 t = none ∧ rlk res4 t = none)
    (hkeep : ∀ t, t < B.n → t ∉ mv4 → ν4 t = B.ν t) (hlow : B.n ≤ nx4) :
    Lies B D l T (W3.putObj l (.loop o4)) ∧ SatN (BL B l D o4 T (W3.putObj l (.loop o4))) ν4 H n ⟨env4, res4, nx4, mv4⟩ aD (W3.putObj l (.loop o4)) ∧ (∀ b ∈ T, hp (W3.putObj l (.loop o4)) b = hp W b) := by
  have hlW : hp W l = some (.loop o) := hsat.subF _ _ BL_l
  obtain ⟨q3, hq3⟩ := hl3
  have hl3' : hp W3 l = some q3 := hs3.subF _ _ hq3
  have hlt := hp_lt hl3'
  have hlH' : H' l = none := hsat.newH l _ BL_l (L.hH l (by have := L.hl; omega))
  have hlH : H l = none := hs3.newH l _ hq3 (by rw [hH3]; exact hlH')
  have put : ∀ b, b ≠ l → hp (W3.putObj l (.loop o4)) b = hp W3 b := fun b hb => by rw [hp_putO hlt, if_neg hb]
  have keepF : ∀ b q, b ≠ l → (BL B l D o T W).F b = some q → hp W3 b = some q := fun b q hb hq => hs3.subF _ _ (hlG b hb q (hF b q hq))
  have hTk : ∀ b ∈ T, hp W3 b = hp W b := fun b hb => by
    obtain ⟨h1, h2⟩ := L.hT b hb
    obtain ⟨q, hq⟩ : ∃ q, hp W b = some q := ⟨_, Array.getElem?_eq_getElem h2⟩
    rw [hq]; exact keepF b q (by omega) (by rw [BL_T L hb]; exact hq)
  have L' : Lies B D l T (W3.putObj l (.loop o4)) := ⟨L.hl, fun b hb => by
    obtain ⟨h1, h2⟩ := L.hT b hb
    obtain ⟨q, hq⟩ : ∃ q, hp W b = some q := ⟨_, Array.getElem?_eq_getElem h2⟩
    have := hTk b hb
    rw [hq] at this
    have := hp_lt this
    exact ⟨h1, by simpa using this⟩, L.hH, L.hF⟩
  have hT' : ∀ b ∈ T, hp (W3.putObj l (.loop o4)) b = hp W b := fun b hb => by rw [put b (by have := L.hT b hb; omega), hTk b hb]
  -- from the new base to the old one
  have old : ∀ b q, b ≠ l → (BL B l D o4 T (W3.putObj l (.loop o4))).F b = some q → (BL B l D o T W).F b = some q := fun b q hb hq => by
    rcases BL_cases L' hq with ⟨e, _⟩ | ⟨e, e2⟩ | ⟨ht, h⟩ | h
    · exact absurd e hb
    · subst e; subst e2; exact BL_D L.hl
    · rw [BL_T L ht, ← hT' b ht]; exact h
    · exact BL_B L h
  refine ⟨L', ⟨fun b q hb => ?_, fun b q hb => ?_, fun b q hb => ?_, fun b q hb hn => ?_, henv, hsat.size, ?_, hfr, hkeep, hlow, hsat.defers, ?_⟩, hT'⟩
  · rw [put b (fun e => by subst e; rw [hlH] at hb; cases hb)]; exact hs3.sub b q hb
  · by_cases e : b = l
    · subst e
      rw [BL_l] at hb
      rw [hp_putO hlt, if_pos rfl]; exact hb
    · rw [put b e]; exact keepF b q e (old b q e hb)
  · exact hs3.subH b q (by rw [hH3]; exact hsat.subH b q hb)
  · by_cases e : b = l
    · subst e; exact hlH
    · have h1 := old b q e hb
      have h2 := hsat.newH b q h1 hn
      exact hs3.newH b q (hlG b e q (hF b q h1)) (by rw [hH3]; exact h2)
  · obtain ⟨β, hβ⟩ := hs3.res
    have hr := hres β hβ
    have own : ∀ t r b, rlk res4 t = some r → b ∈ β t → b ≠ l ∧ H b = none ∧ (BL B l D o4 T (W3.putObj l (.loop o4))).F b = none := fun t r b ht hb => by
      obtain ⟨_, r3, h3⟩ := hr t r ht
      have hown := hβ.own t r3 b h3 hb
      have hbl : b ≠ l := fun e => by subst e; rw [hq3] at hown; cases hown.2
      refine ⟨hbl, hown.1, ?_⟩
      cases e : (BL B l D o4 T (W3.putObj l (.loop o4))).F b with
      | none => rfl
      | some q =>
        have := hlG b hbl q (hF b q (old b q hbl e))
        rw [hown.2] at this; cases this
    refine ⟨β, fun t r ht => ?_, fun t u r q b ht hu htu h1 h2 => ?_, fun t r b ht hb => (own t r b ht hb).2⟩
    · refine (hr t r ht).1.keep (fun _ _ h => h) (Hp.le.refl _) (fun b q hb hq => ?_)
      rw [put b (own t r b ht hb).1]; exact hq
    · obtain ⟨_, r3, h3⟩ := hr t r ht
      obtain ⟨_, q3', h4⟩ := hr u q hu
      exact hβ.dis t u r3 q3' b h3 h4 htu h1 h2
  · have hkp := hs3.kp
    rw [hw3] at hkp
    exact ⟨hkp.os, hkp.tape, hkp.output, by have := hkp.size; show B.w.heap.size ≤ _; simpa using this, hkp.drawn⟩
theorem range_sound {f : Nat} (IH : RunOk f) {fin : Exit → Act → World → Prop} {g : Operand} {ps : Array Tmp} {assign body : Code} {k : List VI} (hm : C.P.follows .mixedOrders = true) (hnp : B0.n = C.np)
    (hp0 : ∀ c a w, ¬ fin (.panic c) a w) (hgo : ∀ l a w, ¬ fin (.goto l) a w) (hout : ∀ a w, ¬ fin .outgrown a w) (hbot : C.rd = false → bot k = none) (hfin : bot k = none → ∀ B st a w ν H, Bext B0 B → SatN B ν H C.n st a w → RetVC C st → fin .ret a w ∧ fin .normal a w)
    (hda : drawOk C.ord assign = true) (hdb : drawOk C.ord body = true) (hk : ∀ x ∈ k, viOk C.ord x) (hB : Bext B0 B) (hs : SatN B ν H C.n st a w) (h : RangeVC C (fun C => vrun C f) k ps.toList assign body st (ev st g)) :
    (Code.rangeFunc g ps assign body).wpIn (Fr none) 0 C.P (sem C B0 none fin k) a w := by
  have hgv := ev_den hs.env g
  generalize ev st g = sg at h hgv
  cases sg with
  | fn gf first cap =>
    cases first with
    | cons _ _ => exact h.elim
    | nil =>
      obtain ⟨⟨hrd, hcap⟩, α, enc, Nx, S, Sp, ⟨hcall, hit⟩, hlen, hpn, ι, I, res, mvs, i₀, hI0, hmat, hlt, hround, hdone⟩ := h
      obtain ⟨fs, cs, hgeq, hfs, hcs⟩ := hgv.fn_inv
      cases hfs
      obtain ⟨β, fb, encs, Nx', S', Sp', k1, k2, k3, k4, hseq⟩ := hit w H cs hs.sub (rds_den hcs hcap)
      refine wpIn_rangeFunc ?_
      intro fn hfn
      obtain ⟨D, hD⟩ : ∃ D, D = w.heap.size := ⟨_, rfl⟩
      obtain ⟨l, hl⟩ : ∃ l, l = D + 1 := ⟨_, rfl⟩
      obtain ⟨rec, hrec⟩ : ∃ rec : LoopState → Option Code → Loop, rec = fun s pe => { state := s, pending := pe, fn, tmps := a.tmps, params := ps, assign, body, defers := w.heap.size } := ⟨_, rfl⟩
      obtain ⟨W1, hW1⟩ : ∃ W1, (w.alloc (.deferred (some []))).alloc (.loop (rec .ready none)) = W1 := ⟨_, rfl⟩
      let aD : Act := { a with defers := mark D :: a.defers }
      let Si : ι → St := fun i => ⟨outerEnv st mvs, rover st.res (res i), st.nx, mvs ++ st.mv⟩
      let So : St → St := fun st' => ⟨outerEnv st (mvs ++ st'.mv), st'.res, st'.nx, st'.mv ++ (mvs ++ st.mv)⟩
      have hHge : ∀ b, D ≤ b → B.H b = none := fun b hb => by
        cases e : B.H b with
        | none => rfl
        | some q => have := hp_lt (hs.sub b q (hs.subH b q e)); omega
      have hFge : ∀ b, D ≤ b → B.F b = none := fun b hb => by
        cases e : B.F b with
        | none => rfl
        | some q => have := hp_lt (hs.subF b q e); omega
      have hp1 : ∀ b, hp W1 b = if b = l then some (.loop (rec .ready none)) else if b = D then some (.deferred (some [])) else hp w b := fun b => by
        rw [← hW1, hp_alloc, hp_alloc]
        simp only [World.size_alloc, ← hD, hl]
      have hs1 : W1.heap.size = D + 2 := by rw [← hW1]; simp [hD]
      let J : List β → List Nat → World → Prop := fun xs T W => ∃ i ν' H', I (xs.map fb) i ∧ H.le H' ∧ Lies B D l T W ∧ (∀ t x, t ∉ mvs → ν t = some x → ν' t = some x) ∧ SatN (BL B l D (rec .ready none) T W) ν' H' C.n (Si i) aD W
      let Jx : List β → List Nat → World → Prop := fun xs T W => ∃ (c : Code) (st' : St) (ν' : Nat → Option Value) (H' : Hp), Lies B D l T W ∧ SatN (BL B l D (rec .done (some c)) T W) ν' H' C.n (So st') aD W ∧
        ((c = .ret ∧ RetVC C (So st')) ∨ ∃ id k', c = .exit id ∧ popTo id k = some k' ∧ vrun C f k' (So st'))
      have hkn : ∀ b, b = D ∨ b = l → hp w b = none := fun b hb => hp_ge (by omega)
      -- the start
      have hJ0 : J [] [] W1 := by
        refine ⟨i₀, ν, H, hI0, Hp.le.refl _, ⟨hl, (fun b hb => by cases hb), hHge, hFge⟩, fun t x _ h => h, ?_⟩
        have hst : SatN B ν H C.n (Si i₀) a w := by
          obtain ⟨β0, hβ⟩ := hs.res
          have hR : ∀ t r, rlk (rover st.res (res i₀)) t = some r → rlk st.res t = some r := fun t r ht => rover_rlk t r hmat ht
          refine ⟨hs.sub, hs.subF, hs.subH, hs.newH, env_outer hs.env mvs (fun t x _ h => h), hs.size, ⟨β0, fun t r ht => hβ.ok t r (hR t r ht), fun t u r q b ht hu => hβ.dis t u r q b (hR t r ht) (hR u q hu), fun t r b ht => hβ.own t r b (hR t r ht)⟩,
            fun t ht => ⟨(hs.fresh t ht).1, ?_⟩, fun t ht hm => hs.keep t ht (fun h => hm (List.mem_append_right _ h)), hs.low, hs.defers, hs.kp⟩
          cases e : rlk (rover st.res (res i₀)) t with
          | none => rfl
          | some r => have := hR t r e; rw [(hs.fresh t ht).2] at this; cases this
        have hle : ∀ b q, hp w b = some q → hp W1 b = some q := fun b q hb => by
          rw [hp1, if_neg (fun e => by rw [hkn b (.inr e)] at hb; cases hb), if_neg (fun e => by rw [hkn b (.inl e)] at hb; cases hb)]; exact hb
        refine hst.move (B2 := BL B l D (rec .ready none) [] W1) (a' := aD) rfl rfl rfl rfl rfl (by show mark D :: a.defers = _; rw [hs.defers]; rfl) (fun b q hb => hle b q (hs.sub b q hb)) (fun b q hb => ?_) (fun b q hb hn => ?_) (fun b q h1 h2 h3 => ⟨hle b q h3, ?_⟩) ⟨by rw [← hW1]; rfl, by rw [← hW1]; rfl, by rw [← hW1]; rfl, by omega, by rw [← hW1]; exact Nat.le_refl _⟩
        · rcases BL_cases (⟨hl, (fun b hb => by cases hb), hHge, hFge⟩ : Lies B D l [] W1) hb with ⟨rfl, rfl⟩ | ⟨rfl, rfl⟩ | ⟨h, _⟩ | h
          · rw [hp1, if_pos rfl]
          · rw [hp1, if_neg (by omega), if_pos rfl]
          · cases h
          · exact hle b q (hs.subF b q h)
        · rcases BL_cases (⟨hl, (fun b hb => by cases hb), hHge, hFge⟩ : Lies B D l [] W1) hb with ⟨rfl, rfl⟩ | ⟨rfl, rfl⟩ | ⟨h, _⟩ | h
          · cases e : H b with
            | none => rfl
            | some q' => have := hs.sub b q' e; rw [hkn b (.inr rfl)] at this; cases this
          · cases e : H b with
            | none => rfl
            | some q' => have := hs.sub b q' e; rw [hkn b (.inl rfl)] at this; cases this
          · cases h
          · exact hs.newH b q h hn
        · cases e : (BL B l D (rec .ready none) [] W1).F b with
          | none => rfl
          | some q' =>
            rcases BL_cases (⟨hl, (fun b hb => by cases hb), hHge, hFge⟩ : Lies B D l [] W1) e with ⟨rfl, _⟩ | ⟨rfl, _⟩ | ⟨h, _⟩ | h
            · rw [hkn b (.inr rfl)] at h3; cases h3
            · rw [hkn b (.inl rfl)] at h3; cases h3
            · cases h
            · rw [h1] at h; cases h
      have hJa : AbidesT J := by
        rintro pre T T' W W' ⟨i, ν', H', h1, h2, h3, h4, h5⟩ hst
        obtain ⟨g1, g2⟩ := BL_step h3 h5 hst
        exact ⟨i, ν', H', h1, h2, g1, h4, g2⟩
      have hJxa : AbidesT Jx := by
        rintro pre T T' W W' ⟨c, st', ν', H', h1, h2, h3⟩ hst
        obtain ⟨g1, g2⟩ := BL_step h1 h2 hst
        exact ⟨c, st', ν', H', g1, g2, h3⟩
      have hrun := hseq l J Jx W1 (fun b q hb => by
          rw [hp1, if_neg (fun e => by have := hs.sub b q hb; rw [hkn b (.inr e)] at this; cases this), if_neg (fun e => by have := hs.sub b q hb; rw [hkn b (.inl e)] at this; cases this)]; exact hs.sub b q hb) hJa hJxa ?_ hJ0
      · refine ⟨l, [mark D], W1, { target := .fn (.func gf) cs.toArray, args := #[.func (.yield l) #[] #[]] }, W1, gf, #[.func (.yield l) #[] #[]] ++ cs.toArray, W1, ?_, ?_, fun _ _ => trivial, ?_, fun h => by simp [Fr, Fence.wide] at h, ?_⟩
        · have := run_enterLoop_outer (P := C.P) (w := w) fn a.tmps ps assign body
          rw [← hW1, hl, hD, hrec]; exact this
        · simp only [resolve, hgeq]
          simp [go_sem]
        · have eg : ∀ args w, (callFunc gf args).run C.P w = .ok (.enter gf args) w := hcall
          simp [invoke, go_sem, eg]
        · refine callsIn_wide.2 (hrun.mono ?_)
          rintro e W2 ⟨⟨v, rfl⟩, (⟨xs, T, hS, i, ν', H', hI, hHH, L, hν, hsat⟩ | ⟨pre, T, hSp, c, st', ν', H', L, hsat, hjump⟩)⟩
          · have hl2 : W2.heap[l]? = some (.loop (rec .ready none)) := hsat.subF _ _ BL_l
            obtain ⟨L4, h4⟩ := BL_turn L hsat { rec .ready none with state := .exhausted }
            obtain ⟨j, hj⟩ : ∃ j, j = (rec .ready none).pending := ⟨_, rfl⟩
            refine ⟨j, _, by rw [hj]; exact run_endLoop (P := C.P) hl2 (by rw [hrec]; simp), ?_⟩
            have ej : j = none := by rw [hj, hrec]
            subst ej
            show sem C B0 none fin k .normal _ _
            refine IH C B0 _ none fin hm hnp (fun _ => rfl) hp0 hgo hout k (Si i) aD _ ν' H' hbot hfin hk ?_ h4 (hdone _ i (k3 xs hS) hI)
            refine hB.trans ⟨rfl, rfl, rfl, rfl, fun b q hb => BL_B L4 hb, List.nodup_cons.2 ⟨fun hm => ?_, hB.nodup⟩, fun D' hD' => ?_⟩
            · have := (hB.marks D hm).1; rw [hFge D (Nat.le_refl _)] at this; cases this
            · rcases List.mem_cons.1 hD' with rfl | hD'
              · exact ⟨BL_D L4.hl, hp_ge (by have := hs.kp.size; omega)⟩
              · exact ⟨BL_B L4 (hB.marks D' hD').1, by rw [hB.w]; exact (hB.marks D' hD').2⟩
          · have hl2 : W2.heap[l]? = some (.loop (rec .done (some c))) := hsat.subF _ _ BL_l
            obtain ⟨L4, h4⟩ := BL_turn L hsat { rec .done (some c) with state := .exhausted }
            obtain ⟨j, hj⟩ : ∃ j, j = (rec .done (some c)).pending := ⟨_, rfl⟩
            refine ⟨j, _, by rw [hj]; exact run_endLoop (P := C.P) hl2 (by rw [hrec]; simp), ?_⟩
            have ej : j = some c := by rw [hj, hrec]
            subst ej
            show c.wpIn _ _ _ _ _ _
            have hB4 : Bext B0 (BL B l D { rec .done (some c) with state := .exhausted } T (W2.putObj l (.loop { rec .done (some c) with state := .exhausted }))) := by
              refine hB.trans ⟨rfl, rfl, rfl, rfl, fun b q hb => BL_B L4 hb, List.nodup_cons.2 ⟨fun hm => ?_, hB.nodup⟩, fun D' hD' => ?_⟩
              · have := (hB.marks D hm).1; rw [hFge D (Nat.le_refl _)] at this; cases this
              · rcases List.mem_cons.1 hD' with rfl | hD'
                · exact ⟨BL_D L4.hl, hp_ge (by have := hs.kp.size; omega)⟩
                · exact ⟨BL_B L4 (hB.marks D' hD').1, by rw [hB.w]; exact (hB.marks D' hD').2⟩
            rcases hjump with ⟨rfl, hret⟩ | ⟨id, k', rfl, hpop, hvr⟩
            · exact wpIn_ret (sem_ret fin k _ _ (hbot hrd) (hfin (hbot hrd) _ _ _ _ _ _ hB4 h4 hret).1)
            · exact wpIn_exit (sem_exit fin id k k' _ _ hpop (IH C B0 _ none fin hm hnp (fun _ => rfl) hp0 hgo hout k' (So st') aD _ ν' H' (fun h => by rw [popTo_bot hpop]; exact hbot h) (fun h => hfin (by rw [← popTo_bot hpop]; exact h)) (fun x hx => hk x (popTo_sub hpop x hx)) hB4 h4 hvr))
      · -- one round
        rintro pre T x W ⟨i, ν', H', hI, hHH, L, hν, hsat⟩ hHW hx
        have hW : hp W l = some (.loop (rec .ready none)) := hsat.subF _ _ BL_l
        have hl0 : H' l = none := hsat.newH l _ BL_l (hHge l (by omega))
        have hy := run_yield (P := C.P) (args := (encs x).toArray) hW (by rw [hrec]; simp; have e1 := hlen (fb x); have e2 := (k1 x).length; simp at e1 ⊢; omega)
        obtain ⟨F', hF1, hF2, hF3, hSE⟩ := hsat.round
        let Br : Base := ⟨B.w, ν', st.nx, H', F', []⟩
        let C' : Cx := { C with np := st.nx, rd := true }
        let E : Exit → St → Prop := fun e st3 => match e with
          | .normal => ∃ i', I (pre.map fb ++ [fb x]) i' ∧ matR st3.res (rover st.res (res i')) ∧ ∀ t ∈ st3.mv, t ∈ mvs
          | .ret => RetVC C (So st3)
          | .exit id => ∃ k', popTo id k = some k' ∧ vrun C f k' (So st3)
          | _ => False
        have hv := hround (pre.map fb) (fb x) i hI (k2 _ _ hx) E (fun _ h => h) (fun _ h => h) (fun id k' st' h1 h2 => ⟨k', h1, h2⟩)
        have henv := roundEnv_ok (ν := ν') (H := H') ps.toList (enc (fb x)) (encs x) (outerEnv st mvs) a.tmps aD.defers [] (hlen _) ((RDenL.mono hHH (k1 x)).den) hpn hs.size hsat.env
        rw [hrec] at hy
        refine ⟨fn, _, assign, body, hy, roundIn_of_wpIn hfn ?_⟩
        have hmain := IH C' Br Br (some l) (fun _ _ _ => False) hm rfl (fun h => by cases h) (fun _ _ _ h => h) (fun _ _ _ h => h) (fun _ _ h => h)
          [.code assign, .stop fun e st1 => e = .normal ∧ vrun C' f [.code body, .stop E] st1] ⟨roundEnv ps.toList (enc (fb x)) (outerEnv st mvs), rover st.res (res i), st.nx, []⟩
          { tmps := (ps.toList.zip (encs x)).foldl (fun t (p, v) => t.setIfInBounds p v) a.tmps, defers := [] } W ν' H' (fun h => by cases h) (fun h => by cases h) (fun y hy => by
            simp only [List.mem_cons, List.not_mem_nil, or_false] at hy
            rcases hy with rfl | rfl
            · exact hda
            · trivial)
          (Bext.refl List.nodup_nil (fun _ h => by cases h))
          ⟨hsat.sub, hF2, Hp.le.refl _, fun b q hb hn => hn, henv.1, henv.2, hSE, hsat.fresh, fun _ _ _ => rfl, Nat.le_refl _, rfl, hsat.kp⟩ hv
        have etm : (ps.zip (encs x).toArray).foldl (fun tmps (t, a) => tmps.setIfInBounds t a) a.tmps = (ps.toList.zip (encs x)).foldl (fun t (p, v) => t.setIfInBounds p v) a.tmps := by
          rw [← Array.foldl_toList]; simp
        rw [etm]
        refine wpIn_mono hmain ?_
        rintro e a1 W1' ⟨_, B', ν1, H1, st1, hBe, hs1', he, hv1⟩
        subst he
        have hl1 : B'.F l = some (.loop (rec .ready none)) := hBe.F _ _ (hF1 _ _ BL_l)
        have hW1l : hp W1' l = some (.loop (rec .ready none)) := hs1'.subF _ _ hl1
        have hlt1 := hp_lt hW1l
        refine ⟨_, run_beginRound hW1l (by rw [hrec]), ?_⟩
        obtain ⟨bz, hbz⟩ : ∃ bz : Loop, bz = { rec .ready none with state := .busy } := ⟨_, rfl⟩
        rw [← hbz]
        let B2 : Base := ⟨B'.w, B'.ν, B'.n, B'.H, fun b => if b = l then some (.loop bz) else B'.F b, B'.ds⟩
        have hH1l : H1 l = none := hs1'.newH l _ hl1 (by rw [hBe.H]; exact hl0)
        have hB2 : ∀ b q, b ≠ l → B'.F b = some q → B2.F b = some q := fun b q hb hq => by show (if b = l then _ else _) = _; rw [if_neg hb]; exact hq
        have hB2l : B2.F l = some (.loop bz) := by show (if l = l then _ else _) = _; rw [if_pos rfl]
        have hs2 : SatN B2 ν1 H1 C.n st1 a1 (W1'.putObj l (.loop bz)) := by
          refine hs1'.move rfl rfl rfl rfl rfl hs1'.defers (fun b q hb => ?_) (fun b q hb => ?_) (fun b q hb hn => ?_) (fun b q g1 g2 g3 => ?_) (put_same _ _)
          · rw [hp_putO hlt1, if_neg (fun e => by subst e; rw [hH1l] at hb; cases hb)]; exact hs1'.sub b q hb
          · by_cases e : b = l
            · subst e; rw [hB2l] at hb; rw [hp_putO hlt1, if_pos rfl]; exact hb
            · rw [hp_putO hlt1, if_neg e]
              have : B2.F b = B'.F b := if_neg e
              rw [this] at hb; exact hs1'.subF b q hb
          · by_cases e : b = l
            · subst e; exact hH1l
            · have : B2.F b = B'.F b := if_neg e
              rw [this] at hb; exact hs1'.newH b q hb hn
          · have e : b ≠ l := fun e => by subst e; rw [hl1] at g1; cases g1
            exact ⟨by rw [hp_putO hlt1, if_neg e]; exact g3, (if_neg e).trans g1⟩
        have hmain2 := IH C' B2 B2 (some l) (fun _ _ _ => False) hm hBe.n (fun h => by cases h) (fun _ _ _ h => h) (fun _ _ _ h => h) (fun _ _ h => h)
          [.code body, .stop E] st1 a1 (W1'.putObj l (.loop bz)) ν1 H1 (fun h => by cases h) (fun h => by cases h) (fun y hy => by
            simp only [List.mem_cons, List.not_mem_nil, or_false] at hy
            rcases hy with rfl | rfl
            · exact hdb
            · trivial)
          (Bext.refl hBe.nodup (fun D' hD' => by
            obtain ⟨g1, g2⟩ := hBe.marks D' hD'
            refine ⟨hB2 D' _ (fun e => by subst e; rw [hl1] at g1; cases g1) g1, ?_⟩
            show hp B'.w D' = none
            rw [hBe.w]; exact g2)) hs2 hv1
        refine wpIn_mono hmain2 ?_
        rintro e a3 W3 ⟨hok, B3, ν3, H3, st3, hB3, hs3, hE⟩
        have hl3 : B3.F l = some (.loop bz) := hB3.F _ _ hB2l
        have hW3l : hp W3 l = some (.loop bz) := hs3.subF _ _ hl3
        have hlG : ∀ b, b ≠ l → ∀ q, F' b = some q → B3.F b = some q := fun b hb q hq => hB3.F _ _ (hB2 b q hb (hBe.F _ _ hq))
        have hH3 : B3.H = H' := hB3.H.trans hBe.H
        have hn3 : B3.n = st.nx := hB3.n.trans hBe.n
        have hν3 : B3.ν = ν' := hB3.ν.trans hBe.ν
        have hw3 : B3.w = B.w := hB3.w.trans hBe.w
        have hHl : H'.le H3 := by rw [← hH3]; exact hs3.subH
        have kν : ∀ t, t < st.nx → t ∉ st3.mv → ν3 t = ν' t := fun t h1 h2 => by rw [← hν3]; exact hs3.keep t (by rw [hn3]; exact h1) h2
        have ltν : ∀ t y, ν t = some y → t < st.nx := fun t y hy => by
          rcases Nat.lt_or_ge t st.nx with h | h
          · exact h
          · rw [(hs.fresh t h).1] at hy; cases hy
        have hend := fun (jump : Option Code) => run_endRound (P := C.P) jump hW3l
        have jumps : ∀ (c : Code) , ((c = .ret ∧ RetVC C (So st3)) ∨ ∃ id k', c = .exit id ∧ popTo id k = some k' ∧ vrun C f k' (So st3)) →
            ∃ v w', (Instr.endRound l (some c)).run C.P W3 = .ok v w' ∧ ((Ending.returned v = .returned (.bool true) ∧ J (pre ++ [x]) T w' ∧ H.le (hp w') ∧ ∀ b ∈ T, hp w' b = hp W b) ∨ (Ending.returned v = .returned (.bool false) ∧ Jx (pre ++ [x]) T w')) := by
          intro c hc
          have hbk := SatN.back (o4 := { bz with state := .done, pending := some c }) (env4 := outerEnv st (mvs ++ st3.mv)) (res4 := st3.res) (nx4 := st3.nx) (mv4 := st3.mv ++ (mvs ++ st.mv)) (ν4 := ν3) L hsat hF1 hlG ⟨_, hl3⟩ hH3 hw3 hs3
            (fun t => ((env_outer hs.env (mvs ++ st3.mv) (fun t y ht hy => by
              rw [kν t (ltν t y hy) (fun h => ht (List.mem_append_right _ h))]
              exact hν t y (fun h => ht (List.mem_append_left _ h)) hy)) t).mono (fun _ _ h => h) (hHH.trans hHl))
            (fun β hβ t r ht => ⟨hβ.ok t r ht, r, ht⟩) hs3.fresh
            (fun t h1 h2 => by
              rw [kν t (Nat.lt_of_lt_of_le h1 hs.low) (fun h => h2 (List.mem_append_left _ h))]
              exact hsat.keep t h1 (fun h => h2 (List.mem_append_right _ h)))
            (Nat.le_trans hs.low (by have := hs3.low; rw [hn3] at this; exact this))
          refine ⟨_, _, hend (some c), .inr ⟨rfl, c, st3, ν3, H3, ?_⟩⟩
          have eo : (rec .done (some c) : Loop) = { bz with state := .done, pending := some c } := by rw [hbz, hrec]
          rw [eo]
          exact ⟨hbk.1, hbk.2.1, hc⟩
        cases e with
        | normal =>
          obtain ⟨i', hI', hmt, hmv⟩ := hE
          refine ⟨_, _, hend none, .inl ⟨rfl, ?_⟩⟩
          have hbk := SatN.back (o4 := { bz with state := .ready, pending := none }) (env4 := outerEnv st mvs) (res4 := rover st.res (res i')) (nx4 := st.nx) (mv4 := mvs ++ st.mv) (ν4 := fun t => if t < st.nx then ν3 t else none) L hsat hF1 hlG ⟨_, hl3⟩ hH3 hw3 hs3
            (fun t => ((env_outer hs.env mvs (fun t y ht hy => by
              rw [if_pos (ltν t y hy), kν t (ltν t y hy) (fun h => ht (hmv t h))]
              exact hν t y ht hy)) t).mono (fun _ _ h => h) (hHH.trans hHl))
            (fun β hβ t r ht => by
              have h3 := matR_rlk t r hmt ht
              have h4 := resLt_rlk t r (hlt i') ht
              exact ⟨(hβ.ok t r h3).under (fun t y h1 h2 => by rw [if_pos h1]; exact h2) h4.1 h4.2, r, h3⟩)
            (fun t ht => ⟨if_neg (by omega), by
              cases e : rlk (rover st.res (res i')) t with
              | none => rfl
              | some r => have := (resLt_rlk t r (hlt i') e).1; omega⟩)
            (fun t h1 h2 => by
              have h3 : t < st.nx := Nat.lt_of_lt_of_le h1 hs.low
              rw [if_pos h3, kν t h3 (fun h => h2 (List.mem_append_left _ (hmv t h)))]
              exact hsat.keep t h1 h2)
            hs.low
          have eo : (rec .ready none : Loop) = { bz with state := .ready, pending := none } := by rw [hbz, hrec]
          refine ⟨⟨i', (fun t => if t < st.nx then ν3 t else none), H3, by rw [List.map_append]; exact hI', hHH.trans hHl, hbk.1, ?_, ?_⟩, fun b q hb => hbk.2.1.sub b q ((hHH.trans hHl) b q hb), hbk.2.2⟩
          · intro t y ht hy
            show (if t < st.nx then ν3 t else none) = _
            rw [if_pos (ltν t y hy), kν t (ltν t y hy) (fun h => ht (hmv t h))]
            exact hν t y ht hy
          · rw [eo]; exact hbk.2.1
        | ret => exact jumps .ret (.inl ⟨rfl, hE⟩)
        | exit id =>
          obtain ⟨k', h1, h2⟩ := hE
          exact jumps (.exit id) (.inr ⟨id, k', rfl, h1, h2⟩)
        | goto t => exact hok.elim
        | panic c => exact hok.elim
        | outgrown => exact hok.elim
  | _ => exact h.elim
end
theorem run_sound : ∀ f, RunOk f
  | 0 => fun C B0 B r fin hm hnp hr hp hgo hout k st a w ν H hbot hfin hk hB hs h => h.elim
  | f + 1 => by
    have IH0 := run_sound f
    intro C B0 B r fin hm hnp hr hp hgo hout k st a w ν H hbot hfin hk hB hs h
    have IH : ∀ k B st a w ν H, (C.rd = false → bot k = none) → (bot k = none → ∀ B st a w ν H, Bext B0 B → SatN B ν H C.n st a w → RetVC C st → fin .ret a w ∧ fin .normal a w) → (∀ x ∈ k, viOk C.ord x) → Bext B0 B → SatN B ν H C.n st a w → vrun C f k st → sem C B0 r fin k .normal a w :=
      fun k B st a w ν H => IH0 C B0 B r fin hm hnp hr hp hgo hout k st a w ν H
    have hBn : B.n = C.np := hB.n.trans hnp
    cases k with
    | nil => exact (hfin rfl _ _ _ _ _ _ hB hs h).2
    | cons x k =>
      have hk' : ∀ x ∈ k, viOk C.ord x := fun x hx => hk x (by simp [hx])
      cases x with
      | blk i => exact IH k B st a w ν H hbot hfin hk' hB hs h
      | loop E => exact ⟨B, ν, H, st, hB, hs, h⟩
      | stop E => exact ⟨trivial, B, ν, H, st, hB, hs, h⟩
      | code c =>
        have hc : drawOk C.ord c = true := hk (.code c) (by simp)
        have hbot' : C.rd = false → bot k = none := hbot
        have hfin' : bot k = none → ∀ B st a w ν H, Bext B0 B → SatN B ν H C.n st a w → RetVC C st → fin .ret a w ∧ fin .normal a w := hfin
        have hNx : Next B C.n (vrun C f k) (sem C B0 r fin k .normal) := fun st a w ν H hs h => IH k B st a w ν H hbot' hfin' hk' hB hs h
        show c.wpIn (Fr r) 0 C.P (sem C B0 r fin k) a w
        cases c with
        | skip => exact wpIn_skip (IH k B st a w ν H hbot' hfin' hk' hB hs h)
        | label l => exact wpIn_label (IH k B st a w ν H hbot' hfin' hk' hB hs h)
        | seq x y =>
          simp only [drawOk, Bool.and_eq_true] at hc
          simp only [vrun] at h
          generalize C.cut.contains (hd y + 1000) = cb at h
          cases cb with
          | false =>
            refine wpIn_seq (wpIn_mono (IH (.code x :: .code y :: k) B st a w ν H hbot' hfin' (fun z hz => ?_) hB hs h) (fun e a w h => (sem_then fin y k e a w).1 h))
            simp only [List.mem_cons] at hz
            rcases hz with rfl | rfl | hz
            · exact hc.1
            · exact hc.2
            · exact hk' z hz
          | true =>
            obtain ⟨ι, I, S, h1, h2⟩ := h
            refine wpIn_seq (wpIn_mono (IH (.code x :: .loop (fun st' => ∃ i, I i ∧ leSt st' (S i)) :: .code y :: k) B st a w ν H hbot' hfin' (fun z hz => ?_) hB hs (h1 _ (fun _ h => h))) (fun e a w h => ?_))
            · simp only [List.mem_cons] at hz
              rcases hz with rfl | rfl | rfl | hz
              · exact hc.1
              · trivial
              · exact hc.2
              · exact hk' z hz
            · cases e with
              | normal =>
                obtain ⟨B', ν', H', st', hB', hs', i, hi, hl⟩ := h
                exact IH (.code y :: k) B' (S i) a w ν' H' hbot' hfin' (fun q hq => by rcases List.mem_cons.1 hq with rfl | hq; exact hc.2; exact hk' q hq) hB' (hs'.weaken hl) (h2 i hi)
              | exit i => exact h
              | goto l => exact h
              | ret => exact h
              | panic c => exact h
              | outgrown => exact h
        | region id ops draw => exact regC_sound hBn hm (sem_panic hp k) (sem_out hout k) hc hs h (ghC_next hNx)
        | cond x y z =>
          simp only [drawOk, Bool.and_eq_true] at hc
          simp only [vrun] at h
          split at h
          · rename_i b hb
            have hx := ev_den hs.env x
            rw [hb] at hx
            refine wpIn_cond_split hx.v_eq (fun hb => ?_) (fun hb => ?_)
            · exact IH (.code y :: k) B st a w ν H hbot' hfin' (fun q hq => by rcases List.mem_cons.1 hq with rfl | hq; exact hc.1; exact hk' q hq) hB hs (h.1 hb)
            · exact IH (.code z :: k) B st a w ν H hbot' hfin' (fun q hq => by rcases List.mem_cons.1 hq with rfl | hq; exact hc.2; exact hk' q hq) hB hs (h.2 hb)
          · exact h.elim
        | block id b =>
          refine wpIn_block (wpIn_mono (IH (.code b :: .blk id :: k) B st a w ν H hbot' hfin' (fun z hz => ?_) hB hs h) (fun e a w h => (sem_blk fin id k e a w).1 h))
          simp only [List.mem_cons] at hz
          rcases hz with rfl | rfl | hz
          · exact hc
          · trivial
          · exact hk' z hz
        | scope b =>
          obtain ⟨hrd, h⟩ := h
          have := hr hrd
          subst this
          refine (wpIn_wide (n := 0)).2 (wp_scope_straight ((wpIn_wide (n := 0)).1 (wpIn_mono (IH (.code b :: k) B st a w ν H hbot' hfin' (fun z hz => ?_) hB hs h) (fun e a w h => ?_))))
          · simp only [List.mem_cons] at hz
            rcases hz with rfl | hz
            · exact hc
            · exact hk' z hz
          · cases e with
            | goto l => exact (sem_goto hgo k l a w h).elim
            | _ => exact h
        | exit id =>
          simp only [vrun] at h
          split at h
          · rename_i k' hp'
            exact wpIn_exit (sem_exit fin id k k' a w hp' (IH k' B st a w ν H (fun h => by rw [popTo_bot hp']; exact hbot' h) (fun h => hfin' (by rw [← popTo_bot hp']; exact h)) (fun x hx => hk' x (popTo_sub hp' x hx)) hB hs h))
          · rename_i hp'
            split at h
            · rename_i E hb
              exact wpIn_exit (sem_exitB fin id k a w hp' hb ⟨B, ν, H, st, hB, hs, h⟩)
            · exact h.elim
        | loop b =>
          obtain ⟨ι, I, ks, env, res, mvs, μ, i₀, h1, h2, h3, h4, h5, h6⟩ := h
          have hlow := hs.low
          have hBB := hB.n
          refine wpIn_loop_ix (fun i a w => I i ∧ ∃ B ν H, Bext B0 B ∧ SatN B ν H C.n (lst st (env i ++ kept st.env ks) (res i) mvs) a w) μ ?_ i₀ a w ⟨h1, B, ?_⟩
          · rintro i a w ⟨hI, B, ν, H, hB, hs⟩
            have := IH (.code b :: .loop (fun st' => ∃ i', I i' ∧ μ i' < μ i ∧ matE st'.env (env i' ++ kept st.env ks) ∧ matR st'.res (rover st.res (res i')) ∧ (∀ t ∈ st'.mv, t ∈ mvs)) :: k) B _ a w ν H hbot' hfin' (fun z hz => ?_) hB hs (h6 i hI _ (fun st' h => h))
            · refine wpIn_mono this (fun e a w he => ?_)
              cases e with
              | normal =>
                obtain ⟨B', ν', H', st', hB', hs', i', k1, k2, k3, k4, k5⟩ := he
                obtain ⟨ν2, hs2⟩ := hs'.less (env := env i' ++ kept st.env ks) (res := rover st.res (res i')) (mv := mvs) (nx := st.nx) k3 (fun k r hk => matR_rlk k r k4 hk) k5 (h5 i').1 (h5 i').2 (by rw [hB'.n, ← hBB]; exact hlow)
                exact ⟨i', ⟨k1, B', ν2, H', hB', hs2⟩, k2⟩
              | exit i => exact he
              | goto l => exact he
              | ret => exact he
              | panic c => exact he
              | outgrown => exact he
            · simp only [List.mem_cons] at hz
              rcases hz with rfl | rfl | hz
              · exact hc
              · trivial
              · exact hk' z hz
          · obtain ⟨ν2, hs2⟩ := hs.less (env := env i₀ ++ kept st.env ks) (res := rover st.res (res i₀)) (mv := mvs) (nx := st.nx) (matE_app h2 (matE_kept _ ks)) (fun k r hk => rover_rlk k r h3 hk) h4 (h5 i₀).1 (h5 i₀).2 hlow
            exact ⟨ν2, H, hB, hs2⟩
        | ret =>
          simp only [vrun] at h
          split at h
          · rename_i E hb
            exact wpIn_ret (sem_retB fin k a w hb ⟨B, ν, H, st, hB, hs, h⟩)
          · rename_i hb
            exact wpIn_ret (sem_ret fin k a w hb (hfin' hb _ _ _ _ _ _ hB hs h).1)
        | rangeFunc g ps x y =>
          simp only [drawOk, Bool.and_eq_true] at hc
          have hrd : C.rd = false := by
            simp only [vrun] at h
            generalize ev st g = sg at h
            unfold RangeVC at h
            split at h
            · exact h.1.1
            · exact h.elim
          have := hr hrd
          subst this
          exact range_sound IH0 hm hnp hp hgo hout hbot' hfin' hc.1 hc.2 hk' hB hs h
        | _ => exact h.elim
end Go.Proofs.Ytbpobdlahighoaa.Sx
