/- The operations that touch no memory, one by one, and all together (vpure). -/
import Derived.Test.YtbpobdlahighoaaSxC
import Derived.Laws.StructEq
import Derived.Laws.Cells
namespace Go.Proofs.Ytbpobdlahighoaa.Sx
open Go
set_option linter.unusedVariables false
set_option linter.unusedSimpArgs false

/-! ### == on structs -/
def cEqI : List SV → List SV → Option Bool
  | [.v (.int k a)], [.v (.int k' b)] => if k = k' then some (decide (a = b)) else none
  | _, _ => none
def cEqB : List SV → List SV → Option Bool
  | [.v (.bool a)], [.v (.bool b)] => some (decide (a = b))
  | _, _ => none
def cEqS : List SV → List SV → Option Bool
  | [.v (.string a)], [.v (.string b)] => some (decide (a = b))
  | _, _ => none
def fEqs (eq : Nat → List SV → List SV → Option Bool) (P : Program) : List (Nat × Nat) → List SV → List SV → Option Bool
  | [], _, _ => some true
  | (o, t) :: fs, l, m => match (tdOf P t).inf with
    | some (n, _, _) => match eq t ((l.drop o).take n) ((m.drop o).take n), fEqs eq P fs l m with | some a, some b => some (a && b) | _, _ => none
    | none => none
def fEq (P : Program) : Nat → Nat → List SV → List SV → Option Bool
  | 0, _, _, _ => none
  | d + 1, t, l, m => match (tdOf P t).kind with
    | .int _ => cEqI l m
    | .bool => cEqB l m
    | .string => cEqS l m
    | .struct fs => if (tdOf P t).sto then none else fEqs (fEq P d) P fs l m
    | _ => none

section
variable {P : Program} {ν : Nat → Option Value} {H : Hp}
theorem run_part {t n b : Nat} {z : Option Value} {cs : List Value} {l : List SV} (hk : (tdOf P t).kind ≠ .other) (hi : (tdOf P t).inf = some (n, b, z)) (o : Nat) {s : SV}
    (hd : DenL ν H l cs) (hs : mkVal (tdOf P t).kind.agg ((l.drop o).take n) = some s) (hlen : (tdOf P t).kind.agg = false → n = 1) :
    ∃ r, (∀ w, (part t cs.toArray o).run P w = .ok r w) ∧ Den ν H s r := by
  unfold part
  simp only [Sem.run_bind, run_isAgg hk, Result.andThen_ok]
  cases ha : (tdOf P t).kind.agg with
  | true =>
    rw [ha] at hs
    simp only [mkVal, Option.some.injEq] at hs
    subst hs
    refine ⟨.agg ((cs.drop o).take n).toArray, fun w => ?_, .agg ((hd.drop o).take n)⟩
    simp only [if_true, Sem.run_bind, run_size hi, Result.andThen_ok, Sem.run_pure]
    congr 2
    rw [List.extract_toArray, List.extract_eq_take_drop]
    congr 2
    omega
  | false =>
    rw [ha] at hs
    have hn := hlen ha
    subst hn
    cases hl : (l.drop o).take 1 with
    | nil => rw [hl] at hs; simp [mkVal] at hs
    | cons a r =>
      have hr : r = [] := by
        have := congrArg List.length hl
        simp at this
        have h2 : r.length = 0 := by omega
        exact List.eq_nil_of_length_eq_zero h2
      subst hr
      rw [hl] at hs
      simp only [mkVal, Option.some.injEq] at hs
      subst hs
      have hg : l[o]? = some a := by
        have h1 : ((l.drop o).take 1)[0]? = some a := by rw [hl]; rfl
        simpa using h1
      obtain ⟨x, hx, hdx⟩ := hd.get hg
      refine ⟨x, fun w => ?_, hdx⟩
      simp only [Bool.false_eq_true, if_false, List.getElem?_toArray, hx, Sem.run_pure]
def asVal : Bool → List Value → Value
  | true, cs => .agg cs.toArray
  | false, [x] => x
  | false, _ => .nilIface
theorem cEqI_inv {l m : List SV} {b : Bool} {cs ds : List Value} (hl : DenL ν H l cs) (hm : DenL ν H m ds) (h : cEqI l m = some b) : ∃ k x y, cs = [.int k x] ∧ ds = [.int k y] ∧ b = decide (x = y) := by
  unfold cEqI at h
  split at h
  · rename_i k a k' c
    by_cases e : k = k'
    · subst e
      rw [if_pos rfl] at h
      cases hl with | cons h1 r1 => cases r1; cases hm with | cons h2 r2 => cases r2; exact ⟨k, a, c, by rw [h1.v_eq], by rw [h2.v_eq], by injection h with h; exact h.symm⟩
    · rw [if_neg e] at h; cases h
  · cases h
theorem cEqB_inv {l m : List SV} {b : Bool} {cs ds : List Value} (hl : DenL ν H l cs) (hm : DenL ν H m ds) (h : cEqB l m = some b) : ∃ x y, cs = [.bool x] ∧ ds = [.bool y] ∧ b = decide (x = y) := by
  unfold cEqB at h
  split at h
  · cases hl with | cons h1 r1 => cases r1; cases hm with | cons h2 r2 => cases r2; exact ⟨_, _, by rw [h1.v_eq], by rw [h2.v_eq], by injection h with h; exact h.symm⟩
  · cases h
theorem cEqS_inv {l m : List SV} {b : Bool} {cs ds : List Value} (hl : DenL ν H l cs) (hm : DenL ν H m ds) (h : cEqS l m = some b) : ∃ x y, cs = [.string x] ∧ ds = [.string y] ∧ b = decide (x = y) := by
  unfold cEqS at h
  split at h
  · cases hl with | cons h1 r1 => cases r1; cases hm with | cons h2 r2 => cases r2; exact ⟨_, _, by rw [h1.v_eq], by rw [h2.v_eq], by injection h with h; exact h.symm⟩
  · cases h
theorem run_part_cells {t n b : Nat} {z : Option Value} {w : World} (cs : List Value) (hk : (tdOf P t).kind ≠ .other) (hi : (tdOf P t).inf = some (n, b, z)) (o : Nat)
    (h1 : (tdOf P t).kind.agg = false → ((cs.drop o).take n).length = 1) : (part t cs.toArray o).run P w = .ok (asVal (tdOf P t).kind.agg ((cs.drop o).take n)) w := by
  unfold part
  rw [Sem.run_bind, run_isAgg hk, Result.andThen_ok]
  cases ha : (tdOf P t).kind.agg with
  | true =>
    simp only [if_true, Sem.run_bind, run_size hi, Result.andThen_ok, Sem.run_pure, asVal]
    congr 2
    rw [List.extract_toArray, List.extract_eq_take_drop]
    congr 2
    omega
  | false =>
    have h2 := h1 ha
    have h3 : cs[o]? = ((cs.drop o).take n)[0]? := by
      rw [List.getElem?_take, List.getElem?_drop]
      have : 0 < n := by
        rw [List.length_take] at h2; omega
      rw [if_pos this]; rfl
    cases hl : (cs.drop o).take n with
    | nil => rw [hl] at h2; cases h2
    | cons a r =>
      have hr : r = [] := by rw [hl] at h2; exact List.eq_nil_of_length_eq_zero (by simpa using h2)
      subst hr
      rw [hl] at h3
      simp only [Bool.false_eq_true, if_false, List.getElem?_toArray, h3, asVal]
      rfl
theorem fEq_len {d t : Nat} {l m : List SV} {b : Bool} {cs ds : List Value} (hl : DenL ν H l cs) (hm : DenL ν H m ds) (h : fEq P d t l m = some b) :
    (tdOf P t).kind ≠ .other ∧ ((tdOf P t).kind.agg = false → cs.length = 1 ∧ ds.length = 1) := by
  cases d with
  | zero => cases h
  | succ d =>
    unfold fEq at h
    split at h
    · rename_i k hk; rw [hk]; obtain ⟨_, _, _, rfl, rfl, _⟩ := cEqI_inv hl hm h; exact ⟨by simp, fun _ => ⟨rfl, rfl⟩⟩
    · rename_i hk; rw [hk]; obtain ⟨_, _, rfl, rfl, _⟩ := cEqB_inv hl hm h; exact ⟨by simp, fun _ => ⟨rfl, rfl⟩⟩
    · rename_i hk; rw [hk]; obtain ⟨_, _, rfl, rfl, _⟩ := cEqS_inv hl hm h; exact ⟨by simp, fun _ => ⟨rfl, rfl⟩⟩
    · rename_i fs hk; rw [hk]; exact ⟨by simp, fun h => by cases h⟩
    · cases h
theorem fEq_sound : ∀ (d : Nat) {D t : Nat} {w : World} {l m : List SV} {b : Bool} {cs ds : List Value}, d ≤ D → DenL ν H l cs → DenL ν H m ds → fEq P d t l m = some b →
    (Op.equalIn D t (asVal (tdOf P t).kind.agg cs) (asVal (tdOf P t).kind.agg ds)).run P w = .ok b w := by
  intro d
  induction d with
  | zero => intro _ _ _ _ _ _ _ _ _ _ _ h; cases h
  | succ d ih =>
    intro D t w l m b cs ds hD hl hm h
    obtain ⟨D, rfl⟩ : ∃ E, D = E + 1 := ⟨D - 1, by omega⟩
    unfold fEq at h
    split at h
    · rename_i k hk
      obtain ⟨_, x, y, rfl, rfl, rfl⟩ := cEqI_inv hl hm h
      rw [hk]
      exact run_equalIn_int w D t _ k x y (und_int hk)
    · rename_i hk
      obtain ⟨x, y, rfl, rfl, rfl⟩ := cEqB_inv hl hm h
      rw [hk]
      have := run_equalIn_bool (P := P) w D t x y (und_bool hk)
      simp only [TK.agg, asVal]
      rw [this]; cases x <;> cases y <;> rfl
    · rename_i hk
      obtain ⟨x, y, rfl, rfl, rfl⟩ := cEqS_inv hl hm h
      rw [hk]
      have := run_equalIn_string (P := P) w D t x y (und_string hk)
      simp only [TK.agg, asVal]
      rw [this, ba_beq]
    · rename_i fs hk
      rw [hk]
      by_cases hs : (tdOf P t).sto = true
      · rw [if_pos hs] at h; cases h
      · rw [if_neg hs] at h
        obtain ⟨fields, hu, hf, hn⟩ := und_struct hk
        have hfo : P.fieldsOf t = fields := by simp [Program.fieldsOf, hu]
        simp only [TK.agg, asVal]
        rw [run_equalIn_struct w D t _ _ (by rw [hfo]; exact hu) (by simpa [tdOf] using hs), hfo]
        have hn' : ∀ f ∈ fields.toList, f.name ≠ "_" := by
          intro f hf e
          have : fields.any (fun f => f.name == "_") = true := Array.any_eq_true'.2 ⟨f, by simpa using hf, by simpa using e⟩
          rw [hn] at this; cases this
        clear hu hfo hn hk
        generalize fields.toList = fl at hf hn'
        clear fields
        induction fl generalizing fs b with
        | nil => simp only [List.map_nil] at hf; subst hf; simp only [fEqs, Option.some.injEq] at h; subst h; rfl
        | cons f fl ihf =>
          simp only [List.map_cons] at hf
          subst hf
          unfold fEqs at h
          split at h
          · rename_i n bb z hi
            split at h
            · rename_i x y hx hy
              simp only [Option.some.injEq] at h
              subst h
              obtain ⟨hk1, hk2⟩ := fEq_len ((hl.drop f.offset).take n) ((hm.drop f.offset).take n) hx
              unfold Op.eqFields
              rw [if_pos (hn' f (by simp)), Sem.run_bind, run_part_cells cs hk1 hi _ (fun h => (hk2 h).1), Result.andThen_ok, Sem.run_bind, run_part_cells ds hk1 hi _ (fun h => (hk2 h).2), Result.andThen_ok, Sem.run_bind,
                ih (by omega) ((hl.drop f.offset).take n) ((hm.drop f.offset).take n) hx, Result.andThen_ok]
              have := ihf _ hy rfl (fun g hg => hn' g (by simp [hg]))
              cases x
              · rfl
              · simpa using this
            · cases h
          · cases h
    · cases h
end
end Go.Proofs.Ytbpobdlahighoaa.Sx
