/- The operations that touch no memory: what they yield is what the symbolic state says. -/
import Derived.Test.YtbpobdlahighoaaSxB
import Derived.Laws.Strings
namespace Go.Proofs.Ytbpobdlahighoaa.Sx
open Go
set_option linter.unusedVariables false
set_option linter.unusedSimpArgs false

theorem ba_beq (a b : ByteArray) : (a.toList == b.toList) = decide (a = b) := by
  rw [Bool.eq_iff_iff]
  simp only [beq_iff_eq, decide_eq_true_eq]
  constructor
  · intro h
    rw [ByteArray.toList_eq, ByteArray.toList_eq] at h
    cases a; cases b
    congr
    exact Array.toList_inj.1 h
  · intro h; rw [h]
theorem beq_int (a b : Int) : (a == b) = decide (a = b) := rfl

section
variable {P : Program} {ν : Nat → Option Value} {H : Hp}
theorem run_equal_bool {t : Nat} {w : World} (h : P.underlying t = some .bool) (a b : Bool) : (Op.equal t (.bool a) (.bool b)).run P w = .ok (decide (a = b)) w := by
  show (Op.equalIn (9999 + 1) t (.bool a) (.bool b)).run P w = _
  rw [Op.equalIn, Sem.run_bind, run_und h]
  cases a <;> cases b <;> rfl
theorem arith_run {k : IntKind} {r : Int} (h : (arith k r).1) : k.wrap r = (arith k r).2 := by
  cases k <;> first | rfl | exact wrap_in h
theorem vbin_sound {op : BinOp} {t : Nat} {x y s : SV} {c : Prop} {u z : Value} (X Y : Operand) (h : vbin P op t x y = some (c, s)) (hc : c) (hx : Den ν H x u) (hy : Den ν H y z) :
    ∃ r, (∀ w, (do eqGuard op t X Y u z; binOp op t u z : Sem Value).run P w = .ok r w) ∧ Den ν H s r := by
  unfold vbin at h
  split at h
  all_goals (try (cases h; done))
  all_goals (have e1 := hx.v_eq; have e2 := hy.v_eq; subst e1; subst e2)
  all_goals (try (replace h := kk_some h; obtain ⟨hk, h⟩ := h; subst hk))
  all_goals (try (replace h := kb_some h; obtain ⟨hb, h⟩ := h; skip))
  all_goals (try simp only [Option.some.injEq] at h)
  all_goals (try simp only [Prod.mk.injEq] at h)
  all_goals (obtain ⟨hc', hs⟩ := h; subst hs; subst hc')
  all_goals (refine ⟨_, ?_, .r (.v _)⟩)
  all_goals (intro w)
  all_goals first
    | (simp only [bind, Sem.bind, eqGuard, binOp, Sem.run, pure, Op.intArith, Op.intDiv, Op.intBits, Op.intCmp, Op.shift, Op.stringOp, ba_beq, beq_int, ne_eq, not_true_eq_false, if_false, ite_true, bitsOp]
       first
       | rfl
       | (rw [arith_run hc]; rfl)
       | (rw [show (if _ = (0 : Int) then _ else _ : Sem Value) = _ from if_neg hc]; rfl)
       | (rw [show (if _ < (0 : Int) then _ else _ : Sem Value) = _ from if_neg (by omega)]; rfl)
       | (rw [show (if (_ : Int) > IntKind.i64.max then _ else _ : Sem Value) = _ from if_neg (by rw [show IntKind.i64.max = 9223372036854775807 from by decide]; omega)]; rfl))
    | (rw [Sem.run_bind, show (eqGuard _ t X Y (Value.bool _) (Value.bool _)).run P w = .ok () w from rfl, Result.andThen_ok]
       simp only [binOp]
       rw [Sem.run_bind, run_equal_bool (und_bool hb)]; rfl)
end
end Go.Proofs.Ytbpobdlahighoaa.Sx
