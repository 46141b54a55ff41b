/- The statement WiringChecksUptoSaid: for every configuration whose reading is of bulk at most 1048576, WiringChecks returns true and the configuration reads as it did. -/
import Derived.Test.YtbpobdlahighoaaSxX15
namespace Go.Proofs.Ytbpobdlahighoaa.Sx
open Go Go.ChangeShapes Go.WideShapes Go.ChangeAt Go.RowKit
set_option linter.unusedVariables false
set_option linter.unusedSimpArgs false
set_option maxRecDepth 100000

theorem own : ownKnob Try.prog.godebug = none := by kernel_rfl
theorem laidOut : laidOutB Try.prog = true := by kernel_rfl
theorem rec29 : Try.prog.readableRec 29 = true := by kernel_rfl
theorem lt29 : 29 < Try.prog.types.size := of_decide_eq_true (by kernel_rfl)
theorem kp_below {W W' : World} (hF : (hp W).le (hp W')) (hk : Kp W W') : Below W.heap.size W W' :=
  ⟨hk.os, hk.tape, hk.output, hk.size, fun k hk => by
    have h := Array.getElem?_eq_getElem hk
    rw [h]
    exact hF k _ h⟩
/-- A law whose contract is told: it is called with nothing of its own. -/
theorem law_calls {f : Nat} {args : List SV} {vs : List Value} {W : World} (h : TriF Pr f args [] [] (.v (.bool true)) []) (hd : ∀ ν, DenL ν (hp W) args vs) :
    Calls Pr f vs.toArray W fun e W' => e = .returned (.bool true) ∧ Below W.heap.size W W' := by
  refine (h.2 W (fun _ => none) (hp W) (hp W) vs (Hp.le.refl _) (Hp.le.refl _) (hd _) ⟨fun _ => [], ⟨fun t r h => (by cases h), fun t u r s b h => (by cases h), fun t r b h => (by cases h)⟩⟩ (fun _ _ => rfl)).mono ?_
  rintro e W' ⟨r, post, ν', H', y, rfl, ⟨rfl, rfl⟩, _, _, _, hF, _, hy, _, _, _, hk⟩
  rw [hy.v_eq]
  exact ⟨rfl, kp_below hF hk⟩
/-- What a statement of one configuration asks behind the call. -/
theorem checks_contract (H : Type) (enc : TypeId × Value → H) (W : World) (base : Nat) (args : Array Value) (ds gs : List (DataW H)) (before : List MemPlace)
    (hval : ∀ (j : Nat) t v, Try.f3.params[j]? = some t → args[j]? = some v → Value.okWide Try.prog W .any base t v)
    (hW : DataW.Whole enc Try.prog Try.f3.params.toList Rows.wiringChecksSpec.vars false W args.toList ds gs before) (hk : Rows.uptoSmall H (ds ++ gs) = true) :
    Calls Try.prog 3 args W fun e W' => ∃ v, e = .returned v ∧ Rows.wiringChecksSpec.post enc Try.prog Try.f3 false true false false W args v W' := by
  have hW' := hW
  have hlt := hW'.lt
  obtain ⟨p, q, hA0, hV, rfl, hfz, hnd⟩ := hW
  have hA : DataW.TrodAll enc Try.prog W 0 (fun _ => true) true Try.f3.params.toList args.toList ds p := hA0
  rw [Try.params3] at hA hval
  obtain ⟨v0, vs0, d0, ds0, p0, q0, hargs, rfl, rfl, h0, r0⟩ := trodAll_cons hA
  obtain ⟨rfl, rfl, rfl⟩ := trodAll_nil r0
  obtain rfl : args = #[v0] := by cases args; simp_all
  obtain ⟨rfl, rfl⟩ := trodVars_none hV
  obtain ⟨c, hc, hN⟩ := open_cfg (hval 0 29 v0 rfl rfl) h0
  have hbulk : Rows.uptoBulk d0 ≤ 1048576 := by
    have h : Rows.uptoBulkAll ([d0] ++ []) ≤ 1048576 := of_decide_eq_true hk
    simp only [List.append_nil, Rows.uptoBulkAll] at h
    omega
  refine (law_calls (vs := [v0]) (t_checks c (hN _ hbulk).cfg_ok) (fun ν => .cons (hc ν) .nil)).mono fun e W' ⟨he, hb⟩ => ?_
  subst he
  refine ⟨_, rfl, [d0], [], _, [], p0 ++ [], [], hW', ?_, ?_, ?_, hb.frame _, fun h => by cases h⟩
  · exact trodAll_cons_mk (shut_bool Try.underlying4 _) trodAll_mk0
  · exact trodAll_cons_mk (Below.trod laidOut rec29 lt29 h0 hb (fun x hx => hlt x (by simp [hx]))) trodAll_mk0
  · rfl

set_option maxRecDepth 100000 in
theorem checks_lifted (os : Os) (started : os.Started) (H : Type) (enc : TypeId × Value → H) (F : Stop.Interp) :
    ReturnsInHanded {} Try.checked os 3 .any ((Rows.OpenSpec.upto Rows.wiringChecksSpec).pre6 enc Try.prog Try.f3 Rows.wiringChecksUptoRow.domain false) (((Rows.OpenSpec.upto Rows.wiringChecksSpec).at F).post enc Try.prog Try.f3 false true false false) := by
  refine returnsInHanded_of_cond (C := Try.checked) (s := Rows.OpenSpec.upto Rows.wiringChecksSpec) (k := Rows.uptoSmall) rfl own started (by kernel_rfl) Try.func3
    (OpenSpec.witness (enc := enc) (C := Try.checked) (s := Rows.OpenSpec.upto Rows.wiringChecksSpec) (k := Rows.uptoSmall) rfl false ⟨#[], #[.agg #[.int .u64 0, .slice none 0 0, .slice none 0 0, .slice none 0 0, .slice none 0 0, .slice none 0 0]], []⟩ 8 (by kernel_rfl) (by kernel_rfl) (by kernel_rfl)
      (x := ([.agg [.lit (.int .u64 0), .nil, .nil, .nil, .nil, .nil]], [], [])) (by kernel_rfl) rfl (by kernel_rfl)) ?_
  intro W base args ds gs before hval hW _ hk _
  exact checks_contract H enc W base args ds gs before hval hW hk

theorem checks_proved : Rows.WiringChecksUptoSaid :=
  OpenClaim.holds_of_cond 3 Try.f3 rfl rfl rfl rfl rfl rfl rfl ⟨rfl, rfl, rfl, rfl, rfl⟩ rfl rfl rfl rfl rfl (by kernel_rfl) Try.func3 (by kernel_rfl)
    (of_decide_eq_true (by kernel_rfl)) (by unfold Func.isWrapper; first | (rw [if_pos (by decide +kernel)]; kernel_rfl) | (rw [if_neg (by decide +kernel)]; exact ⟨rfl, rfl⟩))
    (fun os started H enc _ F => checks_lifted os started H enc F)
#print axioms checks_proved
end Go.Proofs.Ytbpobdlahighoaa.Sx
