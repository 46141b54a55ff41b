/- vpure tells the truth. -/
import Derived.Test.YtbpobdlahighoaaSxE
namespace Go.Proofs.Ytbpobdlahighoaa.Sx
open Go
set_option linter.unusedVariables false
set_option linter.unusedSimpArgs false

section
variable {P : Program} {ν : Nat → Option Value} {H g : Hp} {st : St} {x y s : SV} {c : Prop} {u z : Value} {t : Nat} {w : World}

theorem some_pair {α : Type} {β : Type 1} {a : α} {b : β} {c : α} {d : β} (h : some (a, b) = some (c, d)) : c = a ∧ d = b := by
  injection h with h; injection h with h1 h2; exact ⟨h1.symm, h2.symm⟩

theorem vagg_sound {op : BinOp} {r : Option Bool} (h : vagg op r = some (c, s)) : ∃ b, r = some b ∧ ((op = .eql ∧ s = .v (.bool b)) ∨ (op = .neq ∧ s = .v (.bool (!b)))) := by
  unfold vagg at h
  split at h
  · obtain ⟨rfl, rfl⟩ := some_pair h; exact ⟨_, rfl, .inl ⟨rfl, rfl⟩⟩
  · obtain ⟨rfl, rfl⟩ := some_pair h; exact ⟨_, rfl, .inr ⟨rfl, rfl⟩⟩
  · cases h
/-- '==' and '!=' where they come to Op.equal. -/
theorem run_eq_of {op : BinOp} {b : Bool} (X Y : Operand) (hg : ∀ w o, (eqGuard o t X Y u z).run P w = .ok () w) (hE : ∀ w, (binOp .eql t u z).run P w = .ok (.bool b) w) (hN : ∀ w, (binOp .neq t u z).run P w = .ok (.bool (!b)) w)
    (h : (op = .eql ∧ s = .v (.bool b)) ∨ (op = .neq ∧ s = .v (.bool (!b)))) :
    ∃ r, (∀ w, (do eqGuard op t X Y u z; binOp op t u z : Sem Value).run P w = .ok r w) ∧ Den ν H s r := by
  rcases h with ⟨rfl, rfl⟩ | ⟨rfl, rfl⟩
  · exact ⟨.bool b, fun w => by rw [Sem.run_bind, hg, Result.andThen_ok, hE], .r (.v _)⟩
  · exact ⟨.bool (!b), fun w => by rw [Sem.run_bind, hg, Result.andThen_ok, hN], .r (.v _)⟩
theorem run_eqb {b : Bool} (h : ∀ w, (Op.equal t u z).run P w = .ok b w) (w : World) : (do pure (.bool (← Op.equal t u z)) : Sem Value).run P w = .ok (.bool b) w := by simp [h]
theorem run_neb {b : Bool} (h : ∀ w, (Op.equal t u z).run P w = .ok b w) (w : World) : (do pure (.bool (!(← Op.equal t u z))) : Sem Value).run P w = .ok (.bool (!b)) w := by simp [h]
theorem run_equal_slice {e : Nat} {p q : Option Addr} {n m i j : Nat} (hu : P.underlying t = some (.slice e)) (hq : q = none) (w : World) : (Op.equal t (.slice p n m) (.slice q i j)).run P w = .ok p.isNone w := by
  subst hq
  show (Op.equalIn (9999 + 1) t _ _).run P w = _
  rw [Op.equalIn, Sem.run_bind, run_und hu]
  cases p <;> rfl
theorem run_equal_ptr {e : Nat} {p : Option Addr} (hu : P.underlying t = some (.pointer e)) (w : World) : (Op.equal t (.pointer p) (.pointer none)).run P w = .ok p.isNone w := by
  show (Op.equalIn (9999 + 1) t _ _).run P w = _
  rw [Op.equalIn, Sem.run_bind, run_und hu]
  cases p <;> rfl
theorem run_equal_func {i o : Array TypeId} {v : Bool} (hu : P.underlying t = some (.func i o v)) (f : Fn) (a b : Array Value) (w : World) : (Op.equal t (.func f a b) .nilFunc).run P w = .ok false w := by
  show (Op.equalIn (9999 + 1) t _ _).run P w = _
  rw [Op.equalIn, Sem.run_bind, run_und hu]
  rfl
theorem run_equal_nilfunc {i o : Array TypeId} {v : Bool} (hu : P.underlying t = some (.func i o v)) (w : World) : (Op.equal t .nilFunc .nilFunc).run P w = .ok true w := by
  show (Op.equalIn (9999 + 1) t _ _).run P w = _
  rw [Op.equalIn, Sem.run_bind, run_und hu]
  rfl
theorem vcmp_sound {op : BinOp} (X Y : Operand) (h : vcmp P op t x y = some (c, s)) (hx : Den ν H x u) (hy : Den ν H y z) :
    ∃ r, (∀ w, (do eqGuard op t X Y u z; binOp op t u z : Sem Value).run P w = .ok r w) ∧ Den ν H s r := by
  unfold vcmp at h
  split at h
  · split at h
    · rename_i l m fs hk hq
      obtain ⟨b, hb, ho⟩ := vagg_sound h
      obtain ⟨cs, rfl, hcs⟩ := hx.agg_inv
      obtain ⟨ds, rfl, hds⟩ := hy.agg_inv
      have hm : P.eqGuardType P.depth t = false := by simpa [tdOf] using hq
      have := fun w => fEq_sound (P := P) 6 (D := 10000) (w := w) (by omega) hcs hds hb
      rw [hk] at this
      exact run_eq_of X Y (fun w o => run_eqGuard_agg w o t X Y _ _ hm) (b := b) (run_eqb this) (run_neb this) ho
    · cases h
  all_goals (try (cases h; done))
  all_goals (split at h)
  all_goals (try (cases h; done))
  all_goals (rename_i hk; obtain ⟨b, hb, ho⟩ := vagg_sound h; injection hb with hb; subst hb)
  · obtain ⟨b, rfl, _⟩ := hx.ptr_inv
    have e2 := hy.v_eq; subst e2
    exact run_eq_of X Y (fun w o => by cases o <;> rfl) (run_eqb (run_equal_ptr (und_ptr hk))) (run_neb (run_equal_ptr (und_ptr hk))) ho
  · obtain ⟨b, o, cs, rfl, _⟩ := hx.rop_inv
    have e2 := hy.v_eq; subst e2
    have := run_equal_ptr (P := P) (p := some ⟨b, o, none⟩) (und_ptr hk)
    exact run_eq_of X Y (fun w o => by cases o <;> rfl) (run_eqb this) (run_neb this) ho
  · have e1 := hx.v_eq; subst e1
    have e2 := hy.v_eq; subst e2
    have := run_equal_ptr (P := P) (p := none) (und_ptr hk)
    exact run_eq_of X Y (fun w o => by cases o <;> rfl) (run_eqb this) (run_neb this) ho
  · obtain ⟨fs, cs, rfl, _⟩ := hx.fn_inv
    have e2 := hy.v_eq; subst e2
    obtain ⟨_, _, _, hu⟩ := und_func hk
    exact run_eq_of X Y (fun w o => by cases o <;> rfl) (run_eqb (run_equal_func hu _ _ _)) (run_neb (run_equal_func hu _ _ _)) ho
  · have e1 := hx.v_eq; subst e1
    have e2 := hy.v_eq; subst e2
    obtain ⟨_, _, _, hu⟩ := und_func hk
    have := run_equal_nilfunc (P := P) hu
    exact run_eq_of X Y (fun w o => by cases o <;> rfl) (run_eqb this) (run_neb this) ho
  · obtain ⟨rfl, hr⟩ := hx.ro_inv
    have e2 := hy.v_eq; subst e2
    cases hr with
    | ro cs h1 h2 h3 h4 =>
      rename_i p cc
      rw [show isNilV (.slice p _ cc) = p.isNone by cases p <;> rfl] at ho
      exact run_eq_of X Y (fun w o => by cases o <;> rfl) (run_eqb (run_equal_slice (und_slice hk) rfl)) (run_neb (run_equal_slice (und_slice hk) rfl)) ho
  · have e1 := hx.v_eq; subst e1
    have e2 := hy.v_eq; subst e2
    rw [show ∀ p n m, isNilV (.slice p n m) = p.isNone from fun p _ _ => by cases p <;> rfl] at ho
    exact run_eq_of X Y (fun w o => by cases o <;> rfl) (run_eqb (run_equal_slice (und_slice hk) rfl)) (run_neb (run_equal_slice (und_slice hk) rfl)) ho
theorem vbin2_sound {op : BinOp} (X Y : Operand) (h : vbin2 P op t x y = some (c, s)) (hc : c) (hx : Den ν H x u) (hy : Den ν H y z) :
    ∃ r, (∀ w, (do eqGuard op t X Y u z; binOp op t u z : Sem Value).run P w = .ok r w) ∧ Den ν H s r := by
  unfold vbin2 at h
  split at h
  · rename_i r hr
    rw [h] at hr
    exact vbin_sound X Y hr hc hx hy
  · exact vcmp_sound X Y h hx hy
theorem vun_sound {op : UnOp} (h : vun op x = some (c, s)) (hc : c) (hx : Den ν H x u) : ∃ r, (∀ w, (Op.unary op u).run P w = .ok r w) ∧ Den ν H s r := by
  unfold vun at h
  split at h
  · obtain ⟨rfl, rfl⟩ := some_pair h; have := hx.v_eq; subst this; exact ⟨_, fun w => rfl, .r (.v _)⟩
  · obtain ⟨rfl, rfl⟩ := some_pair h; have := hx.v_eq; subst this
    rw [← arith_run hc]
    exact ⟨_, fun w => rfl, .r (.v _)⟩
  · obtain ⟨rfl, rfl⟩ := some_pair h; have := hx.v_eq; subst this; exact ⟨_, fun w => rfl, .r (.v _)⟩
  · cases h
theorem und_ok (h : (tdOf P t).kind.ok = true) : ∃ d, P.underlying t = some d := by
  cases hu : P.underlying t with
  | none => simp [tdOf, tkOf, hu, TK.ok] at h
  | some d => exact ⟨d, rfl⟩
theorem vconv_sound {a b : Nat} (h : vconv P a b x = some (c, s)) (hx : Den ν H x u) : ∃ r, (∀ w, (convert a b u).run P w = .ok r w) ∧ Den ν H s r := by
  unfold vconv at h
  split at h
  · rename_i hok
    obtain ⟨d, hd⟩ := und_ok hok
    split at h
    · rename_i k _ n hk
      obtain ⟨rfl, rfl⟩ := some_pair h; have := hx.v_eq; subst this
      refine ⟨.int k (k.wrap n), fun w => ?_, .r (.v _)⟩
      unfold convert
      rw [Sem.run_bind, run_und hd, Result.andThen_ok, Sem.run_bind, run_und (und_int hk), Result.andThen_ok]
      cases d <;> rfl
    · rename_i hk
      split at h
      · rename_i hk2
        obtain ⟨rfl, rfl⟩ := some_pair h; have := hx.v_eq; subst this
        refine ⟨_, fun w => ?_, .r (.v _)⟩
        unfold convert
        rw [Sem.run_bind, run_und (und_string hk2), Result.andThen_ok, Sem.run_bind, run_und (und_string hk), Result.andThen_ok]
        rfl
      · cases h
    · cases h
  · cases h
theorem run_fieldPlace {n b : Nat} {z : Option Value} {f : Field} (hi : (tdOf P f.type).inf = some (n, b, z)) (hn : n ≠ 0) (a : Addr) : (fieldPlace a f).run P w = .ok (a.add f.offset) w := by
  unfold fieldPlace
  rw [Sem.run_bind, run_size hi, Result.andThen_ok, if_neg hn]
  rfl
theorem fields_get {fields : Array Field} {fs : List (Nat × Nat)} {f o ft : Nat} (hf : (fields.toList.map fun f => (f.offset, f.type)) = fs) (h : fs[f]? = some (o, ft)) : ∃ fd, fields[f]? = some fd ∧ fd.offset = o ∧ fd.type = ft := by
  subst hf
  rw [List.getElem?_map] at h
  cases hq : fields.toList[f]? with
  | none => rw [hq] at h; cases h
  | some fd =>
    rw [hq] at h
    simp only [Option.map_some, Option.some.injEq, Prod.mk.injEq] at h
    exact ⟨fd, by simpa using hq, h.1, h.2⟩
theorem Addr.add_none (b o n : Nat) : (⟨b, o, none⟩ : Addr).add n = ⟨b, o + n, none⟩ := by
  unfold Addr.add
  split
  · rename_i h; subst h; rfl
  · rfl
theorem vfieldA_sound {f : Nat} (h : vfieldA P t x f = some (c, s)) (hx : Den ν H x u) : ∃ r, (∀ w, (Instr.fieldAt t u f).run P w = .ok r w) ∧ Den ν H s r := by
  unfold vfieldA at h
  split at h
  · rename_i fs hk
    obtain ⟨fields, hu, hf, _⟩ := und_struct hk
    split at h
    · rename_i o ft hfo
      split at h
      · rename_i n _ _ hi
        by_cases hn : n = 0
        · rw [if_pos hn] at h; cases h
        · rw [if_neg hn] at h
          obtain ⟨fd, hfd, rfl, rfl⟩ := fields_get hf hfo
          have hrun : ∀ (a : Addr) (w : World), (Instr.fieldAt t (.pointer (some a)) f).run P w = .ok (.pointer (some (a.add fd.offset))) w := by
            intro a w
            unfold Instr.fieldAt
            rw [Sem.run_bind, run_und hu, Result.andThen_ok]
            simp only [hfd, Instr.sureAddr, Sem.run_bind, Sem.run_pure, Result.andThen_ok, run_fieldPlace hi hn]
          split at h
          · obtain ⟨rfl, rfl⟩ := some_pair h
            obtain ⟨b, rfl, hb⟩ := hx.ptr_inv
            exact ⟨_, hrun _, by rw [Addr.add_none]; exact .ptr hb⟩
          · obtain ⟨rfl, rfl⟩ := some_pair h
            obtain ⟨b, n, cc, rfl, hb⟩ := hx.hp_inv
            exact ⟨_, hrun _, by rw [Addr.add_none, Nat.add_assoc]; exact .hp hb⟩
          · obtain ⟨rfl, rfl⟩ := some_pair h
            obtain ⟨b, o, cs, rfl, hl, hc⟩ := hx.rop_inv
            refine ⟨_, hrun _, ?_⟩
            rw [Addr.add_none]
            exact .rop (hl.drop fd.offset) (fun j v hj => by rw [Nat.add_assoc]; exact hc _ _ (by rw [List.getElem?_drop] at hj; exact hj))
          · cases h
      · cases h
    · cases h
  · cases h
theorem vfield_sound {f : Nat} (h : vfield P t x f = some (c, s)) (hc : c) (hx : Den ν H x u) : ∃ r, (∀ w, (Instr.field t u f).run P w = .ok r w) ∧ Den ν H s r := by
  unfold vfield at h
  split at h
  · rename_i fs l hk
    obtain ⟨fields, hu, hf, _⟩ := und_struct hk
    split at h
    · rename_i o ft hfo
      split at h
      · rename_i n _ _ hi
        split at h
        · rename_i hok
          split at h
          · rename_i v hv
            obtain ⟨rfl, rfl⟩ := some_pair h
            obtain ⟨fd, hfd, rfl, rfl⟩ := fields_get hf hfo
            obtain ⟨cs, rfl, hcs⟩ := hx.agg_inv
            obtain ⟨r, hr, hd⟩ := run_part (by intro e; rw [e] at hok; cases hok) hi fd.offset hcs hv hc
            refine ⟨r, fun w => ?_, hd⟩
            unfold Instr.field
            rw [Sem.run_bind, run_und hu, Result.andThen_ok]
            simp only [hfd, asAgg, Sem.run_bind, Sem.run_pure, Result.andThen_ok, hr]
          · cases h
        · cases h
      · cases h
    · cases h
  · cases h
end
end Go.Proofs.Ytbpobdlahighoaa.Sx
