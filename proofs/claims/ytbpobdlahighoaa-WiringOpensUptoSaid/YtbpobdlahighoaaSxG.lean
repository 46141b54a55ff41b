/- vpure tells the truth, continued: indexes, literals, slices, lengths; then all together. -/
import Derived.Test.YtbpobdlahighoaaSxF
namespace Go.Proofs.Ytbpobdlahighoaa.Sx
open Go
set_option linter.unusedVariables false
set_option linter.unusedSimpArgs false

section
variable {P : Program} {ν : Nat → Option Value} {H F g : Hp} {st : St} {x y s : SV} {c : Prop} {u z : Value} {t : Nat} {w : World} {a : Act}

theorem encAt_den {α : Type} {sz : Nat} {enc : α → List SV} {xs : List α} {v : Value} (h : RDen H (.ro sz enc xs v)  v) (i : Nat) (hi : i < xs.length) :
    ∃ b o n cc cs, v = .slice (some ⟨b, o, none⟩) n cc ∧ cs.length = sz ∧ RDenL H (encAt enc xs i) cs ∧ ∀ j u, cs[j]? = some u → H.cell ⟨b, o + (i * sz + j), none⟩ = some u := by
  cases h with
  | ro cs h1 h2 h3 h4 =>
    obtain ⟨e1, b, o, rfl, hc⟩ := h2 i hi
    refine ⟨b, o, _, _, cs i, rfl, e1, ?_, hc⟩
    rw [encAt_some (List.getElem?_eq_getElem hi)]
    exact h1 i _ (List.getElem?_eq_getElem hi)
theorem run_indexAt_sl {e n bb m cc : Nat} {zz : Option Value} {p : Option Addr} {k : IntKind} {i : Int} (hu : P.underlying t = some (.slice e)) (hi : (tdOf P e).inf = some (n, bb, zz)) (b : Addr) (hp : p = some b) (h0 : 0 ≤ i) (h1 : i < m) (w : World) :
    (Instr.indexAt t (.slice p m cc) (.int k i)).run P w = .ok (.pointer (some (b.add (i.toNat * n)))) w := by
  subst hp
  unfold Instr.indexAt
  simp only [asIntOf, Sem.run_bind, Sem.run_pure, Result.andThen_ok, run_und hu]
  rw [if_pos ⟨h0, h1⟩]
  simp only [Sem.run_bind, run_size hi, Result.andThen_ok, Sem.run_pure]
theorem run_indexAt_arr {e n bb m : Nat} {zz : Option Value} {k : IntKind} {i : Int} (hu : P.underlying t = some (.array m e)) (hi : (tdOf P e).inf = some (n, bb, zz)) (b : Addr) (h0 : 0 ≤ i) (h1 : i < m) (w : World) :
    (Instr.indexAt t (.pointer (some b)) (.int k i)).run P w = .ok (.pointer (some (b.add (i.toNat * n)))) w := by
  unfold Instr.indexAt
  simp only [asIntOf, Sem.run_bind, Sem.run_pure, Result.andThen_ok, run_und hu, Instr.sureAddr]
  rw [if_pos ⟨h0, h1⟩]
  simp only [Sem.run_bind, run_size hi, Result.andThen_ok, Sem.run_pure]
theorem vidxA_sound {ix : SV} (hr : SatE ν H F g st.res) (h : vidxA P st t x ix = some (c, s)) (hc : c) (hx : Den ν H x u) (hy : Den ν H ix z) : ∃ r, (∀ w, (Instr.indexAt t u z).run P w = .ok r w) ∧ Den ν H s r := by
  unfold vidxA at h
  split at h
  · rename_i e k i hk
    have := hy.v_eq; subst this
    split at h
    · rename_i n _ _ α sz enc xs v hi
      split at h
      · rename_i hn; subst hn
        obtain ⟨rfl, rfl⟩ := some_pair h
        obtain ⟨rfl, hro⟩ := hx.ro_inv
        obtain ⟨b, o, m, cc, cs, rfl, hl, hd, hcell⟩ := encAt_den hro i.toNat (by omega)
        have hm : m = xs.length := by cases hro; rfl
        refine ⟨_, run_indexAt_sl (und_slice hk) hi _ rfl hc.1 (by omega), ?_⟩
        rw [Addr.add_none]
        exact .rop hd (fun j v hj => by rw [Nat.add_assoc]; exact hcell j v hj)
      · cases h
    · rename_i n _ _ uu hi
      have hv := hx.h_inv
      split at h
      · rename_i α sz enc xs hres
        split at h
        · rename_i hn; subst hn
          obtain ⟨rfl, rfl⟩ := some_pair h
          obtain ⟨_, p, cc, e1, _hle, e2⟩ := hr.ok _ _ hres
          rw [hv] at e1
          injection e1 with e1
          subst e1
          rcases e2 with ⟨rfl, _⟩ | ⟨b, cs, junk, ee, _, rfl, _⟩
          · omega
          · exact ⟨_, run_indexAt_sl (und_slice hk) hi _ rfl hc.1 hc.2, by rw [Addr.add_none, Nat.zero_add]; exact .hp hv⟩
        · cases h
      · rename_i sz m l hres
        split at h
        · rename_i hn; subst hn
          obtain ⟨rfl, rfl⟩ := some_pair h
          obtain ⟨_, b, cs, ee, _, e1, _⟩ := hr.ok _ _ hres
          rw [hv] at e1
          injection e1 with e1
          subst e1
          exact ⟨_, run_indexAt_sl (und_slice hk) hi _ rfl hc.1 hc.2, by rw [Addr.add_none, Nat.zero_add]; exact .hp hv⟩
        · cases h
      · rename_i α sz enc xss hole hres
        split at h
        · rename_i hn; subst hn
          obtain ⟨rfl, rfl⟩ := some_pair h
          obtain ⟨_, b, hs, ee, Bss, _, e1, _⟩ := hr.ok _ _ hres
          rw [hv] at e1
          injection e1 with e1
          subst e1
          exact ⟨_, run_indexAt_sl (und_slice hk) hi _ rfl hc.1 hc.2, by rw [Addr.add_none, Nat.zero_add]; exact .hp hv⟩
        · cases h
      · cases h
    · rename_i n _ _ uu sz j m hi
      split at h
      · rename_i hn; subst hn
        obtain ⟨rfl, rfl⟩ := some_pair h
        obtain ⟨b, mm, cc, rfl, hb⟩ := hx.hs_inv
        exact ⟨_, run_indexAt_sl (und_slice hk) hi _ rfl hc.1 hc.2, by rw [Addr.add_none, ← Nat.add_mul]; exact .hp hb⟩
      · cases h
    · cases h
  · rename_i m e k i hk
    have := hy.v_eq; subst this
    split at h
    · rename_i n _ _ uu o hi
      obtain ⟨rfl, rfl⟩ := some_pair h
      obtain ⟨b, rfl, hb⟩ := hx.ptr_inv
      exact ⟨_, run_indexAt_arr (und_array hk) hi _ hc.1 hc.2, by rw [Addr.add_none]; exact .ptr hb⟩
    · rename_i n _ _ l hi
      obtain ⟨rfl, rfl⟩ := some_pair h
      obtain ⟨b, o, cs, rfl, hl, hcell⟩ := hx.rop_inv
      exact ⟨_, run_indexAt_arr (und_array hk) hi _ hc.1 hc.2, by rw [Addr.add_none]; exact .rop (hl.drop _) (fun j v hj => by rw [Nat.add_assoc]; exact hcell _ _ (by rw [List.getElem?_drop] at hj; exact hj))⟩
    · cases h
  · cases h
theorem vidx_sound {ix : SV} (h : vidx P t x ix = some (c, s)) (hc : c) (hx : Den ν H x u) (hy : Den ν H ix z) : ∃ r, (∀ w, (Instr.index t u z).run P w = .ok r w) ∧ Den ν H s r := by
  unfold vidx at h
  split at h
  · rename_i str k i hk
    have := hy.v_eq; subst this
    have := hx.v_eq; subst this
    obtain ⟨rfl, rfl⟩ := some_pair h
    refine ⟨_, fun w => ?_, .r (.v _)⟩
    unfold Instr.index
    simp only [asIntOf, Sem.run_bind, Sem.run_pure, Result.andThen_ok, run_und (und_string hk)]
    rw [if_pos hc.1]
    have hlt : i.toNat < str.size := by omega
    simp only [bAt, getElem?_pos str i.toNat hlt, Option.getD_some, Sem.run_pure]
  · rename_i m e l k i hk
    have := hy.v_eq; subst this
    split at h
    · rename_i n _ _ hi
      split at h
      · rename_i hok
        split at h
        · rename_i v hv
          obtain ⟨rfl, rfl⟩ := some_pair h
          obtain ⟨cs, rfl, hcs⟩ := hx.agg_inv
          obtain ⟨r, hr, hd⟩ := run_part (by intro e; rw [e] at hok; cases hok) hi (i.toNat * n) hcs hv hc.2.2
          refine ⟨r, fun w => ?_, hd⟩
          unfold Instr.index
          simp only [asIntOf, Sem.run_bind, Sem.run_pure, Result.andThen_ok, run_und (und_array hk)]
          rw [if_pos ⟨hc.1, hc.2.1⟩]
          simp only [Sem.run_bind, run_size hi, Result.andThen_ok, hr]
        · cases h
      · cases h
    · cases h
  · cases h

/-! ### literals of structs and arrays -/
theorem foldl_set (v : List Value) : ∀ (k off : Nat) (cells : Array Value), off + k + v.length ≤ cells.size →
    ((v.zipIdx k).foldl (fun cs (c, j) => cs.setIfInBounds (off + j) c) cells).toList = cells.toList.take (off + k) ++ v ++ cells.toList.drop (off + k + v.length) := by
  induction v with
  | nil => intro k off cells h; simp
  | cons x v ih =>
    intro k off cells h
    simp only [List.length_cons] at h
    rw [List.zipIdx_cons, List.foldl_cons, ih (k + 1) off _ (by simp; omega)]
    rw [Array.toList_setIfInBounds]
    have e1 : off + (k + 1) = off + k + 1 := by omega
    rw [e1]
    have hlt : off + k < cells.toList.length := by rw [Array.length_toList]; omega
    rw [List.take_succ_eq_append_getElem (by simpa using hlt)]
    rw [List.getElem_set_self, List.take_set_of_le (Nat.le_refl _), List.drop_set_of_lt (by omega)]
    simp only [List.length_cons, List.append_assoc, List.singleton_append, List.cons_append, List.nil_append]
    rw [show off + k + 1 + v.length = off + k + (v.length + 1) by omega]
theorem vfill_sound {place : Nat → Option (Nat × Nat)} : ∀ (parts : List (Nat × SV)) (pv : List (Nat × Value)) (cells l : List SV) (cs : List Value), vfill place cells parts = some l → DenL ν H cells cs →
    parts.length = pv.length → (∀ (i : Nat) (p : Nat × SV) (q : Nat × Value), parts[i]? = some p → pv[i]? = some q → p.1 = q.1 ∧ Den ν H p.2 q.2) → ∃ ds, Instr.fill place cs.toArray pv = some (List.toArray ds) ∧ DenL ν H l ds
  | [], [], cells, l, cs, h, hd, _, _ => by simp only [vfill, Option.some.injEq] at h; subst h; exact ⟨cs, rfl, hd⟩
  | (i, x) :: r, (j, v) :: rv, cells, l, cs, h, hd, hlen, hp => by
    obtain ⟨e, hx⟩ := hp 0 _ _ rfl rfl
    simp only at e; subst e
    unfold vfill at h
    split at h
    · rename_i o n hpl
      split at h
      · rename_i lx hlx
        split at h
        · rename_i hc
          obtain ⟨hdx, _⟩ := cells_den hx hlx
          have hlen2 := hdx.length
          have hlen3 := hd.length
          have hsz : v.cells.size = n := by
            have : v.cells.toList.length = n := by rw [← hlen2, hc.1]
            simpa using this
          have hfold := foldl_set v.cells.toList 0 o cs.toArray (by simp; omega)
          have hd2 : DenL ν H (cells.take o ++ lx ++ cells.drop (o + n)) ((v.cells.zipIdx.foldl (fun cs (c, j) => cs.setIfInBounds (o + j) c) cs.toArray)).toList := by
            have e0 : (v.cells.zipIdx.foldl (fun cs (c, j) => cs.setIfInBounds (o + j) c) cs.toArray) = ((v.cells.toList.zipIdx 0).foldl (fun cs (c, j) => cs.setIfInBounds (o + j) c) cs.toArray) := by
              rw [← Array.foldl_toList, Array.toList_zipIdx]
            rw [e0, hfold]
            simp only [Nat.add_zero, Array.length_toList, hsz]
            exact ((hd.take o).app hdx).app (hd.drop (o + n))
          obtain ⟨ds, h1, h2⟩ := vfill_sound r rv _ l _ h hd2 (by simpa using hlen) (fun k p q hk hq => hp (k + 1) p q (by simpa using hk) (by simpa using hq))
          refine ⟨ds, ?_, h2⟩
          unfold Instr.fill
          simp only [hpl]
          rw [if_neg (by simp [hsz]; omega)]
          simpa using h1
        · cases h
      · cases h
    · cases h
end
end Go.Proofs.Ytbpobdlahighoaa.Sx
