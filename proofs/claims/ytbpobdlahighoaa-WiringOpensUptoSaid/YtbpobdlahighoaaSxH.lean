/- vpure tells the truth, the end: literals, slices, lengths; then all together. -/
import Derived.Test.YtbpobdlahighoaaSxG
namespace Go.Proofs.Ytbpobdlahighoaa.Sx
open Go
set_option linter.unusedVariables false
set_option linter.unusedSimpArgs false

section
variable {P : Program} {ν : Nat → Option Value} {H F g : Hp} {st : St} {x y s : SV} {c : Prop} {u z : Value} {t : Nat} {w : World} {a : Act}

theorem zcells_den (z : Value) : DenL ν H (zcells z) z.cells.toList := DenL.vs _
theorem splaces_get : ∀ (fs : List (Nat × Nat)) (fields : List Field) (i : Nat), (fields.map fun f => (f.offset, f.type)) = fs → (splaces P fs).all Option.isSome = true →
    (fields[i]? = none → (splaces P fs)[i]? = none) ∧ ∀ f, fields[i]? = some f → ∃ n b z, (tdOf P f.type).inf = some (n, b, z) ∧ (splaces P fs)[i]? = some (some (f.offset, n))
  | _, [], i, rfl, _ => ⟨fun _ => by simp [splaces], fun f h => by simp at h⟩
  | _, f :: fields, 0, rfl, h => ⟨fun e => by simp at e, fun f' hf => by
      simp only [List.getElem?_cons_zero, Option.some.injEq] at hf
      subst hf
      simp only [List.map_cons, splaces, List.all_cons, Bool.and_eq_true] at h
      cases hi : (tdOf P f.type).inf with
      | none => rw [hi] at h; simp at h
      | some r => obtain ⟨n, b, z⟩ := r; exact ⟨n, b, z, rfl, by simp [splaces, hi]⟩⟩
  | _, f :: fields, i + 1, rfl, h => by
      simp only [List.map_cons, splaces, List.all_cons, Bool.and_eq_true] at h
      have := splaces_get _ fields i rfl h.2
      simpa [splaces] using this
theorem run_places (fields : Array Field) (fs : List (Nat × Nat)) (hf : (fields.toList.map fun f => (f.offset, f.type)) = fs) (h : (splaces P fs).all Option.isSome = true) :
    ∃ pl : Array (Nat × Nat), (∀ w, (fields.mapM fun f => do pure (f.offset, ← sizeOf f.type) : Sem (Array (Nat × Nat))).run P w = .ok pl w) ∧ ∀ i : Nat, pl[i]? = ((splaces P fs)[i]?).getD none := by
  have key : ∀ (fl : List Field) (fs : List (Nat × Nat)), (fl.map fun f => (f.offset, f.type)) = fs → (splaces P fs).all Option.isSome = true →
      ∃ pl : List (Nat × Nat), (∀ w, (fl.mapM fun f => do pure (f.offset, ← sizeOf f.type) : Sem (List (Nat × Nat))).run P w = .ok pl w) ∧ ∀ i : Nat, pl[i]? = ((splaces P fs)[i]?).getD none := by
    intro fl
    induction fl with
    | nil => intro fs hf _; subst hf; exact ⟨[], fun w => rfl, fun i => by simp [splaces]⟩
    | cons f fl ih =>
      intro fs hf h
      subst hf
      simp only [List.map_cons, splaces, List.all_cons, Bool.and_eq_true] at h
      obtain ⟨pl, h1, h2⟩ := ih _ rfl h.2
      cases hi : (tdOf P f.type).inf with
      | none => rw [hi] at h; simp at h
      | some r =>
        obtain ⟨n, b, z⟩ := r
        refine ⟨(f.offset, n) :: pl, fun w => ?_, fun i => ?_⟩
        · rw [List.mapM_cons, Sem.run_bind, Sem.run_bind, run_size hi]
          simp only [Result.andThen_ok, Sem.run_pure, Sem.run_bind, h1]
        · cases i with
          | zero => simp [splaces, hi]
          | succ i => simpa [splaces] using h2 i
  obtain ⟨pl, h1, h2⟩ := key fields.toList fs hf h
  refine ⟨pl.toArray, fun w => ?_, fun i => by simpa using h2 i⟩
  rw [← Array.toArray_toList (xs := fields), List.mapM_toArray, Sem.run_map, h1]
  rfl
theorem vbuild_sound {parts : List (Nat × SV)} {pv : Array (Nat × Value)} (h : vbuild P t parts = some (c, s)) (hlen : parts.length = pv.size)
    (hp : ∀ (i : Nat) (p : Nat × SV) (q : Nat × Value), parts[i]? = some p → pv[i]? = some q → p.1 = q.1 ∧ Den ν H p.2 q.2) : ∃ r, (∀ w, (Instr.build t pv).run P w = .ok r w) ∧ Den ν H s r := by
  unfold vbuild at h
  split at h
  · rename_i n0 b0 z hi
    have hp' : ∀ (i : Nat) (p : Nat × SV) (q : Nat × Value), parts[i]? = some p → pv.toList[i]? = some q → p.1 = q.1 ∧ Den ν H p.2 q.2 := fun i p q h1 h2 => hp i p q h1 (by simpa using h2)
    have hz := zcells_den (ν := ν) (H := H) z
    split at h
    · rename_i fs hk
      obtain ⟨fields, hu, hf, _⟩ := und_struct hk
      split at h
      · rename_i l hl
        split at h
        · rename_i hall
          obtain ⟨rfl, rfl⟩ := some_pair h
          obtain ⟨pl, h1, h2⟩ := run_places (P := P) fields fs hf hall
          obtain ⟨ds, h3, h4⟩ := vfill_sound parts pv.toList _ _ _ hl hz (by simpa using hlen) hp'
          refine ⟨_, fun w => ?_, .agg h4⟩
          unfold Instr.build
          rw [Sem.run_bind, run_zero hi, Result.andThen_ok, Sem.run_bind, run_und hu, Result.andThen_ok]
          simp only [Sem.run_bind, h1, Result.andThen_ok]
          have e : (fun i => pl[i]?) = (fun i => ((splaces P fs)[i]?).getD none) := funext h2
          rw [e]
          rw [show z.cells = z.cells.toList.toArray by simp, h3]
          rfl
        · cases h
      · cases h
    · rename_i m e hk
      split at h
      · rename_i n _ _ hie
        split at h
        · rename_i l hl
          obtain ⟨rfl, rfl⟩ := some_pair h
          obtain ⟨ds, h3, h4⟩ := vfill_sound parts pv.toList _ _ _ hl hz (by simpa using hlen) hp'
          refine ⟨_, fun w => ?_, .agg h4⟩
          unfold Instr.build
          rw [Sem.run_bind, run_zero hi, Result.andThen_ok, Sem.run_bind, run_und (und_array hk), Result.andThen_ok]
          simp only [Sem.run_bind, run_size hie, Result.andThen_ok]
          rw [show z.cells = z.cells.toList.toArray by simp, h3]
          rfl
        · cases h
      · cases h
    · cases h
  · cases h
theorem bnd_sound {lo : Option SV} {d l : Int} {lv : Option Value} (h : bnd lo d = some l) (hl : ∀ s v, lo = some s → lv = some v → Den ν H s v) (hn : lo.isSome = lv.isSome) :
    (lo = none ∧ lv = none ∧ l = d) ∨ ∃ k, lv = some (.int k l) := by
  unfold bnd at h
  split at h
  · injection h with h; left; exact ⟨rfl, by cases lv <;> simp_all, h.symm⟩
  · injection h with h; subst h
    right
    cases lv with
    | none => simp at hn
    | some v => have := (hl _ _ rfl rfl).v_eq; subst this; exact ⟨_, rfl⟩
  · cases h
theorem run_sliceBound {k : IntKind} {i : Int} {y : Nat} {cd : BoundsCode} (h : 0 ≤ i ∧ i ≤ y) : (Instr.sliceBound (.int k i) y cd).run P w = .ok i.toNat w := by
  unfold Instr.sliceBound
  simp only [asIntOf, Sem.run_bind, Sem.run_pure, Result.andThen_ok]
  rw [if_pos h]; rfl
theorem run_sliceBounds {b : Bool} {len cap : Nat} {lo hi : Option Value} {l h : Int} (h1 : (lo = none ∧ l = 0) ∨ ∃ k, lo = some (.int k l)) (h2 : (hi = none ∧ h = len) ∨ ∃ k, hi = some (.int k h))
    (hl : 0 ≤ l) (hlh : l ≤ h) (hh : h ≤ cap) (hlc : len ≤ cap) : (Instr.sliceBounds b len cap lo hi none).run P w = .ok (l.toNat, h.toNat, cap) w := by
  unfold Instr.sliceBounds
  rcases h1 with ⟨rfl, rfl⟩ | ⟨k1, rfl⟩ <;> rcases h2 with ⟨rfl, rfl⟩ | ⟨k2, rfl⟩
  · simp
  · simp only [Sem.run_bind, Sem.run_pure, Result.andThen_ok, run_sliceBound (show 0 ≤ h ∧ h ≤ (cap : Int) by omega)]
    try simp
  · simp only [Sem.run_bind, Sem.run_pure, Result.andThen_ok, run_sliceBound (show 0 ≤ l ∧ l ≤ (len : Int) by omega)]
    try simp
  · simp only [Sem.run_bind, Sem.run_pure, Result.andThen_ok, run_sliceBound (show 0 ≤ h ∧ h ≤ (cap : Int) by omega), run_sliceBound (show 0 ≤ l ∧ l ≤ (h.toNat : Int) by omega)]
theorem run_sliceBounds3 {len cap : Nat} {lo hi : Option Value} {l h m : Int} {k : IntKind} (h1 : (lo = none ∧ l = 0) ∨ ∃ k, lo = some (.int k l)) (h2 : ∃ k, hi = some (.int k h))
    (hl : 0 ≤ l) (hlh : l ≤ h) (hh : h ≤ m) (hm : m ≤ cap) : (Instr.sliceBounds true len cap lo hi (some (.int k m))).run P w = .ok (l.toNat, h.toNat, m.toNat) w := by
  unfold Instr.sliceBounds
  obtain ⟨k2, rfl⟩ := h2
  rcases h1 with ⟨rfl, rfl⟩ | ⟨k1, rfl⟩
  · simp only [Sem.run_bind, Sem.run_pure, Result.andThen_ok, run_sliceBound (show 0 ≤ m ∧ m ≤ (cap : Int) by omega), run_sliceBound (show 0 ≤ h ∧ h ≤ (m.toNat : Int) by omega)]
    try simp
  · simp only [Sem.run_bind, Sem.run_pure, Result.andThen_ok, run_sliceBound (show 0 ≤ m ∧ m ≤ (cap : Int) by omega), run_sliceBound (show 0 ≤ h ∧ h ≤ (m.toNat : Int) by omega), run_sliceBound (show 0 ≤ l ∧ l ≤ (h.toNat : Int) by omega)]
    try simp
theorem sub_den {α : Type} {sz : Nat} {enc : α → List SV} {xs : List α} {v : Value} (hr : RDen H (.ro sz enc xs v) v) (l h m : Nat) (h1 : l ≤ h) (h2 : h ≤ xs.length) (h3 : h ≤ m) :
    Den ν H (.ro sz enc ((xs.take h).drop l) (subV v l h m sz)) (subV v l h m sz) := by
  cases hr with
  | ro cs k1 k2 k3 k4 =>
    rename_i p cc
    have hlen : ((xs.take h).drop l).length = h - l := by simp; omega
    have e : subV (.slice p xs.length cc) l h m sz = .slice (if m = l then p else p.map (·.add (l * sz))) ((xs.take h).drop l).length (m - l) := by rw [hlen]; rfl
    rw [e]
    refine .r (.ro (fun i => cs (i + l)) (fun i x hx => ?_) (fun i hi => ?_) (fun a ha => ?_) (by rw [hlen]; omega))
    · rw [List.getElem?_drop, List.getElem?_take] at hx
      split at hx
      · exact k1 _ _ (by rw [Nat.add_comm]; exact hx)
      · cases hx
    · rw [hlen] at hi
      obtain ⟨e1, b, o, e2, e3⟩ := k2 (i + l) (by omega)
      refine ⟨e1, b, o + l * sz, ?_, fun j u hu => ?_⟩
      · rw [if_neg (by omega), e2]; simp only [Option.map_some, Addr.add_none]
      · have := e3 j u hu
        rw [Nat.add_mul] at this
        rw [show o + l * sz + (i * sz + j) = o + (i * sz + l * sz + j) by omega]
        exact this
    · rfl
theorem vslice_sound {lo hi mx : Option SV} {lv hv mv : Option Value} (h : vslice P t x lo hi mx = some (c, s)) (hc : c) (hx : Den ν H x u) (n1 : lo.isSome = lv.isSome) (n2 : hi.isSome = hv.isSome) (n3 : mx.isSome = mv.isSome)
    (d1 : ∀ s v, lo = some s → lv = some v → Den ν H s v) (d2 : ∀ s v, hi = some s → hv = some v → Den ν H s v) (d3 : ∀ s v, mx = some s → mv = some v → Den ν H s v) :
    ∃ r, (∀ w, (Instr.sliceAt t u lv hv mv).run P w = .ok r w) ∧ Den ν H s r := by
  unfold vslice at h
  split at h
  · rename_i str hk
    have := hx.v_eq; subst this
    split at h
    · rename_i l hh b1 b2
      obtain ⟨rfl, rfl⟩ := some_pair h
      have q1 : (lv = none ∧ l = 0) ∨ ∃ k, lv = some (.int k l) := (bnd_sound b1 d1 n1).imp (fun h => ⟨h.2.1, h.2.2⟩) id
      have q2 : (hv = none ∧ hh = str.size) ∨ ∃ k, hv = some (.int k hh) := (bnd_sound b2 d2 n2).imp (fun h => ⟨h.2.1, h.2.2⟩) id
      obtain rfl : mv = none := by cases mv <;> simp_all
      refine ⟨_, fun w => ?_, .r (.v _)⟩
      unfold Instr.sliceAt
      rw [Sem.run_bind, run_und (und_string hk), Result.andThen_ok]
      simp only []
      unfold Instr.slice
      rw [Sem.run_bind, run_und (und_string hk), Result.andThen_ok]
      simp only [Option.isSome_none, Bool.false_eq_true, if_false]
      rw [Sem.run_bind]
      simp only [Sem.run_bind, Sem.run_pure, Result.andThen_ok, run_sliceBounds q1 q2 hc.1 hc.2.1 hc.2.2 (Nat.le_refl _)]
    · cases h
  · rename_i e α sz enc xs v hk
    split at h
    · rename_i n _ _ hi
      split at h
      · rename_i hn; subst hn
        obtain ⟨rfl, hro⟩ := hx.ro_inv
        have hro' := hro
        cases hro' with
        | ro cs k1 k2 k3 k4 =>
        rename_i p cc
        split at h
        · rename_i l hh b1 b2
          obtain ⟨rfl, rfl⟩ := some_pair h
          have q1 : (lv = none ∧ l = 0) ∨ ∃ k, lv = some (.int k l) := (bnd_sound b1 d1 n1).imp (fun h => ⟨h.2.1, h.2.2⟩) id
          have q2 : (hv = none ∧ hh = xs.length) ∨ ∃ k, hv = some (.int k hh) := (bnd_sound b2 d2 n2).imp (fun h => ⟨h.2.1, h.2.2⟩) id
          obtain rfl : mv = none := by cases mv <;> simp_all
          refine ⟨_, fun w => ?_, sub_den hro _ _ _ (by omega) (by omega) (by simp only [capV]; omega)⟩
          unfold Instr.sliceAt
          rw [Sem.run_bind, run_und (und_slice hk), Result.andThen_ok]
          simp only []
          unfold Instr.slice
          rw [Sem.run_bind, run_und (und_slice hk), Result.andThen_ok]
          simp only []
          rw [Sem.run_bind, run_sliceBounds q1 q2 hc.1 hc.2.1 (by omega) k4]
          simp only [Result.andThen_ok, Sem.run_bind, run_size hi, Sem.run_pure]
          rfl
        · rename_i l hh k m b1 b2
          split at h
          case h_2 => cases h
          obtain ⟨rfl, rfl⟩ := some_pair h
          have q1 : (lv = none ∧ l = 0) ∨ ∃ k, lv = some (.int k l) := (bnd_sound b1 d1 n1).imp (fun h => ⟨h.2.1, h.2.2⟩) id
          have q2 := bnd_sound b2 d2 n2
          cases mv with
          | none => simp at n3
          | some mv =>
            have := (d3 _ _ rfl rfl).v_eq; subst this
            rcases q2 with q2 | q2
            · cases q2.1
            · refine ⟨_, fun w => ?_, sub_den hro _ _ _ (by omega) (by omega) (by omega)⟩
              unfold Instr.sliceAt
              rw [Sem.run_bind, run_und (und_slice hk), Result.andThen_ok]
              simp only []
              unfold Instr.slice
              rw [Sem.run_bind, run_und (und_slice hk), Result.andThen_ok]
              simp only []
              rw [Sem.run_bind, run_sliceBounds3 q1 q2 hc.1 hc.2.1 hc.2.2.1 (by omega)]
              simp only [Result.andThen_ok, Sem.run_bind, run_size hi, Sem.run_pure]
              rfl
        · cases h
      · cases h
    · cases h
  · cases h
theorem vsliceH_sound {lo hi mx : Option SV} {lv hv mv : Option Value} (hr : SatE ν H F g st.res) (h : vsliceH P st t x lo hi mx = some (c, s)) (hc : c) (hx : Den ν H x u) (n1 : lo.isSome = lv.isSome) (n2 : hi.isSome = hv.isSome) (n3 : mx.isSome = mv.isSome)
    (d1 : ∀ s v, lo = some s → lv = some v → Den ν H s v) (d2 : ∀ s v, hi = some s → hv = some v → Den ν H s v) :
    ∃ r, (∀ w, (Instr.sliceAt t u lv hv mv).run P w = .ok r w) ∧ Den ν H s r := by
  unfold vsliceH at h
  split at h
  · rename_i e uu hk
    split at h
    · rename_i n _ _ α sz enc xs hi hres
      split at h
      · rename_i hn; subst hn
        have hv' := hx.h_inv
        split at h
        · rename_i l hh b1 b2
          obtain ⟨rfl, rfl⟩ := some_pair h
          have q1 : (lv = none ∧ l = 0) ∨ ∃ k, lv = some (.int k l) := (bnd_sound b1 d1 n1).imp (fun h => ⟨h.2.1, h.2.2⟩) id
          have q2 : (hv = none ∧ hh = xs.length) ∨ ∃ k, hv = some (.int k hh) := (bnd_sound b2 d2 n2).imp (fun h => ⟨h.2.1, h.2.2⟩) id
          obtain rfl : mv = none := by cases mv <;> simp_all
          obtain ⟨_, p, cc, e1, hle, e2⟩ := hr.ok _ _ hres
          rw [hv'] at e1
          injection e1 with e1
          subst e1
          rcases e2 with ⟨rfl, _⟩ | ⟨b, cs, junk, ee, _, rfl, _⟩
          · omega
          refine ⟨.slice (some ⟨b, l.toNat * n, none⟩) (hh.toNat - l.toNat) (cc - l.toNat), fun w => ?_, .hs hv'⟩
          unfold Instr.sliceAt
          rw [Sem.run_bind, run_und (und_slice hk), Result.andThen_ok]
          simp only []
          unfold Instr.slice
          rw [Sem.run_bind, run_und (und_slice hk), Result.andThen_ok]
          simp only []
          rw [Sem.run_bind, run_sliceBounds q1 q2 hc.1.1 hc.2.1 (by omega) hle]
          simp only [Result.andThen_ok, Sem.run_bind, run_size hi, Sem.run_pure]
          rw [if_neg (by omega)]
          simp only [Option.map_some, Addr.add_none, Nat.zero_add]
        · cases h
      · cases h
    · cases h
  · cases h
theorem vlen_sound (hr : SatE ν H F g st.res) (h : vlen P st t x = some (c, s)) (hx : Den ν H x u) (ty : Nat) : ∃ r, (∀ w, (Builtin.len_ #[t] ty #[u]).run P w = .ok r w) ∧ Den ν H s r := by
  unfold vlen at h
  split at h
  · rename_i α sz enc xs v hk
    obtain ⟨rfl, rfl⟩ := some_pair h
    obtain ⟨rfl, hro⟩ := hx.ro_inv
    cases hro
    exact ⟨_, fun w => by simp [Builtin.len_, run_und (und_slice hk)]; rfl, .r (.v _)⟩
  · rename_i p n cc hk
    obtain ⟨rfl, rfl⟩ := some_pair h
    have := hx.v_eq; subst this
    exact ⟨_, fun w => by simp [Builtin.len_, run_und (und_slice hk)]; rfl, .r (.v _)⟩
  · rename_i uu hk
    have hv := hx.h_inv
    split at h
    · rename_i α sz enc xs hres
      obtain ⟨rfl, rfl⟩ := some_pair h
      obtain ⟨_, p, cc, e1, _⟩ := hr.ok _ _ hres
      rw [hv] at e1; injection e1 with e1; subst e1
      exact ⟨_, fun w => by simp [Builtin.len_, run_und (und_slice hk)]; rfl, .r (.v _)⟩
    · rename_i sz m l hres
      obtain ⟨rfl, rfl⟩ := some_pair h
      obtain ⟨_, b, cs, ee, _, e1, _⟩ := hr.ok _ _ hres
      rw [hv] at e1; injection e1 with e1; subst e1
      exact ⟨_, fun w => by simp [Builtin.len_, run_und (und_slice hk)]; rfl, .r (.v _)⟩
    · rename_i α sz enc xss hole hres
      obtain ⟨rfl, rfl⟩ := some_pair h
      obtain ⟨_, b, hs, ee, Bss, _, e1, _⟩ := hr.ok _ _ hres
      rw [hv] at e1; injection e1 with e1; subst e1
      exact ⟨_, fun w => by simp [Builtin.len_, run_und (und_slice hk)]; rfl, .r (.v _)⟩
    · cases h
  · rename_i uu sz j m hk
    obtain ⟨rfl, rfl⟩ := some_pair h
    obtain ⟨b, mm, cc, rfl, hb⟩ := hx.hs_inv
    exact ⟨_, fun w => by simp [Builtin.len_, run_und (und_slice hk)]; rfl, .r (.v _)⟩
  · rename_i str hk
    obtain ⟨rfl, rfl⟩ := some_pair h
    have := hx.v_eq; subst this
    exact ⟨_, fun w => by simp [Builtin.len_, run_und (und_string hk)]; rfl, .r (.v _)⟩
  · rename_i n e hk
    obtain ⟨rfl, rfl⟩ := some_pair h
    exact ⟨_, fun w => by simp [Builtin.len_, run_und (und_array hk)]; rfl, .r (.v _)⟩
  · cases h
theorem map_den {st : St} (he : EnvOk ν H st.env a) : ∀ l : List Operand, DenL ν H (l.map (ev st)) (l.map a.eval)
  | [] => .nil
  | x :: l => .cons (ev_den he x) (map_den he l)
theorem vmm_sound {mn : Bool} {l : List SV} {vs : List Value} (h : vmm mn l = some (c, s)) (hx : DenL ν H l vs) (ts : Array TypeId) (ty : Nat) :
    ∃ r, (∀ w, (if mn then Builtin.min_ ts ty vs.toArray else Builtin.max_ ts ty vs.toArray).run P w = .ok r w) ∧ Den ν H s r := by
  unfold vmm at h
  split at h
  · rename_i k p k' q
    obtain ⟨rfl, rfl⟩ := some_pair h
    cases hx with
    | cons h1 r1 =>
      cases r1 with
      | cons h2 r2 =>
        cases r2
        have e1 := h1.v_eq; subst e1
        have e2 := h2.v_eq; subst e2
        cases mn
        · exact ⟨_, fun w => run_max_int2 w ts ty k k' p q, .r (.v _)⟩
        · exact ⟨_, fun w => run_min_int2 w ts ty k k' p q, .r (.v _)⟩
  · cases h
theorem arr_map {α β : Type} {f : α → β} (p : Array α) : p.map f = (p.toList.map f).toArray := by rw [← Array.toList_map, Array.toArray_toList]
theorem lift_value {S : Sem Value} (h : ∃ r, (∀ w, S.run P w = .ok r w) ∧ Den ν H s r) : ∃ r, (∀ w, (do pure (.value (← S)) : Sem Next).run P w = .ok (.value r) w) ∧ Den ν H s r := by
  obtain ⟨r, hr, hd⟩ := h
  exact ⟨r, fun w => by simp [hr], hd⟩
theorem opt_isSome {α : Type} {β γ : Type 1} (f : α → β) (o : Option α) : (o.map f).isSome = o.isSome := by cases o <;> rfl
/-- WHAT vpure SAYS IS SO, in whatever world the operation is carried out. -/
theorem vpure_sound {o : Oper} (he : EnvOk ν H st.env a) (hr : SatE ν H F g st.res) (h : vpure P o.op st = some (c, s)) (hc : c) :
    ∃ r, (∀ w, (execOp a.eval o).run P w = .ok (.value r) w) ∧ Den ν H s r := by
  have opt : ∀ (l : Option Operand) (s : SV) (v : Value), l.map (ev st) = some s → l.map a.eval = some v → Den ν H s v := by
    intro l s v h1 h2
    cases l with
    | none => cases h1
    | some l => simp only [Option.map_some, Option.some.injEq] at h1 h2; subst h1; subst h2; exact ev_den he l
  obtain ⟨dst, op, ty, pos, after, guard⟩ := o
  simp only at h
  unfold vpure at h
  split at h
  · obtain ⟨rfl, rfl⟩ := some_pair h; exact ⟨_, fun w => rfl, ev_den he _⟩
  · obtain ⟨rfl, rfl⟩ := some_pair h; exact ⟨_, fun w => rfl, ev_den he _⟩
  · rename_i k p q
    unfold vpick at h
    split at h
    · rename_i b hb
      obtain ⟨rfl, rfl⟩ := some_pair h
      have h1 := ev_den he k
      rw [hb] at h1
      have h2 := h1.v_eq
      cases b
      · exact ⟨_, fun w => by simp [execOp, h2, asBool], ev_den he q⟩
      · exact ⟨_, fun w => by simp [execOp, h2, asBool], ev_den he p⟩
    · cases h
  · rename_i x
    have hx := ev_den he x
    unfold vnil at h
    split at h
    all_goals (try (cases h; done))
    all_goals (rename_i heq; obtain ⟨rfl, rfl⟩ := some_pair h; rw [heq] at hx)
    · obtain ⟨b, e, hb⟩ := hx.ptr_inv
      exact ⟨a.eval x, fun w => by simp only [execOp, e]; rfl, hx⟩
    · obtain ⟨b, oo, cs, e, _⟩ := hx.rop_inv
      exact ⟨a.eval x, fun w => by simp only [execOp, e]; rfl, hx⟩
    · obtain ⟨b, n, cc, e, _⟩ := hx.hp_inv
      exact ⟨a.eval x, fun w => by simp only [execOp, e]; rfl, hx⟩
    · obtain ⟨fs, cs, e, _⟩ := hx.fn_inv
      exact ⟨a.eval x, fun w => by simp only [execOp, e]; rfl, hx⟩
  · rename_i bop tt x y yt
    exact lift_value (vbin2_sound x y h hc (ev_den he x) (ev_den he y))
  · exact lift_value (vun_sound h hc (ev_den he _))
  · exact lift_value (vconv_sound h (ev_den he _))
  · exact lift_value (vfieldA_sound h (ev_den he _))
  · exact lift_value (vfield_sound h hc (ev_den he _))
  · exact lift_value (vidxA_sound hr h hc (ev_den he _) (ev_den he _))
  · exact lift_value (vidx_sound h hc (ev_den he _) (ev_den he _))
  · rename_i x i
    refine lift_value ?_
    have hx := ev_den he x
    unfold vextract at h
    split at h
    · rename_i l heq
      split at h
      · rename_i s' hs'
        obtain ⟨rfl, rfl⟩ := some_pair h
        rw [heq] at hx
        obtain ⟨cs, e, hcs⟩ := hx.tup_inv
        obtain ⟨v, hv, hd⟩ := hcs.get hs'
        exact ⟨v, fun w => by rw [e]; simp [Instr.extract, hv], hd⟩
      · cases h
    · cases h
  · rename_i tt parts
    refine lift_value (vbuild_sound h (by simp) ?_)
    intro i p q h1 h2
    rw [List.getElem?_map] at h1
    rw [Array.getElem?_map] at h2
    cases hq : parts[i]? with
    | none => rw [hq] at h2; cases h2
    | some r =>
      rw [hq] at h2
      rw [show parts.toList[i]? = some r by simpa using hq] at h1
      simp only [Option.map_some, Option.some.injEq] at h1 h2
      subst h1; subst h2
      exact ⟨rfl, ev_den he _⟩
  · rename_i f p q
    obtain ⟨rfl, rfl⟩ := some_pair h
    refine ⟨_, fun w => ?_, .fn (map_den he p.toList) (map_den he q.toList)⟩
    simp only [execOp, Instr.makeFunc]
    rw [arr_map p, arr_map q]
    rfl
  · rename_i tt x lo hi mx
    unfold orS at h
    split at h
    · rename_i r hr2
      injection h with h; subst h
      exact lift_value (vslice_sound hr2 hc (ev_den he _) (by cases lo <;> rfl) (by cases hi <;> rfl) (by cases mx <;> rfl) (opt lo) (opt hi) (opt mx))
    · exact lift_value (vsliceH_sound hr h hc (ev_den he _) (by cases lo <;> rfl) (by cases hi <;> rfl) (by cases mx <;> rfl) (opt lo) (opt hi))
  · rename_i xs ts
    split at h
    · rename_i x tt e1 e2
      obtain rfl : xs = #[x] := by rw [← Array.toArray_toList (xs := xs), e1]
      obtain rfl : ts = #[tt] := by rw [← Array.toArray_toList (xs := ts), e2]
      refine Exists.imp (fun r hr => ⟨fun w => ?_, hr.2⟩) (vlen_sound hr h (ev_den he x) ty)
      have := hr.1 w
      simp [execOp, resolve, invoke, builtin, this]
    · cases h
  · rename_i args tys
    refine Exists.imp (fun r hr => ⟨fun w => ?_, hr.2⟩) (vmm_sound (P := P) (mn := true) h (map_den he args.toList) tys ty)
    have := hr.1 w
    simp only [if_true] at this
    rw [← arr_map] at this
    simp [execOp, resolve, invoke, builtin, this]
  · rename_i args tys
    refine Exists.imp (fun r hr => ⟨fun w => ?_, hr.2⟩) (vmm_sound (P := P) (mn := false) h (map_den he args.toList) tys ty)
    have := hr.1 w
    simp only [Bool.false_eq_true, if_false] at this
    rw [← arr_map] at this
    simp [execOp, resolve, invoke, builtin, this]
  · cases h
end
end Go.Proofs.Ytbpobdlahighoaa.Sx
