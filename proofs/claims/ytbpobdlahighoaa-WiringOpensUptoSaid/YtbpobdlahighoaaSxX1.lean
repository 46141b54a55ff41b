/- Indexes: places.add and places.find. -/
import Derived.Test.YtbpobdlahighoaaSxW2
namespace Go.Proofs.Ytbpobdlahighoaa.Sx
open Go
set_option linter.unusedVariables false
set_option linter.unusedSimpArgs false

section
variable {κ α : Type} [DecidableEq κ]
/-- What is noted for a key. -/
def aget : List (κ × α) → κ → Option α
  | [], _ => none
  | p :: l, k => if p.1 = k then some p.2 else aget l k
def aset : List (κ × α) → κ → α → List (κ × α)
  | [], k, v => [(k, v)]
  | p :: l, k, v => if p.1 = k then (k, v) :: l else p :: aset l k v
def kvOf (kf : κ → Value) (g : α → Value) (l : List (κ × α)) : List (Value × Value) := l.map fun p => (kf p.1, g p.2)
theorem mget_kv {kf : κ → Value} (hk : ∀ a b, kf a = kf b → a = b) (g : α → Value) : ∀ (l : List (κ × α)) (k : κ), mget (kvOf kf g l) (kf k) = (aget l k).map g
  | [], k => rfl
  | p :: l, k => by
    have ih := mget_kv hk g l k
    unfold mget at *
    unfold kvOf at *
    simp only [List.map_cons, mfind, aget]
    by_cases e : p.1 = k
    · simp [e]
    · have : ¬ kf p.1 = kf k := fun h => e (hk _ _ h)
      rw [if_neg this, if_neg e, Option.map_map]
      rw [← ih]
      cases mfind (l.map fun p => (kf p.1, g p.2)) (kf k) <;> rfl
theorem mset_kv {kf : κ → Value} (hk : ∀ a b, kf a = kf b → a = b) (g : α → Value) : ∀ (l : List (κ × α)) (k : κ) (v : α), mset (kvOf kf g l) (kf k) (g v) = kvOf kf g (aset l k v)
  | [], k, v => rfl
  | p :: l, k, v => by
    have ih := mset_kv hk g l k v
    unfold kvOf at *
    simp only [List.map_cons, mset, aset]
    by_cases e : p.1 = k
    · simp [e]
    · have : ¬ kf p.1 = kf k := fun h => e (hk _ _ h)
      rw [if_neg this, if_neg e, ih]; rfl
end
abbrev kU (k : Int) : Value := .int .u16 k
abbrev gI (i : Nat) : Value := .int .i64 i
abbrev SU : Value → Prop := MapKept.IsKey (.int .u16)
theorem goodU : KeyGood Pr 38 SU := keyGood_simple (und_int (by rw [td38]))
@[go_sem] theorem suT {k : Int} : SU (.int .u16 k) = True := by simp [SU, MapKept.IsKey]
@[go_sem] theorem goodUT : KeyGood Pr 38 SU = True := eq_true goodU
theorem kU_inj : ∀ a b, kU a = kU b → a = b := fun a b h => by injection h
abbrev kvU (l : List (Int × Nat)) : List (Value × Value) := kvOf kU gI l
/-- An index note, where there is none yet. -/
def aadd {κ α : Type} [DecidableEq κ] (l : List (κ × α)) (k : κ) (i : α) : List (κ × α) := match aget l k with | some _ => l | none => aset l k i

set_option maxRecDepth 100000
/-- places[uint16].add -/
theorem t_addU (l : List (Int × Nat)) (k : Int) (i : Nat) : TriF Pr 63 [.h 0, .v (.int .u16 k), .v (.int .i64 i)] [.mp SU (kvU l)] [] (.v (.bool (aget l k).isNone)) [.mp SU (kvU (aadd l k i))] := by
  refine tri_fn Try.f63 [] [] [] 1000 (by kernel_rfl) (by kernel_rfl) (by kernel_rfl) (by kernel_rfl) (by kernel_rfl) (by kernel_rfl) (Nat.le_of_ble_eq_true rfl) ?_
  have hm := mget_kv kU_inj gI l k
  cases ha : aget l k with
  | some j =>
    rw [ha, Option.map_some] at hm
    simp -implicitDefEqProofs only [go_sem, Try.f63, hm]
    refine retS [0] (.v (.bool false)) [.mp SU (kvU l)] ?_
    simp -implicitDefEqProofs only [go_sem, aadd, ha]
    rfl
  | none =>
    rw [ha, Option.map_none] at hm
    simp -implicitDefEqProofs only [go_sem, Try.f63, hm]
    refine retS [0] (.v (.bool true)) [.mp SU (kvU (aset l k i))] ?_
    simp -implicitDefEqProofs only [go_sem, aadd, ha]
    exact ⟨rfl, congrArg _ (mset_kv kU_inj gI l k i)⟩
/-- places[uint16].find -/
theorem t_findU (l : List (Int × Nat)) (k : Int) : TriF Pr 71 [.rom SU (kvU l), .v (.int .u16 k)] [] [] (.v (.int .i64 (match aget l k with | some i => (i : Int) | none => -1))) [] := by
  refine tri_fn Try.f71 [] [] [] 1000 (by kernel_rfl) (by kernel_rfl) (by kernel_rfl) (by kernel_rfl) (by kernel_rfl) (by kernel_rfl) (Nat.le_of_ble_eq_true rfl) ?_
  have hm := mget_kv kU_inj gI l k
  cases ha : aget l k with
  | some j =>
    rw [ha, Option.map_some] at hm
    simp -implicitDefEqProofs only [go_sem, Try.f71, hm]
    exact ret0 rfl (by simp -implicitDefEqProofs only [go_sem])
  | none =>
    rw [ha, Option.map_none] at hm
    simp -implicitDefEqProofs only [go_sem, Try.f71, hm]
    exact ret0 rfl (by simp -implicitDefEqProofs only [go_sem])

/-- What collect has noted behind n records. -/
def collM {κ : Type} [DecidableEq κ] (ids : List κ) : Nat → List (κ × Nat)
  | 0 => []
  | n + 1 => match ids[n]? with | some k => aadd (collM ids n) k n | none => collM ids n
def collF {κ : Type} [DecidableEq κ] (ids : List κ) : Nat → Int
  | 0 => -1
  | n + 1 => match ids[n]? with | some k => if (aget (collM ids n) k).isNone then collF ids n else if collF ids n < 0 then n else collF ids n | none => collF ids n
theorem t_pid (p : Part) : TriF Pr 62 [.agg (ePart p)] [] [] (.v (.int .u16 p.id)) [] := by
  refine tri_fn Try.f62 [] [1] [] 1000 (by kernel_rfl) (by kernel_rfl) (by kernel_rfl) (by kernel_rfl) (by kernel_rfl) (by kernel_rfl) (Nat.le_of_ble_eq_true rfl) ?_
  simp -implicitDefEqProofs only [go_sem, Try.f62, ePart]
  exact ret0 rfl (by simp -implicitDefEqProofs only [go_sem])
theorem t_collP (xs : List Part) (hl : xs.length ≤ 1048576) (v : Value) : TriF Pr 61 [.ro 4 ePart xs v, .fn 62 [] [], .fn 63 [.h 0] []] [.mp SU (kvU [])] [] (.v (.int .i64 (collF (xs.map (·.id)) xs.length))) [.mp SU (kvU (collM (xs.map (·.id)) xs.length))] := by
  refine tri_fn Try.f61 [] [] [] 1000 (by kernel_rfl) (by kernel_rfl) (by kernel_rfl) (by kernel_rfl) (by kernel_rfl) (by kernel_rfl) (Nat.le_of_ble_eq_true rfl) ?_
  simp -implicitDefEqProofs only [go_sem, Try.f61]
  refine loopR (fun i => i ≤ xs.length) [0, 1, 2, 10, 11] (fun i => [(12, .v (.int .i64 i)), (7, .v (.int .i64 (collF (xs.map (·.id)) i)))]) (fun i => [(0, .mp SU (kvU (collM (xs.map (·.id)) i)))]) [] (fun i => xs.length - i) 0 (by omega) ⟨rfl, rfl, trivial⟩ ⟨rfl, trivial⟩ (fun _ h => h) (fun i => rfl) (fun i => rfl) ?_
  intro i hi E hE
  by_cases hlt : (i : Int) < xs.length
  · obtain ⟨y, hy⟩ := get_lt hlt
    simp -implicitDefEqProofs only [go_sem, hlt, encAt_some hy, ePart]
    refine ⟨by omega, call0 (t_pid y) rfl rfl ?_⟩
    simp -implicitDefEqProofs only [go_sem]
    refine callS [0] [] (t_addU (collM (xs.map (·.id)) i) y.id i) (by simp) (by simp -implicitDefEqProofs only [go_sem]; simp) (fun ρ => rfl) (fun ρ => rfl) ?_
    rintro r post ⟨rfl, rfl⟩
    have hids : (xs.map (·.id))[i]? = some y.id := by rw [List.getElem?_map, hy]; rfl
    have hM : collM (xs.map (·.id)) (i + 1) = aadd (collM (xs.map (·.id)) i) y.id i := by simp only [collM, hids]
    have hF : collF (xs.map (·.id)) (i + 1) = if (aget (collM (xs.map (·.id)) i) y.id).isNone then collF (xs.map (·.id)) i else if collF (xs.map (·.id)) i < 0 then (i : Int) else collF (xs.map (·.id)) i := by simp only [collF, hids]
    simp -implicitDefEqProofs only [go_sem]
    refine ⟨fun h1 => ⟨fun h2 => ⟨inI64_nat hi hl, hE _ (i + 1) (by omega) (by omega) ⟨rfl, ?_, rfl, rfl, rfl, rfl, rfl, trivial⟩ ⟨?_, trivial⟩ (fun _ h => h)⟩, fun h2 => ⟨inI64_nat hi hl, hE _ (i + 1) (by omega) (by omega) ⟨rfl, ?_, rfl, rfl, rfl, rfl, rfl, trivial⟩ ⟨?_, trivial⟩ (fun _ h => h)⟩⟩,
      fun h1 => ⟨inI64_nat hi hl, hE _ (i + 1) (by omega) (by omega) ⟨rfl, ?_, rfl, rfl, rfl, rfl, rfl, trivial⟩ ⟨?_, trivial⟩ (fun _ h => h)⟩⟩
    · have h1' : ¬ (aget (collM (xs.map (·.id)) i) y.id).isNone = true := fun h => by rw [h] at h1; cases h1
      rw [hF, if_neg h1', if_pos (by simpa using h2)]; rfl
    · rw [hM]; rfl
    · have h1' : ¬ (aget (collM (xs.map (·.id)) i) y.id).isNone = true := fun h => by rw [h] at h1; cases h1
      rw [hF, if_neg h1', if_neg (by simpa using h2)]; rfl
    · rw [hM]; rfl
    · have h1' : (aget (collM (xs.map (·.id)) i) y.id).isNone = true := by cases h : (aget (collM (xs.map (·.id)) i) y.id).isNone <;> rw [h] at h1 <;> first | rfl | cases h1
      rw [hF, if_pos h1']; rfl
    · rw [hM]; rfl
  · simp -implicitDefEqProofs only [go_sem, hlt]
    have : i = xs.length := by omega
    subst this
    refine retS [0] (.v (.int .i64 (collF (xs.map (·.id)) xs.length))) [.mp SU (kvU (collM (xs.map (·.id)) xs.length))] ?_
    simp -implicitDefEqProofs only [go_sem]

/-! ### keys that are structs -/
def kN (k : Int × ByteArray) : Value := .agg (List.toArray [.int .u16 k.1, .string k.2])
def SN (v : Value) : Prop := ∃ k, v = kN k
theorem kN_inj : ∀ a b, kN a = kN b → a = b := fun a b h => by
  injection h with h
  have h := congrArg Array.toList h
  simp only [List.cons.injEq, Value.int.injEq, Value.string.injEq, true_and, and_true] at h
  exact Prod.ext h.1 h.2
theorem goodN : KeyGood Pr 107 SN := by
  obtain ⟨fields, hu, hf, hn⟩ := und_struct (P := Pr) (t := 107) (fs := [(0, 38), (1, 9)]) (by rw [td107])
  have hn' : ∀ f ∈ fields.toList, f.name ≠ "_" := by
    intro f hf e
    have : fields.any (fun f => f.name == "_") = true := Array.any_eq_true'.2 ⟨f, by simpa using hf, by simpa using e⟩
    rw [hn] at this; cases this
  refine ⟨?_, ?_, ?_⟩
  · rintro w k em ⟨k, rfl⟩
    show (Instr.checkKey em (9999 + 1) 107 (kN k)).run Pr w = _
    unfold Instr.checkKey kN
    rw [Sem.run_bind, run_und hu, Result.andThen_ok]
    simp only []
    rw [← Array.forIn_toList]
    generalize fields.toList = fl at hf hn'
    obtain ⟨f1, f2, rfl⟩ : ∃ f1 f2, fl = [f1, f2] := by
      cases fl with
      | nil => simp at hf
      | cons f1 l =>
        cases l with
        | nil => simp at hf
        | cons f2 l =>
          cases l with
          | nil => exact ⟨f1, f2, rfl⟩
          | cons f3 l => simp at hf
    simp only [List.map_cons, List.map_nil, List.cons.injEq, Prod.mk.injEq, and_true] at hf
    obtain ⟨⟨o1, t1⟩, o2, t2⟩ := hf
    have p1 := run_part_cells (P := Pr) (w := w) (t := 38) [.int .u16 k.1, .string k.2] (by rw [td38]; simp) (by rw [td38]) 0 (by intro _; rfl)
    have p2 := run_part_cells (P := Pr) (w := w) (t := 9) [.int .u16 k.1, .string k.2] (by rw [td9]; simp) (by rw [td9]) 1 (by intro _; rfl)
    have c1 : (Instr.checkKey em 9999 38 (.int .u16 k.1)).run Pr w = .ok () w := MapKept.run_checkKey (d := .int .u16) (und_int (by rw [td38])) (by simp [MapKept.IsKey]) em 9998
    have c2 : (Instr.checkKey em 9999 9 (.string k.2)).run Pr w = .ok () w := MapKept.run_checkKey (d := .string) (und_string (by rw [td9])) (by simp [MapKept.IsKey]) em 9998
    rw [td38] at p1
    rw [td9] at p2
    simp only [List.forIn_cons, List.forIn_nil, if_pos (hn' f1 (by simp)), if_pos (hn' f2 (by simp)), Sem.run_bind, o1, t1, o2, t2]
    rw [p1]
    simp only [Result.andThen_ok, Sem.run_bind, asVal, TK.agg, List.drop, List.take, c1, Sem.run_pure]
    rw [p2]
    simp only [Result.andThen_ok, Sem.run_bind, asVal, TK.agg, List.drop, List.take, c2, Sem.run_pure]
  · rintro w k ⟨k, rfl⟩
    have : Instr.sameBits 10000 (kN k) (kN k) = true := by
      show Instr.sameBits (9999 + 1) (kN k) (kN k) = true
      unfold kN
      simp [Instr.sameBits, (MapKept.bytes_beq _ _).2 rfl]
    unfold Instr.keyThatStays
    rw [this]; rfl
  · rintro w k es ⟨k, rfl⟩ hes
    unfold Instr.findKey
    rw [Sem.run_bind, run_und hu, Result.andThen_ok]
    have heq : ∀ (w : World) (a b : Value), SN a → SN b → ∃ r, (Op.equal 107 a b).run Pr w = .ok r w ∧ (r = true ↔ b = a) := by
      rintro w _ _ ⟨a, rfl⟩ ⟨b, rfl⟩
      have h := fEq_sound (P := Pr) (ν := fun _ => none) (H := fun _ => none) 6 (D := 10000) (t := 107) (w := w) (l := [.v (.int .u16 a.1), .v (.string a.2)]) (m := [.v (.int .u16 b.1), .v (.string b.2)]) (b := decide (a.1 = b.1) && decide (a.2 = b.2)) (by omega)
        (.cons (.r (.v _)) (.cons (.r (.v _)) .nil)) (.cons (.r (.v _)) (.cons (.r (.v _)) .nil)) (by simp -implicitDefEqProofs only [go_sem])
      rw [td107] at h
      refine ⟨_, h, ?_⟩
      constructor
      · intro h
        simp only [Bool.and_eq_true, decide_eq_true_eq] at h
        rw [show a = b from Prod.ext h.1 h.2]
      · intro h
        rw [kN_inj _ _ h]; simp
    cases es with
    | nil => rfl
    | cons e es =>
      obtain ⟨k', hk'⟩ := hes e (by simp)
      have : Instr.findNow (.struct fields) (kN k) (e :: es) 0 = none := by
        unfold Instr.findNow
        rw [hk']; rfl
      rw [this]
      have := findAsking_mfind (P := Pr) (kt := 107) (S := SN) (w := w) heq ⟨k, rfl⟩ (e :: es) 0 hes
      rw [this]
      congr 1
      cases mfind ((e :: es).map fun e => (e.key, e.val)) (kN k) <;> simp
end Go.Proofs.Ytbpobdlahighoaa.Sx
/- Indexes: collect for ports, channels, and ports by their names. -/
namespace Go.Proofs.Ytbpobdlahighoaa.Sx
open Go
set_option linter.unusedVariables false
set_option linter.unusedSimpArgs false
set_option maxRecDepth 100000

theorem t_ptid (p : Prt) : TriF Pr 65 [.agg (ePrt p)] [] [] (.v (.int .u16 p.id)) [] := by
  refine tri_fn Try.f65 [] [1] [] 1000 (by kernel_rfl) (by kernel_rfl) (by kernel_rfl) (by kernel_rfl) (by kernel_rfl) (by kernel_rfl) (Nat.le_of_ble_eq_true rfl) ?_
  simp -implicitDefEqProofs only [go_sem, Try.f65, ePrt]
  exact ret0 rfl (by simp -implicitDefEqProofs only [go_sem])
theorem t_collT (xs : List Prt) (hl : xs.length ≤ 1048576) (v : Value) : TriF Pr 64 [.ro 6 ePrt xs v, .fn 65 [] [], .fn 63 [.h 0] []] [.mp SU (kvU [])] [] (.v (.int .i64 (collF (xs.map (·.id)) xs.length))) [.mp SU (kvU (collM (xs.map (·.id)) xs.length))] := by
  refine tri_fn Try.f64 [] [] [] 1000 (by kernel_rfl) (by kernel_rfl) (by kernel_rfl) (by kernel_rfl) (by kernel_rfl) (by kernel_rfl) (Nat.le_of_ble_eq_true rfl) ?_
  simp -implicitDefEqProofs only [go_sem, Try.f64]
  refine loopR (fun i => i ≤ xs.length) [0, 1, 2, 10, 11] (fun i => [(12, .v (.int .i64 i)), (7, .v (.int .i64 (collF (xs.map (·.id)) i)))]) (fun i => [(0, .mp SU (kvU (collM (xs.map (·.id)) i)))]) [] (fun i => xs.length - i) 0 (by omega) ⟨rfl, rfl, trivial⟩ ⟨rfl, trivial⟩ (fun _ h => h) (fun i => rfl) (fun i => rfl) ?_
  intro i hi E hE
  by_cases hlt : (i : Int) < xs.length
  · obtain ⟨y, hy⟩ := get_lt hlt
    simp -implicitDefEqProofs only [go_sem, hlt, encAt_some hy, ePrt]
    refine ⟨by omega, call0 (t_ptid y) rfl rfl ?_⟩
    simp -implicitDefEqProofs only [go_sem]
    refine callS [0] [] (t_addU (collM (xs.map (·.id)) i) y.id i) (by simp) (by simp -implicitDefEqProofs only [go_sem]; simp) (fun ρ => rfl) (fun ρ => rfl) ?_
    rintro r post ⟨rfl, rfl⟩
    have hids : (xs.map (·.id))[i]? = some y.id := by rw [List.getElem?_map, hy]; rfl
    have hM : collM (xs.map (·.id)) (i + 1) = aadd (collM (xs.map (·.id)) i) y.id i := by simp only [collM, hids]
    have hF : collF (xs.map (·.id)) (i + 1) = if (aget (collM (xs.map (·.id)) i) y.id).isNone then collF (xs.map (·.id)) i else if collF (xs.map (·.id)) i < 0 then (i : Int) else collF (xs.map (·.id)) i := by simp only [collF, hids]
    simp -implicitDefEqProofs only [go_sem]
    refine ⟨fun h1 => ⟨fun h2 => ⟨inI64_nat hi hl, hE _ (i + 1) (by omega) (by omega) ⟨rfl, ?_, rfl, rfl, rfl, rfl, rfl, trivial⟩ ⟨?_, trivial⟩ (fun _ h => h)⟩, fun h2 => ⟨inI64_nat hi hl, hE _ (i + 1) (by omega) (by omega) ⟨rfl, ?_, rfl, rfl, rfl, rfl, rfl, trivial⟩ ⟨?_, trivial⟩ (fun _ h => h)⟩⟩,
      fun h1 => ⟨inI64_nat hi hl, hE _ (i + 1) (by omega) (by omega) ⟨rfl, ?_, rfl, rfl, rfl, rfl, rfl, trivial⟩ ⟨?_, trivial⟩ (fun _ h => h)⟩⟩
    · have h1' : ¬ (aget (collM (xs.map (·.id)) i) y.id).isNone = true := fun h => by rw [h] at h1; cases h1
      rw [hF, if_neg h1', if_pos (by simpa using h2)]; rfl
    · rw [hM]; rfl
    · have h1' : ¬ (aget (collM (xs.map (·.id)) i) y.id).isNone = true := fun h => by rw [h] at h1; cases h1
      rw [hF, if_neg h1', if_neg (by simpa using h2)]; rfl
    · rw [hM]; rfl
    · have h1' : (aget (collM (xs.map (·.id)) i) y.id).isNone = true := by cases h : (aget (collM (xs.map (·.id)) i) y.id).isNone <;> rw [h] at h1 <;> first | rfl | cases h1
      rw [hF, if_pos h1']; rfl
    · rw [hM]; rfl
  · simp -implicitDefEqProofs only [go_sem, hlt]
    have : i = xs.length := by omega
    subst this
    refine retS [0] (.v (.int .i64 (collF (xs.map (·.id)) xs.length))) [.mp SU (kvU (collM (xs.map (·.id)) xs.length))] ?_
    simp -implicitDefEqProofs only [go_sem]

theorem t_chid (p : Chan) : TriF Pr 67 [.agg (eChan p)] [] [] (.v (.int .u16 p.id)) [] := by
  refine tri_fn Try.f67 [] [1] [] 1000 (by kernel_rfl) (by kernel_rfl) (by kernel_rfl) (by kernel_rfl) (by kernel_rfl) (by kernel_rfl) (Nat.le_of_ble_eq_true rfl) ?_
  simp -implicitDefEqProofs only [go_sem, Try.f67, eChan]
  exact ret0 rfl (by simp -implicitDefEqProofs only [go_sem])
theorem t_collC (xs : List Chan) (hl : xs.length ≤ 1048576) (v : Value) : TriF Pr 66 [.ro 3 eChan xs v, .fn 67 [] [], .fn 63 [.h 0] []] [.mp SU (kvU [])] [] (.v (.int .i64 (collF (xs.map (·.id)) xs.length))) [.mp SU (kvU (collM (xs.map (·.id)) xs.length))] := by
  refine tri_fn Try.f66 [] [] [] 1000 (by kernel_rfl) (by kernel_rfl) (by kernel_rfl) (by kernel_rfl) (by kernel_rfl) (by kernel_rfl) (Nat.le_of_ble_eq_true rfl) ?_
  simp -implicitDefEqProofs only [go_sem, Try.f66]
  refine loopR (fun i => i ≤ xs.length) [0, 1, 2, 10, 11] (fun i => [(12, .v (.int .i64 i)), (7, .v (.int .i64 (collF (xs.map (·.id)) i)))]) (fun i => [(0, .mp SU (kvU (collM (xs.map (·.id)) i)))]) [] (fun i => xs.length - i) 0 (by omega) ⟨rfl, rfl, trivial⟩ ⟨rfl, trivial⟩ (fun _ h => h) (fun i => rfl) (fun i => rfl) ?_
  intro i hi E hE
  by_cases hlt : (i : Int) < xs.length
  · obtain ⟨y, hy⟩ := get_lt hlt
    simp -implicitDefEqProofs only [go_sem, hlt, encAt_some hy, eChan]
    refine ⟨by omega, call0 (t_chid y) rfl rfl ?_⟩
    simp -implicitDefEqProofs only [go_sem]
    refine callS [0] [] (t_addU (collM (xs.map (·.id)) i) y.id i) (by simp) (by simp -implicitDefEqProofs only [go_sem]; simp) (fun ρ => rfl) (fun ρ => rfl) ?_
    rintro r post ⟨rfl, rfl⟩
    have hids : (xs.map (·.id))[i]? = some y.id := by rw [List.getElem?_map, hy]; rfl
    have hM : collM (xs.map (·.id)) (i + 1) = aadd (collM (xs.map (·.id)) i) y.id i := by simp only [collM, hids]
    have hF : collF (xs.map (·.id)) (i + 1) = if (aget (collM (xs.map (·.id)) i) y.id).isNone then collF (xs.map (·.id)) i else if collF (xs.map (·.id)) i < 0 then (i : Int) else collF (xs.map (·.id)) i := by simp only [collF, hids]
    simp -implicitDefEqProofs only [go_sem]
    refine ⟨fun h1 => ⟨fun h2 => ⟨inI64_nat hi hl, hE _ (i + 1) (by omega) (by omega) ⟨rfl, ?_, rfl, rfl, rfl, rfl, rfl, trivial⟩ ⟨?_, trivial⟩ (fun _ h => h)⟩, fun h2 => ⟨inI64_nat hi hl, hE _ (i + 1) (by omega) (by omega) ⟨rfl, ?_, rfl, rfl, rfl, rfl, rfl, trivial⟩ ⟨?_, trivial⟩ (fun _ h => h)⟩⟩,
      fun h1 => ⟨inI64_nat hi hl, hE _ (i + 1) (by omega) (by omega) ⟨rfl, ?_, rfl, rfl, rfl, rfl, rfl, trivial⟩ ⟨?_, trivial⟩ (fun _ h => h)⟩⟩
    · have h1' : ¬ (aget (collM (xs.map (·.id)) i) y.id).isNone = true := fun h => by rw [h] at h1; cases h1
      rw [hF, if_neg h1', if_pos (by simpa using h2)]; rfl
    · rw [hM]; rfl
    · have h1' : ¬ (aget (collM (xs.map (·.id)) i) y.id).isNone = true := fun h => by rw [h] at h1; cases h1
      rw [hF, if_neg h1', if_neg (by simpa using h2)]; rfl
    · rw [hM]; rfl
    · have h1' : (aget (collM (xs.map (·.id)) i) y.id).isNone = true := by cases h : (aget (collM (xs.map (·.id)) i) y.id).isNone <;> rw [h] at h1 <;> first | rfl | cases h1
      rw [hF, if_pos h1']; rfl
    · rw [hM]; rfl
  · simp -implicitDefEqProofs only [go_sem, hlt]
    have : i = xs.length := by omega
    subst this
    refine retS [0] (.v (.int .i64 (collF (xs.map (·.id)) xs.length))) [.mp SU (kvU (collM (xs.map (·.id)) xs.length))] ?_
    simp -implicitDefEqProofs only [go_sem]

@[go_sem] theorem snT {k : Int} {s : ByteArray} : SN (.agg #[.int .u16 k, .string s]) = True := eq_true ⟨(k, s), rfl⟩
@[go_sem] theorem goodNT : KeyGood Pr 107 SN = True := eq_true goodN
abbrev kvN (l : List ((Int × ByteArray) × Nat)) : List (Value × Value) := kvOf kN gI l
/-- places[named].add -/
theorem t_addN (l : List ((Int × ByteArray) × Nat)) (k : Int × ByteArray) (i : Nat) : TriF Pr 70 [.h 0, .agg [.v (.int .u16 k.1), .v (.string k.2)], .v (.int .i64 i)] [.mp SN (kvN l)] [] (.v (.bool (aget l k).isNone)) [.mp SN (kvN (aadd l k i))] := by
  refine tri_fn Try.f70 [] [] [] 1000 (by kernel_rfl) (by kernel_rfl) (by kernel_rfl) (by kernel_rfl) (by kernel_rfl) (by kernel_rfl) (Nat.le_of_ble_eq_true rfl) ?_
  have hm := mget_kv kN_inj gI l k
  cases ha : aget l k with
  | some j =>
    rw [ha, Option.map_some, kN] at hm
    simp -implicitDefEqProofs only [go_sem, Try.f70, hm]
    refine retS [0] (.v (.bool false)) [.mp SN (kvN l)] ?_
    simp -implicitDefEqProofs only [go_sem, aadd, ha]
    rfl
  | none =>
    rw [ha, Option.map_none, kN] at hm
    simp -implicitDefEqProofs only [go_sem, Try.f70, hm]
    refine retS [0] (.v (.bool true)) [.mp SN (kvN (aset l k i))] ?_
    simp -implicitDefEqProofs only [go_sem, aadd, ha]
    exact ⟨rfl, congrArg _ (mset_kv kN_inj gI l k i)⟩
theorem t_ptnm (p : Prt) : TriF Pr 69 [.agg (ePrt p)] [] [] (.agg [.v (.int .u16 p.part), .v (.string p.name)]) [] := by
  refine tri_fn Try.f69 [] [1] [] 1000 (by kernel_rfl) (by kernel_rfl) (by kernel_rfl) (by kernel_rfl) (by kernel_rfl) (by kernel_rfl) (Nat.le_of_ble_eq_true rfl) ?_
  simp -implicitDefEqProofs only [go_sem, Try.f69, ePrt]
  exact ret0 rfl (by simp -implicitDefEqProofs only [go_sem])
def nmK (p : Prt) : Int × ByteArray := (p.part, p.name)
theorem t_collN (xs : List Prt) (hl : xs.length ≤ 1048576) (v : Value) : TriF Pr 68 [.ro 6 ePrt xs v, .fn 69 [] [], .fn 70 [.h 0] []] [.mp SN (kvN [])] [] (.v (.int .i64 (collF (xs.map nmK) xs.length))) [.mp SN (kvN (collM (xs.map nmK) xs.length))] := by
  refine tri_fn Try.f68 [] [] [] 1000 (by kernel_rfl) (by kernel_rfl) (by kernel_rfl) (by kernel_rfl) (by kernel_rfl) (by kernel_rfl) (Nat.le_of_ble_eq_true rfl) ?_
  simp -implicitDefEqProofs only [go_sem, Try.f68]
  refine loopR (fun i => i ≤ xs.length) [0, 1, 2, 10, 11] (fun i => [(12, .v (.int .i64 i)), (7, .v (.int .i64 (collF (xs.map nmK) i)))]) (fun i => [(0, .mp SN (kvN (collM (xs.map nmK) i)))]) [] (fun i => xs.length - i) 0 (by omega) ⟨rfl, rfl, trivial⟩ ⟨rfl, trivial⟩ (fun _ h => h) (fun i => rfl) (fun i => rfl) ?_
  intro i hi E hE
  by_cases hlt : (i : Int) < xs.length
  · obtain ⟨y, hy⟩ := get_lt hlt
    simp -implicitDefEqProofs only [go_sem, hlt, encAt_some hy, ePrt]
    refine ⟨by omega, call0 (t_ptnm y) rfl rfl ?_⟩
    simp -implicitDefEqProofs only [go_sem]
    refine callS [0] [] (t_addN (collM (xs.map nmK) i) (nmK y) i) (by simp) (by simp -implicitDefEqProofs only [go_sem]; simp) (fun ρ => rfl) (fun ρ => rfl) ?_
    rintro r post ⟨rfl, rfl⟩
    have hids : (xs.map nmK)[i]? = some (nmK y) := by rw [List.getElem?_map, hy]; rfl
    have hM : collM (xs.map nmK) (i + 1) = aadd (collM (xs.map nmK) i) (nmK y) i := by simp only [collM, hids]
    have hF : collF (xs.map nmK) (i + 1) = if (aget (collM (xs.map nmK) i) (nmK y)).isNone then collF (xs.map nmK) i else if collF (xs.map nmK) i < 0 then (i : Int) else collF (xs.map nmK) i := by simp only [collF, hids]
    simp -implicitDefEqProofs only [go_sem]
    refine ⟨fun h1 => ⟨fun h2 => ⟨inI64_nat hi hl, hE _ (i + 1) (by omega) (by omega) ⟨rfl, ?_, rfl, rfl, rfl, rfl, rfl, trivial⟩ ⟨?_, trivial⟩ (fun _ h => h)⟩, fun h2 => ⟨inI64_nat hi hl, hE _ (i + 1) (by omega) (by omega) ⟨rfl, ?_, rfl, rfl, rfl, rfl, rfl, trivial⟩ ⟨?_, trivial⟩ (fun _ h => h)⟩⟩,
      fun h1 => ⟨inI64_nat hi hl, hE _ (i + 1) (by omega) (by omega) ⟨rfl, ?_, rfl, rfl, rfl, rfl, rfl, trivial⟩ ⟨?_, trivial⟩ (fun _ h => h)⟩⟩
    · have h1' : ¬ (aget (collM (xs.map nmK) i) (nmK y)).isNone = true := fun h => by rw [h] at h1; cases h1
      rw [hF, if_neg h1', if_pos (by simpa using h2)]; rfl
    · rw [hM]; rfl
    · have h1' : ¬ (aget (collM (xs.map nmK) i) (nmK y)).isNone = true := fun h => by rw [h] at h1; cases h1
      rw [hF, if_neg h1', if_neg (by simpa using h2)]; rfl
    · rw [hM]; rfl
    · have h1' : (aget (collM (xs.map nmK) i) (nmK y)).isNone = true := by cases h : (aget (collM (xs.map nmK) i) (nmK y)).isNone <;> rw [h] at h1 <;> first | rfl | cases h1
      rw [hF, if_pos h1']; rfl
    · rw [hM]; rfl
  · simp -implicitDefEqProofs only [go_sem, hlt]
    have : i = xs.length := by omega
    subst this
    refine retS [0] (.v (.int .i64 (collF (xs.map nmK) xs.length))) [.mp SN (kvN (collM (xs.map nmK) xs.length))] ?_
    simp -implicitDefEqProofs only [go_sem]

end Go.Proofs.Ytbpobdlahighoaa.Sx
