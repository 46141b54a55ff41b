/- Indexes: collect for ports, channels, and ports by their names. -/
import Derived.Test.YtbpobdlahighoaaSxX1
namespace Go.Proofs.Ytbpobdlahighoaa.Sx
open Go
set_option linter.unusedVariables false
set_option linter.unusedSimpArgs false
set_option maxRecDepth 100000

theorem t_ptid (p : Prt) : TriF Pr 65 [.agg (ePrt p)] [] [] (.v (.int .u16 p.id)) [] := by
  refine tri_fn Try.f65 [] [1] [] 1000 (by kernel_rfl) (by kernel_rfl) (by kernel_rfl) (by kernel_rfl) (by kernel_rfl) (by kernel_rfl) (Nat.le_of_ble_eq_true rfl) ?_
  simp -implicitDefEqProofs only [go_sem, Try.f65, ePrt]
  exact ret0 rfl (by simp -implicitDefEqProofs only [go_sem])
theorem t_collT (xs : List Prt) (hl : xs.length ≤ 1048576) (v : Value) : TriF Pr 64 [.ro 6 ePrt xs v, .fn 65 [] [], .fn 63 [.h 0] []] [.mp SU (kvU [])] [] (.v (.int .i64 (collF (xs.map (·.id)) xs.length))) [.mp SU (kvU (collM (xs.map (·.id)) xs.length))] := by
  refine tri_fn Try.f64 [] [] [] 1000 (by kernel_rfl) (by kernel_rfl) (by kernel_rfl) (by kernel_rfl) (by kernel_rfl) (by kernel_rfl) (Nat.le_of_ble_eq_true rfl) ?_
  simp -implicitDefEqProofs only [go_sem, Try.f64]
  refine loopR (fun i => i ≤ xs.length) [0, 1, 2, 10, 11] (fun i => [(12, .v (.int .i64 i)), (7, .v (.int .i64 (collF (xs.map (·.id)) i)))]) (fun i => [(0, .mp SU (kvU (collM (xs.map (·.id)) i)))]) [] (fun i => xs.length - i) 0 (by omega) ⟨rfl, rfl, trivial⟩ ⟨rfl, trivial⟩ (fun _ h => h) (fun i => rfl) (fun i => rfl) ?_
  intro i hi E hE
  by_cases hlt : (i : Int) < xs.length
  · obtain ⟨y, hy⟩ := get_lt hlt
    simp -implicitDefEqProofs only [go_sem, hlt, encAt_some hy, ePrt]
    refine ⟨by omega, call0 (t_ptid y) rfl rfl ?_⟩
    simp -implicitDefEqProofs only [go_sem]
    refine callS [0] [] (t_addU (collM (xs.map (·.id)) i) y.id i) (by simp) (by simp -implicitDefEqProofs only [go_sem]; simp) (fun ρ => rfl) (fun ρ => rfl) ?_
    rintro r post ⟨rfl, rfl⟩
    have hids : (xs.map (·.id))[i]? = some y.id := by rw [List.getElem?_map, hy]; rfl
    have hM : collM (xs.map (·.id)) (i + 1) = aadd (collM (xs.map (·.id)) i) y.id i := by simp only [collM, hids]
    have hF : collF (xs.map (·.id)) (i + 1) = if (aget (collM (xs.map (·.id)) i) y.id).isNone then collF (xs.map (·.id)) i else if collF (xs.map (·.id)) i < 0 then (i : Int) else collF (xs.map (·.id)) i := by simp only [collF, hids]
    simp -implicitDefEqProofs only [go_sem]
    refine ⟨fun h1 => ⟨fun h2 => ⟨inI64_nat hi hl, hE _ (i + 1) (by omega) (by omega) ⟨rfl, ?_, rfl, rfl, rfl, rfl, rfl, trivial⟩ ⟨?_, trivial⟩ (fun _ h => h)⟩, fun h2 => ⟨inI64_nat hi hl, hE _ (i + 1) (by omega) (by omega) ⟨rfl, ?_, rfl, rfl, rfl, rfl, rfl, trivial⟩ ⟨?_, trivial⟩ (fun _ h => h)⟩⟩,
      fun h1 => ⟨inI64_nat hi hl, hE _ (i + 1) (by omega) (by omega) ⟨rfl, ?_, rfl, rfl, rfl, rfl, rfl, trivial⟩ ⟨?_, trivial⟩ (fun _ h => h)⟩⟩
    · have h1' : ¬ (aget (collM (xs.map (·.id)) i) y.id).isNone = true := fun h => by rw [h] at h1; cases h1
      rw [hF, if_neg h1', if_pos (by simpa using h2)]; rfl
    · rw [hM]; rfl
    · have h1' : ¬ (aget (collM (xs.map (·.id)) i) y.id).isNone = true := fun h => by rw [h] at h1; cases h1
      rw [hF, if_neg h1', if_neg (by simpa using h2)]; rfl
    · rw [hM]; rfl
    · have h1' : (aget (collM (xs.map (·.id)) i) y.id).isNone = true := by cases h : (aget (collM (xs.map (·.id)) i) y.id).isNone <;> rw [h] at h1 <;> first | rfl | cases h1
      rw [hF, if_pos h1']; rfl
    · rw [hM]; rfl
  · simp -implicitDefEqProofs only [go_sem, hlt]
    have : i = xs.length := by omega
    subst this
    refine retS [0] (.v (.int .i64 (collF (xs.map (·.id)) xs.length))) [.mp SU (kvU (collM (xs.map (·.id)) xs.length))] ?_
    simp -implicitDefEqProofs only [go_sem]

theorem t_chid (p : Chan) : TriF Pr 67 [.agg (eChan p)] [] [] (.v (.int .u16 p.id)) [] := by
  refine tri_fn Try.f67 [] [1] [] 1000 (by kernel_rfl) (by kernel_rfl) (by kernel_rfl) (by kernel_rfl) (by kernel_rfl) (by kernel_rfl) (Nat.le_of_ble_eq_true rfl) ?_
  simp -implicitDefEqProofs only [go_sem, Try.f67, eChan]
  exact ret0 rfl (by simp -implicitDefEqProofs only [go_sem])
theorem t_collC (xs : List Chan) (hl : xs.length ≤ 1048576) (v : Value) : TriF Pr 66 [.ro 3 eChan xs v, .fn 67 [] [], .fn 63 [.h 0] []] [.mp SU (kvU [])] [] (.v (.int .i64 (collF (xs.map (·.id)) xs.length))) [.mp SU (kvU (collM (xs.map (·.id)) xs.length))] := by
  refine tri_fn Try.f66 [] [] [] 1000 (by kernel_rfl) (by kernel_rfl) (by kernel_rfl) (by kernel_rfl) (by kernel_rfl) (by kernel_rfl) (Nat.le_of_ble_eq_true rfl) ?_
  simp -implicitDefEqProofs only [go_sem, Try.f66]
  refine loopR (fun i => i ≤ xs.length) [0, 1, 2, 10, 11] (fun i => [(12, .v (.int .i64 i)), (7, .v (.int .i64 (collF (xs.map (·.id)) i)))]) (fun i => [(0, .mp SU (kvU (collM (xs.map (·.id)) i)))]) [] (fun i => xs.length - i) 0 (by omega) ⟨rfl, rfl, trivial⟩ ⟨rfl, trivial⟩ (fun _ h => h) (fun i => rfl) (fun i => rfl) ?_
  intro i hi E hE
  by_cases hlt : (i : Int) < xs.length
  · obtain ⟨y, hy⟩ := get_lt hlt
    simp -implicitDefEqProofs only [go_sem, hlt, encAt_some hy, eChan]
    refine ⟨by omega, call0 (t_chid y) rfl rfl ?_⟩
    simp -implicitDefEqProofs only [go_sem]
    refine callS [0] [] (t_addU (collM (xs.map (·.id)) i) y.id i) (by simp) (by simp -implicitDefEqProofs only [go_sem]; simp) (fun ρ => rfl) (fun ρ => rfl) ?_
    rintro r post ⟨rfl, rfl⟩
    have hids : (xs.map (·.id))[i]? = some y.id := by rw [List.getElem?_map, hy]; rfl
    have hM : collM (xs.map (·.id)) (i + 1) = aadd (collM (xs.map (·.id)) i) y.id i := by simp only [collM, hids]
    have hF : collF (xs.map (·.id)) (i + 1) = if (aget (collM (xs.map (·.id)) i) y.id).isNone then collF (xs.map (·.id)) i else if collF (xs.map (·.id)) i < 0 then (i : Int) else collF (xs.map (·.id)) i := by simp only [collF, hids]
    simp -implicitDefEqProofs only [go_sem]
    refine ⟨fun h1 => ⟨fun h2 => ⟨inI64_nat hi hl, hE _ (i + 1) (by omega) (by omega) ⟨rfl, ?_, rfl, rfl, rfl, rfl, rfl, trivial⟩ ⟨?_, trivial⟩ (fun _ h => h)⟩, fun h2 => ⟨inI64_nat hi hl, hE _ (i + 1) (by omega) (by omega) ⟨rfl, ?_, rfl, rfl, rfl, rfl, rfl, trivial⟩ ⟨?_, trivial⟩ (fun _ h => h)⟩⟩,
      fun h1 => ⟨inI64_nat hi hl, hE _ (i + 1) (by omega) (by omega) ⟨rfl, ?_, rfl, rfl, rfl, rfl, rfl, trivial⟩ ⟨?_, trivial⟩ (fun _ h => h)⟩⟩
    · have h1' : ¬ (aget (collM (xs.map (·.id)) i) y.id).isNone = true := fun h => by rw [h] at h1; cases h1
      rw [hF, if_neg h1', if_pos (by simpa using h2)]; rfl
    · rw [hM]; rfl
    · have h1' : ¬ (aget (collM (xs.map (·.id)) i) y.id).isNone = true := fun h => by rw [h] at h1; cases h1
      rw [hF, if_neg h1', if_neg (by simpa using h2)]; rfl
    · rw [hM]; rfl
    · have h1' : (aget (collM (xs.map (·.id)) i) y.id).isNone = true := by cases h : (aget (collM (xs.map (·.id)) i) y.id).isNone <;> rw [h] at h1 <;> first | rfl | cases h1
      rw [hF, if_pos h1']; rfl
    · rw [hM]; rfl
  · simp -implicitDefEqProofs only [go_sem, hlt]
    have : i = xs.length := by omega
    subst this
    refine retS [0] (.v (.int .i64 (collF (xs.map (·.id)) xs.length))) [.mp SU (kvU (collM (xs.map (·.id)) xs.length))] ?_
    simp -implicitDefEqProofs only [go_sem]

@[go_sem] theorem snT {k : Int} {s : ByteArray} : SN (.agg #[.int .u16 k, .string s]) = True := eq_true ⟨(k, s), rfl⟩
@[go_sem] theorem goodNT : KeyGood Pr 107 SN = True := eq_true goodN
abbrev kvN (l : List ((Int × ByteArray) × Nat)) : List (Value × Value) := kvOf kN gI l
/-- places[named].add -/
theorem t_addN (l : List ((Int × ByteArray) × Nat)) (k : Int × ByteArray) (i : Nat) : TriF Pr 70 [.h 0, .agg [.v (.int .u16 k.1), .v (.string k.2)], .v (.int .i64 i)] [.mp SN (kvN l)] [] (.v (.bool (aget l k).isNone)) [.mp SN (kvN (aadd l k i))] := by
  refine tri_fn Try.f70 [] [] [] 1000 (by kernel_rfl) (by kernel_rfl) (by kernel_rfl) (by kernel_rfl) (by kernel_rfl) (by kernel_rfl) (Nat.le_of_ble_eq_true rfl) ?_
  have hm := mget_kv kN_inj gI l k
  cases ha : aget l k with
  | some j =>
    rw [ha, Option.map_some, kN] at hm
    simp -implicitDefEqProofs only [go_sem, Try.f70, hm]
    refine retS [0] (.v (.bool false)) [.mp SN (kvN l)] ?_
    simp -implicitDefEqProofs only [go_sem, aadd, ha]
    rfl
  | none =>
    rw [ha, Option.map_none, kN] at hm
    simp -implicitDefEqProofs only [go_sem, Try.f70, hm]
    refine retS [0] (.v (.bool true)) [.mp SN (kvN (aset l k i))] ?_
    simp -implicitDefEqProofs only [go_sem, aadd, ha]
    exact ⟨rfl, congrArg _ (mset_kv kN_inj gI l k i)⟩
theorem t_ptnm (p : Prt) : TriF Pr 69 [.agg (ePrt p)] [] [] (.agg [.v (.int .u16 p.part), .v (.string p.name)]) [] := by
  refine tri_fn Try.f69 [] [1] [] 1000 (by kernel_rfl) (by kernel_rfl) (by kernel_rfl) (by kernel_rfl) (by kernel_rfl) (by kernel_rfl) (Nat.le_of_ble_eq_true rfl) ?_
  simp -implicitDefEqProofs only [go_sem, Try.f69, ePrt]
  exact ret0 rfl (by simp -implicitDefEqProofs only [go_sem])
def nmK (p : Prt) : Int × ByteArray := (p.part, p.name)
theorem t_collN (xs : List Prt) (hl : xs.length ≤ 1048576) (v : Value) : TriF Pr 68 [.ro 6 ePrt xs v, .fn 69 [] [], .fn 70 [.h 0] []] [.mp SN (kvN [])] [] (.v (.int .i64 (collF (xs.map nmK) xs.length))) [.mp SN (kvN (collM (xs.map nmK) xs.length))] := by
  refine tri_fn Try.f68 [] [] [] 1000 (by kernel_rfl) (by kernel_rfl) (by kernel_rfl) (by kernel_rfl) (by kernel_rfl) (by kernel_rfl) (Nat.le_of_ble_eq_true rfl) ?_
  simp -implicitDefEqProofs only [go_sem, Try.f68]
  refine loopR (fun i => i ≤ xs.length) [0, 1, 2, 10, 11] (fun i => [(12, .v (.int .i64 i)), (7, .v (.int .i64 (collF (xs.map nmK) i)))]) (fun i => [(0, .mp SN (kvN (collM (xs.map nmK) i)))]) [] (fun i => xs.length - i) 0 (by omega) ⟨rfl, rfl, trivial⟩ ⟨rfl, trivial⟩ (fun _ h => h) (fun i => rfl) (fun i => rfl) ?_
  intro i hi E hE
  by_cases hlt : (i : Int) < xs.length
  · obtain ⟨y, hy⟩ := get_lt hlt
    simp -implicitDefEqProofs only [go_sem, hlt, encAt_some hy, ePrt]
    refine ⟨by omega, call0 (t_ptnm y) rfl rfl ?_⟩
    simp -implicitDefEqProofs only [go_sem]
    refine callS [0] [] (t_addN (collM (xs.map nmK) i) (nmK y) i) (by simp) (by simp -implicitDefEqProofs only [go_sem]; simp) (fun ρ => rfl) (fun ρ => rfl) ?_
    rintro r post ⟨rfl, rfl⟩
    have hids : (xs.map nmK)[i]? = some (nmK y) := by rw [List.getElem?_map, hy]; rfl
    have hM : collM (xs.map nmK) (i + 1) = aadd (collM (xs.map nmK) i) (nmK y) i := by simp only [collM, hids]
    have hF : collF (xs.map nmK) (i + 1) = if (aget (collM (xs.map nmK) i) (nmK y)).isNone then collF (xs.map nmK) i else if collF (xs.map nmK) i < 0 then (i : Int) else collF (xs.map nmK) i := by simp only [collF, hids]
    simp -implicitDefEqProofs only [go_sem]
    refine ⟨fun h1 => ⟨fun h2 => ⟨inI64_nat hi hl, hE _ (i + 1) (by omega) (by omega) ⟨rfl, ?_, rfl, rfl, rfl, rfl, rfl, trivial⟩ ⟨?_, trivial⟩ (fun _ h => h)⟩, fun h2 => ⟨inI64_nat hi hl, hE _ (i + 1) (by omega) (by omega) ⟨rfl, ?_, rfl, rfl, rfl, rfl, rfl, trivial⟩ ⟨?_, trivial⟩ (fun _ h => h)⟩⟩,
      fun h1 => ⟨inI64_nat hi hl, hE _ (i + 1) (by omega) (by omega) ⟨rfl, ?_, rfl, rfl, rfl, rfl, rfl, trivial⟩ ⟨?_, trivial⟩ (fun _ h => h)⟩⟩
    · have h1' : ¬ (aget (collM (xs.map nmK) i) (nmK y)).isNone = true := fun h => by rw [h] at h1; cases h1
      rw [hF, if_neg h1', if_pos (by simpa using h2)]; rfl
    · rw [hM]; rfl
    · have h1' : ¬ (aget (collM (xs.map nmK) i) (nmK y)).isNone = true := fun h => by rw [h] at h1; cases h1
      rw [hF, if_neg h1', if_neg (by simpa using h2)]; rfl
    · rw [hM]; rfl
    · have h1' : (aget (collM (xs.map nmK) i) (nmK y)).isNone = true := by cases h : (aget (collM (xs.map nmK) i) (nmK y)).isNone <;> rw [h] at h1 <;> first | rfl | cases h1
      rw [hF, if_pos h1']; rfl
    · rw [hM]; rfl
  · simp -implicitDefEqProofs only [go_sem, hlt]
    have : i = xs.length := by omega
    subst this
    refine retS [0] (.v (.int .i64 (collF (xs.map nmK) xs.length))) [.mp SN (kvN (collM (xs.map nmK) xs.length))] ?_
    simp -implicitDefEqProofs only [go_sem]

end Go.Proofs.Ytbpobdlahighoaa.Sx
