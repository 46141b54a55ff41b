/- The index of a configuration: New, Partition, Port. -/
import Derived.Test.YtbpobdlahighoaaSxX1
namespace Go.Proofs.Ytbpobdlahighoaa.Sx
open Go
set_option linter.unusedVariables false
set_option linter.unusedSimpArgs false
set_option maxRecDepth 100000

def ixP (c : Cfg) : List (Int × Nat) := collM (c.parts.map (·.id)) c.parts.length
def ixT (c : Cfg) : List (Int × Nat) := collM (c.ports.map (·.id)) c.ports.length
def ixC (c : Cfg) : List (Int × Nat) := collM (c.chans.map (·.id)) c.chans.length
def ixN (c : Cfg) : List ((Int × ByteArray) × Nat) := collM (c.ports.map nmK) c.ports.length
def sIdx (c : Cfg) : SV := .rop [.rom SU (kvU (ixP c)), .rom SU (kvU (ixT c)), .rom SU (kvU (ixC c)), .rom SN (kvN (ixN c))]
theorem t_new (c : Cfg) (hc : c.ok) : TriF Pr 44 [sCfg c] [] [] (sIdx c) [] := by
  refine tri_fnG Try.f44 [] [1] [] [6] 1000 (by kernel_rfl) (by kernel_rfl) (by kernel_rfl) (by kernel_rfl) (by kernel_rfl) (by kernel_rfl) (Nat.le_of_ble_eq_true rfl) ?_
  simp -implicitDefEqProofs only [go_sem, Try.f44, sCfg, eCfg]
  refine ⟨SU, SU, SU, SN, callS [0] [] (t_collP c.parts hc.parts c.pv) (by simp) (by simp -implicitDefEqProofs only [go_sem]; simp) (fun ρ => rfl) (fun ρ => rfl) ?_⟩
  rintro r post ⟨rfl, rfl⟩
  simp -implicitDefEqProofs only [go_sem]
  refine callS [1] [] (t_collT c.ports hc.ports c.tv) (by simp) (by simp -implicitDefEqProofs only [go_sem]; simp) (fun ρ => rfl) (fun ρ => rfl) ?_
  rintro r post ⟨rfl, rfl⟩
  simp -implicitDefEqProofs only [go_sem]
  refine callS [2] [] (t_collC c.chans hc.chans c.cv) (by simp) (by simp -implicitDefEqProofs only [go_sem]; simp) (fun ρ => rfl) (fun ρ => rfl) ?_
  rintro r post ⟨rfl, rfl⟩
  simp -implicitDefEqProofs only [go_sem]
  refine callS [3] [] (t_collN c.ports hc.ports c.tv) (by simp) (by simp -implicitDefEqProofs only [go_sem]; simp) (fun ρ => rfl) (fun ρ => rfl) ?_
  rintro r post ⟨rfl, rfl⟩
  simp -implicitDefEqProofs only [go_sem]
  refine ⟨[.frz 0, .frz 1, .frz 2, .frz 3, .frz 4], ?_⟩
  simp -implicitDefEqProofs only [go_sem]
  exact ret0 rfl (by simp -implicitDefEqProofs only [go_sem]; rfl)
section
variable {κ α : Type} [DecidableEq κ]
theorem aget_aset : ∀ (l : List (κ × α)) (k k' : κ) (v : α), aget (aset l k v) k' = if k = k' then some v else aget l k'
  | [], k, k', v => rfl
  | p :: l, k, k', v => by
    have ih := aget_aset l k k' v
    unfold aset
    by_cases e : p.1 = k
    · subst e
      rw [if_pos rfl]
      by_cases e2 : p.1 = k'
      · simp [aget, e2]
      · simp [aget, e2]
    · rw [if_neg e]
      simp only [aget, ih]
      by_cases e2 : p.1 = k'
      · subst e2
        rw [if_pos rfl, if_neg (fun h => e h.symm)]
        simp
      · rw [if_neg e2, if_neg e2]
theorem collM_get (ids : List κ) (k : κ) : ∀ n, n ≤ ids.length → aget (collM ids n) k = (ids.take n).findIdx? (fun y => decide (y = k))
  | 0, _ => rfl
  | n + 1, h => by
    have ih := collM_get ids k n (by omega)
    have hn : ids[n]? = some (ids[n]'(by omega)) := List.getElem?_eq_getElem _
    have ht : ids.take (n + 1) = ids.take n ++ [ids[n]'(by omega)] := by rw [List.take_succ_eq_append_getElem]
    have ih' := collM_get ids (ids[n]'(by omega)) n (by omega)
    unfold collM
    rw [ht, List.findIdx?_append, hn]
    simp only []
    unfold aadd
    generalize ids[n]'(by omega) = k' at *
    cases hg : aget (collM ids n) k' with
    | some i =>
      simp only []
      rw [ih]
      by_cases e : k' = k
      · subst e
        rw [← ih', hg]; rfl
      · simp [List.findIdx?_cons, e]
    | none =>
      simp only []
      rw [aget_aset]
      by_cases e : k' = k
      · subst e
        rw [if_pos rfl, ← ih', hg]
        simp [List.findIdx?_cons]
        omega
      · rw [if_neg e, ih]
        simp [List.findIdx?_cons, e]
theorem aix_ix {β : Type} (f : β → κ) (l : List β) (k : κ) : (match aget (collM (l.map f) l.length) k with | some i => (i : Int) | none => -1) = ix (fun y => decide (f y = k)) l := by
  rw [collM_get (l.map f) k l.length (by simp)]
  rw [List.take_of_length_le (by simp), List.findIdx?_map]
  rfl
end
/-- Index.Partition -/
theorem t_ixPart (c : Cfg) (x : Int) : TriF Pr 45 [sIdx c, .v (.int .u16 x)] [] [] (.v (.int .i64 (ix (fun p => decide (p.id = x)) c.parts))) [] := by
  refine tri_fn Try.f45 [] [] [] 1000 (by kernel_rfl) (by kernel_rfl) (by kernel_rfl) (by kernel_rfl) (by kernel_rfl) (by kernel_rfl) (Nat.le_of_ble_eq_true rfl) ?_
  simp -implicitDefEqProofs only [go_sem, Try.f45, sIdx]
  refine call0 (t_findU (ixP c) x) rfl rfl ?_
  simp -implicitDefEqProofs only [go_sem]
  exact ret0 rfl (by simp -implicitDefEqProofs only [go_sem]; rw [← aix_ix (fun p : Part => p.id) c.parts x]; rfl)
/-- Index.Port -/
theorem t_ixPort (c : Cfg) (x : Int) : TriF Pr 48 [sIdx c, .v (.int .u16 x)] [] [] (.v (.int .i64 (ix (fun p => decide (p.id = x)) c.ports))) [] := by
  refine tri_fn Try.f48 [] [] [] 1000 (by kernel_rfl) (by kernel_rfl) (by kernel_rfl) (by kernel_rfl) (by kernel_rfl) (by kernel_rfl) (Nat.le_of_ble_eq_true rfl) ?_
  simp -implicitDefEqProofs only [go_sem, Try.f48, sIdx]
  refine call0 (t_findU (ixT c) x) rfl rfl ?_
  simp -implicitDefEqProofs only [go_sem]
  exact ret0 rfl (by simp -implicitDefEqProofs only [go_sem]; rw [← aix_ix (fun p : Prt => p.id) c.ports x]; rfl)
end Go.Proofs.Ytbpobdlahighoaa.Sx
