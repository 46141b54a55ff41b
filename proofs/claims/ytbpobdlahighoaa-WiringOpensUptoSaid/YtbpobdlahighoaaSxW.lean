/- The reference of layer 18. -/
import Derived.Test.YtbpobdlahighoaaSxV
namespace Go.Proofs.Ytbpobdlahighoaa.Sx
open Go
set_option linter.unusedVariables false
set_option linter.unusedSimpArgs false
set_option maxRecDepth 100000

def fPart (c : Cfg) (id : Int) : Option Part := c.parts.find? fun p => decide (p.id = id)
def fPort (c : Cfg) (id : Int) : Option Prt := c.ports.find? fun p => decide (p.id = id)
def fChan (c : Cfg) (id : Int) : Option Chan := c.chans.find? fun p => decide (p.id = id)
def used (c : Cfg) (n : Nat) (id : Int) : Bool := (c.chans.take n).any fun y => hasP y id
def epR (c : Cfg) (i : Nat) : Int := match c.ports[i]? with
  | some p => if fPart c p.part = none then 19 else if p.size = 0 then 28 else 0
  | none => 0
/-- ref18.Ports -/
theorem t_rPorts (c : Cfg) (hc : c.ok) : TriF Pr 11 [sCfg c] [] [] (.tup [.v (.int .i64 (fe (epR c) c.ports.length).1), .v (.int .i64 (fe (epR c) c.ports.length).2)]) [] := by
  have hl := hc.ports
  refine tri_fn Try.f11 [(4, .op 1 (.op 3 (.op 0 (.ro 2 (.op 4 (.op 5 (.op 6 (.op 7 (.op 8 .nil)))))))))] [1] [] 1000 (by kernel_rfl) (by kernel_rfl) (by kernel_rfl) (by kernel_rfl) (by kernel_rfl) (by kernel_rfl) (Nat.le_of_ble_eq_true rfl) ?_
  simp -implicitDefEqProofs only [go_sem, Try.f11, sCfg, eCfg]
  refine loop0 (fun i => i ≤ c.ports.length ∧ ∀ j, j < i → epR c j = 0) [1] (fun i => [(4, .v (.int .i64 i))]) (fun i => c.ports.length - i) 0 ⟨by omega, by omega⟩ ⟨rfl, trivial⟩ (fun i => rfl) rfl ?_
  rintro i ⟨hi, hx⟩ E hE
  simp -implicitDefEqProofs only [go_sem]
  refine ⟨fun hlt => ?_, fun hge => ?_⟩
  · simp only [decide_eq_true_eq] at hlt
    obtain ⟨y, hy⟩ := get_lt hlt
    simp -implicitDefEqProofs only [go_sem, encAt_some hy, ePrt]
    refine ⟨⟨by omega, hlt⟩, call0 (t_part c hc _) rfl rfl ?_⟩
    rcases ix_find (fun p => decide (p.id = y.part)) c.parts with ⟨h1, h2⟩ | ⟨q, z, h1, hz, hp, h2⟩
    · have e : epR c i = 19 := by simp [epR, hy, fPart, h1]
      simp -implicitDefEqProofs only [go_sem, h2, encAt_some hy, ePrt]
      exact ret0 rfl (by simp -implicitDefEqProofs only [go_sem]; rw [fe_some (by omega) (by rw [e]; decide) hx, e])
    · have hq : ¬ ((q : Int) < 0) := by omega
      simp -implicitDefEqProofs only [go_sem, h2, hq, encAt_some hy, ePrt]
      refine ⟨⟨by omega, hlt⟩, fun h => ?_, fun h => ?_⟩
      · have e : epR c i = 28 := by simp only [decide_eq_true_eq] at h; simp [epR, hy, fPart, h1, h]
        exact ret0 rfl (by simp -implicitDefEqProofs only [go_sem]; rw [fe_some (by omega) (by rw [e]; decide) hx, e])
      · have e : epR c i = 0 := by simp only [decide_eq_false_iff_not] at h; simp [epR, hy, fPart, h1, h]
        exact ⟨inI64_nat hi hl, hE _ (i + 1) ⟨by omega, fe_snoc e hx⟩ (by omega) ⟨rfl, rfl, trivial⟩ trivial (fun _ h => h)⟩
  · simp only [decide_eq_false_iff_not] at hge
    exact ret0 rfl (by simp -implicitDefEqProofs only [go_sem]; rw [fe_none (fun j hj => hx j (by omega))])
def uqP (c : Cfg) (j : Nat) (z : Part) : Bool := !decide (ix (fun p => decide (p.id = z.id)) c.parts < j)
def uqT (c : Cfg) (j : Nat) (z : Prt) : Bool := !decide (ix (fun p => decide (p.id = z.id)) c.ports < j)
def uqC (c : Cfg) (j : Nat) (z : Chan) : Bool := !decide (ix (fun p => decide (p.id = z.id)) c.chans < j)
/-- Whether all identifiers are different. -/
def uniqR (c : Cfg) : Bool := allI (uqP c) c.parts && (allI (uqT c) c.ports && allI (uqC c) c.chans)
/-- ref18.Unique -/
theorem t_unique (c : Cfg) (hc : c.ok) : TriF Pr 30 [sCfg c] [] [] (.v (.bool (uniqR c))) [] := by
  refine tri_fn Try.f30 [(4, .op 1 (.op 3 (.op 8 (.op 0 (.ro 2 (.op 4 (.op 5 (.op 6 (.op 7 (.op 9 .nil)))))))))), (9, .op 1 (.op 3 (.op 8 (.op 0 (.ro 2 (.op 4 (.op 5 (.op 6 (.op 7 (.op 9 .nil)))))))))), (14, .op 1 (.op 3 (.op 8 (.op 0 (.ro 2 (.op 4 (.op 5 (.op 6 (.op 7 (.op 9 .nil))))))))))] [1] [] 1000 (by kernel_rfl) (by kernel_rfl) (by kernel_rfl) (by kernel_rfl) (by kernel_rfl) (by kernel_rfl) (Nat.le_of_ble_eq_true rfl) ?_
  simp -implicitDefEqProofs only [go_sem, Try.f30, sCfg, eCfg]
  have h1 := hc.parts
  refine loop0 (fun i => i ≤ c.parts.length ∧ ∀ j z, j < i → c.parts[j]? = some z → uqP c j z = true) [1] (fun i => [(3, .v (.int .i64 i))]) (fun i => c.parts.length - i) 0 ⟨by omega, by omega⟩ ⟨rfl, trivial⟩ (fun i => rfl) rfl ?_
  rintro i1 ⟨hi, hx1⟩ E hE
  simp -implicitDefEqProofs only [go_sem]
  refine ⟨fun hlt => ?_, fun hge1 => ?_⟩
  · simp only [decide_eq_true_eq] at hlt
    obtain ⟨y, hy⟩ := get_lt hlt
    simp -implicitDefEqProofs only [go_sem, encAt_some hy, ePart]
    refine ⟨⟨by omega, hlt⟩, call0 (t_part c hc _) rfl rfl ?_⟩
    simp -implicitDefEqProofs only [go_sem]
    refine ⟨fun h => ?_, fun h => ?_⟩
    · exact ret0 rfl (by simp -implicitDefEqProofs only [go_sem]; simp [uniqR, allI_false (q := uqP c) hy (by simp only [uqP, uqT, uqC, h, Bool.not_true])])
    · exact ⟨inI64_nat hi h1, hE _ (i1 + 1) ⟨by omega, snocI (q := uqP c) hy (by simp only [uqP, uqT, uqC, h, Bool.not_false]) hx1⟩ (by omega) ⟨rfl, rfl, trivial⟩ trivial (fun _ h => h)⟩
  simp only [decide_eq_false_iff_not] at hge1
  have hall1 := allI_true (q := uqP c) (l := c.parts) (fun j z hj => hx1 j z (by omega))
  clear hE E hi
  have h2 := hc.ports
  refine loop0 (fun i => i ≤ c.ports.length ∧ ∀ j z, j < i → c.ports[j]? = some z → uqT c j z = true) [1] (fun i => [(4, .v (.int .i64 i))]) (fun i => c.ports.length - i) 0 ⟨by omega, by omega⟩ ⟨rfl, trivial⟩ (fun i => rfl) rfl ?_
  rintro i2 ⟨hi, hx2⟩ E hE
  simp -implicitDefEqProofs only [go_sem]
  refine ⟨fun hlt => ?_, fun hge2 => ?_⟩
  · simp only [decide_eq_true_eq] at hlt
    obtain ⟨y, hy⟩ := get_lt hlt
    simp -implicitDefEqProofs only [go_sem, encAt_some hy, ePrt]
    refine ⟨⟨by omega, hlt⟩, call0 (t_port c hc _) rfl rfl ?_⟩
    simp -implicitDefEqProofs only [go_sem]
    refine ⟨fun h => ?_, fun h => ?_⟩
    · exact ret0 rfl (by simp -implicitDefEqProofs only [go_sem]; simp [uniqR, allI_false (q := uqT c) hy (by simp only [uqP, uqT, uqC, h, Bool.not_true])])
    · exact ⟨inI64_nat hi h2, hE _ (i2 + 1) ⟨by omega, snocI (q := uqT c) hy (by simp only [uqP, uqT, uqC, h, Bool.not_false]) hx2⟩ (by omega) ⟨rfl, rfl, trivial⟩ trivial (fun _ h => h)⟩
  simp only [decide_eq_false_iff_not] at hge2
  have hall2 := allI_true (q := uqT c) (l := c.ports) (fun j z hj => hx2 j z (by omega))
  clear hE E hi
  have h3 := hc.chans
  refine loop0 (fun i => i ≤ c.chans.length ∧ ∀ j z, j < i → c.chans[j]? = some z → uqC c j z = true) [1] (fun i => [(5, .v (.int .i64 i))]) (fun i => c.chans.length - i) 0 ⟨by omega, by omega⟩ ⟨rfl, trivial⟩ (fun i => rfl) rfl ?_
  rintro i3 ⟨hi, hx3⟩ E hE
  simp -implicitDefEqProofs only [go_sem]
  refine ⟨fun hlt => ?_, fun hge3 => ?_⟩
  · simp only [decide_eq_true_eq] at hlt
    obtain ⟨y, hy⟩ := get_lt hlt
    simp -implicitDefEqProofs only [go_sem, encAt_some hy, eChan]
    refine ⟨⟨by omega, hlt⟩, call0 (t_chan c hc _) rfl rfl ?_⟩
    simp -implicitDefEqProofs only [go_sem]
    refine ⟨fun h => ?_, fun h => ?_⟩
    · exact ret0 rfl (by simp -implicitDefEqProofs only [go_sem]; simp [uniqR, allI_false (q := uqC c) hy (by simp only [uqP, uqT, uqC, h, Bool.not_true])])
    · exact ⟨inI64_nat hi h3, hE _ (i3 + 1) ⟨by omega, snocI (q := uqC c) hy (by simp only [uqP, uqT, uqC, h, Bool.not_false]) hx3⟩ (by omega) ⟨rfl, rfl, trivial⟩ trivial (fun _ h => h)⟩
  simp only [decide_eq_false_iff_not] at hge3
  have hall3 := allI_true (q := uqC c) (l := c.chans) (fun j z hj => hx3 j z (by omega))
  clear hE E hi
  exact ret0 rfl (by simp -implicitDefEqProofs only [go_sem]; simp [uniqR, hall1, hall2, hall3])
/-- The channel that ends at a port. -/
def fromR (c : Cfg) (id : Int) : Option Chan := c.chans.find? fun y => y.dests.any fun z => decide (z = id)
/-- ref18.From -/
theorem t_rFrom (c : Cfg) (hc : c.ok) (x : Int) : TriF Pr 17 [sCfg c, .v (.int .u16 x)] [] [] (.tup [.v (.int .u16 (match fromR c x with | some y => y.source | none => 0)), .v (.bool (fromR c x).isSome)]) [] := by
  have hl := hc.chans
  refine tri_fn Try.f17 [] [2] [] 1000 (by kernel_rfl) (by kernel_rfl) (by kernel_rfl) (by kernel_rfl) (by kernel_rfl) (by kernel_rfl) (Nat.le_of_ble_eq_true rfl) ?_
  simp -implicitDefEqProofs only [go_sem, Try.f17, sCfg, eCfg]
  refine loop0 (fun i => i ≤ c.chans.length ∧ ∀ j z, j < i → c.chans[j]? = some z → (z.dests.any fun z => decide (z = x)) = false) [1, 2] (fun i => [(6, .v (.int .i64 i))]) (fun i => c.chans.length - i) 0 ⟨by omega, by omega⟩ ⟨rfl, trivial⟩ (fun i => rfl) rfl ?_
  rintro i ⟨hi, hx⟩ E hE
  simp -implicitDefEqProofs only [go_sem]
  refine ⟨fun hlt => ?_, fun hge => ?_⟩
  · simp only [decide_eq_true_eq] at hlt
    obtain ⟨y, hy⟩ := get_lt hlt
    simp -implicitDefEqProofs only [go_sem, encAt_some hy, eChan]
    refine ⟨⟨by omega, hlt⟩, call0 (t_in _ (hc.dests y (List.mem_of_getElem? hy)) _ _) rfl rfl ?_⟩
    simp -implicitDefEqProofs only [go_sem, encAt_some hy, eChan]
    refine ⟨fun h => ⟨⟨by omega, hlt⟩, ?_⟩, fun h => ?_⟩
    · have e : fromR c x = some y := find_some hy h hx
      exact ret0 rfl (by simp -implicitDefEqProofs only [go_sem, e])
    · exact ⟨inI64_nat hi hl, hE _ (i + 1) ⟨by omega, snoc_inv (p := fun y => y.dests.any fun z => decide (z = x)) hy h hx⟩ (by omega) ⟨rfl, rfl, rfl, trivial⟩ trivial (fun _ h => h)⟩
  · simp only [decide_eq_false_iff_not] at hge
    have e : fromR c x = none := find_none (fun j z hj => hx j z (by omega))
    exact ret0 rfl (by simp -implicitDefEqProofs only [go_sem, e])
end Go.Proofs.Ytbpobdlahighoaa.Sx
