/- wiring.From. -/
import Derived.Test.YtbpobdlahighoaaSxX6
namespace Go.Proofs.Ytbpobdlahighoaa.Sx
open Go
set_option linter.unusedVariables false
set_option linter.unusedSimpArgs false
set_option maxRecDepth 100000

/-- slices.Index -/
theorem t_sIndex (l : List Int) (hl : l.length ≤ 1048576) (v : Value) (x : Int) : TriF Pr 60 [.ro 1 eI16 l v, .v (.int .u16 x)] [] [] (.v (.int .i64 (ix (fun y => decide (x = y)) l))) [] := by
  refine tri_fn Try.f60 [] [] [] 1000 (by kernel_rfl) (by kernel_rfl) (by kernel_rfl) (by kernel_rfl) (by kernel_rfl) (by kernel_rfl) (Nat.le_of_ble_eq_true rfl) ?_
  simp -implicitDefEqProofs only [go_sem, Try.f60]
  refine loop0 (fun i => i ≤ l.length ∧ ∀ j z, j < i → l[j]? = some z → decide (x = z) = false) [0, 1, 6, 7] (fun i => [(8, .v (.int .i64 i))]) (fun i => l.length - i) 0 ⟨by omega, by omega⟩ ⟨rfl, trivial⟩ (fun i => rfl) rfl ?_
  rintro i ⟨hi, hx⟩ E hE
  by_cases hlt : (i : Int) < l.length
  · obtain ⟨y, hy⟩ := get_lt hlt
    simp -implicitDefEqProofs only [go_sem, hlt, encAt_some hy, eI16]
    refine ⟨by omega, fun h => ?_, fun h => ⟨inI64_nat hi hl, hE _ (i + 1) ⟨by omega, snoc_inv (p := fun z => decide (x = z)) hy h hx⟩ (by omega) ⟨rfl, rfl, rfl, rfl, rfl, trivial⟩ trivial (fun _ h => h)⟩⟩
    exact ret0 rfl (by simp -implicitDefEqProofs only [go_sem]; rw [ix_some (p := fun z => decide (x = z)) hy h hx])
  · simp -implicitDefEqProofs only [go_sem, hlt]
    exact ret0 rfl (by simp -implicitDefEqProofs only [go_sem]; rw [ix_none (p := fun z => decide (x = z)) (fun j z hj => hx j z (by omega))])
/-- slices.Contains -/
theorem t_contains (l : List Int) (hl : l.length ≤ 1048576) (v : Value) (x : Int) : TriF Pr 41 [.ro 1 eI16 l v, .v (.int .u16 x)] [] [] (.v (.bool (l.any fun y => decide (x = y)))) [] := by
  refine tri_fn Try.f41 [] [] [] 1000 (by kernel_rfl) (by kernel_rfl) (by kernel_rfl) (by kernel_rfl) (by kernel_rfl) (by kernel_rfl) (Nat.le_of_ble_eq_true rfl) ?_
  simp -implicitDefEqProofs only [go_sem, Try.f41]
  refine call0 (t_sIndex l hl v x) rfl rfl ?_
  simp -implicitDefEqProofs only [go_sem]
  refine ret0 rfl ?_
  simp -implicitDefEqProofs only [go_sem]
  congr 2
  rcases ix_find (fun y => decide (x = y)) l with ⟨h1, h2⟩ | ⟨i, y, h1, h2, h3, h4⟩
  · rw [h2, any_none (fun j z hj hz => by have := List.find?_eq_none.1 h1 z (List.mem_of_getElem? hz); simpa using this)]; rfl
  · rw [h4, any_some h2 h3]; simp
/-- From's closure -/
theorem t_from1 (x : Chan) (hx : x.dests.length ≤ 1048576) (port : Int) : TriF Pr 40 [.agg (eChan x), .rop [.v (.int .u16 port)]] [] [] (.v (.bool (x.dests.any fun y => decide (port = y)))) [] := by
  refine tri_fn Try.f40 [] [2] [] 1000 (by kernel_rfl) (by kernel_rfl) (by kernel_rfl) (by kernel_rfl) (by kernel_rfl) (by kernel_rfl) (Nat.le_of_ble_eq_true rfl) ?_
  simp -implicitDefEqProofs only [go_sem, Try.f40, eChan]
  refine call0 (t_contains x.dests hx x.dv port) rfl rfl ?_
  simp -implicitDefEqProofs only [go_sem]
  exact ret0 rfl (by simp -implicitDefEqProofs only [go_sem])
def hasD (port : Int) (x : Chan) : Bool := x.dests.any fun y => decide (port = y)
/-- slices.IndexFunc, of From's closure -/
theorem t_indexF (l : List Chan) (hl : l.length ≤ 1048576) (hd : ∀ x ∈ l, x.dests.length ≤ 1048576) (v : Value) (port : Int) : TriF Pr 39 [.ro 3 eChan l v, .fn 40 [] [.rop [.v (.int .u16 port)]]] [] [] (.v (.int .i64 (ix (hasD port) l))) [] := by
  refine tri_fn Try.f39 [] [] [] 1000 (by kernel_rfl) (by kernel_rfl) (by kernel_rfl) (by kernel_rfl) (by kernel_rfl) (by kernel_rfl) (Nat.le_of_ble_eq_true rfl) ?_
  simp -implicitDefEqProofs only [go_sem, Try.f39]
  refine loop0 (fun i => i ≤ l.length ∧ ∀ j z, j < i → l[j]? = some z → hasD port z = false) [0, 1, 6, 7] (fun i => [(8, .v (.int .i64 i))]) (fun i => l.length - i) 0 ⟨by omega, by omega⟩ ⟨rfl, trivial⟩ (fun i => rfl) rfl ?_
  rintro i ⟨hi, hx⟩ E hE
  by_cases hlt : (i : Int) < l.length
  · obtain ⟨y, hy⟩ := get_lt hlt
    simp -implicitDefEqProofs only [go_sem, hlt, encAt_some hy, eChan]
    refine ⟨by omega, call0 (r := .v (.bool (hasD port y))) (t_from1 y (hd y (List.mem_of_getElem? hy)) port) rfl rfl ?_⟩
    simp -implicitDefEqProofs only [go_sem]
    refine ⟨fun h => ?_, fun h => ⟨inI64_nat hi hl, hE _ (i + 1) ⟨by omega, snoc_inv (p := hasD port) hy h hx⟩ (by omega) ⟨rfl, rfl, rfl, rfl, rfl, trivial⟩ trivial (fun _ h => h)⟩⟩
    exact ret0 rfl (by simp -implicitDefEqProofs only [go_sem]; rw [ix_some (p := hasD port) hy h hx])
  · simp -implicitDefEqProofs only [go_sem, hlt]
    exact ret0 rfl (by simp -implicitDefEqProofs only [go_sem]; rw [ix_none (p := hasD port) (fun j z hj => hx j z (by omega))])
/-- wiring.From -/
def fromF (c : Cfg) (port : Int) : Int × Bool := match c.chans.find? (hasD port) with | some x => (x.source, true) | none => (0, false)
theorem t_wFrom (c : Cfg) (hc : c.ok) (port : Int) : TriF Pr 16 [sCfg c, .v (.int .u16 port)] [] [] (.tup [.v (.int .u16 (fromF c port).1), .v (.bool (fromF c port).2)]) [] := by
  refine tri_fn Try.f16 [] [2, 3] [] 1000 (by kernel_rfl) (by kernel_rfl) (by kernel_rfl) (by kernel_rfl) (by kernel_rfl) (by kernel_rfl) (Nat.le_of_ble_eq_true rfl) ?_
  simp -implicitDefEqProofs only [go_sem, Try.f16, sCfg, eCfg]
  refine call0 (t_indexF c.chans hc.chans hc.dests c.cv port) rfl rfl ?_
  rcases ix_find (hasD port) c.chans with ⟨hf, hi⟩ | ⟨i, y, hf, hy, hp, hi⟩
  · rw [hi]
    simp -implicitDefEqProofs only [go_sem]
    exact ret0 rfl (by simp -implicitDefEqProofs only [go_sem, fromF, hf])
  · have h0 : ¬ ((i : Int) < 0) := by omega
    have hlt : (i : Int) < c.chans.length := by have := (List.getElem?_eq_some_iff.1 hy).1; omega
    rw [hi]
    simp -implicitDefEqProofs only [go_sem, h0, hlt, encAt_some hy, eChan]
    exact ⟨by omega, ret0 rfl (by simp -implicitDefEqProofs only [go_sem, fromF, hf])⟩
end Go.Proofs.Ytbpobdlahighoaa.Sx
/- slices.Clone. -/
namespace Go.Proofs.Ytbpobdlahighoaa.Sx
open Go
set_option linter.unusedVariables false
set_option linter.unusedSimpArgs false
set_option maxRecDepth 100000

attribute [go_sem] List.size_toArray
def eInt (x : Int) : List SV := [.v (.int .i64 x)]
/-- A slice that is told by memory that nobody writes is nil only where it is empty. -/
theorem tri_ro {P : Program} {f : FuncId} {args : List SV} {pre : List Res} {mv : List Nat} {Q : SV → List Res → Prop} {α : Type} {sz : Nat} {enc : α → List SV} {xs : List α} {v : Value} (hc : callable P f)
    (h : (isNilV v = true → xs = []) → Tri P f (.ro sz enc xs v :: args) pre mv Q) : Tri P f (.ro sz enc xs v :: args) pre mv Q := by
  refine ⟨hc, fun w ν H F vs h1 h2 h3 h4 h5 => ?_⟩
  refine (h ?_).2 w ν H F vs h1 h2 h3 h4 h5
  cases h3 with
  | cons hd _ =>
    obtain ⟨rfl, hr⟩ := hd.ro_inv
    intro hn
    cases hr with
    | ro cs k1 k2 k3 k4 =>
      cases xs with
      | nil => rfl
      | cons x xs =>
        obtain ⟨_, b, o, e, _⟩ := k2 0 (by simp)
        subst e
        simp [isNilV] at hn
theorem t_clone (xs : List Int) (hx : xs.length ≤ 1048576) (v : Value) : TriF Pr 46 [.ro 1 eInt xs v] [] [] (.h 0) [.sl 1 eInt xs] := by
  refine tri_ro (callable_of (fn := Try.f46) (by kernel_rfl) (by kernel_rfl) (by kernel_rfl)) fun hn => ?_
  refine tri_fnG Try.f46 [] [] [] [2] 1000 (by kernel_rfl) (by kernel_rfl) (by kernel_rfl) (by kernel_rfl) (by kernel_rfl) (by kernel_rfl) (Nat.le_of_ble_eq_true rfl) ?_
  by_cases hv : isNilV v = true
  · have := hn hv
    subst this
    simp -implicitDefEqProofs only [go_sem, Try.f46, hv]
    refine ⟨[.nil 2], ?_⟩
    simp -implicitDefEqProofs only [go_sem]
    refine ⟨Int, 1, eInt, retS [0] (.h 0) [.sl 1 eInt []] ?_⟩
    simp -implicitDefEqProofs only [go_sem]
  · have hv' : isNilV v = false := by simpa using hv
    simp -implicitDefEqProofs only [go_sem, Try.f46, hv']
    refine ⟨Int, eInt, xs, rfl, ⟨fun z _ => rfl, by omega, by omega⟩, ?_⟩
    refine retS [0] (.h 0) [.sl 1 eInt xs] ?_
    simp -implicitDefEqProofs only [go_sem]
    omega
end Go.Proofs.Ytbpobdlahighoaa.Sx
