/- Configurations as the walk sees them; the reference's small functions. -/
import Derived.Test.YtbpobdlahighoaaSxR
namespace Go.Proofs.Ytbpobdlahighoaa.Sx
open Go
set_option linter.unusedVariables false

structure Part where (id : Int) (name : ByteArray) (period duration : Int)
structure Win where (start length part : Int)
structure Regn where (base size part rights : Int) (shared : Bool)
structure Prt where (id part : Int) (name : ByteArray) (output queuing : Bool) (size : Int)
structure Chan where (id source : Int) (dests : List Int) (dv : Value)
structure Cfg where (frame : Int) (parts : List Part) (wins : List Win) (regs : List Regn) (ports : List Prt) (chans : List Chan) (pv wv rv tv cv : Value)
def eI16 (x : Int) : List SV := [.v (.int .u16 x)]
def ePart (p : Part) : List SV := [.v (.int .u16 p.id), .v (.string p.name), .v (.int .u64 p.period), .v (.int .u64 p.duration)]
def eWin (x : Win) : List SV := [.v (.int .u64 x.start), .v (.int .u64 x.length), .v (.int .u16 x.part)]
def eReg (x : Regn) : List SV := [.v (.int .u64 x.base), .v (.int .u64 x.size), .v (.int .u16 x.part), .v (.int .u8 x.rights), .v (.bool x.shared)]
def ePrt (x : Prt) : List SV := [.v (.int .u16 x.id), .v (.int .u16 x.part), .v (.string x.name), .v (.bool x.output), .v (.bool x.queuing), .v (.int .u32 x.size)]
def eChan (x : Chan) : List SV := [.v (.int .u16 x.id), .v (.int .u16 x.source), .ro 1 eI16 x.dests x.dv]
def eCfg (c : Cfg) : List SV := [.v (.int .u64 c.frame), .ro 4 ePart c.parts c.pv, .ro 3 eWin c.wins c.wv, .ro 5 eReg c.regs c.rv, .ro 6 ePrt c.ports c.tv, .ro 3 eChan c.chans c.cv]
def sCfg (c : Cfg) : SV := .agg (eCfg c)
structure Cfg.ok (c : Cfg) : Prop where
  parts : c.parts.length ≤ 1048576
  wins : c.wins.length ≤ 1048576
  regs : c.regs.length ≤ 1048576
  ports : c.ports.length ≤ 1048576
  chans : c.chans.length ≤ 1048576
  dests : ∀ x ∈ c.chans, x.dests.length ≤ 1048576

set_option maxRecDepth 100000
/-- ref18.in -/
theorem t_in (l : List Int) (hl : l.length ≤ 1048576) (v : Value) (x : Int) : TriF Pr 42 [.ro 1 eI16 l v, .v (.int .u16 x)] [] [] (.v (.bool (l.any fun y => decide (y = x)))) [] := by
  refine tri_fn Try.f42 [] [] [] 1000 (by kernel_rfl) (by kernel_rfl) (by kernel_rfl) (by kernel_rfl) (by kernel_rfl) (by kernel_rfl) (Nat.le_of_ble_eq_true rfl) ?_
  simp -implicitDefEqProofs only [go_sem, Try.f42]
  refine loop0 (fun i => i ≤ l.length ∧ ∀ j z, j < i → l[j]? = some z → decide (z = x) = false) [0, 1, 4] (fun i => [(5, .v (.int .i64 i))]) (fun i => l.length - i) 0 ⟨by omega, by omega⟩ ⟨rfl, trivial⟩ (fun i => rfl) rfl ?_
  rintro i ⟨hi, hx⟩ E hE
  simp -implicitDefEqProofs only [go_sem]
  refine ⟨fun hlt => ?_, fun hge => ?_⟩
  · simp only [decide_eq_true_eq] at hlt
    obtain ⟨y, hy⟩ := get_lt hlt
    refine ⟨⟨by omega, hlt⟩, ?_⟩
    simp -implicitDefEqProofs only [go_sem, encAt_some hy, eI16]
    refine ⟨fun h => ?_, fun h => ⟨inI64_nat hi hl, hE _ (i + 1) ⟨by omega, snoc_inv hy h hx⟩ (by omega) ⟨rfl, rfl, rfl, rfl, trivial⟩ trivial (fun _ h => h)⟩⟩
    exact ret0 rfl (by simp -implicitDefEqProofs only [go_sem]; rw [any_some hy h])
  · simp only [decide_eq_false_iff_not] at hge
    exact ret0 rfl (by simp -implicitDefEqProofs only [go_sem]; rw [any_none (fun j z hj => hx j z (by omega))])
/-- ref13.Partition -/
theorem t_part (c : Cfg) (hc : c.ok) (x : Int) : TriF Pr 31 [sCfg c, .v (.int .u16 x)] [] [] (.v (.int .i64 (ix (fun p => decide (p.id = x)) c.parts))) [] := by
  have hl := hc.parts
  refine tri_fn Try.f31 [] [2] [] 1000 (by kernel_rfl) (by kernel_rfl) (by kernel_rfl) (by kernel_rfl) (by kernel_rfl) (by kernel_rfl) (Nat.le_of_ble_eq_true rfl) ?_
  simp -implicitDefEqProofs only [go_sem, Try.f31, sCfg, eCfg]
  refine loop0 (fun i => i ≤ c.parts.length ∧ ∀ j z, j < i → c.parts[j]? = some z → decide (z.id = x) = false) [1, 2, 4] (fun i => [(5, .v (.int .i64 i))]) (fun i => c.parts.length - i) 0 ⟨by omega, by omega⟩ ⟨rfl, trivial⟩ (fun i => rfl) rfl ?_
  rintro i ⟨hi, hx⟩ E hE
  simp -implicitDefEqProofs only [go_sem]
  refine ⟨fun hlt => ?_, fun hge => ?_⟩
  · simp only [decide_eq_true_eq] at hlt
    obtain ⟨y, hy⟩ := get_lt hlt
    refine ⟨⟨by omega, hlt⟩, ?_⟩
    simp -implicitDefEqProofs only [go_sem, encAt_some hy, ePart]
    refine ⟨fun h => ?_, fun h => ⟨inI64_nat hi hl, hE _ (i + 1) ⟨by omega, snoc_inv (p := fun z => decide (z.id = x)) hy h hx⟩ (by omega) ⟨rfl, rfl, rfl, rfl, trivial⟩ trivial (fun _ h => h)⟩⟩
    exact ret0 rfl (by simp -implicitDefEqProofs only [go_sem]; rw [ix_some (p := fun z => decide (z.id = x)) hy h hx])
  · simp only [decide_eq_false_iff_not] at hge
    exact ret0 rfl (by simp -implicitDefEqProofs only [go_sem]; rw [ix_none (fun j z hj => hx j z (by omega))])
/-- ref13.Port -/
theorem t_port (c : Cfg) (hc : c.ok) (x : Int) : TriF Pr 18 [sCfg c, .v (.int .u16 x)] [] [] (.v (.int .i64 (ix (fun p => decide (p.id = x)) c.ports))) [] := by
  have hl := hc.ports
  refine tri_fn Try.f18 [] [2] [] 1000 (by kernel_rfl) (by kernel_rfl) (by kernel_rfl) (by kernel_rfl) (by kernel_rfl) (by kernel_rfl) (Nat.le_of_ble_eq_true rfl) ?_
  simp -implicitDefEqProofs only [go_sem, Try.f18, sCfg, eCfg]
  refine loop0 (fun i => i ≤ c.ports.length ∧ ∀ j z, j < i → c.ports[j]? = some z → decide (z.id = x) = false) [1, 2, 4] (fun i => [(5, .v (.int .i64 i))]) (fun i => c.ports.length - i) 0 ⟨by omega, by omega⟩ ⟨rfl, trivial⟩ (fun i => rfl) rfl ?_
  rintro i ⟨hi, hx⟩ E hE
  simp -implicitDefEqProofs only [go_sem]
  refine ⟨fun hlt => ?_, fun hge => ?_⟩
  · simp only [decide_eq_true_eq] at hlt
    obtain ⟨y, hy⟩ := get_lt hlt
    refine ⟨⟨by omega, hlt⟩, ?_⟩
    simp -implicitDefEqProofs only [go_sem, encAt_some hy, ePrt]
    refine ⟨fun h => ?_, fun h => ⟨inI64_nat hi hl, hE _ (i + 1) ⟨by omega, snoc_inv (p := fun z => decide (z.id = x)) hy h hx⟩ (by omega) ⟨rfl, rfl, rfl, rfl, trivial⟩ trivial (fun _ h => h)⟩⟩
    exact ret0 rfl (by simp -implicitDefEqProofs only [go_sem]; rw [ix_some (p := fun z => decide (z.id = x)) hy h hx])
  · simp only [decide_eq_false_iff_not] at hge
    exact ret0 rfl (by simp -implicitDefEqProofs only [go_sem]; rw [ix_none (fun j z hj => hx j z (by omega))])
/-- ref13.Channel -/
theorem t_chan (c : Cfg) (hc : c.ok) (x : Int) : TriF Pr 55 [sCfg c, .v (.int .u16 x)] [] [] (.v (.int .i64 (ix (fun p => decide (p.id = x)) c.chans))) [] := by
  have hl := hc.chans
  refine tri_fn Try.f55 [] [2] [] 1000 (by kernel_rfl) (by kernel_rfl) (by kernel_rfl) (by kernel_rfl) (by kernel_rfl) (by kernel_rfl) (Nat.le_of_ble_eq_true rfl) ?_
  simp -implicitDefEqProofs only [go_sem, Try.f55, sCfg, eCfg]
  refine loop0 (fun i => i ≤ c.chans.length ∧ ∀ j z, j < i → c.chans[j]? = some z → decide (z.id = x) = false) [1, 2, 4] (fun i => [(5, .v (.int .i64 i))]) (fun i => c.chans.length - i) 0 ⟨by omega, by omega⟩ ⟨rfl, trivial⟩ (fun i => rfl) rfl ?_
  rintro i ⟨hi, hx⟩ E hE
  simp -implicitDefEqProofs only [go_sem]
  refine ⟨fun hlt => ?_, fun hge => ?_⟩
  · simp only [decide_eq_true_eq] at hlt
    obtain ⟨y, hy⟩ := get_lt hlt
    refine ⟨⟨by omega, hlt⟩, ?_⟩
    simp -implicitDefEqProofs only [go_sem, encAt_some hy, eChan]
    refine ⟨fun h => ?_, fun h => ⟨inI64_nat hi hl, hE _ (i + 1) ⟨by omega, snoc_inv (p := fun z => decide (z.id = x)) hy h hx⟩ (by omega) ⟨rfl, rfl, rfl, rfl, trivial⟩ trivial (fun _ h => h)⟩⟩
    exact ret0 rfl (by simp -implicitDefEqProofs only [go_sem]; rw [ix_some (p := fun z => decide (z.id = x)) hy h hx])
  · simp only [decide_eq_false_iff_not] at hge
    exact ret0 rfl (by simp -implicitDefEqProofs only [go_sem]; rw [ix_none (fun j z hj => hx j z (by omega))])
/-- Whether a channel has a port. -/
def hasP (x : Chan) (port : Int) : Bool := decide (x.source = port) || x.dests.any fun y => decide (y = port)
/-- ref18.uses -/
theorem t_uses (c : Cfg) (hc : c.ok) (n : Nat) (hn : n ≤ c.chans.length) (x : Int) : TriF Pr 53 [sCfg c, .v (.int .i64 n), .v (.int .u16 x)] [] [] (.v (.bool ((c.chans.take n).any fun y => hasP y x))) [] := by
  have hl := hc.chans
  refine tri_fn Try.f53 [] [3] [] 1000 (by kernel_rfl) (by kernel_rfl) (by kernel_rfl) (by kernel_rfl) (by kernel_rfl) (by kernel_rfl) (Nat.le_of_ble_eq_true rfl) ?_
  simp -implicitDefEqProofs only [go_sem, Try.f53, sCfg, eCfg]
  refine loop0 (fun i => i ≤ n ∧ ∀ j z, j < i → (c.chans.take n)[j]? = some z → hasP z x = false) [1, 2, 3, 6] (fun i => [(7, .v (.int .i64 i))]) (fun i => n - i) 0 ⟨by omega, by omega⟩ ⟨rfl, trivial⟩ (fun i => rfl) rfl ?_
  rintro i ⟨hi, hx⟩ E hE
  simp -implicitDefEqProofs only [go_sem]
  refine ⟨fun hlt => ?_, fun hge => ?_⟩
  · simp only [decide_eq_true_eq] at hlt
    obtain ⟨y, hy⟩ : ∃ y, c.chans[i]? = some y := get_lt (by omega)
    have hd : y.dests.length ≤ 1048576 := hc.dests y (List.mem_of_getElem? hy)
    have hy' : (c.chans.take n)[i]? = some y := by rw [List.getElem?_take, if_pos (by omega)]; exact hy
    refine ⟨⟨by omega, by omega⟩, ?_⟩
    simp -implicitDefEqProofs only [go_sem, encAt_some hy, eChan]
    refine ⟨fun h => ⟨⟨by omega, by omega⟩, call0 (t_in _ hd _ _) rfl rfl ?_⟩, fun h => ?_⟩
    · simp -implicitDefEqProofs only [go_sem]
      refine ⟨fun h2 => ?_, fun h2 => ?_⟩
      · exact ret0 rfl (by simp -implicitDefEqProofs only [go_sem]; rw [any_some hy' (by simp only [hasP, h2, Bool.or_true])])
      · exact ⟨inI64_nat (by omega) hl, hE _ (i + 1) ⟨by omega, snoc_inv (p := fun z => hasP z x) hy' (by simp only [hasP, h, h2, Bool.or_false]) hx⟩ (by omega) ⟨rfl, rfl, rfl, rfl, rfl, trivial⟩ trivial (fun _ h => h)⟩
    · exact ret0 rfl (by simp -implicitDefEqProofs only [go_sem]; rw [any_some hy' (by simp only [hasP, h, Bool.true_or])])
  · simp only [decide_eq_false_iff_not] at hge
    exact ret0 rfl (by simp -implicitDefEqProofs only [go_sem]; rw [any_none (fun j z hj => hx j z (by simp at hj; omega))])
end Go.Proofs.Ytbpobdlahighoaa.Sx
