/- The reference of layer 5: how many records. -/
import Derived.Test.YtbpobdlahighoaaSxW3
namespace Go.Proofs.Ytbpobdlahighoaa.Sx
open Go
set_option linter.unusedVariables false
set_option linter.unusedSimpArgs false
set_option maxRecDepth 100000
def linksN (l : List Chan) : Nat := (l.map fun x => x.dests.length).sum
theorem linksN_snoc {l : List Chan} {i : Nat} {y : Chan} (hy : l[i]? = some y) : linksN (l.take (i + 1)) = linksN (l.take i) + y.dests.length := by
  obtain ⟨h1, h2⟩ := List.getElem?_eq_some_iff.1 hy
  rw [List.take_succ_eq_append_getElem h1, h2]
  simp [linksN]
theorem linksN_le {l : List Chan} (h : ∀ x ∈ l, x.dests.length ≤ 1048576) : linksN l ≤ l.length * 1048576 := by
  induction l with
  | nil => simp [linksN]
  | cons x l ih =>
    have h1 := h x (by simp)
    have h2 := ih (fun y hy => h y (by simp [hy]))
    simp only [linksN, List.map_cons, List.sum_cons, List.length_cons] at *
    omega
theorem links_bound {c : Cfg} (hc : c.ok) (i : Nat) : linksN (c.chans.take i) ≤ 1099511627776 := by
  have h1 := linksN_le (l := c.chans.take i) (fun x hx => hc.dests x (List.mem_of_mem_take hx))
  have h2 := hc.chans
  have h3 : (c.chans.take i).length ≤ 1048576 := by rw [List.length_take]; omega
  have := Nat.mul_le_mul_right 1048576 h3
  omega
def sI (n : Int) : SV := .v (.int .i64 n)
def eCounts (c : Cfg) : List SV := [.v (.int .i64 0), .v (.int .i64 c.parts.length), .v (.int .i64 c.wins.length), .v (.int .i64 c.regs.length), .v (.int .i64 c.ports.length), .v (.int .i64 c.chans.length), .v (.int .i64 (linksN c.chans))]
/-- ref05.Counts -/
theorem t_counts (c : Cfg) (hc : c.ok) : TriF Pr 54 [sCfg c] [] [] (.agg (eCounts c)) [] := by
  have hlen := hc.chans
  refine tri_fn Try.f54 [] [1] [] 1000 (by kernel_rfl) (by kernel_rfl) (by kernel_rfl) (by kernel_rfl) (by kernel_rfl) (by kernel_rfl) (Nat.le_of_ble_eq_true rfl) ?_
  simp -implicitDefEqProofs only [go_sem, Try.f54, sCfg, eCfg]
  refine loop0 (fun i => i ≤ c.chans.length) [1, 2] (fun i => [(4, .v (.int .i64 i)), (3, .v (.int .i64 (linksN (c.chans.take i))))]) (fun i => c.chans.length - i) 0 (by omega) ⟨rfl, rfl, trivial⟩ (fun i => rfl) rfl ?_
  intro i hi E hE
  simp -implicitDefEqProofs only [go_sem]
  refine ⟨fun hlt => ?_, fun hge => ?_⟩
  · simp only [decide_eq_true_eq] at hlt
    obtain ⟨x, hy⟩ := get_lt hlt
    have hd := hc.dests x (List.mem_of_getElem? hy)
    have hb := links_bound hc i
    have hsn := linksN_snoc hy
    simp -implicitDefEqProofs only [go_sem, encAt_some hy, eChan]
    refine ⟨⟨by omega, hlt⟩, ⟨by omega, by omega⟩, inI64_nat hi hlen, hE _ (i + 1) (by omega) (by omega) ⟨rfl, ?_, rfl, rfl, trivial⟩ ⟨rfl, trivial⟩ (fun _ h => h)⟩
    simp -implicitDefEqProofs only [go_sem, hsn, Int.natCast_add]
  · simp only [decide_eq_false_iff_not] at hge
    have hil : i = c.chans.length := by omega
    subst hil
    exact ret0 rfl (by simp -implicitDefEqProofs only [go_sem, List.take_length, eCounts])
def longN (b : ByteArray) : Bool := decide ((1000 : Int) < (b.size : Int))
def totalN (c : Cfg) : Nat := c.parts.length + c.wins.length + c.regs.length + c.ports.length + c.chans.length + linksN c.chans
def fewR (c : Cfg) : Bool := (!(c.parts.any fun z => longN z.name)) && ((!(c.ports.any fun z => longN z.name)) && decide (totalN c ≤ 120))
/-- ref05.Few -/
theorem t_few (c : Cfg) (hc : c.ok) : TriF Pr 29 [sCfg c] [] [] (.v (.bool (fewR c))) [] := by
  refine tri_fn Try.f29 [] [1] [] 1000 (by kernel_rfl) (by kernel_rfl) (by kernel_rfl) (by kernel_rfl) (by kernel_rfl) (by kernel_rfl) (Nat.le_of_ble_eq_true rfl) ?_
  simp -implicitDefEqProofs only [go_sem, Try.f29, sCfg, eCfg]
  refine call0 (t_counts c hc) rfl rfl ?_
  simp -implicitDefEqProofs only [go_sem, eCounts]
  have h1 := hc.parts
  refine loop0 (fun i => i ≤ c.parts.length ∧ ∀ j z, j < i → c.parts[j]? = some z → longN z.name = false) [1, 3] (fun i => [(4, .v (.int .i64 i))]) (fun i => c.parts.length - i) 0 ⟨by omega, by omega⟩ ⟨rfl, trivial⟩ (fun i => rfl) rfl ?_
  rintro i1 ⟨hi, hx1⟩ E hE
  simp -implicitDefEqProofs only [go_sem]
  refine ⟨fun hlt => ?_, fun hge1 => ?_⟩
  · simp only [decide_eq_true_eq] at hlt
    obtain ⟨y, hy⟩ := get_lt hlt
    simp -implicitDefEqProofs only [go_sem, encAt_some hy, ePart]
    refine ⟨⟨by omega, hlt⟩, fun h => ?_, fun h => ?_⟩
    · have hb : (c.parts.any fun z => longN z.name) = true := any_some hy h
      exact ret0 rfl (by simp -implicitDefEqProofs only [go_sem]; simp [fewR, hb])
    · have hf := snoc_inv (p := fun z => longN z.name) hy (show longN y.name = false from h) hx1
      refine ⟨inI64_nat hi h1, hE _ (i1 + 1) ⟨by omega, hf⟩ (by omega) ⟨rfl, rfl, rfl, trivial⟩ ⟨rfl, trivial⟩ (fun _ h => h)⟩
  simp only [decide_eq_false_iff_not] at hge1
  have hall1 : (c.parts.any fun z => longN z.name) = false := any_none (fun j z hj => hx1 j z (by omega))
  clear hE E hi
  have h2 := hc.ports
  refine loop0 (fun i => i ≤ c.ports.length ∧ ∀ j z, j < i → c.ports[j]? = some z → longN z.name = false) [1, 3] (fun i => [(5, .v (.int .i64 i))]) (fun i => c.ports.length - i) 0 ⟨by omega, by omega⟩ ⟨rfl, trivial⟩ (fun i => rfl) rfl ?_
  rintro i2 ⟨hi, hx2⟩ E hE
  simp -implicitDefEqProofs only [go_sem]
  refine ⟨fun hlt => ?_, fun hge2 => ?_⟩
  · simp only [decide_eq_true_eq] at hlt
    obtain ⟨y, hy⟩ := get_lt hlt
    simp -implicitDefEqProofs only [go_sem, encAt_some hy, ePrt]
    refine ⟨⟨by omega, hlt⟩, fun h => ?_, fun h => ?_⟩
    · have hb : (c.ports.any fun z => longN z.name) = true := any_some hy h
      exact ret0 rfl (by simp -implicitDefEqProofs only [go_sem]; simp [fewR, hb])
    · have hf := snoc_inv (p := fun z => longN z.name) hy (show longN y.name = false from h) hx2
      refine ⟨inI64_nat hi h2, hE _ (i2 + 1) ⟨by omega, hf⟩ (by omega) ⟨rfl, rfl, rfl, trivial⟩ ⟨rfl, trivial⟩ (fun _ h => h)⟩
  simp only [decide_eq_false_iff_not] at hge2
  have hall2 : (c.ports.any fun z => longN z.name) = false := any_none (fun j z hj => hx2 j z (by omega))
  clear hE E hi
  have hb := links_bound hc c.chans.length
  rw [List.take_length] at hb
  have k1 := hc.wins
  have k2 := hc.regs
  have k3 := hc.chans
  refine ⟨by omega, by omega, ⟨by omega, by omega⟩, by omega, ⟨by omega, by omega⟩, by omega, ⟨by omega, by omega⟩, by omega, ⟨by omega, by omega⟩, by omega, ⟨by omega, by omega⟩, ?_⟩
  refine ret0 rfl ?_
  simp -implicitDefEqProofs only [go_sem]
  have e : fewR c = decide (totalN c ≤ 120) := by simp [fewR, hall1, hall2]
  rw [e]
  congr 2
  exact decide_eq_decide.2 (by unfold totalN; omega)
end Go.Proofs.Ytbpobdlahighoaa.Sx
