/- From the readings of the arguments to what the walk sees (Cfg): reading by reading; what the bound gives. -/
import Derived.Test.YtbpobdlahighoaaSxR
import Derived.Test.YtbpobdlahighoaaSxV
import Derived.Test.YtbpobdlahighoaaRows
import Derived.WalkKit
import Derived.ProofKit
import Derived.OpenShut
import Derived.JoinedCond
import Derived.Carry
namespace Go.Proofs.Ytbpobdlahighoaa.Sx
open Go
set_option linter.unusedVariables false
set_option linter.unusedSimpArgs false
set_option maxRecDepth 100000

/-! ### the bound -/
theorem bulk_part {H : Type} {d : DataW H} {l : List (DataW H)} (h : d ∈ l) : Rows.uptoBulk d ≤ Rows.uptoBulkAll l := by
  induction l with
  | nil => cases h
  | cons x r ih =>
    simp only [Rows.uptoBulkAll]
    cases List.mem_cons.1 h with
    | inl e => subst e; omega
    | inr e => have := ih e; omega
theorem bulk_one {H : Type} (d : DataW H) : 1 ≤ Rows.uptoBulk d := by
  cases d with
  | lit l => cases l <;> simp [Rows.uptoBulk]
  | nil => simp [Rows.uptoBulk]
  | ptr d => simp [Rows.uptoBulk]
  | slice elems spare => simp [Rows.uptoBulk]
  | agg parts => simp [Rows.uptoBulk]
  | iface t d => simp [Rows.uptoBulk]
  | map entries => simp [Rows.uptoBulk]
  | held h => simp [Rows.uptoBulk]
theorem bulk_len {H : Type} (l : List (DataW H)) : l.length ≤ Rows.uptoBulkAll l := by
  induction l with
  | nil => simp [Rows.uptoBulkAll]
  | cons x r ih => have := bulk_one x; simp only [Rows.uptoBulkAll, List.length_cons]; omega

/-! ### one type's reading -/
section
variable {H : Type} {enc : TypeId × Value → H} {P : Program} {W : World}
def Rd (enc : TypeId × Value → H) (P : Program) (W : World) (t sz : Nat) {α : Type} (e : α → List SV) (ok : Nat → α → Prop) : Prop :=
  ∀ fuel cs x, DataW.trod enc P W 0 (fun _ => true) true fuel t cs = some x → cs.length = sz ∧ ∃ a, RDenL (hp W) (e a) cs ∧ ∀ N, Rows.uptoBulk x.1 ≤ N → ok N a
theorem rd_int {t : Nat} {k : IntKind} (ht : (tdOf P t).kind = .int k) : Rd enc P W t 1 (fun n => [.v (.int k n)]) (fun _ n => (Lit.int k n).wf = true) := by
  intro fuel cs x h
  obtain ⟨n, rfl, rfl, hw⟩ := DataW.trod_int (und_int ht) h
  exact ⟨rfl, n, .cons (.v _) .nil, fun _ _ => hw⟩
theorem rd_bool {t : Nat} (ht : (tdOf P t).kind = .bool) : Rd enc P W t 1 (fun b => [.v (.bool b)]) (fun _ _ => True) := by
  intro fuel cs x h
  obtain ⟨n, rfl, rfl⟩ := DataW.trod_bool (und_bool ht) h
  exact ⟨rfl, n, .cons (.v _) .nil, fun _ _ => trivial⟩
theorem rd_string {t : Nat} (ht : (tdOf P t).kind = .string) : Rd enc P W t 1 (fun s => [.v (.string s)]) (fun N s => s.size ≤ N) := by
  intro fuel cs x h
  obtain ⟨s, rfl, rfl, hw⟩ := DataW.trod_string (und_string ht) h
  refine ⟨rfl, s, .cons (.v _) .nil, fun N hN => ?_⟩
  simp only [Rows.uptoBulk] at hN
  have e : s.data.toList.length = s.size := by rw [Array.length_toList]; rfl
  omega
theorem choose_list {α : Type} (Q : Nat → α → Prop) : ∀ n : Nat, (∀ i, i < n → ∃ a, Q i a) → ∃ l : List α, l.length = n ∧ ∀ i a, l[i]? = some a → Q i a
  | 0, _ => ⟨[], rfl, fun i a h => by simp at h⟩
  | n + 1, h => by
    obtain ⟨l, e, hl⟩ := choose_list Q n (fun i hi => h i (by omega))
    obtain ⟨a, ha⟩ := h n (by omega)
    refine ⟨l ++ [a], by simp [e], fun i b hb => ?_⟩
    rw [List.getElem?_append] at hb
    split at hb
    · exact hl i b hb
    · rename_i hge
      have : i = n := by
        rcases Nat.lt_or_ge i (l ++ [a]).length with hlt | hge'
        · simp only [List.length_append, List.length_cons, List.length_nil] at hlt; omega
        · exfalso; rw [List.getElem?_eq_none (by simp at hge' ⊢; omega)] at hb; cases hb
      subst this
      rw [e, Nat.sub_self] at hb
      simp only [List.getElem?_cons_zero, Option.some.injEq] at hb
      subst hb; exact ha
theorem cells_get {a : Addr} {n : Nat} {c : List Value} (h : W.cells? 0 a n = some c) : c.length = n ∧ ∀ j u, c[j]? = some u → W.cell? (a.add j) = some u := by
  unfold World.cells? at h
  rw [if_pos (Nat.zero_le _)] at h
  have hl := mapM_some_length h
  rw [List.length_range] at hl
  refine ⟨hl, fun j u hu => ?_⟩
  have hj : j < n := by rw [← hl]; exact (List.getElem?_eq_some_iff.1 hu).1
  rw [mapM_some_get h j j (by rw [List.getElem?_range hj]), hu]
theorem rd_slice {t e sz : Nat} {α : Type} {el : α → List SV} {ok : Nat → α → Prop} (hs : Rd enc P W e sz el ok) (h0 : 0 < sz) (hz : P.cellsOf e = sz) (ht : (tdOf P t).kind = .slice e) :
    Rd enc P W t 1 (fun p : List α × Value => [.ro sz el p.1 p.2]) (fun N p => p.1.length ≤ N ∧ ∀ y ∈ p.1, ok N y) := by
  intro fuel cs x h
  rcases DataW.trod_slice (und_slice ht) h with ⟨rfl, rfl⟩ | ⟨a, len, cap, elems, rest, n, _, rfl, rfl, _, hl, _, hlen, hel, _⟩
  · exact ⟨rfl, ([], .slice none 0 0), .cons (.ro (fun _ => []) (fun i x h => by simp at h) (fun i h => by simp at h) (fun _ _ => rfl) (Nat.le_refl _)) .nil, fun N _ => ⟨Nat.zero_le _, fun y hy => by cases hy⟩⟩
  · rw [hz] at hel
    have key : ∀ i, i < len → ∃ q : List Value × α, W.cells? 0 (a.add (i * sz)) sz = some q.1 ∧ RDenL (hp W) (el q.2) q.1 ∧ ∀ N, Rows.uptoBulkAll (elems.map (·.1)) ≤ N → ok N q.2 := by
      intro i hi
      have hE := hel i hi
      cases hy : elems[i]? with
      | none => rw [List.getElem?_eq_none_iff] at hy; omega
      | some y =>
        rw [hy, Option.bind_eq_some_iff] at hE
        obtain ⟨c, hc, hd⟩ := hE
        obtain ⟨_, v, hv, hN⟩ := hs _ _ _ hd
        exact ⟨(c, v), hc, hv, fun N hle => hN N (Nat.le_trans (bulk_part (List.mem_map.2 ⟨y, List.mem_of_getElem? hy, rfl⟩)) hle)⟩
    obtain ⟨l, e1, hq⟩ := choose_list _ len key
    refine ⟨rfl, (l.map (·.2), .slice (some a) len cap), ?_, fun N hN => ⟨?_, fun y hy => ?_⟩⟩
    · refine .cons ?_ .nil
      have e2 : (l.map (·.2)).length = len := by simp [e1]
      have goal : RDen (hp W) (.ro sz el (l.map (·.2)) (.slice (some a) (l.map (·.2)).length cap)) (.slice (some a) (l.map (·.2)).length cap) := by
        refine .ro (fun i => match l[i]? with | some q => q.1 | none => []) (fun i x hx => ?_) (fun i hi => ?_) (fun _ _ => rfl) (by omega)
        · rw [List.getElem?_map] at hx
          cases hy : l[i]? with
          | none => rw [hy] at hx; cases hx
          | some q =>
            rw [hy] at hx
            simp only [Option.map_some, Option.some.injEq] at hx
            subst hx
            exact (hq i q hy).2.1
        · rw [e2] at hi
          cases hy : l[i]? with
          | none => rw [List.getElem?_eq_none_iff] at hy; omega
          | some q =>
            obtain ⟨k1, k2⟩ := cells_get (hq i q hy).1
            have hsp : a.spot = none := by
              cases hy0 : l[0]? with
              | none => rw [List.getElem?_eq_none_iff] at hy0; omega
              | some q0 =>
                obtain ⟨g1, g2⟩ := cells_get (hq 0 q0 hy0).1
                cases hc : q0.1 with
                | nil => rw [hc] at g1; simp at g1; omega
                | cons u r =>
                  have := g2 0 u (by rw [hc]; rfl)
                  rw [cell_hp, Nat.zero_mul] at this
                  cases hs' : a.spot with
                  | none => rfl
                  | some s =>
                    exfalso
                    have k3 : ((a.add 0).add 0).spot.isSome = true := by simp [Addr.add, hs']
                    unfold Hp.cell at this
                    split at this
                    · rw [if_pos k3] at this; cases this
                    · cases this
            obtain ⟨b, o, s⟩ := a
            subst hsp
            refine ⟨k1, b, o, rfl, fun j u hu => ?_⟩
            have := k2 j u hu
            rw [Addr.add_none, Addr.add_none, cell_hp, Nat.add_assoc] at this
            exact this
      rw [e2] at goal
      exact goal
    · have := bulk_len (elems.map (·.1))
      simp only [Rows.uptoBulk] at hN
      simp only [List.length_map] at this ⊢
      omega
    · obtain ⟨q, hq1, rfl⟩ := List.mem_map.1 hy
      obtain ⟨i, hi⟩ := List.mem_iff_getElem?.1 hq1
      simp only [Rows.uptoBulk] at hN
      exact (hq i q hi).2.2 N (by omega)
theorem rd_struct {t fuel : Nat} {cs : List Value} {x : DataW H × List MemPlace} {l : List (Nat × Nat)} (ht : (tdOf P t).kind = .struct l) (h : DataW.trod enc P W 0 (fun _ => true) true fuel t cs = some x) :
    cs.length = P.cellsOf t ∧ ∃ n, ∀ (i : Nat) (o ty : Nat), l[i]? = some (o, ty) → ∃ y, DataW.trod enc P W 0 (fun _ => true) true n ty ((cs.drop o).take (P.cellsOf ty)) = some y ∧ Rows.uptoBulk y.1 ≤ Rows.uptoBulk x.1 := by
  obtain ⟨fs, hu, rfl, _⟩ := und_struct ht
  obtain ⟨xs, n, _, rfl, hl, hlen, hf⟩ := DataW.trod_struct hu h
  refine ⟨hl, n, fun i o ty hi => ?_⟩
  rw [List.getElem?_map] at hi
  cases hy : fs.toList[i]? with
  | none => rw [hy] at hi; cases hi
  | some f =>
    rw [hy] at hi
    simp only [Option.map_some, Option.some.injEq, Prod.mk.injEq] at hi
    obtain ⟨rfl, rfl⟩ := hi
    rw [Array.getElem?_toList] at hy
    have e := hf i f hy
    cases hx : xs[i]? with
    | none => 
      rw [List.getElem?_eq_none_iff] at hx
      have := (Array.getElem?_eq_some_iff.1 hy).1
      omega
    | some y =>
      refine ⟨y, by rw [e, hx], ?_⟩
      have := bulk_part (List.mem_map.2 ⟨y, List.mem_of_getElem? hx, rfl⟩ : y.1 ∈ xs.map (·.1))
      simp only [Rows.uptoBulk]
      omega
end

/-! ### the configuration -/
def rgPart (N : Nat) (p : Part) : Prop := (Lit.int .u16 p.id).wf = true ∧ p.name.size ≤ N ∧ (Lit.int .u64 p.period).wf = true ∧ (Lit.int .u64 p.duration).wf = true
def rgWin (N : Nat) (p : Win) : Prop := (Lit.int .u64 p.start).wf = true ∧ (Lit.int .u64 p.length).wf = true ∧ (Lit.int .u16 p.part).wf = true
def rgReg (N : Nat) (p : Regn) : Prop := (Lit.int .u64 p.base).wf = true ∧ (Lit.int .u64 p.size).wf = true ∧ (Lit.int .u16 p.part).wf = true ∧ (Lit.int .u8 p.rights).wf = true
def rgPrt (N : Nat) (p : Prt) : Prop := (Lit.int .u16 p.id).wf = true ∧ (Lit.int .u16 p.part).wf = true ∧ p.name.size ≤ N ∧ (Lit.int .u32 p.size).wf = true
def rgChan (N : Nat) (p : Chan) : Prop := (Lit.int .u16 p.id).wf = true ∧ (Lit.int .u16 p.source).wf = true ∧ p.dests.length ≤ N ∧ ∀ y ∈ p.dests, (Lit.int .u16 y).wf = true
structure rgCfg (N : Nat) (c : Cfg) : Prop where
  frame : (Lit.int .u64 c.frame).wf = true
  parts : c.parts.length ≤ N ∧ ∀ y ∈ c.parts, rgPart N y
  wins : c.wins.length ≤ N ∧ ∀ y ∈ c.wins, rgWin N y
  regs : c.regs.length ≤ N ∧ ∀ y ∈ c.regs, rgReg N y
  ports : c.ports.length ≤ N ∧ ∀ y ∈ c.ports, rgPrt N y
  chans : c.chans.length ≤ N ∧ ∀ y ∈ c.chans, rgChan N y
section
variable {H : Type} {enc : TypeId × Value → H} {W : World}
theorem den_one {s : SV} {x : Value} {H : Hp} (h : RDenL H [s] [x]) : RDen H s x := by
  cases h with | cons h r => exact h
theorem one_of {l : List Value} (h : l.length = 1) : ∃ x, l = [x] := by
  cases l with
  | nil => cases h
  | cons a l => cases l with
    | nil => exact ⟨a, rfl⟩
    | cons b l => simp at h
theorem cs_of {t n b : Nat} {z : Option Value} (h : (tdOf Pr t).inf = some (n, b, z)) : Pr.cellsOf t = n := by
  obtain ⟨i, hi, rfl, _⟩ := inf_some h
  simp [Program.cellsOf, hi]
theorem len3 {l : List Value} (h : l.length = 3) : ∃ a b c, l = [a, b, c] := by
  match l, h with
  | [a, b, c], _ => exact ⟨a, b, c, rfl⟩
theorem len4 {l : List Value} (h : l.length = 4) : ∃ a b c d, l = [a, b, c, d] := by
  match l, h with
  | [a, b, c, d], _ => exact ⟨a, b, c, d, rfl⟩
theorem len5 {l : List Value} (h : l.length = 5) : ∃ a b c d e, l = [a, b, c, d, e] := by
  match l, h with
  | [a, b, c, d, e], _ => exact ⟨a, b, c, d, e, rfl⟩
theorem len6 {l : List Value} (h : l.length = 6) : ∃ a b c d e f, l = [a, b, c, d, e, f] := by
  match l, h with
  | [a, b, c, d, e, f], _ => exact ⟨a, b, c, d, e, f, rfl⟩
/-- One field of one cell. -/
theorem rd_field {t : Nat} {α : Type} {e : α → SV} {ok : Nat → α → Prop} (hr : Rd enc Pr W t 1 (fun a => [e a]) ok) {B : Nat} {l : List (Nat × Nat)} {n : Nat} {cs : List Value}
    (hf : ∀ (i : Nat) (o ty : Nat), l[i]? = some (o, ty) → ∃ y, DataW.trod enc Pr W 0 (fun _ => true) true n ty ((cs.drop o).take (Pr.cellsOf ty)) = some y ∧ Rows.uptoBulk y.1 ≤ B) (i : Nat) {o : Nat} (hi : l[i]? = some (o, t)) (h1 : Pr.cellsOf t = 1)
    {v : Value} (hv : (cs.drop o).take 1 = [v]) : ∃ a, RDen (hp W) (e a) v ∧ ∀ N, B ≤ N → ok N a := by
  obtain ⟨y, hy, hb⟩ := hf i o t hi
  rw [h1, hv] at hy
  obtain ⟨_, a, ha, hN⟩ := hr _ _ _ hy
  exact ⟨a, den_one ha, fun N h => hN N (Nat.le_trans hb h)⟩
theorem rd_u16 : Rd enc Pr W 38 1 eI16 (fun _ n => (Lit.int .u16 n).wf = true) := rd_int (by rw [td38])
theorem rd_part : Rd enc Pr W 49 4 ePart rgPart := by
  intro fuel cs x h
  obtain ⟨hl, n, hf⟩ := rd_struct (l := [(0, 38), (1, 9), (2, 22), (3, 22)]) (by rw [td49]) h
  rw [cs_of (t := 49) (by rw [td49])] at hl
  obtain ⟨a, b, c, d, rfl⟩ := len4 hl
  obtain ⟨a', ha, na⟩ := rd_field (rd_int (k := .u16) (by rw [td38])) hf 0 rfl (cs_of (by rw [td38])) rfl
  obtain ⟨b', hb, nb⟩ := rd_field (rd_string (by rw [td9])) hf 1 rfl (cs_of (by rw [td9])) rfl
  obtain ⟨c', hc, nc⟩ := rd_field (rd_int (k := .u64) (by rw [td22])) hf 2 rfl (cs_of (by rw [td22])) rfl
  obtain ⟨d', hd, nd⟩ := rd_field (rd_int (k := .u64) (by rw [td22])) hf 3 rfl (cs_of (by rw [td22])) rfl
  exact ⟨rfl, ⟨a', b', c', d'⟩, .cons ha (.cons hb (.cons hc (.cons hd .nil))), fun N h => ⟨na N h, nb N h, nc N h, nd N h⟩⟩
theorem rd_win : Rd enc Pr W 161 3 eWin rgWin := by
  intro fuel cs x h
  obtain ⟨hl, n, hf⟩ := rd_struct (l := [(0, 22), (1, 22), (2, 38)]) (by rw [td161]) h
  rw [cs_of (t := 161) (by rw [td161])] at hl
  obtain ⟨a, b, c, rfl⟩ := len3 hl
  obtain ⟨a', ha, na⟩ := rd_field (rd_int (k := .u64) (by rw [td22])) hf 0 rfl (cs_of (by rw [td22])) rfl
  obtain ⟨b', hb, nb⟩ := rd_field (rd_int (k := .u64) (by rw [td22])) hf 1 rfl (cs_of (by rw [td22])) rfl
  obtain ⟨c', hc, nc⟩ := rd_field (rd_int (k := .u16) (by rw [td38])) hf 2 rfl (cs_of (by rw [td38])) rfl
  exact ⟨rfl, ⟨a', b', c'⟩, .cons ha (.cons hb (.cons hc .nil)), fun N h => ⟨na N h, nb N h, nc N h⟩⟩
theorem rd_reg : Rd enc Pr W 163 5 eReg rgReg := by
  intro fuel cs x h
  obtain ⟨hl, n, hf⟩ := rd_struct (l := [(0, 22), (1, 22), (2, 38), (3, 5), (4, 4)]) (by rw [td163]) h
  rw [cs_of (t := 163) (by rw [td163])] at hl
  obtain ⟨a, b, c, d, e, rfl⟩ := len5 hl
  obtain ⟨a', ha, na⟩ := rd_field (rd_int (k := .u64) (by rw [td22])) hf 0 rfl (cs_of (by rw [td22])) rfl
  obtain ⟨b', hb, nb⟩ := rd_field (rd_int (k := .u64) (by rw [td22])) hf 1 rfl (cs_of (by rw [td22])) rfl
  obtain ⟨c', hc, nc⟩ := rd_field (rd_int (k := .u16) (by rw [td38])) hf 2 rfl (cs_of (by rw [td38])) rfl
  obtain ⟨d', hd, nd⟩ := rd_field (rd_int (k := .u8) (by rw [td5])) hf 3 rfl (cs_of (by rw [td5])) rfl
  obtain ⟨e', he, ne⟩ := rd_field (rd_bool (by rw [td4])) hf 4 rfl (cs_of (by rw [td4])) rfl
  exact ⟨rfl, ⟨a', b', c', d', e'⟩, .cons ha (.cons hb (.cons hc (.cons hd (.cons he .nil)))), fun N h => ⟨na N h, nb N h, nc N h, nd N h⟩⟩
theorem rd_prt : Rd enc Pr W 43 6 ePrt rgPrt := by
  intro fuel cs x h
  obtain ⟨hl, n, hf⟩ := rd_struct (l := [(0, 38), (1, 38), (2, 9), (3, 4), (4, 4), (5, 41)]) (by rw [td43]) h
  rw [cs_of (t := 43) (by rw [td43])] at hl
  obtain ⟨a, b, c, d, e, f, rfl⟩ := len6 hl
  obtain ⟨a', ha, na⟩ := rd_field (rd_int (k := .u16) (by rw [td38])) hf 0 rfl (cs_of (by rw [td38])) rfl
  obtain ⟨b', hb, nb⟩ := rd_field (rd_int (k := .u16) (by rw [td38])) hf 1 rfl (cs_of (by rw [td38])) rfl
  obtain ⟨c', hc, nc⟩ := rd_field (rd_string (by rw [td9])) hf 2 rfl (cs_of (by rw [td9])) rfl
  obtain ⟨d', hd, nd⟩ := rd_field (rd_bool (by rw [td4])) hf 3 rfl (cs_of (by rw [td4])) rfl
  obtain ⟨e', he, ne⟩ := rd_field (rd_bool (by rw [td4])) hf 4 rfl (cs_of (by rw [td4])) rfl
  obtain ⟨f', hf', nf⟩ := rd_field (rd_int (k := .u32) (by rw [td41])) hf 5 rfl (cs_of (by rw [td41])) rfl
  exact ⟨rfl, ⟨a', b', c', d', e', f'⟩, .cons ha (.cons hb (.cons hc (.cons hd (.cons he (.cons hf' .nil))))), fun N h => ⟨na N h, nb N h, nc N h, nf N h⟩⟩
theorem rd_chan : Rd enc Pr W 55 3 eChan rgChan := by
  intro fuel cs x h
  obtain ⟨hl, n, hf⟩ := rd_struct (l := [(0, 38), (1, 38), (2, 53)]) (by rw [td55]) h
  rw [cs_of (t := 55) (by rw [td55])] at hl
  obtain ⟨a, b, c, rfl⟩ := len3 hl
  obtain ⟨a', ha, na⟩ := rd_field (rd_int (k := .u16) (by rw [td38])) hf 0 rfl (cs_of (by rw [td38])) rfl
  obtain ⟨b', hb, nb⟩ := rd_field (rd_int (k := .u16) (by rw [td38])) hf 1 rfl (cs_of (by rw [td38])) rfl
  obtain ⟨c', hc, nc⟩ := rd_field (rd_slice rd_u16 (by omega) (cs_of (by rw [td38])) (by rw [td53])) hf 2 rfl (cs_of (by rw [td53])) rfl
  exact ⟨rfl, ⟨a', b', c'.1, c'.2⟩, .cons ha (.cons hb (.cons hc .nil)), fun N h => ⟨na N h, nb N h, (nc N h).1, (nc N h).2⟩⟩
theorem rd_cfg : Rd enc Pr W 29 6 eCfg rgCfg := by
  intro fuel cs x h
  obtain ⟨hl, n, hf⟩ := rd_struct (l := [(0, 22), (1, 23), (2, 24), (3, 25), (4, 26), (5, 27)]) (by rw [td29]) h
  rw [cs_of (t := 29) (by rw [td29])] at hl
  obtain ⟨a, b, c, d, e, f, rfl⟩ := len6 hl
  obtain ⟨a', ha, na⟩ := rd_field (rd_int (k := .u64) (by rw [td22])) hf 0 rfl (cs_of (by rw [td22])) rfl
  obtain ⟨b', hb, nb⟩ := rd_field (rd_slice rd_part (by omega) (cs_of (by rw [td49])) (by rw [td23])) hf 1 rfl (cs_of (by rw [td23])) rfl
  obtain ⟨c', hc, nc⟩ := rd_field (rd_slice rd_win (by omega) (cs_of (by rw [td161])) (by rw [td24])) hf 2 rfl (cs_of (by rw [td24])) rfl
  obtain ⟨d', hd, nd⟩ := rd_field (rd_slice rd_reg (by omega) (cs_of (by rw [td163])) (by rw [td25])) hf 3 rfl (cs_of (by rw [td25])) rfl
  obtain ⟨e', he, ne⟩ := rd_field (rd_slice rd_prt (by omega) (cs_of (by rw [td43])) (by rw [td26])) hf 4 rfl (cs_of (by rw [td26])) rfl
  obtain ⟨f', hf', nf⟩ := rd_field (rd_slice rd_chan (by omega) (cs_of (by rw [td55])) (by rw [td27])) hf 5 rfl (cs_of (by rw [td27])) rfl
  exact ⟨rfl, ⟨a', b'.1, c'.1, d'.1, e'.1, f'.1, b'.2, c'.2, d'.2, e'.2, f'.2⟩, .cons ha (.cons hb (.cons hc (.cons hd (.cons he (.cons hf' .nil))))), fun N h => ⟨na N h, nb N h, nc N h, nd N h, ne N h, nf N h⟩⟩
theorem rgCfg.cfg_ok {c : Cfg} (h : rgCfg 1048576 c) : c.ok := ⟨h.parts.1, h.wins.1, h.regs.1, h.ports.1, h.chans.1, fun x hx => (h.chans.2 x hx).2.2.1⟩
/-- A configuration among the arguments. -/
theorem open_cfg {b0 : Nat} {v : Value} {d : DataW H} {ps : List MemPlace} (hval : Value.okWide Pr W .any b0 29 v) (h : DataW.Trod enc Pr W 0 (fun _ => true) true 29 v d ps) :
    ∃ c : Cfg, (∀ ν, Den ν (hp W) (sCfg c) v) ∧ ∀ N, Rows.uptoBulk d ≤ N → rgCfg N c := by
  obtain ⟨fs, hu, _⟩ := und_struct (P := Pr) (t := 29) (fs := [(0, 22), (1, 23), (2, 24), (3, 25), (4, 26), (5, 27)]) (by rw [td29])
  unfold Value.okWide at hval
  rw [hu] at hval
  obtain ⟨cs, rfl, _, _⟩ := hval
  obtain ⟨fuel, hf⟩ := h
  have hf' : DataW.trod enc Pr W 0 (fun _ => true) true fuel 29 cs.toList = some (d, ps) := hf
  obtain ⟨_, c, hc, hN⟩ := rd_cfg _ _ _ hf'
  exact ⟨c, fun ν => by have := Den.agg (ν := ν) (hc.den); simpa [sCfg] using this, fun N h => hN N h⟩
end
open Go.ChangeShapes Go.WideShapes Go.ChangeAt Go.RowKit
theorem own : ownKnob Try.prog.godebug = none := by kernel_rfl
theorem laid_out : laidOutB Try.prog = true := by kernel_rfl
theorem rec_29 : Try.prog.readableRec 29 = true := by kernel_rfl
theorem lt_29 : 29 < Try.prog.types.size := of_decide_eq_true (by kernel_rfl)
theorem kp_below {W W' : World} (hF : (hp W).le (hp W')) (hk : Kp W W') : Below W.heap.size W W' :=
  ⟨hk.os, hk.tape, hk.output, hk.size, fun k hk => by
    have h := Array.getElem?_eq_getElem hk
    rw [h]
    exact hF k _ h⟩
/-- A law whose contract is told: it is called with nothing of its own. -/
theorem law_calls {f : Nat} {args : List SV} {vs : List Value} {W : World} (h : TriF Pr f args [] [] (.v (.bool true)) []) (hd : ∀ ν, DenL ν (hp W) args vs) :
    Calls Pr f vs.toArray W fun e W' => e = .returned (.bool true) ∧ Below W.heap.size W W' := by
  refine (h.2 W (fun _ => none) (hp W) (hp W) vs (Hp.le.refl _) (Hp.le.refl _) (hd _) ⟨fun _ => [], ⟨fun t r h => (by cases h), fun t u r s b h => (by cases h), fun t r b h => (by cases h)⟩⟩ (fun _ _ => rfl)).mono ?_
  rintro e W' ⟨r, post, ν', H', y, rfl, ⟨rfl, rfl⟩, _, _, _, hF, _, hy, _, _, _, hk⟩
  rw [hy.v_eq]
  exact ⟨rfl, kp_below hF hk⟩
theorem rec_38 : Try.prog.readableRec 38 = true := by kernel_rfl
theorem lt_38 : 38 < Try.prog.types.size := of_decide_eq_true (by kernel_rfl)
/-- What a statement's reading of the arguments and its bound give of each argument's bulk. -/
theorem bulk_all {H : Type} {l : List (DataW H)} (hk : Rows.uptoSmall H (l ++ []) = true) : Rows.uptoBulkAll l ≤ 1048576 := by
  have h : Rows.uptoBulkAll (l ++ []) ≤ 1048576 := of_decide_eq_true hk
  rw [List.append_nil] at h
  exact h
theorem open_u16 {H : Type} {enc : TypeId × Value → H} {W : World} {b0 : Nat} {v : Value} {d : DataW H} {ps : List MemPlace} (hval : Value.okWide Pr W .any b0 38 v) (h : DataW.Trod enc Pr W 0 (fun _ => true) true 38 v d ps) :
    ∃ n : Int, v = .int .u16 n ∧ (Lit.int .u16 n).wf = true := by
  obtain ⟨n, rfl, _, _, hw⟩ := open_int (und_int (by rw [td38])) hval h
  exact ⟨n, rfl, hw⟩
end Go.Proofs.Ytbpobdlahighoaa.Sx
