/- wiring.Matrix. -/
import Derived.Test.YtbpobdlahighoaaSxXs
namespace Go.Proofs.Ytbpobdlahighoaa.Sx
open Go
set_option linter.unusedVariables false
set_option linter.unusedSimpArgs false
set_option maxRecDepth 100000

def wired (c : Cfg) : Prop := linked c ∧ ∀ p ∈ c.ports, ∃ q ∈ c.parts, q.id = p.part
def sChk (c : Cfg) : SV := .rop (eCfg c ++ [sIdx c, .rom SU (kvB [])])
/-- The partition's index of a port's owner. -/
def ownX (c : Cfg) (id : Int) : Int := ix (fun q => decide (q.id = ownerR c id)) c.parts
theorem ownX_nat {c : Cfg} (hw : wired c) {id : Int} {s : Prt} (h : fPort c id = some s) : ∃ k : Nat, ownX c id = (k : Int) ∧ k < c.parts.length := by
  have hm := List.mem_of_find?_eq_some h
  obtain ⟨q, hq, e⟩ := hw.2 s hm
  have ho : ownerR c id = s.part := by unfold ownerR; rw [h]
  unfold ownX
  rw [ho]
  rcases ix_find (fun q : Part => decide (q.id = s.part)) c.parts with ⟨h1, _⟩ | ⟨k, y, _, hy, _, h5⟩
  · have := List.find?_eq_none.1 h1 q hq
    simp [e] at this
  · exact ⟨k, h5, (List.getElem?_eq_some_iff.1 hy).1⟩
theorem t_owner (c : Cfg) (id : Int) {s : Prt} (h : fPort c id = some s) : TriF Pr 47 [.v (.int .u16 id), .rop [sChk c], .rop (eCfg c)] [] [] (.v (.int .i64 (ownX c id))) [] := by
  refine tri_fn Try.f47 [(1, .op 4 (.op 10 (.op 6 (.op 7 (.op 8 (.op 9 (.ro 0 (.op 1 (.op 2 (.ro 3 (.ro 5 (.op 11 (.op 12 (.op 13 (.op 14 (.op 15 (.op 16 (.nil))))))))))))))))))] [] [] 1000 (by kernel_rfl) (by kernel_rfl) (by kernel_rfl) (by kernel_rfl) (by kernel_rfl) (by kernel_rfl) (Nat.le_of_ble_eq_true rfl) ?_
  obtain ⟨q, h1, h2, h3⟩ := at_port h
  have ho : ownerR c id = s.part := by unfold ownerR; rw [h]
  simp -implicitDefEqProofs only [go_sem, Try.f47, sChk, eCfg, sIdx]
  refine call0 (t_ixPort c id) rfl rfl ?_
  have hq : (q : Int) < c.ports.length := by omega
  rw [h1]
  simp -implicitDefEqProofs only [go_sem, hq, encAt_some h2, ePrt]
  refine ⟨by omega, call0 (t_ixPart c s.part) rfl rfl ?_⟩
  simp -implicitDefEqProofs only [go_sem]
  exact ret0 rfl (by simp -implicitDefEqProofs only [go_sem, ownX, ho])
/-- One destination more. -/
def addR (rows : List (List Int)) (k : Nat) (x : Int) : List (List Int) := rows.set k ((rows[k]?.getD []) ++ [x])
def dRows (c : Cfg) (k : Nat) : List (List Int) → List Int → List (List Int)
  | rows, [] => rows
  | rows, d :: l => dRows c k (addR rows k (ownX c d)) l
def cRows (c : Cfg) : List (List Int) → List Chan → List (List Int)
  | rows, [] => rows
  | rows, x :: l => cRows c (dRows c (ownX c x.source).toNat rows x.dests) l
def matF (c : Cfg) : List (List Int) := (cRows c (List.replicate c.parts.length []) c.chans).map fun r => cpt (srt r)
/-- The rows behind i channels. -/
structure outI (c : Cfg) (i : Nat × List (List Int)) : Prop where
  le : i.1 ≤ c.chans.length
  len : i.2.length = c.parts.length
  eq : cRows c (List.replicate c.parts.length []) c.chans = cRows c i.2 (c.chans.drop i.1)
  bd : ∀ r ∈ i.2, r.length ≤ i.1 * 1048576
theorem outI_0 (c : Cfg) : outI c (0, List.replicate c.parts.length []) := ⟨by simp, by simp, rfl, fun r hr => by rw [(List.mem_replicate.1 hr).2]; simp⟩
/-- The rows behind j destinations of channel i. -/
structure inI (c : Cfg) (i : Nat) (x : Chan) (si : Nat) (rows0 : List (List Int)) (j : Nat × List (List Int)) : Prop where
  le : j.1 ≤ x.dests.length
  len : j.2.length = c.parts.length
  eq : dRows c si rows0 x.dests = dRows c si j.2 (x.dests.drop j.1)
  bd : ∀ r ∈ j.2, r.length ≤ i * 1048576 + j.1
theorem addR_eq {rows : List (List Int)} {k : Nat} {x : Int} {r : List Int} (h : rows[k]? = some r) : addR rows k x = rows.set k (r ++ [x]) := by unfold addR; rw [h]; rfl
theorem dRows_nil (c : Cfg) (k : Nat) (rows : List (List Int)) : dRows c k rows [] = rows := by rw [dRows]
theorem dRows_cons (c : Cfg) (k : Nat) (rows : List (List Int)) (d : Int) (l : List Int) : dRows c k rows (d :: l) = dRows c k (addR rows k (ownX c d)) l := by rw [dRows]
theorem cRows_nil (c : Cfg) (rows : List (List Int)) : cRows c rows [] = rows := by rw [cRows]
theorem cRows_cons (c : Cfg) (rows : List (List Int)) (x : Chan) (l : List Chan) : cRows c rows (x :: l) = cRows c (dRows c (ownX c x.source).toNat rows x.dests) l := by rw [cRows]
theorem inI_step {c : Cfg} {i : Nat} {x : Chan} {si : Nat} {rows0 : List (List Int)} {j : Nat} {rows : List (List Int)} {d : Int} {r : List Int} (h : inI c i x si rows0 (j, rows)) (hd : x.dests[j]? = some d) (hr : rows[si]? = some r) :
    inI c i x si rows0 (j + 1, addR rows si (ownX c d)) := by
  have hlt := (List.getElem?_eq_some_iff.1 hd).1
  refine ⟨by simp only; omega, by simp only [addR, List.length_set]; exact h.len, ?_, ?_⟩
  · have := h.eq
    simp only at this
    rw [this, drop_get hd, dRows_cons]
  · intro q hq
    rw [addR_eq hr] at hq
    have h1 := h.bd
    simp only at h1 ⊢
    rcases List.mem_or_eq_of_mem_set hq with hq | rfl
    · have := h1 q hq; omega
    · have := h1 r (List.mem_of_getElem? hr)
      simp only [List.length_append, List.length_cons, List.length_nil]; omega
theorem outI_step {c : Cfg} {i : Nat} {x : Chan} {si : Nat} {rows rows2 : List (List Int)} (h : outI c (i, rows)) (hx : c.chans[i]? = some x) (hs : ownX c x.source = (si : Int)) (hj : inI c i x si rows (x.dests.length, rows2)) (hd : x.dests.length ≤ 1048576 := by assumption) : outI c (i + 1, rows2) := by
  have hlt := (List.getElem?_eq_some_iff.1 hx).1
  refine ⟨by simp only; omega, hj.len, ?_, fun r hr => ?_⟩
  · have h1 := h.eq
    have h2 := hj.eq
    simp only [List.drop_length, dRows_nil] at h1 h2
    rw [h1, drop_get hx, cRows_cons, hs, Int.toNat_natCast, h2]
  · have := hj.bd r hr
    simp only at this ⊢
    omega
theorem srt_len (l : List Int) : (srt l).length = l.length := by unfold srt; exact List.length_mergeSort l
def srtAt (R : List (List Int)) (k : Nat) : List (List Int) := (R.take k).map (fun r => cpt (srt r)) ++ R.drop k
theorem srtAt_len (R : List (List Int)) (k : Nat) : (srtAt R k).length = R.length := by unfold srtAt; simp; omega
theorem srtAt_get {R : List (List Int)} {k : Nat} {row : List Int} (h : R[k]? = some row) : (srtAt R k)[k]? = some row := by
  have hlt := (List.getElem?_eq_some_iff.1 h).1
  unfold srtAt
  rw [List.getElem?_append_right (by simp; omega)]
  simp only [List.length_map, List.length_take, List.getElem?_drop]
  rw [show k + (k - min k R.length) = k by omega]; exact h
theorem srtAt_step {R : List (List Int)} {k : Nat} {row : List Int} (h : R[k]? = some row) : srtAt R (k + 1) = (srtAt R k).set k (cpt (srt row)) := by
  have hlt := (List.getElem?_eq_some_iff.1 h).1
  have he : R[k] = row := (List.getElem?_eq_some_iff.1 h).2
  unfold srtAt
  rw [List.take_succ_eq_append_getElem hlt, List.map_append, List.append_assoc, drop_get h, he]
  rw [List.set_append, if_neg (by simp; omega)]
  simp [show k - min k R.length = 0 by omega]
theorem t_wMatrix (c : Cfg) (hc : c.ok) (hw : wired c) : Tri Pr 23 [sCfg c] [] [] fun r post => ((∃ (vs : List Value) (v : Value), vs.length = c.parts.length ∧ r = .ro 1 (fun p : List Int × Value => [.ro 1 eInt p.1 p.2]) ((matF c).zip vs) v) ∧ r.lt 0 = true) ∧ post = [] := by
  refine tri_fnG Try.f23 [(11, .op 0 (.op 1 (.op 2 (.op 3 (.op 4 (.op 6 (.op 7 (.alt (.op 5 (.op 8 (.op 9 (.op 10 (.op 11 (.op 12 (.nil))))))) (.op 8 (.op 5 (.op 9 (.op 10 (.op 11 (.op 12 (.nil)))))))))))))))] [1] [] [1, 10, 11, 16, 18, 20] 1000 (by kernel_rfl) (by kernel_rfl) (by kernel_rfl) (by kernel_rfl) (by kernel_rfl) (by kernel_rfl) (Nat.le_of_ble_eq_true rfl) ?_
  have hpl := hc.parts
  simp -implicitDefEqProofs only [go_sem, Try.f23, sCfg, eCfg]
  refine callS [] [] (t_of c hc) (by simp) (by simp) (fun ρ => rfl) (fun ρ => rfl) ?_
  rintro r post ⟨rfl, rfl⟩
  simp -implicitDefEqProofs only [go_sem, chk, eCfg, sIdx]
  refine ⟨[.frz 1, .frz 0, .frz 2], ?_⟩
  simp -implicitDefEqProofs only [go_sem]
  refine ⟨⟨by omega, by omega, by omega⟩, .inr ⟨Int, 1, eInt, ?_⟩⟩
  refine loopR (ι := Nat × List (List Int)) (outI c) [1, 3, 4, 5, 20, 21] (fun i => [(22, .v (.int .i64 i.1))]) (fun i => [(3, .nest 1 eInt i.2 none)]) [5] (fun i => c.chans.length - i.1) (0, List.replicate c.parts.length []) (outI_0 c) ⟨rfl, trivial⟩ ⟨rfl, trivial⟩ (fun _ h => by cases h) (fun i => rfl) (fun i => rfl) ?_
  rintro ⟨i, rows⟩ hI E hE
  have hcl := hc.chans
  have hi : i ≤ c.chans.length := hI.1
  by_cases hlt : (i : Int) < c.chans.length
  · obtain ⟨x, hx⟩ := get_lt hlt
    have hxm := List.mem_of_getElem? hx
    obtain ⟨⟨s, hs⟩, hds⟩ := hw.1 x hxm
    obtain ⟨si, hsi, hsl⟩ := ownX_nat hw hs
    simp -implicitDefEqProofs only [go_sem, hlt, encAt_some hx, eChan]
    refine ⟨by omega, call0 (t_owner c x.source hs) rfl rfl ?_⟩
    rw [hsi]
    simp -implicitDefEqProofs only [go_sem]
    have hdl := hc.dests x hxm
    refine loopR (ι := Nat × List (List Int)) (inI c i x si rows) [1, 3, 4, 5, 8, 20, 21, 22, 31, 32] (fun j => [(33, .v (.int .i64 j.1))]) (fun j => [(3, .nest 1 eInt j.2 none)]) [5] (fun j => x.dests.length - j.1) (0, rows) ⟨by simp, hI.len, rfl, fun r hr => by have := hI.bd r hr; simpa using this⟩ ⟨rfl, trivial⟩ ⟨rfl, trivial⟩ (fun _ h => h) (fun j => rfl) (fun j => rfl) ?_
    rintro ⟨j, rows2⟩ hJ E2 hE2
    have hj : j ≤ x.dests.length := hJ.1
    by_cases hlt2 : (j : Int) < x.dests.length
    · obtain ⟨d, hd⟩ := get_lt hlt2
      obtain ⟨p, hp⟩ := hds d (List.mem_of_getElem? hd)
      have hsl2 : si < rows2.length := by have := hJ.len; simp only at this; omega
      have hsl3 : (si : Int) < rows2.length := by omega
      have hrow : rows2[si]? = some (rows2[si]) := List.getElem?_eq_getElem _
      have hbd : rows2[si].length ≤ i * 1048576 + j := hJ.bd _ (List.getElem_mem _)
      have hib : i * 1048576 ≤ 1048576 * 1048576 := Nat.mul_le_mul_right _ (by omega)
      have hfit : appFit eInt [ownX c d] rows2[si].length 8 := ⟨fun z _ => rfl, by simp; omega, by simp; omega⟩
      simp -implicitDefEqProofs only [go_sem, hlt2, encAt_some hd, eI16]
      refine ⟨by omega, [.det 3 si], ?_⟩
      simp -implicitDefEqProofs only [go_sem, hsl3]
      refine ⟨_, hrow, ?_⟩
      refine ⟨by omega, call0 (t_owner c d hp) rfl rfl ?_, call0 (t_owner c d hp) rfl rfl ?_⟩
      · simp -implicitDefEqProofs only [go_sem, hsl3]
        refine ⟨[ownX c d], ⟨rfl, ⟨[], rfl, rfl, rfl⟩⟩, hfit, by omega, [.att 3], ?_⟩
        simp -implicitDefEqProofs only [go_sem]
        refine ⟨_, rfl, inI64_nat hj hdl, hE2 _ (j + 1, addR rows2 si (ownX c d)) (inI_step hJ hd hrow) (by simp only; omega) ⟨rfl, rfl, rfl, rfl, rfl, rfl, rfl, rfl, rfl, rfl, rfl, trivial⟩ ?_ (fun t h => by simpa using h)⟩
        rw [addR_eq hrow]
        exact ⟨rfl, rfl, rfl, rfl, rfl, trivial⟩
      · simp -implicitDefEqProofs only [go_sem, hsl3]
        refine ⟨[ownX c d], ⟨rfl, ⟨[], rfl, rfl, rfl⟩⟩, hfit, by omega, [.att 3], ?_⟩
        simp -implicitDefEqProofs only [go_sem]
        refine ⟨_, rfl, inI64_nat hj hdl, hE2 _ (j + 1, addR rows2 si (ownX c d)) (inI_step hJ hd hrow) (by simp only; omega) ⟨rfl, rfl, rfl, rfl, rfl, rfl, rfl, rfl, rfl, rfl, rfl, trivial⟩ ?_ (fun t h => by simpa using h)⟩
        rw [addR_eq hrow]
        exact ⟨rfl, rfl, rfl, rfl, rfl, trivial⟩
    · have : j = x.dests.length := by omega
      subst this
      have hI' := outI_step hI hx hsi hJ
      simp -implicitDefEqProofs only [go_sem, hlt2]
      exact ⟨inI64_nat hi hcl, hE _ (i + 1, rows2) hI' (by simp only; omega) ⟨rfl, rfl, rfl, rfl, rfl, rfl, rfl, trivial⟩ ⟨rfl, rfl, rfl, rfl, trivial⟩ (fun _ h => h)⟩
  · have : i = c.chans.length := by omega
    subst this
    have hR : cRows c (List.replicate c.parts.length []) c.chans = rows := by have := hI.eq; simp only [List.drop_length, cRows_nil] at this; exact this
    have hRl : rows.length = c.parts.length := hI.len
    simp -implicitDefEqProofs only [go_sem, hlt]
    refine loopR (ι := Nat) (fun k => k ≤ rows.length) [5, 52] (fun k => [(53, .v (.int .i64 k))]) (fun k => [(3, .nest 1 eInt (srtAt rows k) none)]) [5] (fun k => rows.length - k) 0 (by simp) ⟨rfl, trivial⟩ ⟨rfl, trivial⟩ (fun _ h => h) (fun k => rfl) (fun k => rfl) ?_
    intro k hk E2 hE2
    by_cases hlt2 : (k : Int) < rows.length
    · obtain ⟨row, hrow⟩ := get_lt hlt2
      have hrl : row.length < 4611686018427387904 := by
        have := hI.bd row (List.mem_of_getElem? hrow)
        simp only at this
        have : c.chans.length * 1048576 ≤ 1048576 * 1048576 := Nat.mul_le_mul_right _ (by omega)
        omega
      have hsl : (k : Int) < (srtAt rows k).length := by rw [srtAt_len]; omega
      simp -implicitDefEqProofs only [go_sem, hlt2]
      refine ⟨[.det 3 k], ?_⟩
      simp -implicitDefEqProofs only [go_sem, hsl]
      refine ⟨row, srtAt_get hrow, by omega, callS [4] [] (t_sort row hrl) (by simp) (by simp -implicitDefEqProofs only [go_sem]; simp) (fun ρ => rfl) (fun ρ => rfl) ?_⟩
      rintro r post ⟨rfl, rfl⟩
      simp -implicitDefEqProofs only [go_sem, hsl]
      refine ⟨by omega, callS [4] [0] (t_compact (srt row) (by rw [srt_len]; exact hrl)) (by simp) (by simp -implicitDefEqProofs only [go_sem]; simp) (fun ρ => rfl) (fun ρ => rfl) ?_⟩
      rintro r post ⟨rfl, rfl⟩
      simp -implicitDefEqProofs only [go_sem, hsl]
      refine ⟨by omega, [.att 3], ?_⟩
      simp -implicitDefEqProofs only [go_sem]
      refine ⟨_, rfl, inI64_nat (show k ≤ c.parts.length by omega) hpl, hE2 _ (k + 1) (by omega) (by omega) ⟨rfl, rfl, rfl, trivial⟩ ?_ (fun t h => h)⟩
      rw [srtAt_step hrow]
      exact ⟨rfl, rfl, rfl, rfl, trivial⟩
    · have : k = rows.length := by omega
      subst this
      simp -implicitDefEqProofs only [go_sem, hlt2]
      refine ⟨[.frz 3], ?_⟩
      simp -implicitDefEqProofs only [go_sem]
      intro vs v hv
      refine ret0 rfl ?_
      simp -implicitDefEqProofs only [go_sem]
      rw [srtAt_len] at hv
      refine ⟨vs, v, by omega, ?_⟩
      unfold matF srtAt
      rw [hR, List.take_length, List.drop_length, List.append_nil]
end Go.Proofs.Ytbpobdlahighoaa.Sx
