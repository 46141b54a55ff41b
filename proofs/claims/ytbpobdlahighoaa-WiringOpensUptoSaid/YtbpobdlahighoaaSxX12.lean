/- The law's example: alive. -/
import Derived.Test.YtbpobdlahighoaaSxX11
namespace Go.Proofs.Ytbpobdlahighoaa.Sx
open Go
set_option linter.unusedVariables false
set_option linter.unusedSimpArgs false
set_option maxRecDepth 100000

@[go_sem] theorem bsN_2 {C : Cx} {d : Option Nat} {K : St → Prop} {st : St} {p sz z} : bsN C d K st sz z p 2 = (z.cells.size = sz ∧ bsF C d K st sz 2 (vfill (fun i => some (i * sz, sz)) (zcells z ++ (zcells z ++ [])) p)) := rfl
/-- A contract for what is told with more serves what is told with less. -/
theorem tri_weak {P : Program} {f : FuncId} {args args' : List SV} {pre : List Res} {mv : List Nat} {Q : SV → List Res → Prop} (h : ∀ ν H vs, DenL ν H args vs → DenL ν H args' vs) (hT : Tri P f args' pre mv Q) : Tri P f args pre mv Q :=
  ⟨hT.1, fun w ν H F vs h1 h2 h3 h4 h5 => hT.2 w ν H F vs h1 h2 (h ν H vs h3) h4 h5⟩
theorem nil_ro {ν : Nat → Option Value} {H : Hp} {α : Type} {sz : Nat} {enc : α → List SV} {y : Value} (h : Den ν H (.v (.slice none 0 0)) y) : Den ν H (.ro sz enc ([] : List α) (.slice none 0 0)) y := by
  rw [h.v_eq]
  exact .r (.ro (xs := ([] : List α)) (fun _ => []) (fun i x hx => by simp at hx) (fun i hi => by simp at hi) (fun a ha => by cases ha) (Nat.le_refl _))
def bA : ByteArray := { data := #[97] }
def bB : ByteArray := { data := #[98] }
def bX : ByteArray := { data := #[120] }
def prA : Prt := ⟨1, 1, bX, true, false, 8⟩
def prB : Prt := ⟨2, 2, bX, false, false, 8⟩
/-- The example's configuration; the addresses are what they are. -/
def cA (d p t v : Value) : Cfg := ⟨0, [⟨1, bA, 0, 0⟩, ⟨2, bB, 0, 0⟩], [], [], [prA, prB], [⟨1, 1, [2], d⟩], p, .slice none 0 0, .slice none 0 0, t, v⟩
def sA (d p t v : Value) : SV := .agg [.v (.int .u64 0), .ro 4 ePart (cA d p t v).parts p, .v (.slice none 0 0), .v (.slice none 0 0), .ro 6 ePrt (cA d p t v).ports t, .ro 3 eChan (cA d p t v).chans v]
theorem tri_A {f : FuncId} {rest : List SV} {Q : SV → List Res → Prop} {d p t v : Value} (h : Tri Pr f (sCfg (cA d p t v) :: rest) [] [] Q) : Tri Pr f (sA d p t v :: rest) [] [] Q := by
  refine tri_weak (fun ν H vs hd => ?_) h
  cases hd with
  | cons h1 h2 =>
    refine .cons ?_ h2
    obtain ⟨cs, rfl, hl⟩ := h1.agg_inv
    cases hl with
    | cons a1 r1 => cases r1 with
      | cons a2 r2 => cases r2 with
        | cons a3 r3 => cases r3 with
          | cons a4 r4 => exact .agg (.cons a1 (.cons a2 (.cons (nil_ro a3) (.cons (nil_ro a4) r4))))
theorem cA_ok (d p t v : Value) : (cA d p t v).ok := ⟨by simp [cA], by simp [cA], by simp [cA], by simp [cA], by simp [cA], by simp [cA]⟩
theorem cA_from (d p t v : Value) : fromF (cA d p t v) 2 = (1, true) := by simp [fromF, cA, hasD]
theorem cA_wired (d p t v : Value) : wired (cA d p t v) := by
  refine ⟨fun x hx => ?_, fun q hq => ?_⟩
  · have : x = ⟨1, 1, [2], d⟩ := by simpa [cA] using hx
    subst this
    refine ⟨⟨prA, by simp [fPort, cA, prA]⟩, fun e he => ?_⟩
    have : e = 2 := by simpa using he
    subst this
    exact ⟨prB, by simp [fPort, cA, prA, prB]⟩
  · have : q = prA ∨ q = prB := by simpa [cA] using hq
    rcases this with rfl | rfl
    · exact ⟨⟨1, bA, 0, 0⟩, by simp [cA], rfl⟩
    · exact ⟨⟨2, bB, 0, 0⟩, by simp [cA], rfl⟩
theorem cA_ports (d p t v : Value) : portsF (cA d p t v) 0 (cA d p t v).ports = (0, 0) := by
  have h1 : portE (cA d p t v) prA = 0 := by simp [portE, ix, cA, prA, List.findIdx?_cons]
  have h2 : portE (cA d p t v) prB = 0 := by simp [portE, ix, cA, prB, List.findIdx?_cons]
  show portsF (cA d p t v) 0 [prA, prB] = (0, 0)
  rw [portsF_cons, if_pos h1, portsF_cons, if_pos h2, portsF_nil]
theorem cA_chans (d p t v : Value) : ∃ u, chansF (cA d p t v) [] 0 (cA d p t v).chans = (0, 0, u) := by
  have f1 : (cA d p t v).ports.find? (fun q => decide (q.id = 1)) = some prA := by simp [cA, prA]
  have f2 : (cA d p t v).ports.find? (fun q => decide (q.id = 2)) = some prB := by simp [cA, prA, prB]
  have e1 : endF (cA d p t v) [] 1 true (fun _ => true) = (prA, 0, aset [] 1 true) := by
    unfold endF; rw [f1]; simp [prA, aget]
  have e2 : endF (cA d p t v) (aset [] 1 true) 2 false (sameF prA) = (prB, 0, aset (aset [] 1 true) 2 true) := by
    unfold endF; rw [f2]; simp [prA, prB, sameF, aget, aset]
  have h : chanF (cA d p t v) [] ⟨1, 1, [2], d⟩ = (0, aset (aset [] 1 true) 2 true) := by
    unfold chanF
    simp only [e1, if_true, List.length_cons, List.length_nil]
    rw [if_neg (by omega), destsF_cons, e2, destsF_nil]; simp
  refine ⟨aset (aset [] 1 true) 2 true, ?_⟩
  show chansF (cA d p t v) [] 0 [⟨1, 1, [2], d⟩] = _
  rw [chansF_cons, h]
  simp [chansF_nil]
theorem cA_mat (d p t v : Value) : matF (cA d p t v) = [[1], []] := by
  have f1 : fPort (cA d p t v) 1 = some prA := by simp [fPort, cA, prA]
  have f2 : fPort (cA d p t v) 2 = some prB := by simp [fPort, cA, prA, prB]
  have o1 : ownX (cA d p t v) 1 = 0 := by unfold ownX ownerR; rw [f1]; simp [ix, cA, prA, List.findIdx?_cons]
  have o2 : ownX (cA d p t v) 2 = 1 := by unfold ownX ownerR; rw [f2]; simp [ix, cA, prB, List.findIdx?_cons]
  have h : cRows (cA d p t v) (List.replicate (cA d p t v).parts.length []) (cA d p t v).chans = [[1], []] := by
    show cRows (cA d p t v) [[], []] [⟨1, 1, [2], d⟩] = _
    rw [cRows_cons, cRows_nil]
    show dRows _ (ownX (cA d p t v) 1).toNat _ [2] = _
    rw [o1, dRows_cons, dRows_nil, o2]
    simp [addR]
  unfold matF
  rw [h]
  have s1 : cpt (srt [1]) = [1] := by
    have : srt [1] = [1] := by simp [srt, List.mergeSort]
    rw [this]; rfl
  have s2 : cpt (srt []) = [] := by
    have : srt [] = [] := by simp [srt, List.mergeSort]
    rw [this]; rfl
  simp [s1, s2]
theorem cA_flow1 (d p t v : Value) : FlowP (cA d p t v) 1 2 := by
  refine ⟨0, 1, by simp [ix, cA, List.findIdx?_cons], by simp [ix, cA, List.findIdx?_cons], .one ?_⟩
  rw [cA_mat]; simp [rowOf]
theorem cA_flow2 (d p t v : Value) : ¬ FlowP (cA d p t v) 2 1 := by
  rintro ⟨i, j, h1, h2, h3⟩
  have e1 : ix (fun q : Part => decide (q.id = 2)) (cA d p t v).parts = 1 := by simp [ix, cA, List.findIdx?_cons]
  rw [e1] at h1
  have : i = 1 := by omega
  subst this
  rw [cA_mat] at h3
  have key : ∀ x, Rch [[1], []] ((1 : Nat) : Int) x → False := by
    intro x hx
    induction hx with
    | one h => simp [rowOf] at h
    | step _ _ ih => exact ih
  exact key _ h3
/-- fenestralaw18.alive -/
theorem t_alive : TriF Pr 10 [] [] [] (.v (.bool true)) [] := by
  refine tri_fnG Try.f10 [] [] [] [1] 1000 (by kernel_rfl) (by kernel_rfl) (by kernel_rfl) (by kernel_rfl) (by kernel_rfl) (by kernel_rfl) (Nat.le_of_ble_eq_true rfl) ?_
  simp -implicitDefEqProofs only [go_sem, Try.f10]
  refine ⟨[.frz 2, .frz 0, .frz 1, .frz 3, .frz 4], ?_⟩
  simp -implicitDefEqProofs only [go_sem]
  refine ⟨Int, eI16, [2], ⟨rfl, ⟨[], rfl, rfl, rfl⟩⟩, fun d => ?_⟩
  refine ⟨Part, ePart, [⟨1, bA, 0, 0⟩, ⟨2, bB, 0, 0⟩], ⟨rfl, ⟨_, rfl, rfl, ⟨[], rfl, rfl, rfl⟩⟩⟩, fun p => ?_⟩
  refine ⟨Prt, ePrt, [prA, prB], ⟨rfl, ⟨_, rfl, rfl, ⟨[], rfl, rfl, rfl⟩⟩⟩, fun t => ?_⟩
  refine ⟨Chan, eChan, [⟨1, 1, [2], d⟩], ⟨rfl, ⟨[], rfl, rfl, rfl⟩⟩, fun v => ?_⟩
  have hok := cA_ok d p t v
  have hw := cA_wired d p t v
  refine call0 (tri_A (t_wFrom (cA d p t v) hok 2)) rfl rfl ?_
  simp -implicitDefEqProofs only [go_sem, cA_from]
  refine call0 (tri_A (t_wPorts (cA d p t v) hok)) rfl rfl ?_
  have hc0 : ((0 : Nat) : Int) = 0 := rfl
  simp -implicitDefEqProofs only [go_sem, cA_ports, sFault, hc0]
  obtain ⟨u, hu⟩ := cA_chans d p t v
  refine call0 (tri_A (t_wChannels (cA d p t v) hok)) rfl rfl ?_
  simp -implicitDefEqProofs only [go_sem, hu, sFault, hc0]
  refine call0Q (tri_A (t_wFlow (cA d p t v) hok hw 1 2)) rfl ?_
  rintro r ⟨q, rfl, hq⟩
  have : q = true := hq.2 (cA_flow1 d p t v)
  subst this
  simp -implicitDefEqProofs only [go_sem]
  refine call0Q (tri_A (t_wFlow (cA d p t v) hok hw 2 1)) rfl ?_
  rintro r ⟨q, rfl, hq⟩
  have : q = false := by
    cases q with
    | true => exact absurd (hq.1 rfl) (cA_flow2 d p t v)
    | false => rfl
  subst this
  simp -implicitDefEqProofs only [go_sem]
  exact ret0 rfl (by simp -implicitDefEqProofs only [go_sem])
end Go.Proofs.Ytbpobdlahighoaa.Sx
