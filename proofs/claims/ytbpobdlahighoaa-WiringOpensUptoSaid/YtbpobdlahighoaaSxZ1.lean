/- wiring.Open and ref18.Open. -/
import Derived.Test.YtbpobdlahighoaaSxU7
import Derived.Test.YtbpobdlahighoaaSxX17
import Derived.Test.YtbpobdlahighoaaSxX12
namespace Go.Proofs.Ytbpobdlahighoaa.Sx
open Go
set_option linter.unusedVariables false
set_option linter.unusedSimpArgs false
set_option maxRecDepth 100000

/-! ### a set of ports -/
theorem aset_new {l : List (Int × Bool)} {k : Int} {v : Bool} (h : ∀ p ∈ l, p.1 ≠ k) : aset l k v = l ++ [(k, v)] := by
  induction l with
  | nil => rfl
  | cons p l ih =>
    unfold aset
    rw [if_neg (h p (by simp)), ih (fun q hq => h q (by simp [hq]))]; rfl
theorem mdel_kvB {l : List (Int × Bool)} {k : Int} (hn : (l.map (·.1)).Nodup) : mdel (kvB l) (kU k) = kvB (l.filter fun p => !decide (k = p.1)) := by
  induction l with
  | nil => rfl
  | cons p l ih =>
    simp only [List.map_cons, List.nodup_cons] at hn
    have ih := ih hn.2
    show mdel ((kU p.1, gB p.2) :: kvB l) (kU k) = _
    unfold mdel
    simp only []
    by_cases e : p.1 = k
    · have : ¬ (!decide (k = p.1)) = true := by simp [e]
      rw [if_pos (by rw [e]), List.filter_cons_of_neg (p := fun p : Int × Bool => !decide (k = p.1)) this]
      have hf : l.filter (fun p => !decide (k = p.1)) = l := List.filter_eq_self.2 (fun q hq => by
        have : k ≠ q.1 := fun h => hn.1 (by rw [e, h]; exact List.mem_map.2 ⟨q, hq, rfl⟩)
        simp [this])
      rw [hf]
    · have : ¬ kU p.1 = kU k := fun h => e (kU_inj _ _ h)
      have h2 : (!decide (k = p.1)) = true := by
        have : ¬ k = p.1 := fun h => e h.symm
        simp [this]
      rw [if_neg this, List.filter_cons_of_pos (p := fun p : Int × Bool => !decide (k = p.1)) h2, ih]; rfl
/-- The ports but those of a kind. -/
def pm (c : Cfg) (f : Int → Bool) : List (Int × Bool) := (c.ports.filter fun p => !f p.id).map fun p => (p.id, true)
theorem pm_keys {c : Cfg} {f : Int → Bool} : (pm c f).map (·.1) = (c.ports.filter fun p => !f p.id).map (·.id) := by
  unfold pm; rw [List.map_map]; rfl
theorem ids_nodup {c : Cfg} (h : RightP c) : (c.ports.map (·.id)).Nodup := by
  unfold List.Nodup
  rw [List.pairwise_iff_getElem]
  intro i j hi hj hij e
  simp only [List.length_map] at hi hj
  simp only [List.getElem_map] at e
  have := h.ports i j _ _ (List.getElem?_eq_getElem hi) (List.getElem?_eq_getElem hj) e
  omega
theorem pm_nodup {c : Cfg} (h : RightP c) (f : Int → Bool) : ((pm c f).map (·.1)).Nodup := by
  rw [pm_keys]
  exact (List.filter_sublist.map _).nodup (ids_nodup h)
theorem pm_del {c : Cfg} (h : RightP c) (f : Int → Bool) (k : Int) : mdel (kvB (pm c f)) (kU k) = kvB (pm c fun id => f id || decide (k = id)) := by
  rw [mdel_kvB (pm_nodup h f)]
  congr 1
  unfold pm
  rw [List.filter_map, List.filter_filter]
  congr 1
  refine List.filter_congr (fun p _ => ?_)
  simp only [Function.comp]
  cases f p.id <;> cases decide (k = p.id) <;> rfl
theorem seenD_zero (c : Cfg) (i : Nat) (x : Chan) : (fun id => used c i id || decide (x.source = id)) = seenD c i x 0 := by
  funext id; simp [seenD]
theorem seenD_next {c : Cfg} {i k : Nat} {x : Chan} {d : Int} (hd : x.dests[k]? = some d) : (fun id => seenD c i x k id || decide (d = id)) = seenD c i x (k + 1) := by
  funext id; rw [seenD_succ hd, Bool.or_comm]
theorem seenD_end {c : Cfg} {i : Nat} {x : Chan} (hx : c.chans[i]? = some x) : seenD c i x x.dests.length = used c (i + 1) := by
  funext id; rw [used_succ hx]; simp [seenD, hasP]
def pmT (c : Cfg) (i : Nat) : List (Int × Bool) := (c.ports.take i).map fun p => (p.id, true)
theorem pmT_succ {c : Cfg} (h : RightP c) {i : Nat} {p : Prt} (hp : c.ports[i]? = some p) : aset (pmT c i) p.id true = pmT c (i + 1) := by
  obtain ⟨hl, e⟩ := List.getElem?_eq_some_iff.1 hp
  rw [aset_new]
  · unfold pmT; rw [List.take_succ_eq_append_getElem hl, e]; simp
  · intro q hq
    obtain ⟨y, hy, rfl⟩ := List.mem_map.1 hq
    obtain ⟨j, hj⟩ := List.mem_iff_getElem?.1 hy
    rw [List.getElem?_take] at hj
    split at hj
    · rename_i hji
      intro e2
      have := h.ports j i y p hj hp e2
      omega
    · cases hj
theorem pmT_end (c : Cfg) : pmT c c.ports.length = pm c (used c 0) := by
  unfold pmT pm
  rw [List.take_length]
  have : c.ports.filter (fun p => !used c 0 p.id) = c.ports := List.filter_eq_self.2 (fun p _ => by simp [used])
  rw [this]
/-- wiring.Open -/
theorem t_wOpen (c : Cfg) (hc : c.ok) (hR : RightP c) : Tri Pr 26 [sCfg c] [] [] (fun r post => r = .h 0 ∧ ∃ xs : List Int, xs.Perm ((c.ports.filter fun p => !used c c.chans.length p.id).map (·.id)) ∧ xs.Pairwise (fun x y => x ≤ y) ∧ post = [.sl 1 eI16 xs]) := by
  refine tri_fnG Try.f26 [] [1] [] [8] 1000 (by kernel_rfl) (by kernel_rfl) (by kernel_rfl) (by kernel_rfl) (by kernel_rfl) (by kernel_rfl) (Nat.le_of_ble_eq_true rfl) ?_
  have hpl := hc.ports
  have hcl := hc.chans
  simp -implicitDefEqProofs only [go_sem, Try.f26, sCfg, eCfg]
  refine ⟨SU, ?_⟩
  refine loopR (ι := Nat) (fun i => i ≤ c.ports.length) [1, 3, 12, 13] (fun i => [(14, I64 i)]) (fun i => [(0, .mp SU (kvB (pmT c i)))]) [] (fun i => c.ports.length - i) 0 (by omega) ⟨rfl, trivial⟩ ⟨rfl, trivial⟩ (fun _ h => h) (fun i => rfl) (fun i => rfl) ?_
  intro i hi E hE
  by_cases hlt : (i : Int) < c.ports.length
  · obtain ⟨p, hp⟩ := get_lt hlt
    have hm := mset_kv kU_inj gB (pmT c i) p.id true
    rw [pmT_succ hR hp] at hm
    simp -implicitDefEqProofs only [go_sem, hlt, encAt_some hp, ePrt]
    exact ⟨by omega, inI64_nat hi hpl, hE _ (i + 1) (by omega) (by omega) ⟨rfl, rfl, rfl, rfl, rfl, trivial⟩ ⟨congrArg (fun z => some (Res.mp SU z)) hm, trivial⟩ (fun _ h => h)⟩
  · obtain rfl : i = c.ports.length := by omega
    simp -implicitDefEqProofs only [go_sem, hlt]
    rw [pmT_end]
    refine loopR (ι := Nat) (fun i => i ≤ c.chans.length) [1, 3, 23, 24] (fun i => [(25, I64 i)]) (fun i => [(0, .mp SU (kvB (pm c (used c i))))]) [] (fun i => c.chans.length - i) 0 (by omega) ⟨rfl, trivial⟩ ⟨rfl, trivial⟩ (fun _ h => h) (fun i => rfl) (fun i => rfl) ?_
    intro i hi E2 hE2
    by_cases hlt2 : (i : Int) < c.chans.length
    · obtain ⟨x, hx⟩ := get_lt hlt2
      have hxd := hc.dests x (List.mem_of_getElem? hx)
      have hm := pm_del hR (used c i) x.source
      rw [seenD_zero] at hm
      simp -implicitDefEqProofs only [go_sem, hlt2]
      refine ⟨[], ?_⟩
      simp -implicitDefEqProofs only [go_sem, encAt_some hx, eChan]
      rw [show mdel (kvB (pm c (used c i))) (Value.int .u16 x.source) = kvB (pm c (seenD c i x 0)) from hm]
      refine ⟨by omega, ?_⟩
      refine loopR (ι := Nat) (fun k => k ≤ x.dests.length) [1, 3, 23, 24, 25, 33, 34] (fun k => [(35, I64 k)]) (fun k => [(0, .mp SU (kvB (pm c (seenD c i x k))))]) [] (fun k => x.dests.length - k) 0 (by omega) ⟨rfl, trivial⟩ ⟨rfl, trivial⟩ (fun _ h => h) (fun i => rfl) (fun i => rfl) ?_
      intro k hk E3 hE3
      by_cases hlt3 : (k : Int) < x.dests.length
      · obtain ⟨d, hd⟩ := get_lt hlt3
        have hm2 := pm_del hR (seenD c i x k) d
        rw [seenD_next hd] at hm2
        simp -implicitDefEqProofs only [go_sem, hlt3, encAt_some hd, eI16]
        exact ⟨by omega, inI64_nat hk hxd, hE3 _ (k + 1) (by omega) (by omega) ⟨rfl, rfl, rfl, rfl, rfl, rfl, rfl, rfl, trivial⟩ ⟨rfl, congrArg (fun z => some (Res.mp SU z)) hm2, trivial⟩ (fun _ h => h)⟩
      · obtain rfl : k = x.dests.length := by omega
        simp -implicitDefEqProofs only [go_sem, hlt3]
        rw [seenD_end hx]
        exact ⟨inI64_nat hi hcl, hE2 _ (i + 1) (by omega) (by omega) ⟨rfl, rfl, rfl, rfl, rfl, trivial⟩ ⟨rfl, trivial⟩ (fun _ h => h)⟩
    · obtain rfl : i = c.chans.length := by omega
      simp -implicitDefEqProofs only [go_sem, hlt2]
      refine ⟨[.frz 0], ?_⟩
      simp -implicitDefEqProofs only [go_sem]
      refine call0 (t_keys SU _) rfl rfl ?_
      simp -implicitDefEqProofs only [go_sem]
      have hkl : ((c.ports.filter fun p => !used c c.chans.length p.id).map (·.id)).length ≤ 1048576 := by
        rw [List.length_map]; exact Nat.le_trans (List.length_filter_le _ _) hpl
      refine callS [] [] (t_sorted SU (kvB (pm c (used c c.chans.length))) ((c.ports.filter fun p => !used c c.chans.length p.id).map (·.id)) hkl (by unfold pm; simp [kvOf, kU])) (by simp) (by simp) (fun ρ => rfl) (fun ρ => rfl) ?_
      rintro r post ⟨rfl, xs, h1, h2, rfl⟩
      simp -implicitDefEqProofs only [go_sem]
      exact retS [1] (.h 0) [.sl 1 eI16 xs] (by simp -implicitDefEqProofs only [go_sem]; exact ⟨xs, h1, h2, rfl⟩)
end Go.Proofs.Ytbpobdlahighoaa.Sx
/- ref18.Open; slices.Equal at []uint16. -/
namespace Go.Proofs.Ytbpobdlahighoaa.Sx
open Go
set_option linter.unusedVariables false
set_option linter.unusedSimpArgs false
set_option maxRecDepth 100000

theorem eq_of_get16 {α : Type} {a b : List α} (hl : a.length = b.length) (h : ∀ (j : Nat) (x y : α), a[j]? = some x → b[j]? = some y → x = y) : a = b := by
  refine List.ext_getElem hl (fun i h1 h2 => ?_)
  exact h i _ _ (List.getElem?_eq_getElem h1) (List.getElem?_eq_getElem h2)
theorem snoc_eq16 {α : Type} {a b : List α} {i : Nat} {x y : α} (hx : a[i]? = some x) (hy : b[i]? = some y) (e : x = y) (h : ∀ (j : Nat) (x y : α), j < i → a[j]? = some x → b[j]? = some y → x = y) : ∀ (j : Nat) (x y : α), j < i + 1 → a[j]? = some x → b[j]? = some y → x = y := by
  intro j u v hj hu hv
  rcases Nat.lt_or_ge j i with hlt | hge
  · exact h j u v hlt hu hv
  · have : j = i := by omega
    subst this
    rw [hx] at hu; rw [hy] at hv
    injection hu with hu; injection hv with hv
    rw [← hu, ← hv, e]
def openP (c : Cfg) (id : Nat) : Bool := decide (0 ≤ ix (fun p => decide (p.id = (id : Int))) c.ports) && !used c c.chans.length id
def openTo (c : Cfg) (n : Nat) : List Int := ((List.range n).filter (openP c)).map fun k : Nat => (k : Int)
theorem openTo_succ {c : Cfg} {n : Nat} : openTo c (n + 1) = if openP c n = true then openTo c n ++ [(n : Int)] else openTo c n := by
  unfold openTo
  rw [List.range_succ, List.filter_append, List.map_append]
  by_cases h : openP c n = true
  · rw [if_pos h, List.filter_cons_of_pos h]; rfl
  · rw [if_neg h, List.filter_cons_of_neg h]; simp
theorem openTo_len {c : Cfg} {n : Nat} : (openTo c n).length ≤ n := by
  unfold openTo
  rw [List.length_map]
  have := List.length_filter_le (openP c) (List.range n)
  simpa using this
theorem wrap_u16 {n : Nat} (h : n < 65536) : IntKind.u16.wrap (n : Int) = n := by
  simp [IntKind.wrap, IntKind.signed, IntKind.bits]
  omega
/-- ref18.Open -/
theorem t_rOpen (c : Cfg) (hc : c.ok) : TriF Pr 28 [sCfg c] [] [] (.h 0) [.sl 1 eI16 (openTo c 65536)] := by
  refine tri_fnG Try.f28 [] [1] [] [1] 1000 (by kernel_rfl) (by kernel_rfl) (by kernel_rfl) (by kernel_rfl) (by kernel_rfl) (by kernel_rfl) (Nat.le_of_ble_eq_true rfl) ?_
  have hcl := hc.chans
  simp -implicitDefEqProofs only [go_sem, Try.f28, sCfg, eCfg]
  refine ⟨[.nil 3], Int, 1, eI16, ?_⟩
  simp -implicitDefEqProofs only [go_sem]
  refine loopR (ι := Nat) (fun i => i ≤ 65536) [1] (fun i => [(4, I64 i), (3, .h 0)]) (fun i => [(0, .sl 1 eI16 (openTo c i))]) [0] (fun i => 65536 - i) 0 (by omega) ⟨rfl, rfl, trivial⟩ ⟨rfl, trivial⟩ (fun _ h => by cases h) (fun i => rfl) (fun i => rfl) ?_
  intro i hi E hE
  by_cases hlt : (i : Int) < 65536
  · have hw : IntKind.u16.wrap (i : Int) = i := wrap_u16 (by omega)
    have hol := openTo_len (c := c) (n := i)
    have hfit : appFit eI16 [(i : Int)] (openTo c i).length 2 := ⟨fun z _ => rfl, by simp; omega, by simp; omega⟩
    simp -implicitDefEqProofs only [go_sem, hlt, hw]
    refine call0 (t_port c hc i) rfl rfl ?_
    by_cases hp : 0 ≤ ix (fun p => decide (p.id = (i : Int))) c.ports
    · simp -implicitDefEqProofs only [go_sem, hp, hw]
      refine call0 (t_uses c hc c.chans.length (Nat.le_refl _) i) rfl rfl ?_
      cases hu : ((c.chans.take c.chans.length).any fun y => hasP y (i : Int)) with
      | true =>
        have e : openTo c (i + 1) = openTo c i := by rw [openTo_succ, if_neg]; unfold openP used; rw [hu]; simp
        simp -implicitDefEqProofs only [go_sem, hw]
        exact ⟨⟨by omega, by omega⟩, hE _ (i + 1) (by omega) (by omega) ⟨rfl, rfl, rfl, trivial⟩ ⟨by rw [e]; rfl, trivial⟩ (fun _ h => by simpa using h)⟩
      | false =>
        have e : openTo c (i + 1) = openTo c i ++ [(i : Int)] := by rw [openTo_succ, if_pos]; unfold openP used; rw [hu]; simp [hp]
        simp -implicitDefEqProofs only [go_sem, hw]
        refine ⟨[(i : Int)], ⟨rfl, ⟨[], rfl, rfl, rfl⟩⟩, hfit, ?_⟩
        exact ⟨⟨by omega, by omega⟩, hE _ (i + 1) (by omega) (by omega) ⟨rfl, rfl, rfl, trivial⟩ ⟨by rw [e]; rfl, trivial⟩ (fun _ h => by simpa using h)⟩
    · have e : openTo c (i + 1) = openTo c i := by rw [openTo_succ, if_neg]; unfold openP; simp [hp]
      simp -implicitDefEqProofs only [go_sem, hp, hw]
      exact ⟨⟨by omega, by omega⟩, hE _ (i + 1) (by omega) (by omega) ⟨rfl, rfl, rfl, trivial⟩ ⟨by rw [e]; rfl, trivial⟩ (fun _ h => by simpa using h)⟩
  · obtain rfl : i = 65536 := by omega
    simp -implicitDefEqProofs only [go_sem, hlt]
    exact retS [0] (.h 0) [.sl 1 eI16 (openTo c 65536)] (by simp -implicitDefEqProofs only [go_sem]; exact fun t _ h => absurd h (Nat.not_lt_zero t))
/-- slices.Equal at []uint16 -/
theorem t_equal16 (a b : List Int) (hl : a.length ≤ 1048576) (v : Value) : TriF Pr 27 [.ro 1 eI16 a v, .h 0] [.sl 1 eI16 b] [] (.v (.bool (decide (a = b)))) [.sl 1 eI16 b] := by
  refine tri_fn Try.f27 [] [] [] 1000 (by kernel_rfl) (by kernel_rfl) (by kernel_rfl) (by kernel_rfl) (by kernel_rfl) (by kernel_rfl) (Nat.le_of_ble_eq_true rfl) ?_
  simp -implicitDefEqProofs only [go_sem, Try.f27]
  by_cases hlen : (a.length : Int) = b.length
  · simp -implicitDefEqProofs only [go_sem, hlen]
    have hlen' : a.length = b.length := by omega
    refine loopR (ι := Nat) (fun i => i ≤ a.length ∧ ∀ (j : Nat) (x y : Int), j < i → a[j]? = some x → b[j]? = some y → x = y) [0, 1, 4, 12] (fun i => [(13, .v (.int .i64 i))]) (fun _ => [(0, .sl 1 eI16 b)]) [] (fun i => a.length - i) 0 ⟨by omega, fun j x y h => by omega⟩ ⟨rfl, trivial⟩ ⟨rfl, trivial⟩ (fun _ h => h) (fun i => rfl) (fun i => rfl) ?_
    rintro i ⟨hi, hx⟩ E hE
    by_cases hlt : (i : Int) < b.length
    · obtain ⟨x, hxa⟩ := get_lt (l := a) (i := i) (by omega)
      obtain ⟨y, hyb⟩ := get_lt hlt
      simp -implicitDefEqProofs only [go_sem, hlt, encAt_some hxa, encAt_some hyb, eI16]
      refine ⟨by omega, by omega, fun h => ?_, fun h => ?_⟩
      · have hne : x ≠ y := by simpa using h
        have : a ≠ b := fun e => by rw [e, hyb] at hxa; injection hxa with hxa; exact hne hxa.symm
        exact retS [0] (.v (.bool (decide (a = b)))) [.sl 1 eI16 b] (by simp -implicitDefEqProofs only [go_sem]; rw [decide_eq_false this])
      · have hxy : x = y := by simpa using h
        exact ⟨inI64_nat hi hl, hE _ (i + 1) ⟨by omega, snoc_eq16 hxa hyb hxy hx⟩ (by omega) ⟨rfl, rfl, rfl, rfl, rfl, trivial⟩ ⟨rfl, trivial⟩ (fun _ h => h)⟩
    · simp -implicitDefEqProofs only [go_sem, hlt]
      have : a = b := eq_of_get16 hlen' (fun j x y h1 h2 => hx j x y (by have := (List.getElem?_eq_some_iff.1 h1).1; omega) h1 h2)
      exact retS [0] (.v (.bool (decide (a = b)))) [.sl 1 eI16 b] (by simp -implicitDefEqProofs only [go_sem]; rw [decide_eq_true this])
  · simp -implicitDefEqProofs only [go_sem, hlen]
    have : a ≠ b := fun e => hlen (by rw [e])
    exact retS [0] (.v (.bool (decide (a = b)))) [.sl 1 eI16 b] (by simp -implicitDefEqProofs only [go_sem]; rw [decide_eq_false this])
end Go.Proofs.Ytbpobdlahighoaa.Sx
/- The law WiringOpens, walked. -/
namespace Go.Proofs.Ytbpobdlahighoaa.Sx
open Go
set_option linter.unusedVariables false
set_option linter.unusedSimpArgs false
set_option maxRecDepth 100000

/-! ### how many are open -/
theorem drop_one {l : List Int} {k : Int} (hn : l.Nodup) (hk : k ∈ l) : (l.filter fun x => !decide (k = x)).length + 1 = l.length := by
  induction l with
  | nil => cases hk
  | cons x l ih =>
    simp only [List.nodup_cons] at hn
    by_cases e : k = x
    · subst e
      have hf : l.filter (fun y => !decide (k = y)) = l := List.filter_eq_self.2 (fun q hq => by
        have : k ≠ q := fun h => hn.1 (by rw [h]; exact hq)
        simp [this])
      have h1 : ¬ (!decide (k = k)) = true := by simp
      rw [List.filter_cons_of_neg (p := fun y => !decide (k = y)) h1, hf]; rfl
    · have h1 : (!decide (k = x)) = true := by simp [e]
      rw [List.filter_cons_of_pos (p := fun y => !decide (k = y)) h1]
      have := ih hn.2 (by rcases List.mem_cons.1 hk with h | h; exact absurd h e; exact h)
      simp only [List.length_cons]; omega
def opn (c : Cfg) (f : Int → Bool) : Nat := (c.ports.filter fun p => !f p.id).length
theorem opn_step {c : Cfg} (h : RightP c) {f g : Int → Bool} {k : Int} (hg : (fun id => f id || decide (k = id)) = g) (hf : f k = false) (hk : ∃ p ∈ c.ports, p.id = k) : opn c g + 1 = opn c f := by
  subst hg
  have h1 : ((c.ports.filter fun p => !f p.id).map (·.id)).Nodup := (List.filter_sublist.map _).nodup (ids_nodup h)
  have h2 : k ∈ (c.ports.filter fun p => !f p.id).map (·.id) := by
    obtain ⟨p, hp, rfl⟩ := hk
    exact List.mem_map.2 ⟨p, List.mem_filter.2 ⟨hp, by simp [hf]⟩, rfl⟩
  have h3 := drop_one h1 h2
  rw [List.length_map, List.filter_map, List.length_map, List.filter_filter] at h3
  unfold opn
  rw [← h3]
  congr 2
  refine List.filter_congr (fun p _ => ?_)
  simp only [Function.comp]
  cases f p.id <;> cases decide (k = p.id) <;> rfl
def tot (c : Cfg) (i : Nat) : Nat := ((c.chans.take i).map fun x => 1 + x.dests.length).sum
theorem tot_succ {c : Cfg} {i : Nat} {x : Chan} (hx : c.chans[i]? = some x) : tot c (i + 1) = tot c i + (1 + x.dests.length) := by
  obtain ⟨hl, e⟩ := List.getElem?_eq_some_iff.1 hx
  unfold tot
  rw [List.take_succ_eq_append_getElem hl, e, List.map_append, List.sum_append]
  simp
theorem tot_le {c : Cfg} (hc : c.ok) : ∀ i, i ≤ c.chans.length → tot c i ≤ i * 1048577
  | 0, _ => by simp [tot]
  | i + 1, h => by
    obtain ⟨x, hx⟩ := get_lt (l := c.chans) (i := i) (by omega)
    have h1 := tot_le hc i (by omega)
    have h2 := hc.dests x (List.mem_of_getElem? hx)
    rw [tot_succ hx, Nat.add_mul]; omega
theorem fPort_mem {c : Cfg} {k : Int} {p : Prt} (h : fPort c k = some p) : p ∈ c.ports ∧ p.id = k := by
  have h' : c.ports.find? (fun p => decide (p.id = k)) = some p := h
  exact ⟨List.mem_of_find?_eq_some h', by simpa using List.find?_some h'⟩
theorem opn_used {c : Cfg} (h : RightP c) : ∀ i, i ≤ c.chans.length → opn c (used c i) + tot c i = c.ports.length
  | 0, _ => by
    have : c.ports.filter (fun p => !used c 0 p.id) = c.ports := List.filter_eq_self.2 (fun p _ => by simp [used])
    unfold opn tot
    rw [this]; simp
  | i + 1, hi => by
    obtain ⟨x, hx⟩ := get_lt (l := c.chans) (i := i) (by omega)
    have ih := opn_used h i (by omega)
    obtain ⟨s, hs, ho, hu, _, hd⟩ := h.chan i x hx
    have h0 := opn_step h (seenD_zero c i x) hu ⟨s, fPort_mem hs⟩
    have key : ∀ k, k ≤ x.dests.length → opn c (seenD c i x k) + k = opn c (seenD c i x 0) := by
      intro k
      induction k with
      | zero => intro _; rfl
      | succ k ihk =>
        intro hk
        have h1 := ihk (by omega)
        obtain ⟨d, hdk⟩ := get_lt (l := x.dests) (i := k) (by omega)
        obtain ⟨p, hp, hpo, _, _, hpu, hpd⟩ := hd k d hdk
        obtain ⟨hpm, hpi⟩ := fPort_mem hp
        have hne : x.source ≠ d := fun e => by
          rw [e, hp] at hs; injection hs with hs; subst hs; rw [ho] at hpo; cases hpo
        have hf : seenD c i x k d = false := by
          rw [hpi] at hpu hpd
          unfold seenD
          rw [hpu, hpd]; simp [hne]
        have h2 := opn_step h (seenD_next hdk) hf ⟨p, hpm, hpi⟩
        omega
    have h1 := key x.dests.length (Nat.le_refl _)
    rw [seenD_end hx] at h1
    rw [tot_succ hx]
    omega
/-! ### which are open -/
theorem open_eq {c : Cfg} (h : RightP c) (hr : ∀ p ∈ c.ports, (Lit.int .u16 p.id).wf = true) {xs : List Int} (hx : xs.Perm ((c.ports.filter fun p => !used c c.chans.length p.id).map (·.id))) (hs : xs.Pairwise fun x y => x ≤ y) : xs = openTo c 65536 := by
  have hn1 : xs.Nodup := hx.nodup_iff.2 ((List.filter_sublist.map _).nodup (ids_nodup h))
  have hs2 : (openTo c 65536).Pairwise fun x y => x ≤ y := by
    unfold openTo
    rw [List.pairwise_map]
    refine (List.Pairwise.filter _ (List.pairwise_lt_range (n := 65536))).imp (fun h => ?_)
    omega
  have hn2 : (openTo c 65536).Nodup := by
    unfold openTo List.Nodup
    rw [List.pairwise_map]
    refine (List.Pairwise.filter _ (List.pairwise_lt_range (n := 65536))).imp (fun h => ?_)
    omega
  have hmem : ∀ z, z ∈ xs ↔ z ∈ openTo c 65536 := by
    intro z
    rw [hx.mem_iff]
    constructor
    · intro hz
      obtain ⟨p, hp, rfl⟩ := List.mem_map.1 hz
      obtain ⟨hp1, hp2⟩ := List.mem_filter.1 hp
      have hw := hr p hp1
      have hb : 0 ≤ p.id ∧ p.id < 65536 := by
        simp [Lit.wf, IntKind.min, IntKind.max, IntKind.signed, IntKind.bits] at hw
        omega
      refine List.mem_map.2 ⟨p.id.toNat, List.mem_filter.2 ⟨List.mem_range.2 (by omega), ?_⟩, by omega⟩
      unfold openP
      rw [show ((p.id.toNat : Nat) : Int) = p.id by omega]
      obtain ⟨j, hj⟩ := List.mem_iff_getElem?.1 hp1
      rcases ix_find (fun q : Prt => decide (q.id = p.id)) c.ports with ⟨h1, h2⟩ | ⟨i, y, h2, h3, h4, h5⟩
      · exfalso
        have := List.find?_eq_none.1 h1 p hp1
        simp at this
      · rw [h5]
        simp only [Bool.and_eq_true, decide_eq_true_eq]
        exact ⟨by omega, hp2⟩
    · intro hz
      obtain ⟨k, hk, rfl⟩ := List.mem_map.1 hz
      obtain ⟨_, hk2⟩ := List.mem_filter.1 hk
      unfold openP at hk2
      simp only [Bool.and_eq_true, decide_eq_true_eq] at hk2
      rcases ix_find (fun q : Prt => decide (q.id = (k : Int))) c.ports with ⟨h1, h2⟩ | ⟨i, y, h2, h3, h4, h5⟩
      · rw [h2] at hk2; omega
      · simp only [decide_eq_true_eq] at h4
        exact List.mem_map.2 ⟨y, List.mem_filter.2 ⟨List.mem_of_getElem? h3, by rw [h4]; exact hk2.2⟩, h4⟩
  have hp : xs.Perm (openTo c 65536) := (List.perm_ext_iff_of_nodup hn1 hn2).2 hmem
  exact hp.eq_of_pairwise (fun a b _ _ h1 h2 => by omega) hs hs2
/-- fenestralaw18.WiringOpens -/
theorem t_opens (c : Cfg) (hc : c.ok) (hw : ∀ p ∈ c.ports, (Lit.int .u16 p.id).wf = true) : TriF Pr 8 [sCfg c] [] [] (.v (.bool true)) [] := by
  refine tri_fnG Try.f8 [] [1] [] [3] 1000 (by kernel_rfl) (by kernel_rfl) (by kernel_rfl) (by kernel_rfl) (by kernel_rfl) (by kernel_rfl) (Nat.le_of_ble_eq_true rfl) ?_
  simp -implicitDefEqProofs only [go_sem, Try.f8, sCfg, eCfg]
  refine call0 (t_lright c hc) rfl rfl ?_
  cases hr : (fewR c && rightR c) with
  | false =>
    simp -implicitDefEqProofs only [go_sem, hr]
    refine call0 t_alive rfl rfl ?_
    simp -implicitDefEqProofs only [go_sem]
    exact ret0 rfl (by simp -implicitDefEqProofs only [go_sem])
  | true =>
    have hR : RightP c := right_of (by simp only [Bool.and_eq_true] at hr; exact hr.2)
    have hpl := hc.ports
    have hcl := hc.chans
    simp -implicitDefEqProofs only [go_sem, hr]
    refine callS [] [] (t_wOpen c hc hR) (by simp) (by simp) (fun ρ => rfl) (fun ρ => rfl) ?_
    rintro r post ⟨rfl, xs, h1, h2, rfl⟩
    have hlen : xs.length + tot c c.chans.length = c.ports.length := by
      have := opn_used hR c.chans.length (Nat.le_refl _)
      rw [h1.length_eq, List.length_map]; exact this
    have he := open_eq hR hw h1 h2
    clear h1 h2
    subst he
    simp -implicitDefEqProofs only [go_sem]
    refine ⟨[.frz 0], ?_⟩
    simp -implicitDefEqProofs only [go_sem]
    intro v
    refine callS [] [] (t_rOpen c hc) (by simp) (by simp) (fun ρ => rfl) (fun ρ => rfl) ?_
    rintro r post ⟨rfl, rfl⟩
    simp -implicitDefEqProofs only [go_sem]
    have hol := openTo_len (c := c) (n := 65536)
    refine callS [1] [] (t_equal16 (openTo c 65536) (openTo c 65536) (by omega) v) (by simp) (by simp -implicitDefEqProofs only [go_sem]; simp) (fun ρ => rfl) (fun ρ => rfl) ?_
    rintro r post ⟨rfl, rfl⟩
    simp -implicitDefEqProofs only [go_sem, decide_true, Bool.not_true]
    generalize hX : openTo c 65536 = xs at hlen hol
    refine loopR (ι := Nat) (fun i => i ≤ c.chans.length) [1, 21, 22] (fun i => [(23, I64 i), (4, I64 (xs.length + tot c i))]) (fun _ => []) [] (fun i => c.chans.length - i) 0 (by omega) ⟨rfl, by simp [tot, lk], trivial⟩ trivial (fun _ h => h) (fun i => rfl) (fun i => rfl) ?_
    intro i hi E hE
    have hti := tot_le hc i hi
    by_cases hlt : (i : Int) < c.chans.length
    · obtain ⟨x, hx⟩ := get_lt hlt
      have hxd := hc.dests x (List.mem_of_getElem? hx)
      have ht := tot_succ hx
      have hti2 := tot_le hc (i + 1) (by omega)
      have e1 : (1 : Int) + (x.dests.length : Int) = ((1 + x.dests.length : Nat) : Int) := by omega
      have e2 : ((xs.length + tot c i : Nat) : Int) + ((1 + x.dests.length : Nat) : Int) = ((xs.length + tot c (i + 1) : Nat) : Int) := by omega
      simp -implicitDefEqProofs only [go_sem, hlt, encAt_some hx, eChan, e1, e2]
      exact ⟨by omega, ⟨by omega, by omega⟩, ⟨by omega, by omega⟩, inI64_nat hi hcl, hE _ (i + 1) (by omega) (by omega) ⟨rfl, rfl, rfl, rfl, rfl, trivial⟩ ⟨rfl, rfl, trivial⟩ (fun _ h => h)⟩
    · obtain rfl : i = c.chans.length := by omega
      simp -implicitDefEqProofs only [go_sem, hlt]
      refine call0 t_alive rfl rfl ?_
      simp -implicitDefEqProofs only [go_sem, hlen]
      exact ret0 rfl (by simp -implicitDefEqProofs only [go_sem])
end Go.Proofs.Ytbpobdlahighoaa.Sx
