/- wiring.Flow, the walk. -/
import Derived.Test.YtbpobdlahighoaaSxX10
namespace Go.Proofs.Ytbpobdlahighoaa.Sx
open Go
set_option linter.unusedVariables false
set_option linter.unusedSimpArgs false
set_option maxRecDepth 100000

theorem cU_sorted {d : Array Int} (hs : ∀ i j, i ≤ j → j < d.size → d[i]! ≤ d[j]!) : ∀ m, m ≤ d.size → (Lib.compactUpTo d m).Pairwise (· < ·) ∧ (∀ x ∈ Lib.compactUpTo d m, ∃ j, j < m ∧ x = d[j]!) ∧ ∀ j, j < m → d[j]! ∈ Lib.compactUpTo d m
  | 0, _ => by
    have : Lib.compactUpTo d 0 = [] := rfl
    rw [this]; exact ⟨.nil, (fun x hx => by cases hx), fun j hj => by omega⟩
  | m + 1, hm => by
    obtain ⟨h1, h2, h3⟩ := cU_sorted hs m (by omega)
    rw [Lib.compactUpTo_succ]
    by_cases hk : Lib.keeps d m = true
    · rw [if_pos hk]
      refine ⟨?_, ?_, ?_⟩
      · rw [List.pairwise_append]
        refine ⟨h1, List.pairwise_singleton _ _, fun x hx y hy => ?_⟩
        have : y = d[m]! := by simpa using hy
        subst this
        obtain ⟨j, hj, rfl⟩ := h2 x hx
        unfold Lib.keeps at hk
        simp only [decide_eq_true_eq] at hk
        rcases hk with hk | hk
        · omega
        · have a1 := hs j (m - 1) (by omega) (by omega)
          have a2 := hs (m - 1) m (by omega) (by omega)
          omega
      · intro x hx
        rcases List.mem_append.1 hx with hx | hx
        · obtain ⟨j, hj, e⟩ := h2 x hx; exact ⟨j, by omega, e⟩
        · exact ⟨m, by omega, by simpa using hx⟩
      · intro j hj
        rcases Nat.lt_or_ge j m with h | h
        · exact List.mem_append_left _ (h3 j h)
        · have : j = m := by omega
          subst this; simp
    · rw [if_neg hk, List.append_nil]
      refine ⟨h1, fun x hx => by obtain ⟨j, hj, e⟩ := h2 x hx; exact ⟨j, by omega, e⟩, fun j hj => ?_⟩
      rcases Nat.lt_or_ge j m with h | h
      · exact h3 j h
      · have : j = m := by omega
        subst this
        unfold Lib.keeps at hk
        simp only [decide_eq_true_eq, not_or, ne_eq, Classical.not_not] at hk
        rw [hk.2]
        exact h3 _ (by omega)
theorem srt_mem (l : List Int) (x : Int) : x ∈ srt l ↔ x ∈ l := by unfold srt; exact List.mem_mergeSort
theorem srt_le (l : List Int) : ∀ i j, i ≤ j → j < (srt l).toArray.size → (srt l).toArray[i]! ≤ (srt l).toArray[j]! := by
  intro i j hij hj
  have hp : (srt l).Pairwise fun a b => decide (a ≤ b) = true := List.pairwise_mergeSort (fun a b c h1 h2 => by simp only [decide_eq_true_eq] at *; omega) (fun a b => by simp only [Bool.or_eq_true, decide_eq_true_eq]; omega) l
  have hj' : j < (srt l).length := by simpa using hj
  rw [getElem!_pos _ i (by simp; omega), getElem!_pos _ j hj]
  simp only [List.getElem_toArray]
  rcases Nat.lt_or_eq_of_le hij with h | h
  · have := (List.pairwise_iff_getElem.1 hp) i j (by omega) hj' h
    simpa using this
  · subst h; exact Int.le_refl _
theorem cs_lt (l : List Int) : (cpt (srt l)).Pairwise (· < ·) := (cU_sorted (srt_le l) _ (by simp)).1
theorem cs_mem (l : List Int) (x : Int) : x ∈ cpt (srt l) ↔ x ∈ l := by
  obtain ⟨_, h2, h3⟩ := cU_sorted (srt_le l) (srt l).length (by simp)
  rw [← srt_mem l x]
  constructor
  · intro hx
    obtain ⟨j, hj, rfl⟩ := h2 x hx
    rw [getElem!_pos _ j (by simpa using hj)]
    simp
  · intro hx
    obtain ⟨j, hj, rfl⟩ := List.mem_iff_getElem.1 hx
    have := h3 j hj
    rw [getElem!_pos _ j (by simpa using hj)] at this
    exact this
theorem lt_len : ∀ (n : Nat) (l : List Int) (a : Int), l.Pairwise (· < ·) → (∀ x ∈ l, a ≤ x ∧ x < a + n) → l.length ≤ n
  | n, [], _, _, _ => by simp
  | 0, x :: l, a, _, h => by have := h x (by simp); omega
  | n + 1, x :: l, a, hp, h => by
    have hx := h x (by simp)
    have hp' := List.pairwise_cons.1 hp
    have := lt_len n l (a + 1) hp'.2 (fun y hy => by have h1 := hp'.1 y hy; have h2 := h y (by simp [hy]); omega)
    simp only [List.length_cons]; omega
/-- The rows of the matrix: numbers of partitions. -/
theorem dRows_ok {c : Cfg} (hw : wired c) (k : Nat) : ∀ (l : List Int) (rows : List (List Int)), (∀ d ∈ l, ∃ p, fPort c d = some p) → (∀ r ∈ rows, ∀ x ∈ r, 0 ≤ x ∧ x < (c.parts.length : Int)) → (dRows c k rows l).length = rows.length ∧ ∀ r ∈ dRows c k rows l, ∀ x ∈ r, 0 ≤ x ∧ x < (c.parts.length : Int)
  | [], rows, _, h => by rw [dRows_nil]; exact ⟨rfl, h⟩
  | d :: l, rows, hd, h => by
    rw [dRows_cons]
    obtain ⟨p, hp⟩ := hd d (by simp)
    obtain ⟨q, hq, hlt⟩ := ownX_nat hw hp
    have := dRows_ok hw k l (addR rows k (ownX c d)) (fun d hd' => hd d (by simp [hd'])) (fun r hr x hx => by
      unfold addR at hr
      rcases List.mem_or_eq_of_mem_set hr with hr | rfl
      · exact h r hr x hx
      · rcases List.mem_append.1 hx with hx | hx
        · cases hk : rows[k]? with
          | none => rw [hk] at hx; cases hx
          | some r0 => rw [hk] at hx; exact h r0 (List.mem_of_getElem? hk) x hx
        · have : x = ownX c d := by simpa using hx
          rw [this, hq]; omega)
    exact ⟨by rw [this.1]; unfold addR; simp, this.2⟩
theorem cRows_ok {c : Cfg} (hw : wired c) : ∀ (l : List Chan) (rows : List (List Int)), (∀ x ∈ l, x ∈ c.chans) → (∀ r ∈ rows, ∀ x ∈ r, 0 ≤ x ∧ x < (c.parts.length : Int)) → (cRows c rows l).length = rows.length ∧ ∀ r ∈ cRows c rows l, ∀ x ∈ r, 0 ≤ x ∧ x < (c.parts.length : Int)
  | [], rows, _, h => by rw [cRows_nil]; exact ⟨rfl, h⟩
  | x :: l, rows, hl, h => by
    rw [cRows_cons]
    have h1 := dRows_ok hw (ownX c x.source).toNat x.dests rows (hw.1 x (hl x (by simp))).2 h
    have h2 := cRows_ok hw l _ (fun y hy => hl y (by simp [hy])) h1.2
    exact ⟨h2.1.trans h1.1, h2.2⟩
theorem matF_ok {c : Cfg} (hw : wired c) : okM (matF c) c.parts.length := by
  have h := cRows_ok hw c.chans (List.replicate c.parts.length []) (fun _ h => h) (fun r hr => by rw [(List.mem_replicate.1 hr).2]; simp)
  have h2 : ∀ r ∈ matF c, r.Pairwise (· < ·) ∧ ∀ x ∈ r, 0 ≤ x ∧ x < (c.parts.length : Int) := fun r hr => by
    unfold matF at hr
    obtain ⟨r0, hr0, rfl⟩ := List.mem_map.1 hr
    exact ⟨cs_lt r0, fun x hx => h.2 r0 hr0 x ((cs_mem r0 x).1 hx)⟩
  refine ⟨by unfold matF; rw [List.length_map, h.1, List.length_replicate], fun r hr => (h2 r hr).2, fun r hr => lt_len _ r 0 (h2 r hr).1 (fun x hx => by have := (h2 r hr).2 x hx; omega)⟩

abbrev kI (k : Int) : Value := .int .i64 k
abbrev SI : Value → Prop := MapKept.IsKey (.int .i64)
theorem goodI : KeyGood Pr 3 SI := keyGood_simple (und_int (by rw [td3]))
@[go_sem] theorem siT {k : Int} : SI (.int .i64 k) = True := by simp [SI, MapKept.IsKey]
@[go_sem] theorem goodIT : KeyGood Pr 3 SI = True := eq_true goodI
theorem kI_inj : ∀ a b, kI a = kI b → a = b := fun a b h => by injection h
abbrev kvS (l : List (Int × Bool)) : List (Value × Value) := kvOf kI gB l
def FlowP (c : Cfg) (a b : Int) : Prop := ∃ i j : Nat, ix (fun p => decide (p.id = a)) c.parts = (i : Int) ∧ ix (fun p => decide (p.id = b)) c.parts = (j : Int) ∧ Rch (matF c) i j
theorem t_wFlow (c : Cfg) (hc : c.ok) (hw : wired c) (a b : Int) : Tri Pr 20 [sCfg c, .v (.int .u16 a), .v (.int .u16 b)] [] [] fun r post => ((∃ q : Bool, r = .v (.bool q) ∧ (q = true ↔ FlowP c a b)) ∧ r.lt 0 = true) ∧ post = [] := by
  refine tri_fnG Try.f20 [] [3] [] [10] 1000 (by kernel_rfl) (by kernel_rfl) (by kernel_rfl) (by kernel_rfl) (by kernel_rfl) (by kernel_rfl) (Nat.le_of_ble_eq_true rfl) ?_
  simp -implicitDefEqProofs only [go_sem, Try.f20, sCfg, eCfg]
  refine call0 (t_new c hc) rfl rfl ?_
  simp -implicitDefEqProofs only [go_sem]
  refine call0 (t_ixPart c a) rfl rfl ?_
  simp -implicitDefEqProofs only [go_sem]
  refine call0 (t_ixPart c b) rfl rfl ?_
  rcases ix_find (fun p : Part => decide (p.id = a)) c.parts with ⟨hf, hi⟩ | ⟨i, y, hf, hy, hp, hi⟩
  · rw [hi]
    simp -implicitDefEqProofs only [go_sem]
    refine ret0 rfl ?_
    simp -implicitDefEqProofs only [go_sem]
    exact ⟨false, rfl, by simp, fun ⟨i', j', h1, _⟩ => by rw [hi] at h1; omega⟩
  · have hi0 : ¬ ((i : Int) < 0) := by omega
    rcases ix_find (fun p : Part => decide (p.id = b)) c.parts with ⟨hf2, hi2⟩ | ⟨j, y2, hf2, hy2, hp2, hi2⟩
    · rw [hi, hi2]
      simp -implicitDefEqProofs only [go_sem, hi0]
      refine ret0 rfl ?_
      simp -implicitDefEqProofs only [go_sem]
      exact ⟨false, rfl, by simp, fun ⟨i', j', _, h1, _⟩ => by rw [hi2] at h1; omega⟩
    · have hj0 : ¬ ((j : Int) < 0) := by omega
      have hm := matF_ok hw
      have hil : i < c.parts.length := (List.getElem?_eq_some_iff.1 hy).1
      have hpl := hc.parts
      have hP : FlowP c a b ↔ Rch (matF c) i j := ⟨fun ⟨i', j', h1, h2, h3⟩ => by
        rw [hi] at h1; rw [hi2] at h2
        have e1 : i' = i := by omega
        have e2 : j' = j := by omega
        rw [e1, e2] at h3; exact h3, fun h => ⟨i, j, hi, hi2, h⟩⟩
      rw [hi, hi2]
      simp -implicitDefEqProofs only [go_sem, hi0, hj0]
      refine call0Q (t_wMatrix c hc hw) rfl ?_
      rintro r ⟨vs, v, hvl, rfl⟩
      have hzl : ((matF c).zip vs).length = c.parts.length := by rw [List.length_zip, hm.1, hvl]; omega
      have hz : ∀ k : Nat, k < c.parts.length → ∃ vr, ((matF c).zip vs)[k]? = some (rowOf (matF c) k, vr) := fun k hk => by
        have h1 : (matF c)[k]? = some ((matF c)[k]'(by rw [hm.1]; exact hk)) := List.getElem?_eq_getElem _
        refine ⟨vs[k]'(by omega), ?_⟩
        rw [List.getElem?_zip_eq_some]
        refine ⟨?_, List.getElem?_eq_getElem _⟩
        unfold rowOf; rw [Int.toNat_natCast, h1]; rfl
      obtain ⟨vr, hrow⟩ := hz i hil
      have hzi : (i : Int) < ((matF c).zip vs).length := by omega
      simp -implicitDefEqProofs only [go_sem]
      refine ⟨SI, ?_⟩
      simp -implicitDefEqProofs only [go_sem, hzi, encAt_some hrow]
      have hrl := rowOf_len hm i
      refine ⟨by omega, callS [] [] (t_clone (rowOf (matF c) i) (by omega) vr) (by simp) (by simp) (fun ρ => rfl) (fun ρ => rfl) ?_⟩
      rintro r post ⟨rfl, rfl⟩
      simp -implicitDefEqProofs only [go_sem]
      refine loopR (ι := List Int × List (Int × Bool)) (flI (matF c) c.parts.length i j) [9, 10, 11, 12] (fun _ => []) (fun s => [(0, .mp SI (kvS s.2)), (1, .sl 1 eInt s.1)]) [1] (flM c.parts.length) (rowOf (matF c) i, []) (flI_0 hm) trivial ⟨rfl, rfl, trivial⟩ (fun _ h => by cases h) (fun _ => rfl) (fun _ => rfl) ?_
      rintro ⟨stk, seen⟩ hI E hE
      have hcs : stk = [] ∨ ∃ st x, stk = st ++ [x] := by
        rcases List.eq_nil_or_concat stk with h | ⟨st, x, h⟩
        · exact .inl h
        · exact .inr ⟨st, x, by rw [h, List.concat_eq_append]⟩
      rcases hcs with rfl | ⟨st, x, rfl⟩
      · have hc0 : ((0 : Nat) : Int) = 0 := rfl
        simp -implicitDefEqProofs only [go_sem, hc0]
        refine ret0 rfl ?_
        simp -implicitDefEqProofs only [go_sem]
        exact ⟨false, rfl, by simp, fun h => absurd (hP.1 h) (flI_end hI)⟩
      · have hstl : st.length + 1 ≤ (1048576 + 1) * 1048576 := by
          have h1 := hI.ln
          simp only [List.length_append, List.length_cons, List.length_nil] at h1
          have h2 := cnt_le c.parts.length (fun k => sn seen k)
          have h3 : (cnt c.parts.length (fun k => sn seen k) + 1) * c.parts.length ≤ (1048576 + 1) * 1048576 := Nat.mul_le_mul (by omega) hpl
          omega
        have hlen : (st ++ [x]).length = st.length + 1 := by simp
        have hx0 : (0 : Int) < ((st ++ [x]).length : Int) := by omega
        have hsub : ((st ++ [x]).length : Int) - 1 = (st.length : Int) := by omega
        have hlt : (st.length : Int) < ((st ++ [x]).length : Int) := by omega
        have hle : (st.length : Int) ≤ ((st ++ [x]).length : Int) := by omega
        have hget : (st ++ [x])[st.length]? = some x := by simp
        have htk : (st ++ [x]).take st.length = st := by simp
        have hr := hI.st x (by simp)
        have hxl := hr.lt hm
        obtain ⟨k, rfl⟩ : ∃ k : Nat, x = (k : Int) := ⟨x.toNat, by omega⟩
        simp -implicitDefEqProofs only [go_sem, hx0, hsub, hlt, hle, encAt_some hget, eInt, htk]
        have hin : inI64 (st.length : Int) := ⟨by omega, by omega⟩
        have hle2 : st.length ≤ (st ++ [(k : Int)]).length := by omega
        have hkn : k < c.parts.length := by omega
        obtain ⟨vk, hrk⟩ := hz k hkn
        have hzk : (k : Int) < ((matF c).zip vs).length := by omega
        have hms := mget_kv kI_inj gB seen (k : Int)
        have hset : Res.mp SI (mset (kvS seen) (.int .i64 (k : Int)) (.bool true)) = Res.mp SI (kvS (aset seen (k : Int) true)) := congrArg _ (mset_kv kI_inj gB seen (k : Int) true)
        have hkl := rowOf_len hm (k : Int)
        refine ⟨hin, by omega, hin, by omega, [.trim 12], ?_⟩
        by_cases hg : (k : Int) = (j : Int)
        · have hgd : decide ((k : Int) = (j : Int)) = true := decide_eq_true hg
          simp -implicitDefEqProofs only [go_sem, hle2, htk, hgd]
          refine ret0 rfl ?_
          simp -implicitDefEqProofs only [go_sem]
          exact ⟨true, rfl, fun _ => hP.2 (by rw [← hg]; exact hr), fun _ => rfl⟩
        · cases hs : aget seen (k : Int) with
          | none =>
            have hsn : sn seen (k : Int) = false := by unfold sn; rw [hs]; rfl
            rw [hs, Option.map_none] at hms
            simp -implicitDefEqProofs only [go_sem, hle2, htk, hg, hms, hzk, encAt_some hrk]
            refine ⟨by omega, rowOf (matF c) (k : Int), rfl, ⟨fun z _ => rfl, by omega, by omega⟩, hE _ (st ++ rowOf (matF c) (k : Int), aset seen (k : Int) true) (flI_step hm hI hsn hg) (flM_step hm hr hsn) ⟨rfl, rfl, rfl, rfl, trivial⟩ ?_ (fun t h => by simpa using h)⟩
            rw [hset]
            exact ⟨rfl, rfl, trivial⟩
          | some q =>
            rw [hs, Option.map_some] at hms
            cases q with
            | true =>
              have hsn : sn seen (k : Int) = true := by unfold sn; rw [hs]; rfl
              simp -implicitDefEqProofs only [go_sem, hle2, htk, hg, hms]
              exact hE _ (st, seen) (flI_skip hI hsn) flM_skip ⟨rfl, rfl, rfl, rfl, trivial⟩ ⟨rfl, rfl, trivial⟩ (fun t h => by simpa using h)
            | false =>
              have hsn : sn seen (k : Int) = false := by unfold sn; rw [hs]; rfl
              simp -implicitDefEqProofs only [go_sem, hle2, htk, hg, hms, hzk, encAt_some hrk]
              refine ⟨by omega, rowOf (matF c) (k : Int), rfl, ⟨fun z _ => rfl, by omega, by omega⟩, hE _ (st ++ rowOf (matF c) (k : Int), aset seen (k : Int) true) (flI_step hm hI hsn hg) (flM_step hm hr hsn) ⟨rfl, rfl, rfl, rfl, trivial⟩ ?_ (fun t h => by simpa using h)⟩
              rw [hset]
              exact ⟨rfl, rfl, trivial⟩
end Go.Proofs.Ytbpobdlahighoaa.Sx
