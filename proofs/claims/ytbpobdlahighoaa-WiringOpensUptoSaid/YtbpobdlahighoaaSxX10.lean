/- wiring.Flow. -/
import Derived.Test.YtbpobdlahighoaaSxX9
namespace Go.Proofs.Ytbpobdlahighoaa.Sx
open Go
set_option linter.unusedVariables false
set_option linter.unusedSimpArgs false
set_option maxRecDepth 100000

/-! ### The walk over a matrix, in plain words -/
def rowOf (m : List (List Int)) (x : Int) : List Int := m[x.toNat]?.getD []
/-- What is reached by one step or more. -/
inductive Rch (m : List (List Int)) (s : Int) : Int → Prop
  | one {k : Int} (h : k ∈ rowOf m s) : Rch m s k
  | step {j k : Int} (h : Rch m s j) (hk : k ∈ rowOf m j) : Rch m s k
def okM (m : List (List Int)) (n : Nat) : Prop := m.length = n ∧ (∀ r ∈ m, ∀ x ∈ r, 0 ≤ x ∧ x < (n : Int)) ∧ ∀ r ∈ m, r.length ≤ n
theorem rowOf_mem {m : List (List Int)} {x k : Int} (h : k ∈ rowOf m x) : ∃ r ∈ m, k ∈ r := by
  unfold rowOf at h
  cases hr : m[x.toNat]? with
  | none => rw [hr] at h; cases h
  | some r => rw [hr] at h; exact ⟨r, List.mem_of_getElem? hr, h⟩
theorem Rch.lt {m : List (List Int)} {n : Nat} {s x : Int} (hm : okM m n) (h : Rch m s x) : 0 ≤ x ∧ x < (n : Int) := by
  cases h with
  | one h => obtain ⟨r, h1, h2⟩ := rowOf_mem h; exact hm.2.1 r h1 x h2
  | step h hk => obtain ⟨r, h1, h2⟩ := rowOf_mem hk; exact hm.2.1 r h1 x h2
def sn (l : List (Int × Bool)) (x : Int) : Bool := (aget l x).getD false
theorem sn_set (l : List (Int × Bool)) (x y : Int) : sn (aset l x true) y = (decide (x = y) || sn l y) := by
  unfold sn
  rw [aget_aset]
  by_cases h : x = y <;> simp [h]
def cnt : Nat → (Nat → Bool) → Nat
  | 0, _ => 0
  | n + 1, p => cnt n p + if p n then 1 else 0
theorem cnt_le : ∀ (n : Nat) (p : Nat → Bool), cnt n p ≤ n
  | 0, _ => Nat.le_refl _
  | n + 1, p => by have := cnt_le n p; unfold cnt; split <;> omega
theorem cnt_congr {p q : Nat → Bool} : ∀ (n : Nat), (∀ k, k < n → p k = q k) → cnt n p = cnt n q
  | 0, _ => rfl
  | n + 1, h => by unfold cnt; rw [cnt_congr n (fun k hk => h k (by omega)), h n (by omega)]
theorem cnt_set {p q : Nat → Bool} {k0 : Nat} (h1 : p k0 = false) (h2 : q k0 = true) (h : ∀ k, k ≠ k0 → q k = p k) : ∀ n, k0 < n → cnt n q = cnt n p + 1
  | 0, hk => by omega
  | n + 1, hk => by
    unfold cnt
    by_cases e : k0 = n
    · subst e
      rw [h1, h2, cnt_congr k0 (fun k hk => h k (by omega))]; simp
    · rw [cnt_set h1 h2 h n (by omega), h n (fun e' => e e'.symm)]
      omega
/-- The walk's stack and what it has seen. -/
structure flI (m : List (List Int)) (n : Nat) (s g : Int) (a : List Int × List (Int × Bool)) : Prop where
  st : ∀ x ∈ a.1, Rch m s x
  se : ∀ x, sn a.2 x = true → Rch m s x ∧ x ≠ g ∧ ∀ k ∈ rowOf m x, k ∈ a.1 ∨ sn a.2 k = true
  s0 : ∀ k ∈ rowOf m s, k ∈ a.1 ∨ sn a.2 k = true
  ln : a.1.length ≤ (cnt n (fun k => sn a.2 k) + 1) * n
theorem rowOf_len {m : List (List Int)} {n : Nat} (hm : okM m n) (x : Int) : (rowOf m x).length ≤ n := by
  unfold rowOf
  cases hr : m[x.toNat]? with
  | none => simp
  | some r => exact hm.2.2 r (List.mem_of_getElem? hr)
theorem flI_0 {m : List (List Int)} {n : Nat} {s g : Int} (hm : okM m n) : flI m n s g (rowOf m s, []) := by
  refine ⟨fun x hx => .one hx, fun x hx => by simp [sn, aget] at hx, fun k hk => .inl hk, ?_⟩
  have := rowOf_len hm s
  have h2 : n ≤ (cnt n (fun k => sn [] k) + 1) * n := Nat.le_mul_of_pos_left n (by omega)
  simp only; omega
theorem flI_end {m : List (List Int)} {n : Nat} {s g : Int} {l : List (Int × Bool)} (h : flI m n s g ([], l)) : ¬ Rch m s g := by
  have key : ∀ x, Rch m s x → sn l x = true := by
    intro x hx
    induction hx with
    | one h1 => exact (h.s0 _ h1).resolve_left (by simp)
    | step h1 h2 ih => exact ((h.se _ ih).2.2 _ h2).resolve_left (by simp)
  intro hg
  exact (h.se _ (key _ hg)).2.1 rfl
theorem flI_skip {m : List (List Int)} {n : Nat} {s g x : Int} {st : List Int} {l : List (Int × Bool)} (h : flI m n s g (st ++ [x], l)) (hx : sn l x = true) : flI m n s g (st, l) := by
  have hin : ∀ k, (k ∈ st ++ [x] ∨ sn l k = true) → k ∈ st ∨ sn l k = true := fun k hk => by
    rcases hk with hk | hk
    · rcases List.mem_append.1 hk with hk | hk
      · exact .inl hk
      · have : k = x := by simpa using hk
        subst this; exact .inr hx
    · exact .inr hk
  refine ⟨fun y hy => h.st y (by simp [hy]), fun y hy => ⟨(h.se y hy).1, (h.se y hy).2.1, fun k hk => hin k ((h.se y hy).2.2 k hk)⟩, fun k hk => hin k (h.s0 k hk), ?_⟩
  have := h.ln
  simp only [List.length_append, List.length_cons, List.length_nil] at this ⊢
  omega
theorem flI_cnt {n : Nat} {x : Int} {l : List (Int × Bool)} (h0 : 0 ≤ x) (hn : x < (n : Int)) (hx : sn l x = false) : cnt n (fun k => sn (aset l x true) k) = cnt n (fun k => sn l k) + 1 := by
  refine cnt_set (k0 := x.toNat) ?_ ?_ ?_ n (by omega)
  · rw [show ((x.toNat : Nat) : Int) = x by omega]; exact hx
  · rw [show ((x.toNat : Nat) : Int) = x by omega, sn_set]; simp
  · intro k hk
    rw [sn_set]
    have : ¬ x = (k : Int) := by omega
    simp [this]
theorem flI_step {m : List (List Int)} {n : Nat} {s g x : Int} {st : List Int} {l : List (Int × Bool)} (hm : okM m n) (h : flI m n s g (st ++ [x], l)) (hx : sn l x = false) (hg : x ≠ g) : flI m n s g (st ++ rowOf m x, aset l x true) := by
  have hr := h.st x (by simp)
  have hlt := hr.lt hm
  have hin : ∀ k, (k ∈ st ++ [x] ∨ sn l k = true) → k ∈ st ++ rowOf m x ∨ sn (aset l x true) k = true := fun k hk => by
    rcases hk with hk | hk
    · rcases List.mem_append.1 hk with hk | hk
      · exact .inl (by simp [hk])
      · have : k = x := by simpa using hk
        subst this; exact .inr (by rw [sn_set]; simp)
    · exact .inr (by rw [sn_set, hk]; simp)
  refine ⟨fun y hy => ?_, fun y hy => ?_, fun k hk => hin k (h.s0 k hk), ?_⟩
  · rcases List.mem_append.1 hy with hy | hy
    · exact h.st y (by simp [hy])
    · exact .step hr hy
  · rw [sn_set] at hy
    simp only [Bool.or_eq_true, decide_eq_true_eq] at hy
    rcases hy with rfl | hy
    · exact ⟨hr, hg, fun k hk => .inl (by simp [hk])⟩
    · exact ⟨(h.se y hy).1, (h.se y hy).2.1, fun k hk => hin k ((h.se y hy).2.2 k hk)⟩
  · have h1 := h.ln
    have h2 := rowOf_len hm x
    have h3 := flI_cnt hlt.1 hlt.2 hx
    simp only [List.length_append, List.length_cons, List.length_nil] at h1 ⊢
    rw [h3]
    have : (cnt n (fun k => sn l k) + 1 + 1) * n = (cnt n (fun k => sn l k) + 1) * n + n := by rw [Nat.succ_mul]
    omega
/-- How much is left to do. -/
def flM (n : Nat) (a : List Int × List (Int × Bool)) : Nat := (n - cnt n (fun k => sn a.2 k)) * (n + 1) + a.1.length
theorem flM_skip {n : Nat} {x : Int} {st : List Int} {l : List (Int × Bool)} : flM n (st, l) < flM n (st ++ [x], l) := by unfold flM; simp
theorem flM_step {m : List (List Int)} {n : Nat} {s x : Int} {st : List Int} {l : List (Int × Bool)} (hm : okM m n) (hr : Rch m s x) (hx : sn l x = false) : flM n (st ++ rowOf m x, aset l x true) < flM n (st ++ [x], l) := by
  have hlt := hr.lt hm
  have h3 := flI_cnt hlt.1 hlt.2 hx
  have h4 := cnt_le n (fun k => sn (aset l x true) k)
  have h2 := rowOf_len hm x
  unfold flM
  simp only [List.length_append, List.length_cons, List.length_nil]
  generalize cnt n (fun k => sn l k) = q at *
  rw [h3] at h4 ⊢
  have : n - q = (n - (q + 1)) + 1 := by omega
  rw [this, Nat.succ_mul]
  omega
end Go.Proofs.Ytbpobdlahighoaa.Sx
