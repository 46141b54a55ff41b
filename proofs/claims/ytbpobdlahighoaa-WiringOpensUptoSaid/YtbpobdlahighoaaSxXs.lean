/- slices.Sort and slices.Compact of integers, by the shelf's contracts. -/
import Derived.Test.YtbpobdlahighoaaSxX7
import Derived.Test.YtbpobdlahighoaaSxXt
import Derived.Sort.OwnSortedInts
namespace Go.Proofs.Ytbpobdlahighoaa.Sx
open Go
set_option linter.unusedVariables false
set_option linter.unusedSimpArgs false
set_option maxRecDepth 100000
section
variable {H : Hp} {w w' : World}
/-- A call that works on one's own slice of integers. -/
theorem tri_sl {f : FuncId} {xs ys : List Int} {mv : List Nat} {r : SV} (hc : callable Pr f)
    (h : ∀ (w : World) (v : Value) (H : Hp) (Bs : List Nat), SlOk H (hp w) 1 eInt xs Bs v → Calls Pr f #[v] w fun e w' => ∃ y v', e = .returned y ∧ (∀ ν' : Nat → Option Value, ν' 0 = some v' → Den ν' H r y) ∧ (0 ∉ mv → v' = v) ∧ SlOk H (hp w') 1 eInt ys Bs v' ∧
      (∀ k o, k ∉ Bs → hp w k = some o → hp w' k = some o) ∧ (w'.os = w.os ∧ w'.tape = w.tape ∧ w'.output = w.output ∧ w.heap.size ≤ w'.heap.size ∧ w.drawn ≤ w'.drawn)) : TriF Pr f [.h 0] [.sl 1 eInt xs] mv r [.sl 1 eInt ys] := by
  refine ⟨hc, fun w ν H F vs hHF hFw hargs hres hν => ?_⟩
  obtain ⟨β, hβ⟩ := hres
  obtain ⟨v, hv, hsl⟩ := sl_iff.1 (hβ.ok 0 _ rfl)
  have hvs : vs = [v] := by
    cases hargs with
    | cons h1 h2 =>
      cases h2
      have := h1.h_inv
      rw [hv] at this; injection this with this; rw [this]
  subst hvs
  refine (h w v H (β 0) hsl).mono ?_
  rintro e w' ⟨y, v', rfl, hd, hmv, hsl', hk, ho⟩
  have hown : ∀ b ∈ β 0, H b = none ∧ F b = none := fun b hb => hβ.own 0 _ b rfl hb
  have hle : ∀ {G : Hp}, G.le (hp w) → (∀ b ∈ β 0, G b = none) → G.le (hp w') := fun hG hn k o hk' => hk k o (fun hm => by rw [hn k hm] at hk'; cases hk') (hG k o hk')
  have hget : ∀ t r', rlk (num [Res.sl 1 eInt ys] 0) t = some r' → t = 0 ∧ r' = .sl 1 eInt ys := fun t r' ht => by
    rw [num0] at ht
    cases t with
    | zero => simp only [List.getElem?_cons_zero, Option.some.injEq] at ht; exact ⟨rfl, ht.symm⟩
    | succ t => simp at ht
  refine ⟨r, _, upd ν 0 (some v'), H, y, rfl, ⟨rfl, rfl⟩, Nat.le_refl _, Hp.le.refl _, hle (hHF.trans hFw) (fun b hb => (hown b hb).1), hle hFw (fun b hb => (hown b hb).2), fun b o _ hn => hn, hd _ (upd_same _ _ _), ⟨β, ?_, ?_, ?_⟩, ?_, ?_, ⟨ho.1, ho.2.1, ho.2.2.1, ho.2.2.2.1, ho.2.2.2.2⟩⟩
  · intro t r' ht
    obtain ⟨rfl, rfl⟩ := hget t r' ht
    exact sl_iff.2 ⟨v', upd_same _ _ _, hsl'⟩
  · intro t u r1 r2 b ht hu htu
    obtain ⟨rfl, _⟩ := hget t r1 ht
    obtain ⟨rfl, _⟩ := hget u r2 hu
    exact absurd rfl htu
  · intro t r' b ht hb
    obtain ⟨rfl, rfl⟩ := hget t r' ht
    exact hown b hb
  · intro t ht hm
    have : t = 0 := by simpa using ht
    subst this
    rw [upd_same, hmv hm, hv]
  · intro t ht
    simp only [List.length_cons, List.length_nil] at ht
    rw [upd_ne _ _ (by omega)]
    exact hν t (by simpa using ht)
theorem rows_int : ∀ {xs : List Int} {cs : List Value}, RowsDen H 1 eInt xs cs → cs = xs.map (Value.int .i64)
  | [], _, h => h
  | x :: xs, _, ⟨r, cs', e, h1, h2, h3⟩ => by
    cases h2 with
    | cons h2 h4 =>
      cases h4
      cases h2
      rw [e, rows_int h3]; rfl
theorem int_rows : ∀ (xs : List Int), RowsDen H 1 eInt xs (xs.map (Value.int .i64))
  | [] => rfl
  | x :: xs => ⟨[.int .i64 x], xs.map (Value.int .i64), rfl, rfl, .cons (.v _) .nil, int_rows xs⟩
theorem holds_int {b : Nat} {xs : List Int} {junk : List Value} {e : TypeId} (hb : hp w b = some (.cells (xs.map (Value.int .i64) ++ junk).toArray e (0, 0))) : Sort.Holds (Value.int .i64) w b 0 xs.toArray := by
  intro j hj
  have hj' : j < xs.length := by simpa using hj
  refine ⟨?_, by unfold World.frozen?; have : w.heap[b]? = some (.cells (xs.map (Value.int .i64) ++ junk).toArray e (0, 0)) := hb; simp [this]⟩
  rw [cell_hp]
  simp only [Hp.cell, hb, Option.isSome_none, Bool.false_eq_true, if_false, List.getElem?_toArray, Nat.zero_add]
  rw [List.getElem?_append_left (by simpa using hj'), List.getElem?_map, List.getElem?_eq_getElem hj']
  simp [hj']
theorem hp_putRow {n : Nat} {b : Nat} {os : Array Obj} {ys : List Int} {cs : List Value} {e : TypeId} (hb : hp w b = some (.cells cs.toArray e (0, 0))) (hl : ys.length ≤ cs.length) :
    hp (Sort.grow (Sort.putRow (Value.int .i64) (Sort.ahead w n) b 0 ys.toArray) os) b = some (.cells (ys.map (Value.int .i64) ++ cs.drop ys.length).toArray e (0, 0)) := by
  have hlt := hp_lt hb
  have := heap_sortedI (n := n) (os := os) ys.toArray hb
  show (Sort.grow (Sort.putRow (Value.int .i64) (Sort.ahead w n) b 0 ys.toArray) os).heap[b]? = _
  rw [this]
  congr 2
  apply Array.toList_inj.1
  unfold Sort.putCells
  apply List.ext_getElem?
  intro k
  rw [Array.toList_mapIdx, List.getElem?_mapIdx]
  simp only [Nat.zero_le, true_and, Nat.zero_add, List.size_toArray, Nat.sub_zero]
  by_cases hk : k < ys.length
  · rw [List.getElem?_append_left (by simpa using hk), List.getElem?_map, List.getElem?_eq_getElem hk, List.getElem?_eq_getElem (show k < cs.length by omega)]
    simp [hk]
  · rw [List.getElem?_append_right (by simp; omega), List.getElem?_drop]
    simp only [List.length_map]
    rw [show ys.length + (k - ys.length) = k by omega]
    cases cs[k]? with
    | none => rfl
    | some x => simp [hk]
theorem hp_putRow_ne {n : Nat} {b : Nat} {os : Array Obj} {ys : List Int} {k : Nat} {o : Obj} (hk : k ≠ b) (ho : hp w k = some o) : hp (Sort.grow (Sort.putRow (Value.int .i64) (Sort.ahead w n) b 0 ys.toArray) os) k = some o := by
  have h := grownBy_sortedI (w := w) (g := b) (n := n) (os := os) ys.toArray
  have := h.block k (hp_lt ho) (by simpa using hk)
  show (Sort.grow (Sort.putRow (Value.int .i64) (Sort.ahead w n) b 0 ys.toArray) os).heap[k]? = _
  rw [this]; exact ho
end
def srt (xs : List Int) : List Int := xs.mergeSort fun x y => decide (x ≤ y)
def cpt (xs : List Int) : List Int := Lib.compact xs
theorem t_sort (xs : List Int) (hx : xs.length < 4611686018427387904) : TriF Pr 49 [.h 0] [.sl 1 eInt xs] [] (.tup []) [.sl 1 eInt (srt xs)] := by
  have hsl : (srt xs).length = xs.length := by unfold srt; exact List.length_mergeSort xs
  refine tri_sl (callable_of (fn := Try.f49) (by kernel_rfl) (by kernel_rfl) (by kernel_rfl)) fun w v H Bs hs => ?_
  obtain ⟨p, c, rfl, hle, h3⟩ := hs
  rcases h3 with ⟨rfl, rfl, rfl⟩ | ⟨b, cs, junk, e, rfl, rfl, h4, h5, h6⟩
  · have : xs = [] := List.eq_nil_of_length_eq_zero (by omega)
    subst this
    refine (Try.slices_Sort_int_none none 0 w).mono ?_
    rintro e w' ⟨rfl, rfl⟩
    exact ⟨_, _, rfl, fun _ _ => .tup .nil, fun _ => rfl, ⟨none, 0, by rw [hsl], by rw [hsl]; exact Nat.le_refl _, .inl ⟨rfl, rfl, rfl⟩⟩, fun k o _ h => h, rfl, rfl, rfl, Nat.le_refl _, Nat.le_refl _⟩
  · have hcs := rows_int h5
    subst hcs
    refine (Try.slices_Sort_int b 0 c xs w (holds_int h4) (hp_lt h4) hx).mono ?_
    rintro e' w' ⟨rfl, n, os, rfl⟩
    refine ⟨_, _, rfl, fun _ _ => .tup .nil, fun _ => rfl, ⟨_, c, by rw [hsl], by rw [hsl]; exact hle, .inr ⟨b, (srt xs).map (Value.int .i64), junk, e, rfl, rfl, ?_, int_rows _, ?_⟩⟩, fun k o hk ho => hp_putRow_ne (by simpa using hk) ho, (grownBy_sortedI (w := w) (g := b) (n := n) (os := os) (srt xs).toArray).os, (grownBy_sortedI (w := w) (g := b) (n := n) (os := os) (srt xs).toArray).tape, (grownBy_sortedI (w := w) (g := b) (n := n) (os := os) (srt xs).toArray).output, (grownBy_sortedI (w := w) (g := b) (n := n) (os := os) (srt xs).toArray).size, Nat.le_add_right _ _⟩
    · have := hp_putRow (n := n) (os := os) (ys := srt xs) h4 (by rw [hsl]; simp)
      rw [hsl] at this
      rw [List.drop_append_of_le_length (by simp), List.drop_of_length_le (by simp), List.nil_append] at this
      exact this
    · rw [← h6]; simp [hsl]
theorem cpt_le (xs : List Int) : (cpt xs).length ≤ xs.length := by
  unfold cpt Lib.compact Lib.compactUpTo
  rw [List.length_map]
  exact Nat.le_trans (List.length_filter_le ..) (by simp)
theorem t_compact (xs : List Int) (hx : xs.length < 4611686018427387904) : TriF Pr 50 [.h 0] [.sl 1 eInt xs] [0] (.h 0) [.sl 1 eInt (cpt xs)] := by
  have hcl := cpt_le xs
  refine tri_sl (callable_of (fn := Try.f50) (by kernel_rfl) (by kernel_rfl) (by kernel_rfl)) fun w v H Bs hs => ?_
  obtain ⟨p, c, rfl, hle, h3⟩ := hs
  rcases h3 with ⟨rfl, rfl, rfl⟩ | ⟨b, cs, junk, e, rfl, rfl, h4, h5, h6⟩
  · have : xs = [] := List.eq_nil_of_length_eq_zero (by omega)
    subst this
    refine (Try.slices_Compact_int_empty none 0 w).mono ?_
    rintro e w' ⟨rfl, rfl⟩
    exact ⟨_, .slice none 0 0, rfl, fun _ h => .h h rfl, fun _ => rfl, ⟨none, 0, rfl, Nat.le_refl _, .inl ⟨rfl, rfl, rfl⟩⟩, fun k o _ h => h, rfl, rfl, rfl, Nat.le_refl _, Nat.le_refl _⟩
  · have hcs := rows_int h5
    subst hcs
    refine (Try.slices_Compact_int b 0 c xs w (holds_int h4) (by omega) hle).mono ?_
    rintro e' w' ⟨rfl, n, hw⟩
    generalize hys : Lib.compact xs ++ List.replicate (xs.length - (Lib.compact xs).length) 0 = ys at hw
    have hyl : ys.length = xs.length := by rw [← hys]; have : (Lib.compact xs).length ≤ xs.length := hcl; simp; omega
    have hw' : w' = Sort.grow (Sort.putRow (Value.int .i64) (Sort.ahead w n) b 0 ys.toArray) #[] := by rw [hw]; simp
    subst hw'
    refine ⟨_, .slice (some ⟨b, 0, none⟩) (cpt xs).length c, rfl, fun _ h => .h h rfl, fun h => absurd (by simp) h, ⟨_, c, rfl, by omega, .inr ⟨b, (cpt xs).map (Value.int .i64), (List.replicate (xs.length - (cpt xs).length) (Value.int .i64 0)) ++ junk, e, rfl, rfl, ?_, int_rows _, ?_⟩⟩, fun k o hk ho => hp_putRow_ne (by simpa using hk) ho, (grownBy_sortedI (w := w) (g := b) (n := n) (os := #[]) ys.toArray).os, (grownBy_sortedI (w := w) (g := b) (n := n) (os := #[]) ys.toArray).tape, (grownBy_sortedI (w := w) (g := b) (n := n) (os := #[]) ys.toArray).output, (grownBy_sortedI (w := w) (g := b) (n := n) (os := #[]) ys.toArray).size, Nat.le_add_right _ _⟩
    · have := hp_putRow (n := n) (os := #[]) (ys := ys) h4 (by rw [hyl]; simp)
      rw [hyl] at this
      rw [List.drop_append_of_le_length (by simp), List.drop_of_length_le (by simp), List.nil_append] at this
      rw [this, ← hys]
      simp [cpt]
    · rw [← h6]; simp; omega
end Go.Proofs.Ytbpobdlahighoaa.Sx
