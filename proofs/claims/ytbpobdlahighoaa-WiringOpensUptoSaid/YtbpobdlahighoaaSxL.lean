/- The engine tells the truth: a call by its contract. -/
import Derived.Test.YtbpobdlahighoaaSxK
namespace Go.Proofs.Ytbpobdlahighoaa.Sx
open Go
set_option linter.unusedVariables false
set_option linter.unusedSimpArgs false

section
variable {C : Cx} {B : Base} {ν ν' : Nat → Option Value} {H G F g : Hp} {st : St} {x y s : SV} {u z : Value} {t : Nat} {w w' : World} {a : Act} {d : Option Nat} {K : St → Prop} {res : List (Nat × Res)} {ls σ : List Nat} {ρ : Nat → Value}

/-- What the callee's handles stand for. -/
def nuC (ν : Nat → Option Value) (σ : List Nat) (k : Nat) : Option Value := match σ[k]? with | some t => ν t | none => none
theorem nuC_idx (ht : σ.contains t = true) : nuC ν σ (σ.idxOf t) = ν t := by
  have hm : t ∈ σ := by simpa using ht
  have : σ[σ.idxOf t]? = some t := by
    rw [List.getElem?_eq_getElem (List.idxOf_lt_length_of_mem hm)]
    simp
  simp [nuC, this]
/-- What lies in the lent blocks. -/
def LentOk (ν : Nat → Option Value) (G : Hp) (ρ : Nat → Value) (res : List (Nat × Res)) (ls : List Nat) : Prop := (∀ t x, ν t = some x → ρ t = x) ∧ ∀ t ∈ ls, ∀ r, rlk res t = some r → ∃ Bs, ResOk ν G G Bs t r
theorem rows_ro {α : Type} {sz c : Nat} {enc : α → List SV} {xs : List α} {b : Nat} {cs junk : List Value} {e : TypeId} (hle : xs.length ≤ c) (hg : G b = some (.cells (cs ++ junk).toArray e (0, 0))) (hr : RowsDen H sz enc xs cs) (hl : H.le G) :
    RDen G (.ro sz enc xs (.slice (some ⟨b, 0, none⟩) xs.length c)) (.slice (some ⟨b, 0, none⟩) xs.length c) := by
  have hch : ∀ i, ∃ r : List Value, (∀ x, xs[i]? = some x → RDenL H (enc x) r ∧ r.length = sz ∧ ∀ j u, r[j]? = some u → cs[i * sz + j]? = some u) := by
    intro i
    cases hx : xs[i]? with
    | none => exact ⟨[], fun x h => by cases h⟩
    | some x =>
      obtain ⟨r, h1, h2, h3⟩ := rows_get i x hr hx
      exact ⟨r, fun y hy => by injection hy with hy; subst hy; exact ⟨h1, h2, h3⟩⟩
  refine .ro (fun i => (hch i).choose) (fun i x hx => ((hch i).choose_spec x hx).1.mono hl) (fun i hi => ?_) (fun _ _ => rfl) hle
  have hs := (hch i).choose_spec _ (List.getElem?_eq_getElem hi)
  refine ⟨hs.2.1, b, 0, rfl, fun j u hu => ?_⟩
  have := hs.2.2 j u hu
  simp only [Hp.cell, hg, Option.isSome_none, Bool.false_eq_true, if_false, List.getElem?_toArray, Nat.zero_add]
  rw [List.getElem?_append_left (List.getElem?_eq_some_iff.1 this).1]
  exact this
theorem sl_ro {α : Type} {sz : Nat} {enc : α → List SV} {xs : List α} {v : Value} {Bs : List Nat} (h : ResOk ν H G Bs t (.sl sz enc xs)) (hv : ν t = some v) (hl : H.le G) : RDen G (.ro sz enc xs v) v := by
  obtain ⟨p, c, e1, e2, e3⟩ := h
  rw [hv] at e1; injection e1 with e1; subst e1
  rcases e3 with ⟨rfl, e3, _⟩ | ⟨b, cs, junk, e, _, rfl, e4, e5, e6⟩
  · have : xs = [] := List.eq_nil_of_length_eq_zero (by omega)
    subst this
    exact .ro (fun _ => []) (fun i x h => by simp at h) (fun i h => by simp at h) (fun _ _ => rfl) (Nat.le_refl _)
  · exact rows_ro e2 e4 e5 hl
mutual
theorem Den.hand (hl : H.le G) (hL : LentOk ν G ρ res ls) : ∀ {s x}, Den ν H s x → Den (nuC ν σ) G (s.hand res ls ρ σ) x
  | _, _, .any x => .any x
  | _, _, .r (.v x) => .r (.v x)
  | _, _, .r (.ro cs h1 h2 h3 h4) => .r (RDen.mono hl (.ro cs h1 h2 h3 h4))
  | _, _, .r (.rop h hc) => .r (RDen.mono hl (.rop h hc))
  | _, _, .r (.rom h h1 h2) => .r (RDen.mono hl (.rom h h1 h2))
  | _, _, .agg h => .agg (DenL.hand hl hL h)
  | _, _, .tup h => .tup (DenL.hand hl hL h)
  | _, _, .fn h1 h2 => .fn (DenL.hand hl hL h1) (DenL.hand hl hL h2)
  | _, _, .h (t := t) h h1 => by
      unfold SV.hand lend
      by_cases e : σ.contains t = true
      · rw [if_pos e]; exact .h (by rw [nuC_idx e]; exact h) h1
      · rw [if_neg e]
        by_cases e2 : ls.contains t = true
        · rw [if_pos e2]
          have k1 := hL.1 t _ h
          have k2 := hL.2 t (by simpa using e2)
          subst k1
          split
          · rename_i sz enc xs hr
            exact .r (sl_ro (k2 _ hr).choose_spec h (Hp.le.refl _))
          · exact .any _
        · rw [if_neg e2]; exact .any _
  | _, _, .hp (t := t) h => by
      unfold SV.hand
      by_cases e : σ.contains t = true
      · rw [if_pos e]; exact .hp (by rw [nuC_idx e]; exact h)
      · rw [if_neg e]; exact .any _
  | _, _, .hs (t := t) h => by
      unfold SV.hand
      by_cases e : σ.contains t = true
      · rw [if_pos e]; exact .hs (by rw [nuC_idx e]; exact h)
      · rw [if_neg e]; exact .any _
  | _, _, .ptr (t := t) h => by
      unfold SV.hand
      by_cases e : σ.contains t = true
      · rw [if_pos e]; exact .ptr (by rw [nuC_idx e]; exact h)
      · rw [if_neg e]; exact .any _
theorem DenL.hand (hl : H.le G) (hL : LentOk ν G ρ res ls) : ∀ {s x}, DenL ν H s x → DenL (nuC ν σ) G (SV.handL res ls ρ σ s) x
  | _, _, .nil => .nil
  | _, _, .cons h r => .cons (Den.hand hl hL h) (DenL.hand hl hL r)
end
mutual
theorem Den.ren {f : Nat → Nat} (hn : ∀ k x, ν k = some x → ν' (f k) = some x) : ∀ {s x}, Den ν H s x → Den ν' H (s.ren f) x
  | _, _, .any x => .any x
  | _, _, .r (.v x) => .r (.v x)
  | _, _, .r (.ro cs h1 h2 h3 h4) => .r (.ro cs h1 h2 h3 h4)
  | _, _, .r (.rop h hc) => .r (.rop h hc)
  | _, _, .r (.rom h h1 h2) => .r (.rom h h1 h2)
  | _, _, .agg h => .agg (DenL.ren hn h)
  | _, _, .tup h => .tup (DenL.ren hn h)
  | _, _, .fn h1 h2 => .fn (DenL.ren hn h1) (DenL.ren hn h2)
  | _, _, .hs h => .hs (hn _ _ h)
  | _, _, .h h h1 => .h (hn _ _ h) h1
  | _, _, .hp h => .hp (hn _ _ h)
  | _, _, .ptr h => .ptr (hn _ _ h)
theorem DenL.ren {f : Nat → Nat} (hn : ∀ k x, ν k = some x → ν' (f k) = some x) : ∀ {s x}, DenL ν H s x → DenL ν' H (SV.renL f s) x
  | _, _, .nil => .nil
  | _, _, .cons h r => .cons (Den.ren hn h) (DenL.ren hn r)
end
mutual
theorem Den.free : ∀ {s x}, Den ν H s x → s.rofree = true → Den ν G s x
  | _, _, .any x, _ => .any x
  | _, _, .r (.v x), _ => .r (.v x)
  | _, _, .r (.ro cs h1 h2 h3 h4), h => by cases h
  | _, _, .r (.rop h hc), k => by cases k
  | _, _, .r (.rom h h1 h2), k => by cases k
  | _, _, .agg h, k => .agg (DenL.free h k)
  | _, _, .tup h, k => .tup (DenL.free h k)
  | _, _, .fn h1 h2, k => by
      simp only [SV.rofree, Bool.and_eq_true] at k
      exact .fn (DenL.free h1 k.1) (DenL.free h2 k.2)
  | _, _, .hs h, _ => .hs h
  | _, _, .h h h1, _ => .h h h1
  | _, _, .hp h, _ => .hp h
  | _, _, .ptr h, _ => .ptr h
theorem DenL.free : ∀ {s x}, DenL ν H s x → SV.rofreeL s = true → DenL ν G s x
  | _, _, .nil, _ => .nil
  | _, _, .cons h r, k => by
      simp only [SV.rofreeL, Bool.and_eq_true] at k
      exact .cons (Den.free h k.1) (DenL.free r k.2)
end
theorem RDenL.free {l : List SV} {cs : List Value} (h : RDenL H l cs) (k : SV.rofreeL l = true) : RDenL G l cs := by
  induction l generalizing cs with
  | nil => cases h; exact .nil
  | cons s l ih =>
    cases h with
    | cons h r =>
      simp only [SV.rofreeL, Bool.and_eq_true] at k
      refine .cons ?_ (ih r k.2)
      cases h with
      | v => exact .v _
      | ro => cases k.1
      | rop => cases k.1
      | rom => cases k.1
theorem rows_free {α : Type} {sz : Nat} {enc : α → List SV} : ∀ {xs : List α} {cs : List Value}, RowsDen H sz enc xs cs → (∀ x ∈ xs, SV.rofreeL (enc x) = true) → RowsDen G sz enc xs cs
  | [], _, h, _ => h
  | x :: xs, _, ⟨r, cs', e, h1, h2, h3⟩, k => ⟨r, cs', e, h1, h2.free (k x (by simp)), rows_free h3 (fun y hy => k y (by simp [hy]))⟩
theorem ResOk.free {r : Res} {Bs : List Nat} (h : ResOk ν H g Bs t r) (k : r.rofree) : ResOk ν G g Bs t r := by
  cases r with
  | gone => exact h
  | cells l => obtain ⟨b, cs, e, e0, e1, e2, e3⟩ := h; exact ⟨b, cs, e, e0, e1, e2, e3.free k⟩
  | lit sz m l => obtain ⟨b, cs, e, e0, e1, e2, e3, e4⟩ := h; exact ⟨b, cs, e, e0, e1, e2, e3.free k, e4⟩
  | sl sz enc xs =>
    obtain ⟨p, c, e1, e2, e3⟩ := h
    refine ⟨p, c, e1, e2, e3.imp id ?_⟩
    rintro ⟨b, cs, junk, e, q0, q1, q2, q3, q4⟩
    exact ⟨b, cs, junk, e, q0, q1, q2, rows_free q3 k, q4⟩
  | mp ks kv => exact h
  | nest sz enc xss hole =>
    obtain ⟨b, hs, e, Bss, e0, e1, e2, e3, e4⟩ := h
    have := e3.map (ν' := ν) (G := G) (g' := g) id (fun s v hs hd => hd.free (by obtain ⟨i, hi⟩ := hs; exact k.2 _ hi)) (fun xs v Bs hx hB hd => by
      obtain ⟨p, c, q1, q2, q3⟩ := hd
      refine ⟨p, c, q1, q2, q3.imp id ?_⟩
      rintro ⟨b, cs, junk, e, r0, r1, r2, r3, r4⟩
      exact ⟨b, cs, junk, e, r0, r1, r2, rows_free r3 (k.1 xs hx), r4⟩)
    rw [hole_id] at this
    exact ⟨b, hs, e, Bss, e0, e1, e2, this, e4⟩
theorem renL_len {f : Nat → Nat} : ∀ l : List SV, (SV.renL f l).length = l.length
  | [] => rfl
  | s :: l => by simp [SV.renL, renL_len l]
theorem ResOk.ren {r : Res} {f : Nat → Nat} {Bs : List Nat} (h : ResOk ν H g Bs t r) (hn : ∀ k x, ν k = some x → ν' (f k) = some x) : ResOk ν' H g Bs (f t) (r.ren f) := by
  cases r with
  | gone => exact h
  | cells l => obtain ⟨b, cs, e, e0, e1, e2, e3⟩ := h; exact ⟨b, cs, e, e0, hn _ _ e1, e2, e3.ren hn⟩
  | lit sz m l => obtain ⟨b, cs, e, e0, e1, e2, e3, e4, e5⟩ := h; exact ⟨b, cs, e, e0, hn _ _ e1, e2, e3.ren hn, by rw [← e4]; exact renL_len l, e5⟩
  | sl sz enc xs => obtain ⟨p, c, e1, e2⟩ := h; exact ⟨p, c, hn _ _ e1, e2⟩
  | mp ks kv => obtain ⟨b, es, ck, e0, e1, e2⟩ := h; exact ⟨b, es, ck, e0, hn _ _ e1, e2⟩
  | nest sz enc xss hole =>
    obtain ⟨b, hs, e, Bss, e0, e1, e2, e3, e4⟩ := h
    exact ⟨b, hs, e, Bss, e0, hn _ _ e1, e2, e3.map (fun s => s.ren f) (fun s v _ hd => hd.ren hn) (fun _ _ _ _ _ hd => hd), e4⟩
end
end Go.Proofs.Ytbpobdlahighoaa.Sx
