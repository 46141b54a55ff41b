/- The symbolic state (values, resources, environment) over one Go call, what it denotes, and how denotation is kept when the world grows. -/
import Derived.MapKept
import Derived.OrdersHeld
import Derived.KernelRfl
import Derived.RowKit3
import Derived.Laws.Sem
namespace Go.Proofs.Ytbpobdlahighoaa.Sx
open Go

/-! ### Heaps as functions -/
abbrev Hp := Nat → Option Obj
def hp (w : World) : Hp := fun b => w.heap[b]?
def Hp.cell (H : Hp) (a : Addr) : Option Value :=
  match H a.block with
  | some (.cells c _ _) => if a.spot.isSome then none else c[a.off]?
  | _ => none
def Hp.le (H G : Hp) : Prop := ∀ b o, H b = some o → G b = some o
theorem cell_hp (w : World) (a : Addr) : w.cell? a = (hp w).cell a := rfl
theorem Hp.le.refl (H : Hp) : H.le H := fun _ _ h => h
theorem Hp.le.trans {A B C : Hp} (h : A.le B) (k : B.le C) : A.le C := fun b o x => k b o (h b o x)
theorem Hp.le.cell {H G : Hp} (h : H.le G) {a : Addr} {v : Value} (hv : H.cell a = some v) : G.cell a = some v := by
  unfold Hp.cell at *
  cases hb : H a.block with
  | none => rw [hb] at hv; cases hv
  | some o => rw [h _ _ hb]; rw [hb] at hv; exact hv

/-! ### Symbolic values -/
inductive SV : Type 1
  | any
  | v (x : Value)
  | agg (l : List SV)
  | tup (l : List SV)
  | ptr (t o : Nat)
  | h (t : Nat)
  | hp (t sz i o : Nat)
  | fn (f : FuncId) (first cap : List SV)
  | ro {α : Type} (sz : Nat) (enc : α → List SV) (xs : List α) (x : Value)
  | rop (l : List SV)
  | rom (S : Value → Prop) (kv : List (Value × Value))
  | hs (t sz i n : Nat)

mutual
/-- What is told by memory that nobody writes. -/
inductive RDen (H : Hp) : SV → Value → Prop
  | v (x : Value) : RDen H (.v x) x
  | ro {α : Type} {sz : Nat} {enc : α → List SV} {xs : List α} {p : Option Addr} {c : Nat} (cs : Nat → List Value) (h1 : ∀ i x, xs[i]? = some x → RDenL H (enc x) (cs i))
      (h2 : ∀ i, i < xs.length → (cs i).length = sz ∧ ∃ b o, p = some ⟨b, o, none⟩ ∧ ∀ j u, (cs i)[j]? = some u → H.cell ⟨b, o + (i * sz + j), none⟩ = some u)
      (h3 : ∀ a, p = some a → a = a) (h4 : xs.length ≤ c) : RDen H (.ro sz enc xs (.slice p xs.length c)) (.slice p xs.length c)
  | rop {l cs b o} (h : RDenL H l cs) (hc : ∀ j u, cs[j]? = some u → H.cell ⟨b, o + j, none⟩ = some u) : RDen H (.rop l) (.pointer (some ⟨b, o, none⟩))
  | rom {S : Value → Prop} {kv : List (Value × Value)} {b : Nat} {es : Array MapEntry} {ck : Nat} (h : H b = some (.map es ck)) (h1 : es.toList.map (fun e => (e.key, e.val)) = kv) (h2 : (∀ p ∈ kv, S p.1) ∧ MapKept.Stamped es ck) : RDen H (.rom S kv) (.map (some b))
inductive RDenL (H : Hp) : List SV → List Value → Prop
  | nil : RDenL H [] []
  | cons {s l x xs} (h : RDen H s x) (r : RDenL H l xs) : RDenL H (s :: l) (x :: xs)
end

mutual
inductive Den (ν : Nat → Option Value) (H : Hp) : SV → Value → Prop
  | any (x : Value) : Den ν H .any x
  | r {s x} (h : RDen H s x) : Den ν H s x
  | agg {l cs} (h : DenL ν H l cs) : Den ν H (.agg l) (.agg cs.toArray)
  | tup {l cs} (h : DenL ν H l cs) : Den ν H (.tup l) (.tuple cs.toArray)
  | ptr {t o b} (h : ν t = some (.pointer (some ⟨b, 0, none⟩))) : Den ν H (.ptr t o) (.pointer (some ⟨b, o, none⟩))
  | h {t x} (h : ν t = some x) (h1 : x.oneCell' = true) : Den ν H (.h t) x
  | hp {t sz i o b n c} (h : ν t = some (.slice (some ⟨b, 0, none⟩) n c)) : Den ν H (.hp t sz i o) (.pointer (some ⟨b, i * sz + o, none⟩))
  | fn {f a b fs cs} (h1 : DenL ν H a fs) (h2 : DenL ν H b cs) : Den ν H (.fn f a b) (.func (.func f) fs.toArray cs.toArray)
  | hs {t sz i n b m c} (h : ν t = some (.slice (some ⟨b, 0, none⟩) m c)) : Den ν H (.hs t sz i n) (.slice (some ⟨b, i * sz, none⟩) n (c - i))
inductive DenL (ν : Nat → Option Value) (H : Hp) : List SV → List Value → Prop
  | nil : DenL ν H [] []
  | cons {s l x xs} (h : Den ν H s x) (r : DenL ν H l xs) : DenL ν H (s :: l) (x :: xs)
end

section
variable {ν ν' : Nat → Option Value} {H G : Hp}

mutual
theorem RDen.mono (hl : H.le G) : ∀ {s x}, RDen H s x → RDen G s x
  | _, _, .v x => .v x
  | _, _, .ro cs h1 h2 h3 h4 => .ro cs (fun i x hx => RDenL.mono hl (h1 i x hx)) (fun i hi => ⟨(h2 i hi).1, by
      obtain ⟨b, o, e, hc⟩ := (h2 i hi).2
      exact ⟨b, o, e, fun j u hu => hl.cell (hc j u hu)⟩⟩) h3 h4
  | _, _, .rop h hc => .rop (RDenL.mono hl h) (fun j u hu => hl.cell (hc j u hu))
  | _, _, .rom h h1 h2 => .rom (hl _ _ h) h1 h2
theorem RDenL.mono (hl : H.le G) : ∀ {s x}, RDenL H s x → RDenL G s x
  | _, _, .nil => .nil
  | _, _, .cons h r => .cons (RDen.mono hl h) (RDenL.mono hl r)
end

def NLe (ν ν' : Nat → Option Value) : Prop := ∀ t x, ν t = some x → ν' t = some x

mutual
theorem Den.mono (hn : NLe ν ν') (hl : H.le G) : ∀ {s x}, Den ν H s x → Den ν' G s x
  | _, _, .any x => .any x
  | _, _, .r h => .r (h.mono hl)
  | _, _, .agg h => .agg (DenL.mono hn hl h)
  | _, _, .tup h => .tup (DenL.mono hn hl h)
  | _, _, .ptr h => .ptr (hn _ _ h)
  | _, _, .h h h1 => .h (hn _ _ h) h1
  | _, _, .hp h => .hp (hn _ _ h)
  | _, _, .fn h1 h2 => .fn (DenL.mono hn hl h1) (DenL.mono hn hl h2)
  | _, _, .hs h => .hs (hn _ _ h)
theorem DenL.mono (hn : NLe ν ν') (hl : H.le G) : ∀ {s x}, DenL ν H s x → DenL ν' G s x
  | _, _, .nil => .nil
  | _, _, .cons h r => .cons (Den.mono hn hl h) (DenL.mono hn hl r)
end

theorem Den.v_eq {x y : Value} (h : Den ν H (.v x) y) : y = x := by
  cases h with | r h => cases h with | v => rfl
theorem Den.agg_inv {l : List SV} {y : Value} (h : Den ν H (.agg l) y) : ∃ cs : List Value, y = .agg cs.toArray ∧ DenL ν H l cs := by
  cases h with
  | r h => cases h
  | agg h => exact ⟨_, rfl, h⟩
theorem Den.tup_inv {l : List SV} {y : Value} (h : Den ν H (.tup l) y) : ∃ cs : List Value, y = .tuple cs.toArray ∧ DenL ν H l cs := by
  cases h with
  | r h => cases h
  | tup h => exact ⟨_, rfl, h⟩
theorem Den.ptr_inv {t o : Nat} {y : Value} (h : Den ν H (.ptr t o) y) : ∃ b, y = .pointer (some ⟨b, o, none⟩) ∧ ν t = some (.pointer (some ⟨b, 0, none⟩)) := by
  cases h with
  | r h => cases h
  | ptr h => exact ⟨_, rfl, h⟩
theorem Den.h_inv {t : Nat} {y : Value} (h : Den ν H (.h t) y) : ν t = some y := by
  cases h with
  | r h => cases h
  | h h _ => exact h
theorem Den.hp_inv {t sz i o : Nat} {y : Value} (h : Den ν H (.hp t sz i o) y) : ∃ b n c, y = .pointer (some ⟨b, i * sz + o, none⟩) ∧ ν t = some (.slice (some ⟨b, 0, none⟩) n c) := by
  cases h with
  | r h => cases h
  | hp h => exact ⟨_, _, _, rfl, h⟩
theorem Den.fn_inv {f : FuncId} {a b : List SV} {y : Value} (h : Den ν H (.fn f a b) y) : ∃ fs cs : List Value, y = .func (.func f) fs.toArray cs.toArray ∧ DenL ν H a fs ∧ DenL ν H b cs := by
  cases h with
  | r h => cases h
  | fn h1 h2 => exact ⟨_, _, rfl, h1, h2⟩
theorem Den.rop_inv {l : List SV} {y : Value} (h : Den ν H (.rop l) y) : ∃ b o cs, y = .pointer (some ⟨b, o, none⟩) ∧ RDenL H l cs ∧ ∀ j u, cs[j]? = some u → H.cell ⟨b, o + j, none⟩ = some u := by
  cases h with
  | r h => cases h with
    | rop h hc => exact ⟨_, _, _, rfl, h, hc⟩
theorem Den.rop {l : List SV} {cs : List Value} {b o : Nat} (h : RDenL H l cs) (hc : ∀ j u, cs[j]? = some u → H.cell ⟨b, o + j, none⟩ = some u) : Den ν H (.rop l) (.pointer (some ⟨b, o, none⟩)) := .r (.rop h hc)
theorem Den.rom_inv {S : Value → Prop} {kv : List (Value × Value)} {y : Value} (h : Den ν H (.rom S kv) y) : ∃ b es ck, y = .map (some b) ∧ H b = some (.map es ck) ∧ es.toList.map (fun e => (e.key, e.val)) = kv ∧ (∀ p ∈ kv, S p.1) ∧ MapKept.Stamped es ck := by
  cases h with
  | r h => cases h with
    | rom h h1 h2 => exact ⟨_, _, _, rfl, h, h1, h2⟩
theorem Den.hs_inv {t sz i n : Nat} {y : Value} (h : Den ν H (.hs t sz i n) y) : ∃ b m c, y = .slice (some ⟨b, i * sz, none⟩) n (c - i) ∧ ν t = some (.slice (some ⟨b, 0, none⟩) m c) := by
  cases h with
  | r h => cases h
  | hs h => exact ⟨_, _, _, rfl, h⟩
theorem Den.ro_inv {α : Type} {sz : Nat} {enc : α → List SV} {xs : List α} {x y : Value} (h : Den ν H (.ro sz enc xs x) y) : y = x ∧ RDen H (.ro sz enc xs x) x := by
  cases h with | r h => cases h with | ro cs h1 h2 h3 h4 => exact ⟨rfl, .ro cs h1 h2 h3 h4⟩

theorem RDenL.length : ∀ {l : List SV} {xs : List Value}, RDenL H l xs → l.length = xs.length
  | _, _, .nil => rfl
  | _, _, .cons _ r => by simp [r.length]
theorem RDenL.den : ∀ {l : List SV} {xs : List Value}, RDenL H l xs → DenL ν H l xs
  | _, _, .nil => .nil
  | _, _, .cons h r => .cons (.r h) r.den
theorem DenL.length : ∀ {l : List SV} {xs : List Value}, DenL ν H l xs → l.length = xs.length
  | _, _, .nil => rfl
  | _, _, .cons _ r => by simp [r.length]
theorem DenL.drop : ∀ {l : List SV} {xs : List Value} (n : Nat), DenL ν H l xs → DenL ν H (l.drop n) (xs.drop n)
  | _, _, 0, h => h
  | _, _, _ + 1, .nil => .nil
  | _, _, n + 1, .cons _ r => r.drop n
theorem DenL.take : ∀ {l : List SV} {xs : List Value} (n : Nat), DenL ν H l xs → DenL ν H (l.take n) (xs.take n)
  | _, _, 0, _ => by simp; exact .nil
  | _, _, _ + 1, .nil => .nil
  | _, _, n + 1, .cons h r => .cons h (r.take n)
theorem RDenL.drop : ∀ {l : List SV} {xs : List Value} (n : Nat), RDenL H l xs → RDenL H (l.drop n) (xs.drop n)
  | _, _, 0, h => h
  | _, _, _ + 1, .nil => .nil
  | _, _, n + 1, .cons _ r => r.drop n
theorem RDenL.take : ∀ {l : List SV} {xs : List Value} (n : Nat), RDenL H l xs → RDenL H (l.take n) (xs.take n)
  | _, _, 0, _ => by simp; exact .nil
  | _, _, _ + 1, .nil => .nil
  | _, _, n + 1, .cons h r => .cons h (r.take n)
theorem DenL.app : ∀ {l m : List SV} {xs ys : List Value}, DenL ν H l xs → DenL ν H m ys → DenL ν H (l ++ m) (xs ++ ys)
  | _, _, _, _, .nil, k => k
  | _, _, _, _, .cons h r, k => .cons h (r.app k)
theorem DenL.get : ∀ {l : List SV} {xs : List Value} {i : Nat} {s : SV}, DenL ν H l xs → l[i]? = some s → ∃ x, xs[i]? = some x ∧ Den ν H s x
  | _, _, _, _, .nil, h => by simp at h
  | _, _, 0, _, .cons h _, e => by simp at e; subst e; exact ⟨_, rfl, h⟩
  | _, _, i + 1, _, .cons _ r, e => by simp at e; obtain ⟨x, hx, hd⟩ := r.get e; exact ⟨x, by simpa using hx, hd⟩
theorem DenL.mk : ∀ {l : List SV} {xs : List Value}, l.length = xs.length → (∀ (i : Nat) (s : SV) (x : Value), l[i]? = some s → xs[i]? = some x → Den ν H s x) → DenL ν H l xs
  | [], [], _, _ => .nil
  | s :: l, x :: xs, h, k => .cons (k 0 s x rfl rfl) (DenL.mk (by simpa using h) (fun i s x hs hx => k (i + 1) s x (by simpa using hs) (by simpa using hx)))
theorem DenL.vs : ∀ (xs : List Value), DenL ν H (xs.map .v) xs
  | [] => .nil
  | x :: xs => .cons (.r (.v x)) (DenL.vs xs)
end

mutual
/-- A handle that is spent is told nothing of any more. -/
def SV.kill (t : Nat) : SV → SV
  | .any => .any
  | .v x => .v x
  | .h u => if u = t then .any else .h u
  | .hp u a b c => if u = t then .any else .hp u a b c
  | .ptr u o => if u = t then .any else .ptr u o
  | .agg l => .agg (SV.killL t l)
  | .tup l => .tup (SV.killL t l)
  | .fn f a b => .fn f (SV.killL t a) (SV.killL t b)
  | .ro sz e xs x => .ro sz e xs x
  | .rop l => .rop l
  | .rom S kv => .rom S kv
  | .hs u a b c => if u = t then .any else .hs u a b c
def SV.killL (t : Nat) : List SV → List SV
  | [] => []
  | s :: l => SV.kill t s :: SV.killL t l
end
section
variable {ν ν' : Nat → Option Value} {H : Hp} {t : Nat}
mutual
theorem Den.kill (hn : ∀ u x, u ≠ t → ν u = some x → ν' u = some x) : ∀ {s x}, Den ν H s x → Den ν' H (s.kill t) x
  | _, _, .any x => .any x
  | _, _, .r (.v x) => .r (.v x)
  | _, _, .r (.ro cs h1 h2 h3 h4) => .r (.ro cs h1 h2 h3 h4)
  | _, _, .r (.rop h hc) => .r (.rop h hc)
  | _, _, .r (.rom h h1 h2) => .r (.rom h h1 h2)
  | _, _, .agg h => .agg (DenL.kill hn h)
  | _, _, .tup h => .tup (DenL.kill hn h)
  | _, _, .ptr (t := u) h => by
      unfold SV.kill
      by_cases e : u = t
      · rw [if_pos e]; exact .any _
      · rw [if_neg e]; exact .ptr (hn _ _ e h)
  | _, _, .h (t := u) h h1 => by
      unfold SV.kill
      by_cases e : u = t
      · rw [if_pos e]; exact .any _
      · rw [if_neg e]; exact .h (hn _ _ e h) h1
  | _, _, .hp (t := u) h => by
      unfold SV.kill
      by_cases e : u = t
      · rw [if_pos e]; exact .any _
      · rw [if_neg e]; exact .hp (hn _ _ e h)
  | _, _, .fn h1 h2 => .fn (DenL.kill hn h1) (DenL.kill hn h2)
  | _, _, .hs (t := u) h => by
      unfold SV.kill
      by_cases e : u = t
      · rw [if_pos e]; exact .any _
      · rw [if_neg e]; exact .hs (hn _ _ e h)
theorem DenL.kill (hn : ∀ u x, u ≠ t → ν u = some x → ν' u = some x) : ∀ {s x}, DenL ν H s x → DenL ν' H (SV.killL t s) x
  | _, _, .nil => .nil
  | _, _, .cons h r => .cons (Den.kill hn h) (DenL.kill hn r)
end
end
end Go.Proofs.Ytbpobdlahighoaa.Sx
