/- Maps: what lookup and update do with keys of simple kinds, or structs of such. -/
import Derived.Test.YtbpobdlahighoaaSxD
import Derived.MapKept
namespace Go.Proofs.Ytbpobdlahighoaa.Sx
open Go
set_option linter.unusedVariables false
set_option linter.unusedSimpArgs false

section
open Classical
/-- Where a key lies, and what with it. -/
noncomputable def mfind : List (Value × Value) → Value → Option (Nat × Value)
  | [], _ => none
  | p :: l, k => if p.1 = k then some (0, p.2) else (mfind l k).map fun q => (q.1 + 1, q.2)
noncomputable def mget (l : List (Value × Value)) (k : Value) : Option Value := (mfind l k).map (·.2)
noncomputable def mset : List (Value × Value) → Value → Value → List (Value × Value)
  | [], k, v => [(k, v)]
  | p :: l, k, v => if p.1 = k then (k, v) :: l else p :: mset l k v
noncomputable def mdel : List (Value × Value) → Value → List (Value × Value)
  | [], k => []
  | p :: l, k => if p.1 = k then l else p :: mdel l k
end
section
variable {P : Program} {w : World} {kt : TypeId} {d : TypeDesc} {k v : Value} {kv : List (Value × Value)} {es : List MapEntry}
theorem mfind_at : ∀ {l : List MapEntry} {j : Nat} {e : MapEntry}, l[j]? = some e → e.key = k → (∀ i x, i < j → l[i]? = some x → x.key ≠ k) → mfind (l.map fun e => (e.key, e.val)) k = some (j, e.val)
  | [], j, e, h, _, _ => by simp at h
  | x :: l, 0, e, h, hk, _ => by
    simp only [List.getElem?_cons_zero, Option.some.injEq] at h
    subst h
    simp [mfind, hk]
  | x :: l, j + 1, e, h, hk, hn => by
    have h1 := mfind_at (l := l) (j := j) (by simpa using h) hk (fun i y hi hy => hn (i + 1) y (by omega) (by simpa using hy))
    have h2 := hn 0 x (by omega) rfl
    simp [mfind, h2, h1]
theorem mfind_no : ∀ {l : List MapEntry}, (∀ x ∈ l, x.key ≠ k) → mfind (l.map fun e => (e.key, e.val)) k = none
  | [], _ => rfl
  | x :: l, h => by
    have h2 := h x (by simp)
    simp [mfind, h2, mfind_no (l := l) (fun y hy => h y (by simp [hy]))]
/-- findNow finds what mfind says (keys of simple kinds). -/
theorem findNow_mfind (hk : MapKept.IsKey d k) : ∀ (l : List MapEntry) (i : Nat), (∀ x ∈ l, MapKept.IsKey d x.key) → Instr.findNow d k l i = some ((mfind (l.map fun e => (e.key, e.val)) k).map fun q => (i + q.1, q.2))
  | [], _, _ => rfl
  | e :: es, i, h => by
    obtain ⟨r, hr, hiff⟩ := MapKept.sameNow_of_keys hk (h e (.head _))
    cases r with
    | true =>
      have : e.key = k := (hiff.1 rfl).symm
      simp only [Instr.findNow, hr, List.map_cons, mfind, if_pos this, Option.map_some, Nat.add_zero]
    | false =>
      have hne : e.key ≠ k := fun q => by have := hiff.2 q.symm; cases this
      simp only [Instr.findNow, hr, List.map_cons, mfind, hne, if_false, findNow_mfind hk es (i + 1) (fun x hx => h x (.tail _ hx)), Option.map_map]
      congr 2
      funext q
      simp only [Function.comp]
      congr 1; omega
theorem run_find (hd : P.underlying kt = some d) (hk : MapKept.IsKey d k) (h : ∀ x ∈ es, MapKept.IsKey d x.key) : (Instr.findKey kt k es).run P w = .ok (mfind (es.map fun e => (e.key, e.val)) k) w := by
  have := findNow_mfind hk es 0 h
  rw [MapKept.run_findKey hd this]
  congr 1
  cases mfind (es.map fun e => (e.key, e.val)) k <;> simp
/-- Keys of this kind are told apart as Lean tells them apart. -/
structure KeyGood (P : Program) (kt : TypeId) (S : Value → Prop) : Prop where
  check : ∀ w k em, S k → (Instr.checkKey em 10000 kt k).run P w = .ok () w
  stays : ∀ w k, S k → (Instr.keyThatStays k k).run P w = .ok k w
  find : ∀ w k (es : List MapEntry), S k → (∀ x ∈ es, S x.key) → (Instr.findKey kt k es).run P w = .ok (mfind (es.map fun e => (e.key, e.val)) k) w
theorem keyGood_simple {d : TypeDesc} (hd : P.underlying kt = some d) : KeyGood P kt (MapKept.IsKey d) :=
  ⟨fun w k em hk => MapKept.run_checkKey hd hk em 9999, fun w k hk => MapKept.run_keyThatStays hk, fun w k es hk h => run_find hd hk h⟩
/-- Keys that '==' of the type tells apart. -/
theorem findAsking_mfind {S : Value → Prop} (heq : ∀ (w : World) (a b : Value), S a → S b → ∃ r, (Op.equal kt a b).run P w = .ok r w ∧ (r = true ↔ b = a)) (hk : S k) : ∀ (l : List MapEntry) (i : Nat), (∀ x ∈ l, S x.key) →
    (Instr.findAsking kt k l i).run P w = .ok ((mfind (l.map fun e => (e.key, e.val)) k).map fun q => (i + q.1, q.2)) w
  | [], _, _ => rfl
  | e :: es, i, h => by
    unfold Instr.findAsking
    obtain ⟨r, hr, hiff⟩ := heq w k e.key hk (h e (.head _))
    rw [Sem.run_bind, hr, Result.andThen_ok]
    cases r with
    | true =>
      have he := hiff.1 rfl
      simp [he, mfind]
    | false =>
      have he : ¬ e.key = k := fun q => by have := hiff.2 q; cases this
      simp only [he, if_false, Bool.false_eq_true, List.map_cons, mfind, findAsking_mfind heq hk es (i + 1) (fun x hx => h x (.tail _ hx)), Option.map_map]
      congr 2
      funext q
      simp only [Function.comp]
      congr 1; omega
end
end Go.Proofs.Ytbpobdlahighoaa.Sx
