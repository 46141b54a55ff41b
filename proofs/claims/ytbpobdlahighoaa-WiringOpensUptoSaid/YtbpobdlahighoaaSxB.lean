/- The symbolic state of a Go call, what the types' table tells, and the operations that touch no memory. -/
import Derived.Test.YtbpobdlahighoaaSxA
namespace Go.Proofs.Ytbpobdlahighoaa.Sx
open Go

/-! ### The table of types, as far as it is looked at -/
inductive TK
  | int (k : IntKind) | bool | string | ptr (e : Nat) | slice (e : Nat) | array (n e : Nat) | struct (fs : List (Nat × Nat)) | map (k v : Nat) | func | iface | other
structure TD where
  kind : TK
  inf : Option (Nat × Nat × Option Value)
  eqg : Bool        -- '==' on it may meet two nil values of an interface type
  sto : Bool        -- it holds what a stand-in pack declares
def tkOf (P : Program) (t : Nat) : TK :=
  match P.underlying t with
  | some (.int k) => .int k
  | some .bool => .bool
  | some .string => .string
  | some (.pointer e) => .ptr e
  | some (.slice e) => .slice e
  | some (.array n e) => .array n e
  | some (.struct fs) => if fs.any (fun f => f.name == "_") then .other else .struct (fs.toList.map fun f => (f.offset, f.type))
  | some (.map k v) => .map k v
  | some (.func _ _ _) => .func
  | some (.interface _) => .iface
  | _ => .other
def tdOf (P : Program) (t : Nat) : TD := ⟨tkOf P t, (P.info? t).map fun i => (i.size, i.bytes, i.zero), P.eqGuardType P.depth t, P.stoodInHeld t⟩

section
variable {P : Program} {w : World} {t : Nat}
theorem und_slice {e : Nat} (h : (tdOf P t).kind = .slice e) : P.underlying t = some (.slice e) := by
  simp only [tdOf, tkOf] at h; split at h <;> first | (cases h; assumption) | (split at h <;> cases h) | cases h
theorem und_array {n e : Nat} (h : (tdOf P t).kind = .array n e) : P.underlying t = some (.array n e) := by
  simp only [tdOf, tkOf] at h; split at h <;> first | (cases h; assumption) | (split at h <;> cases h) | cases h
theorem und_int {k : IntKind} (h : (tdOf P t).kind = .int k) : P.underlying t = some (.int k) := by
  simp only [tdOf, tkOf] at h; split at h <;> first | (cases h; assumption) | (split at h <;> cases h) | cases h
theorem und_bool (h : (tdOf P t).kind = .bool) : P.underlying t = some .bool := by
  simp only [tdOf, tkOf] at h; split at h <;> first | (cases h; assumption) | (split at h <;> cases h) | cases h
theorem und_string (h : (tdOf P t).kind = .string) : P.underlying t = some .string := by
  simp only [tdOf, tkOf] at h; split at h <;> first | (cases h; assumption) | (split at h <;> cases h) | cases h
theorem und_ptr {e : Nat} (h : (tdOf P t).kind = .ptr e) : P.underlying t = some (.pointer e) := by
  simp only [tdOf, tkOf] at h; split at h <;> first | (cases h; assumption) | (split at h <;> cases h) | cases h
theorem und_map {k v : Nat} (h : (tdOf P t).kind = .map k v) : P.underlying t = some (.map k v) := by
  simp only [tdOf, tkOf] at h; split at h <;> first | (cases h; assumption) | (split at h <;> cases h) | cases h
theorem und_func (h : (tdOf P t).kind = .func) : ∃ a b c, P.underlying t = some (.func a b c) := by
  simp only [tdOf, tkOf] at h; split at h <;> first | (cases h; exact ⟨_, _, _, by assumption⟩) | (split at h <;> cases h) | cases h
theorem und_struct {fs : List (Nat × Nat)} (h : (tdOf P t).kind = .struct fs) : ∃ fields, P.underlying t = some (.struct fields) ∧ (fields.toList.map fun f => (f.offset, f.type)) = fs ∧ fields.any (fun f => f.name == "_") = false := by
  simp only [tdOf, tkOf] at h; split at h <;> first | (split at h; cases h; rename_i hn; cases h; exact ⟨_, by assumption, rfl, by simpa using hn⟩) | cases h
theorem run_und {d : TypeDesc} (h : P.underlying t = some d) : (underlying t).run P w = .ok d w := by
  simp [underlying, Sem.run, program, Sem.bind, bind, h, pure]
theorem inf_some {n b : Nat} {z : Option Value} (h : (tdOf P t).inf = some (n, b, z)) : ∃ i, P.info? t = some i ∧ i.size = n ∧ i.bytes = b ∧ i.zero = z := by
  simp only [tdOf, Option.map_eq_some_iff] at h
  obtain ⟨i, hi, e⟩ := h
  cases e
  exact ⟨i, hi, rfl, rfl, rfl⟩
theorem run_info {i : TypeInfo} (h : P.info? t = some i) : (typeInfo t).run P w = .ok i w := by
  simp [typeInfo, Sem.run, program, Sem.bind, bind, h, pure]
theorem run_size {n b : Nat} {z : Option Value} (h : (tdOf P t).inf = some (n, b, z)) : (sizeOf t).run P w = .ok n w := by
  obtain ⟨i, hi, rfl, _⟩ := inf_some h
  simp [sizeOf, typeInfo, Sem.run, program, Sem.bind, bind, hi, pure]
theorem run_zero {n b : Nat} {z : Value} (h : (tdOf P t).inf = some (n, b, some z)) : (zeroValue t).run P w = .ok z w := by
  obtain ⟨i, hi, _, _, hz⟩ := inf_some h
  simp [zeroValue, typeInfo, Sem.run, program, Sem.bind, bind, hi, hz, pure]
def TK.agg : TK → Bool | .struct _ | .array _ _ => true | _ => false
theorem run_isAgg (hne : (tdOf P t).kind ≠ .other) : (isAgg t).run P w = .ok (tdOf P t).kind.agg w := by
  cases hu : P.underlying t with
  | none => exfalso; apply hne; simp [tdOf, tkOf, hu]
  | some d =>
    have hr : (isAgg t).run P w = .ok (match d with | .struct _ | .array _ _ => true | _ => false) w := by
      simp only [isAgg, underlying, program, Sem.bind, bind, Sem.run, hu, pure]
      cases d <;> rfl
    rw [hr]
    cases d <;> simp_all [tdOf, tkOf, TK.agg]
    all_goals (split <;> simp_all)
end

/-! ### The state -/
inductive Res : Type 1
  | gone
  | cells (l : List SV)
  | lit (sz n : Nat) (l : List SV)
  | sl {α : Type} (sz : Nat) (enc : α → List SV) (xs : List α)
  | mp (ks : Value → Prop) (kv : List (Value × Value))       -- a map, its keys of a kind
  | nest {α : Type} (sz : Nat) (enc : α → List SV) (xss : List (List α)) (hole : Option (Nat × SV))       -- a slice of slices, all its own, but the one in 'hole'
structure St : Type 1 where
  env : List (Nat × SV)
  res : List (Nat × Res)
  nx : Nat
  mv : List Nat        -- handles whose value is no longer what it was when the call began
def lk : List (Nat × SV) → Nat → SV
  | [], _ => .any
  | (k, s) :: l, t => if k = t then s else lk l t
def rlk : List (Nat × Res) → Nat → Option Res
  | [], _ => none
  | (k, s) :: l, t => if k = t then some s else rlk l t
def ofVal : Value → SV
  | .agg cs => .agg (cs.toList.map .v)
  | x => .v x
def ev (st : St) : Operand → SV
  | .tmp t => lk st.env t
  | .const c => ofVal c
  | .global g => .v (.pointer (some ⟨g, 0, none⟩))
  | .func f => .fn f [] []
theorem ofVal_den {ν : Nat → Option Value} {H : Hp} (x : Value) : Den ν H (ofVal x) x := by
  unfold ofVal
  split
  · rename_i cs
    have := Den.agg (ν := ν) (H := H) (DenL.vs (ν := ν) (H := H) cs.toList)
    simpa using this
  · exact .r (.v _)
def EnvOk (ν : Nat → Option Value) (H : Hp) (env : List (Nat × SV)) (a : Act) : Prop := ∀ k, Den ν H (lk env k) (a.tmps.getD k undef)
theorem ev_den {ν : Nat → Option Value} {H : Hp} {st : St} {a : Act} (h : EnvOk ν H st.env a) : ∀ x : Operand, Den ν H (ev st x) (a.eval x)
  | .tmp t => h t
  | .const c => ofVal_den c
  | .global _ => .r (.v _)
  | .func _ => .fn .nil .nil

def RowsDen (H : Hp) {α : Type} (sz : Nat) (enc : α → List SV) : List α → List Value → Prop
  | [], cs => cs = []
  | x :: xs, cs => ∃ r cs', cs = r ++ cs' ∧ r.length = sz ∧ RDenL H (enc x) r ∧ RowsDen H sz enc xs cs'
/-- A slice that is its owner's: its value, its blocks. -/
def SlOk (H g : Hp) {α : Type} (sz : Nat) (enc : α → List SV) (xs : List α) (Bs : List Nat) (v : Value) : Prop := ∃ p c, v = .slice p xs.length c ∧ xs.length ≤ c ∧ ((c = 0 ∧ p = none ∧ Bs = []) ∨
      ∃ b cs junk e, Bs = [b] ∧ p = some ⟨b, 0, none⟩ ∧ g b = some (.cells (List.toArray (cs ++ junk)) e (0, 0)) ∧ RowsDen H sz enc xs cs ∧ (cs ++ junk).length = c * sz)
/-- Row i of a slice of slices: its own, or, in the hole, what is told of the cell. -/
def RowOk (ν : Nat → Option Value) (H g : Hp) {α : Type} (sz : Nat) (enc : α → List SV) (hole : Option (Nat × SV)) (i : Nat) (xs : List α) (v : Value) (Bs : List Nat) : Prop := match hole with
  | some (j, s) => (j = i → Bs = [] ∧ Den ν H s v) ∧ (j ≠ i → SlOk H g sz enc xs Bs v)
  | none => SlOk H g sz enc xs Bs v
structure NestOk (ν : Nat → Option Value) (H g : Hp) {α : Type} (sz : Nat) (enc : α → List SV) (hole : Option (Nat × SV)) (xss : List (List α)) (hs : List Value) (Bss : List (List Nat)) : Prop where
  l1 : hs.length = xss.length
  l2 : Bss.length = xss.length
  row : ∀ (i : Nat) (xs : List α) (v : Value) (Bs : List Nat), xss[i]? = some xs → hs[i]? = some v → Bss[i]? = some Bs → v.oneCell' = true ∧ RowOk ν H g sz enc hole i xs v Bs
  lt : ∀ p, hole = some p → p.1 < xss.length
/-- What a resource is, and which blocks are its own (Bs). -/
def ResOk (ν : Nat → Option Value) (H g : Hp) (Bs : List Nat) (t : Nat) : Res → Prop
  | .gone => Bs = []
  | .cells l => ∃ b cs e, Bs = [b] ∧ ν t = some (.pointer (some ⟨b, 0, none⟩)) ∧ g b = some (.cells (List.toArray cs) e (0, 0)) ∧ DenL ν H l cs
  | .lit sz n l => ∃ b cs e, Bs = [b] ∧ ν t = some (.slice (some ⟨b, 0, none⟩) n n) ∧ g b = some (.cells (List.toArray cs) e (0, 0)) ∧ DenL ν H l cs ∧ l.length = n * sz ∧ 0 < n
  | .sl sz enc xs => ∃ p c, ν t = some (.slice p xs.length c) ∧ xs.length ≤ c ∧ ((c = 0 ∧ p = none ∧ Bs = []) ∨
      ∃ b cs junk e, Bs = [b] ∧ p = some ⟨b, 0, none⟩ ∧ g b = some (.cells (List.toArray (cs ++ junk)) e (0, 0)) ∧ RowsDen H sz enc xs cs ∧ (cs ++ junk).length = c * sz)
  | .nest sz enc xss hole => ∃ b hs e Bss, Bs = b :: Bss.flatten ∧ ν t = some (.slice (some ⟨b, 0, none⟩) xss.length xss.length) ∧ g b = some (.cells (List.toArray hs) e (0, 0)) ∧ NestOk ν H g sz enc hole xss hs Bss ∧ (b :: Bss.flatten).Nodup
  | .mp ks kv => ∃ b es ck, Bs = [b] ∧ ν t = some (.map (some b)) ∧ g b = some (.map es ck) ∧ es.toList.map (fun e => (e.key, e.val)) = kv ∧ (∀ p ∈ kv, ks p.1) ∧ MapKept.Stamped es ck
/-- β: which blocks are whose. -/
structure SatR (ν : Nat → Option Value) (H F g : Hp) (β : Nat → List Nat) (res : List (Nat × Res)) : Prop where
  ok : ∀ t r, rlk res t = some r → ResOk ν H g (β t) t r
  dis : ∀ t u r s b, rlk res t = some r → rlk res u = some s → t ≠ u → b ∈ β t → b ∈ β u → False
  own : ∀ t r b, rlk res t = some r → b ∈ β t → H b = none ∧ F b = none
theorem sl_iff {ν : Nat → Option Value} {H g : Hp} {Bs : List Nat} {t : Nat} {α : Type} {sz : Nat} {enc : α → List SV} {xs : List α} : ResOk ν H g Bs t (.sl sz enc xs) ↔ ∃ v, ν t = some v ∧ SlOk H g sz enc xs Bs v :=
  ⟨fun h => by obtain ⟨p, c, e1, e2⟩ := h; exact ⟨_, e1, p, c, rfl, e2⟩, fun h => by obtain ⟨_, e1, p, c, rfl, e2⟩ := h; exact ⟨p, c, e1, e2⟩⟩
def SatE (ν : Nat → Option Value) (H F g : Hp) (res : List (Nat × Res)) : Prop := ∃ β, SatR ν H F g β res
theorem SatE.ok {ν : Nat → Option Value} {H F g : Hp} {res : List (Nat × Res)} (h : SatE ν H F g res) : ∀ t r, rlk res t = some r → ∃ Bs, ResOk ν H g Bs t r := fun t r ht => by
  obtain ⟨β, h⟩ := h; exact ⟨_, h.ok t r ht⟩

/-! ### Operations that touch no memory -/
def one : SV → Bool
  | .v x => x.oneCell'
  | .any => false
  | .agg _ => false
  | .tup _ => false
  | .ptr _ _ => true
  | .h _ => true
  | .hp _ _ _ _ => true
  | .fn _ _ _ => true
  | .ro _ _ _ _ => true
  | .rop _ => true
  | .rom _ _ => true
  | .hs _ _ _ _ => true
/-- Told by itself or by memory that nobody writes. -/
def rd : SV → Bool
  | .v _ => true
  | .ro _ _ _ _ => true
  | .any => false
  | .agg _ => false
  | .tup _ => false
  | .ptr _ _ => false
  | .h _ => false
  | .hp _ _ _ _ => false
  | .fn _ _ _ => false
  | .rop _ => true
  | .rom _ _ => true
  | .hs _ _ _ _ => false
theorem rd_den {ν : Nat → Option Value} {H : Hp} {s : SV} {x : Value} (h : Den ν H s x) (h1 : rd s = true) : RDen H s x := by
  cases h with
  | r h => exact h
  | _ => cases h1
theorem rds_den {ν : Nat → Option Value} {H : Hp} : ∀ {l : List SV} {cs : List Value}, DenL ν H l cs → l.all rd = true → RDenL H l cs
  | _, _, .nil, _ => .nil
  | _, _, .cons h r, h1 => by
    simp only [List.all_cons, Bool.and_eq_true] at h1
    exact .cons (rd_den h h1.1) (rds_den r h1.2)
def cellsOf : SV → Option (List SV)
  | .agg l => if l.all one then some l else none
  | s => if one s then some [s] else none
theorem one_den {ν : Nat → Option Value} {H : Hp} {s : SV} {x : Value} (h : Den ν H s x) (h1 : one s = true) : x.oneCell' = true := by
  cases h with
  | any => cases h1
  | r h => cases h with
    | v => exact h1
    | ro => rfl
    | rop => rfl
    | rom => rfl
  | agg => cases h1
  | tup => cases h1
  | h _ h1 => exact h1
  | _ => rfl
theorem cells_one {x : Value} (h : x.oneCell' = true) : x.cells = #[x] := by cases x <;> first | rfl | cases h
theorem ones_den {ν : Nat → Option Value} {H : Hp} : ∀ {l : List SV} {cs : List Value}, DenL ν H l cs → l.all one = true → ∀ u ∈ cs, u.oneCell' = true
  | _, _, .nil, _, _, h => by cases h
  | _, _, .cons h r, h1, u, hu => by
    simp only [List.all_cons, Bool.and_eq_true] at h1
    rcases List.mem_cons.1 hu with rfl | hu
    · exact one_den h h1.1
    · exact ones_den r h1.2 u hu
theorem cells_den {ν : Nat → Option Value} {H : Hp} {s : SV} {x : Value} {l : List SV} (h : Den ν H s x) (hl : cellsOf s = some l) : DenL ν H l x.cells.toList ∧ l.all one = true := by
  unfold cellsOf at hl
  split at hl
  · split at hl
    · injection hl with hl; subst hl
      obtain ⟨cs, rfl, hcs⟩ := h.agg_inv
      exact ⟨by simpa [Value.cells] using hcs, by assumption⟩
    · cases hl
  · split at hl
    · rename_i h1
      injection hl with hl; subst hl
      rw [cells_one (one_den h h1)]
      exact ⟨.cons h .nil, by simp [h1]⟩
    · cases hl
/-- n cells as a value of a type that is an aggregate or not. -/
def mkVal (agg : Bool) (l : List SV) : Option SV := match agg, l with
  | true, l => some (.agg l)
  | false, [s] => some s
  | false, _ => none
def encAt {α : Type} (enc : α → List SV) (xs : List α) (i : Nat) : List SV := match xs[i]? with | some x => enc x | none => []
theorem encAt_some {α : Type} {enc : α → List SV} {xs : List α} {i : Nat} {x : α} (h : xs[i]? = some x) : encAt enc xs i = enc x := by simp [encAt, h]

def inI64 (n : Int) : Prop := -9223372036854775808 ≤ n ∧ n ≤ 9223372036854775807
theorem wrap_in {n : Int} (h : inI64 n) : IntKind.i64.wrap n = n := by
  unfold inI64 at h
  simp only [IntKind.wrap, IntKind.bits, IntKind.signed]
  simp
  split <;> omega
def arith (k : IntKind) (r : Int) : Prop × Int := match k with
  | .i64 => (inI64 r, r)
  | k => (True, k.wrap r)
def bitsOp (op : BinOp) (k : IntKind) (x y : Int) : Int :=
  let a := BitVec.ofInt k.bits x
  let b := BitVec.ofInt k.bits y
  k.wrap ((match op with | .and => a &&& b | .or => a ||| b | .xor => a ^^^ b | _ => a &&& ~~~b).toNat : Int)
/-- Whether two cells are equal, where that is a matter of the two alone. -/
def cellEq : SV → SV → Option Bool
  | .v (.int _ a), .v (.int _ b) => some (decide (a = b))
  | .v (.bool a), .v (.bool b) => some (decide (a = b))
  | .v (.string a), .v (.string b) => some (decide (a = b))
  | _, _ => none
def cellsEq : List SV → List SV → Option Bool
  | [], [] => some true
  | a :: l, b :: m => match cellEq a b, cellsEq l m with | some x, some y => some (x && y) | _, _ => none
  | _, _ => none
def isNilV : Value → Bool
  | .slice none _ _ => true
  | _ => false
def kk {α : Type 1} (k k' : IntKind) (r : α) : Option α := if k = k' then some r else none
theorem kk_some {α : Type 1} {k k' : IntKind} {r z : α} (h : kk k k' r = some z) : k = k' ∧ r = z := by
  unfold kk at h
  by_cases e : k = k'
  · rw [if_pos e] at h; exact ⟨e, by injection h⟩
  · rw [if_neg e] at h; cases h
def kb {α : Type 1} (k : TK) (r : α) : Option α := match k with | .bool => some r | _ => none
theorem kb_some {α : Type 1} {k : TK} {r z : α} (h : kb k r = some z) : k = .bool ∧ r = z := by
  cases k <;> first | (simp only [kb, Option.some.injEq] at h; exact ⟨rfl, h⟩) | (simp [kb] at h)
def vbin (P : Program) (op : BinOp) (t : Nat) (x y : SV) : Option (Prop × SV) :=
  match op, x, y with
  | .add, .v (.int k a), .v (.int k' b) => kk k k' ((arith k (a + b)).1, .v (.int k (arith k (a + b)).2))
  | .sub, .v (.int k a), .v (.int k' b) => kk k k' ((arith k (a - b)).1, .v (.int k (arith k (a - b)).2))
  | .mul, .v (.int k a), .v (.int k' b) => kk k k' ((arith k (a * b)).1, .v (.int k (arith k (a * b)).2))
  | .quo, .v (.int k a), .v (.int k' b) => kk k k' (b ≠ 0, .v (.int k (k.wrap (a.tdiv b))))
  | .rem, .v (.int k a), .v (.int k' b) => kk k k' (b ≠ 0, .v (.int k (a.tmod b)))
  | .and, .v (.int k a), .v (.int k' b) => kk k k' (True, .v (.int k (bitsOp .and k a b)))
  | .or, .v (.int k a), .v (.int k' b) => kk k k' (True, .v (.int k (bitsOp .or k a b)))
  | .xor, .v (.int k a), .v (.int k' b) => kk k k' (True, .v (.int k (bitsOp .xor k a b)))
  | .andNot, .v (.int k a), .v (.int k' b) => kk k k' (True, .v (.int k (bitsOp .andNot k a b)))
  | .shl, .v (.int k a), .v (.int _ b) => some (0 ≤ b, .v (.int k (k.wrap (a * 2 ^ (min b.toNat k.bits)))))
  | .shr, .v (.int k a), .v (.int _ b) => some (0 ≤ b, .v (.int k (a.fdiv (2 ^ (min b.toNat k.bits)))))
  | .eql, .v (.int k a), .v (.int k' b) => kk k k' (True, .v (.bool (decide (a = b))))
  | .neq, .v (.int k a), .v (.int k' b) => kk k k' (True, .v (.bool (!decide (a = b))))
  | .lss, .v (.int k a), .v (.int k' b) => kk k k' (True, .v (.bool (decide (a < b))))
  | .leq, .v (.int k a), .v (.int k' b) => kk k k' (True, .v (.bool (decide (a ≤ b))))
  | .gtr, .v (.int k a), .v (.int k' b) => kk k k' (True, .v (.bool (decide (b < a))))
  | .geq, .v (.int k a), .v (.int k' b) => kk k k' (True, .v (.bool (decide (b ≤ a))))
  | .add, .v (.string a), .v (.string b) => some (a.size + b.size ≤ 9223372036854775807, .v (.string (a ++ b)))
  | .eql, .v (.string a), .v (.string b) => some (True, .v (.bool (decide (a = b))))
  | .neq, .v (.string a), .v (.string b) => some (True, .v (.bool (!decide (a = b))))
  | .lss, .v (.string a), .v (.string b) => some (True, .v (.bool (Op.bytesLess a.toList b.toList)))
  | .gtr, .v (.string a), .v (.string b) => some (True, .v (.bool (!(Op.bytesLess a.toList b.toList || decide (a = b)))))
  | .eql, .v (.bool a), .v (.bool b) => kb (tdOf P t).kind (True, .v (.bool (decide (a = b))))
  | .neq, .v (.bool a), .v (.bool b) => kb (tdOf P t).kind (True, .v (.bool (!decide (a = b))))
  | _, _, _ => none
end Go.Proofs.Ytbpobdlahighoaa.Sx
