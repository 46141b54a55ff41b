/- The engine: what is to be shown of a piece of code from a symbolic state on (vops, vrun), and the contract of a call (Tri). -/
import Derived.Test.YtbpobdlahighoaaSxI
import Derived.Test.YtbpobdlahighoaaSxS
import Derived.RangeFuncNested
namespace Go.Proofs.Ytbpobdlahighoaa.Sx
open Go
set_option linter.unusedVariables false
set_option linter.unusedSimpArgs false

/-- What a call asks and leaves: resources number 0, 1, .. (the handles in 'args' and in the result), whatever else lies in memory. -/
def num {α : Type _} : List α → Nat → List (Nat × α)
  | [], _ => []
  | r :: l, k => (k, r) :: num l (k + 1)
def callable (P : Program) (f : FuncId) : Prop := ∀ args w, (callFunc f args).run P w = .ok (.enter f args) w
def Tri (P : Program) (f : FuncId) (args : List SV) (pre : List Res) (mv : List Nat) (Q : SV → List Res → Prop) : Prop :=
  callable P f ∧ ∀ (w : World) (ν : Nat → Option Value) (H F : Hp) (vs : List Value), H.le F → F.le (hp w) → DenL ν H args vs → SatE ν H F (hp w) (num pre 0) → (∀ t, pre.length ≤ t → ν t = none) →
    Calls P f vs.toArray w fun e w' => ∃ r post ν' H' y, e = .returned y ∧ Q r post ∧ pre.length ≤ post.length ∧ H.le H' ∧ H'.le (hp w') ∧ F.le (hp w') ∧ (∀ b o, F b = some o → H b = none → H' b = none) ∧
      Den ν' H' r y ∧ SatE ν' H' F (hp w') (num post 0) ∧ (∀ t, t < pre.length → t ∉ mv → ν' t = ν t) ∧ (∀ t, post.length ≤ t → ν' t = none) ∧ Kp w w'
/-- The same where the result and what is left are told outright. -/
def TriF (P : Program) (f : FuncId) (args : List SV) (pre : List Res) (mv : List Nat) (r : SV) (post : List Res) : Prop := Tri P f args pre mv fun r' post' => r' = r ∧ post' = post

/-- In which order the operations of a drawn region are looked at: 'ro' is a load from memory that nobody writes; 'alt' where two may come up. -/
inductive Ord | nil | op (i : Nat) (r : Ord) | ro (i : Nat) (r : Ord) | alt (a b : Ord)
def olk : List (Nat × Ord) → Nat → Option Ord
  | [], _ => none
  | (k, s) :: l, t => if k = t then some s else olk l t
structure Cx where
  P : Program
  n : Nat
  rs : List ResultVar
  np : Nat
  mv : List Nat
  ord : List (Nat × Ord)
  fz : List Nat        -- slots of boxes that nobody writes
  cut : List Nat       -- regions behind which the prover tells the state anew
  gh : List Nat        -- regions behind which the state is told otherwise (frozen, cut short ..)
  Q : SV → List Res → Prop
  rd : Bool            -- within a round of a range over a function
inductive VI : Type 1
  | code (c : Code)
  | blk (id : Nat)
  | loop (E : St → Prop)
  | stop (E : Exit → St → Prop)      -- the end of a round
def popTo (id : Nat) : List VI → Option (List VI)
  | [] => none
  | .blk i :: k => if i = id then some k else popTo id k
  | .code _ :: k => popTo id k
  | .loop _ :: k => popTo id k
  | .stop _ :: _ => none
/-- Where a jump goes that nothing catches: the end of the round, if there is one. -/
def bot : List VI → Option (Exit → St → Prop)
  | [] => none
  | .blk _ :: k => bot k
  | .code _ :: k => bot k
  | .loop _ :: k => bot k
  | .stop E :: _ => some E
/-- The first region of a piece of code. -/
def hd : Code → Nat
  | .region id _ _ => id
  | .seq a _ => hd a
  | .block _ b => hd b
  | .scope b => hd b
  | .loop b => hd b
  | _ => 999999

/-! ### The stops -/
/-- The results of a function, as its frame and its memory have them. -/
def resV (P : Program) (st : St) : List ResultVar → Option (List (Prop × SV))
  | [] => some []
  | .tmp t :: r => match resV P st r with | some l => some ((True, lk st.env t) :: l) | none => none
  | .cell a t :: r => match vload P st t (lk st.env a), resV P st r with | some s, some l => some (s :: l) | _, _ => none
def conj : List Prop → Prop
  | [] => True
  | p :: l => p ∧ conj l
def packV : List SV → SV
  | [s] => s
  | l => .tup l
mutual
def SV.ren (f : Nat → Nat) : SV → SV
  | .any => .any
  | .v x => .v x
  | .h u => .h (f u)
  | .hp u a b c => .hp (f u) a b c
  | .ptr u o => .ptr (f u) o
  | .agg l => .agg (SV.renL f l)
  | .tup l => .tup (SV.renL f l)
  | .fn g a b => .fn g (SV.renL f a) (SV.renL f b)
  | .ro sz e xs x => .ro sz e xs x
  | .rop l => .rop l
  | .rom S kv => .rom S kv
  | .hs u a b c => .hs (f u) a b c
def SV.renL (f : Nat → Nat) : List SV → List SV
  | [] => []
  | s :: l => SV.ren f s :: SV.renL f l
end
def Res.ren (f : Nat → Nat) : Res → Res
  | .gone => .gone
  | .cells l => .cells (SV.renL f l)
  | .lit sz n l => .lit sz n (SV.renL f l)
  | .sl sz e xs => .sl sz e xs
  | .mp ks kv => .mp ks kv
  | .nest sz e xss hole => .nest sz e xss (hole.map fun p => (p.1, p.2.ren f))
/-- Number k of a contract is the caller's tag: the k-th of σ, or a new one. -/
def tagOf (σ : List Nat) (nx k : Nat) : Nat := match σ[k]? with | some t => t | none => nx + (k - σ.length)
def RetVC (C : Cx) (st : St) : Prop := ∃ l, resV C.P st C.rs = some l ∧ conj (l.map (·.1)) ∧ ∃ (σ : List Nat) (r : SV) (post : List Res), C.Q r post ∧ SV.ren (tagOf σ st.nx) r = packV (l.map (·.2)) ∧ σ.length = post.length ∧ σ.Nodup ∧ σ.take C.np = List.range C.np ∧
  (∀ t ∈ st.mv, t < C.np → t ∈ C.mv) ∧ ∀ (k : Nat) (p : Res), post[k]? = some p → rlk st.res (tagOf σ st.nx k) = some (p.ren (tagOf σ st.nx)) ∨ p = .gone

/-! ### Operations -/
def rset : List (Nat × Res) → Nat → Res → List (Nat × Res)
  | [], t, r => [(t, r)]
  | (u, s) :: l, t, r => if u = t then (u, r) :: l else (u, s) :: rset l t r
theorem rlk_rset : ∀ (l : List (Nat × Res)) (t u : Nat) (r : Res), rlk (rset l t r) u = if t = u then some r else rlk l u
  | [], t, u, r => by simp [rset, rlk]
  | (v, s) :: l, t, u, r => by
    unfold rset
    by_cases e : v = t
    · subst e; rw [if_pos rfl]
      simp only [rlk_cons]
      by_cases e2 : v = u <;> simp [e2]
    · rw [if_neg e]
      simp only [rlk_cons, rlk_rset l t u r]
      by_cases e2 : v = u
      · subst e2; simp [e, Ne.symm e]
      · simp [e2]
def vput (n : Nat) (d : Option Nat) (s : SV) (K : St → Prop) (st : St) : Prop := match d with
  | some d => d < n ∧ K (st.put d s)
  | none => K st
def pc (n : Nat) (d : Option Nat) (r : Option (Prop × SV)) (K : St → Prop) (st : St) : Prop := match r with
  | some (c, s) => c ∧ vput n d s K st
  | none => False
/-- Something new, number nx. -/
def vnew (n : Nat) (d : Option Nat) (s : SV) (r : Res) (K : St → Prop) (st : St) : Prop := vput n d s K { st with res := (st.nx, r) :: st.res, nx := st.nx + 1 }
def splice (l nl : List SV) (o : Nat) : List SV := l.take o ++ (nl ++ l.drop (o + nl.length))
inductive SR : Type 1
  | bad
  | ok (c : Prop) (st : St)
  | set {α : Type} (c : Prop) (st : St) (u sz : Nat) (enc : α → List SV) (xs : List α) (i : Nat) (row : List SV)
def stK (n : Nat) (d : Option Nat) (K : St → Prop) : SR → Prop
  | .bad => False
  | .ok c st => c ∧ vput n d .any K st
  | .set c st u sz enc xs i row => c ∧ ∃ y, (i < xs.length ∧ row = enc y) ∧ vput n d .any K { st with res := rset st.res u (.sl sz enc (xs.set i y)) }
def vst1 (m : Nat) (nl : List SV) (st : St) (u o : Nat) : Option Res → SR
  | some (.cells l) => .ok (nl.length = m ∧ o + nl.length ≤ l.length) { st with res := rset st.res u (.cells (splice l nl o)) }
  | _ => .bad
def vst2 (m : Nat) (nl : List SV) (st : St) (u sz i o : Nat) : Option Res → SR
  | some (.lit sz' k l) => .ok (nl.length = m ∧ i * sz + o + nl.length ≤ l.length) { st with res := rset st.res u (.lit sz' k (splice l nl (i * sz + o))) }
  | some (.sl sz' enc xs) => .set (sz' = sz ∧ nl.length = m ∧ nl.all rd = true ∧ o + nl.length ≤ sz) st u sz' enc xs i (splice (encAt enc xs i) nl o)
  | some (.nest sz' enc xss (some (j, _))) => match nl with
    | [s] => if j = i then .ok (m = 1 ∧ sz = 1 ∧ o = 0) { st with res := rset st.res u (.nest sz' enc xss (some (j, s))) } else .bad
    | _ => .bad
  | _ => .bad
def vst (st : St) : Option (Nat × Nat × Option Value) → Option (List SV) → SV → SR
  | some (m, _, _), some nl, .ptr u o => vst1 m nl st u o (rlk st.res u)
  | some (m, _, _), some nl, .hp u sz i o => vst2 m nl st u sz i o (rlk st.res u)
  | _, _, _ => .bad
def vstore (P : Program) (n : Nat) (d : Option Nat) (t : Nat) (x : SV) (y : SV) (K : St → Prop) (st : St) : Prop := stK n d K (vst st (tdOf P t).inf (cellsOf y) x)
/-- A call of a Go function: some contract, some of the caller's resources handed on (σ), some lent to be read (ls). -/
def lend (res : List (Nat × Res)) (ls : List Nat) (ρ : Nat → Value) (σ : List Nat) (t : Nat) : SV :=
  if σ.contains t then .h (σ.idxOf t) else if ls.contains t then match rlk res t with | some (.sl sz enc xs) => .ro sz enc xs (ρ t) | _ => .any else .any
mutual
/-- The caller's value as the callee's contract has it. -/
def SV.hand (res : List (Nat × Res)) (ls : List Nat) (ρ : Nat → Value) (σ : List Nat) : SV → SV
  | .any => .any
  | .v x => .v x
  | .h u => lend res ls ρ σ u
  | .hp u a b c => if σ.contains u then .hp (σ.idxOf u) a b c else .any
  | .ptr u o => if σ.contains u then .ptr (σ.idxOf u) o else .any
  | .agg l => .agg (SV.handL res ls ρ σ l)
  | .tup l => .tup (SV.handL res ls ρ σ l)
  | .fn g a b => .fn g (SV.handL res ls ρ σ a) (SV.handL res ls ρ σ b)
  | .ro sz e xs x => .ro sz e xs x
  | .rop l => .rop l
  | .rom S kv => .rom S kv
  | .hs u a b c => if σ.contains u then .hs (σ.idxOf u) a b c else .any
def SV.handL (res : List (Nat × Res)) (ls : List Nat) (ρ : Nat → Value) (σ : List Nat) : List SV → List SV
  | [] => []
  | s :: l => SV.hand res ls ρ σ s :: SV.handL res ls ρ σ l
end
def Res.hand (res : List (Nat × Res)) (ls : List Nat) (ρ : Nat → Value) (σ : List Nat) : Res → Res
  | .gone => .gone
  | .cells l => .cells (SV.handL res ls ρ σ l)
  | .lit sz n l => .lit sz n (SV.handL res ls ρ σ l)
  | .sl sz e xs => .sl sz e xs
  | .mp ks kv => .mp ks kv
  | .nest sz e xss hole => .nest sz e xss (hole.map fun p => (p.1, p.2.hand res ls ρ σ))
def Res.kill (t : Nat) : Res → Res
  | .gone => .gone
  | .cells l => .cells (SV.killL t l)
  | .lit sz n l => .lit sz n (SV.killL t l)
  | .sl sz e xs => .sl sz e xs
  | .mp ks kv => .mp ks kv
  | .nest sz e xss hole => .nest sz e xss (hole.map fun p => (p.1, p.2.kill t))
def St.kill (st : St) (t : Nat) : St := { st with
  env := st.env.map fun p => (p.1, p.2.kill t)
  res := st.res.map fun p => (p.1, p.2.kill t) }
/-- The state behind a call: the handed resources as the contract leaves them, the new ones behind. -/
def rsets (res : List (Nat × Res)) (f : Nat → Nat) : List Res → Nat → List (Nat × Res)
  | [], _ => res
  | r :: l, k => rset (rsets res f l (k + 1)) (f k) (r.ren f)
def St.kills (st : St) : List Nat → St
  | [] => st
  | t :: l => (st.kills l).kill t
mutual
def SV.rofree : SV → Bool
  | .any => true
  | .v _ => true
  | .h _ => true
  | .hp _ _ _ _ => true
  | .ptr _ _ => true
  | .agg l => SV.rofreeL l
  | .tup l => SV.rofreeL l
  | .fn _ a b => SV.rofreeL a && SV.rofreeL b
  | .ro _ _ _ _ => false
  | .rop _ => false
  | .rom _ _ => false
  | .hs _ _ _ _ => true
def SV.rofreeL : List SV → Bool
  | [] => true
  | s :: l => SV.rofree s && SV.rofreeL l
end
def Res.rofree : Res → Prop
  | .gone => True
  | .cells l => SV.rofreeL l = true
  | .lit _ _ l => SV.rofreeL l = true
  | .sl _ enc xs => ∀ x ∈ xs, SV.rofreeL (enc x) = true
  | .mp _ _ => True
  | .nest _ enc xss hole => (∀ xs ∈ xss, ∀ x ∈ xs, SV.rofreeL (enc x) = true) ∧ (∀ p, hole = some p → p.2.rofree = true)
def preOf (res : List (Nat × Res)) (ls : List Nat) (ρ : Nat → Value) (σ : List Nat) : List Nat → List Res
  | [] => []
  | t :: l => (match rlk res t with | some r => r.hand res ls ρ σ | none => .gone) :: preOf res ls ρ σ l
def movd (σ mv : List Nat) : List Nat := mv.filterMap fun k => σ[k]?
def mvc (l : List Nat) : Option Nat → List Nat
  | some t => t :: l
  | none => l
theorem movd_nil (σ : List Nat) : movd σ [] = [] := rfl
theorem movd_cons (σ : List Nat) (k : Nat) (l : List Nat) : movd σ (k :: l) = mvc (movd σ l) σ[k]? := by
  unfold movd
  rw [List.filterMap_cons]
  cases σ[k]? <;> rfl
def CallVC (P : Program) (np n : Nat) (f : FuncId) (args : List SV) (d : Option Nat) (K : St → Prop) (st : St) : Prop :=
  ∃ (σ ls mv : List Nat) (Q : SV → List Res → Prop), σ.Nodup ∧ (∀ t ∈ σ, (rlk st.res t).isSome = true) ∧ (∀ t ∈ ls, t ∉ σ) ∧
    (∀ ρ : Nat → Value, Tri P f (SV.handL st.res ls ρ σ args) (preOf st.res ls ρ σ σ) mv Q) ∧
    ∀ r post, Q r post → σ.length ≤ post.length → (ls = [] ∨ (r.rofree = true ∧ ∀ p ∈ post, p.rofree)) ∧
      vput n d (r.ren (tagOf σ st.nx)) K { st.kills (movd σ mv) with res := rsets (st.kills (movd σ mv)).res (tagOf σ st.nx) post 0, nx := st.nx + (post.length - σ.length), mv := (movd σ mv).filter (· < np) ++ st.mv }
/-! ### Maps -/
def valsOf : List SV → Option (List Value)
  | [] => some []
  | .v x :: l => match valsOf l with | some r => some (x :: r) | none => none
  | _ :: _ => none
/-- A value that is told outright. -/
def valOf : SV → Option Value
  | .v x => some x
  | .agg l => match valsOf l with | some r => some (.agg r.toArray) | none => none
  | _ => none
noncomputable def lookS (ok : Bool) (z : Value) (r : Option Value) : SV := match ok with
  | true => .tup [ofVal (r.getD z), .v (.bool r.isSome)]
  | false => ofVal (r.getD z)
def mapAt (P : Program) (st : St) (mt : Nat) : SV → Option ((Value → Prop) × List (Value × Value) × Nat × Nat × Nat)
  | .h t => match rlk st.res t, (tdOf P mt).kind with
    | some (.mp S kv), .map kt vt => some (S, kv, t, kt, vt)
    | _, _ => none
  | _ => none
/-- A map that is read. -/
def mapR (P : Program) (st : St) (mt : Nat) : SV → Option ((Value → Prop) × List (Value × Value) × Nat × Nat)
  | .h t => match rlk st.res t, (tdOf P mt).kind with
    | some (.mp S kv), .map kt vt => some (S, kv, kt, vt)
    | _, _ => none
  | .rom S kv => match (tdOf P mt).kind with
    | .map kt vt => some (S, kv, kt, vt)
    | _ => none
  | _ => none
noncomputable def lookG (P : Program) (ok : Bool) (m : Option ((Value → Prop) × List (Value × Value) × Nat × Nat)) (k : Option Value) : Option (Prop × SV) := match m, k with
  | some (S, kv, kt, vt), some k => match (tdOf P vt).inf with
    | some (_, _, some z) => some (S k ∧ KeyGood P kt S, lookS ok z (mget kv k))
    | _ => none
  | _, _ => none
def upG (C : Cx) (d : Option Nat) (K : St → Prop) (st : St) (m : Option ((Value → Prop) × List (Value × Value) × Nat × Nat × Nat)) (k x : Option Value) : Prop := match m, k, x with
  | some (S, kv, t, kt, _), some k, some x => (S k ∧ KeyGood C.P kt S) ∧ vput C.n d .any K { st with res := rset st.res t (.mp S (mset kv k x)) }
  | _, _, _ => False
def delG (C : Cx) (d : Option Nat) (K : St → Prop) (st : St) (m : Option ((Value → Prop) × List (Value × Value) × Nat × Nat × Nat)) (k : Option Value) : Prop := match m, k with
  | some (S, kv, t, kt, _), some k => (S k ∧ KeyGood C.P kt S) ∧ vput C.n d .any K { st with res := rset st.res t (.mp S (mdel kv k)) }
  | _, _ => False
/-! ### Slices that grow -/
def rowsAre {α : Type} (sz : Nat) (enc : α → List SV) : List α → List SV → Prop
  | [], l => l = []
  | z :: zs, l => ∃ r, l = enc z ++ r ∧ (enc z).length = sz ∧ rowsAre sz enc zs r
def srcR {α : Type} (sz : Nat) (enc : α → List SV) (zs : List α) : Option Res → Prop
  | some (.lit sz' m l) => sz' = sz ∧ zs.length = m ∧ l.all rd = true ∧ rowsAre sz enc zs l
  | _ => False
/-- What is appended, in the rows of what it is appended to. -/
def appSrc (st : St) {α : Type} (sz : Nat) (enc : α → List SV) (zs : List α) : SV → Prop
  | .h u => srcR sz enc zs (rlk st.res u)
  | .ro sz' enc' ys _ => sz' = sz ∧ zs.map enc = ys.map enc'
  | .v (.slice none 0 0) => zs = []
  | _ => False
def appFit {α : Type} (enc : α → List SV) (zs : List α) (a bytes : Nat) : Prop := (∀ z ∈ zs, (enc z).all one = true) ∧ a + zs.length ≤ 140737488355328 ∧ (a + zs.length) * bytes ≤ 140737488355328
def appR (C : Cx) (d : Option Nat) (K : St → Prop) (st : St) (sz bytes t : Nat) (y : SV) : Option Res → Prop
  | some (.sl sz' enc xs) => sz' = sz ∧ ∃ zs, appSrc st sz enc zs y ∧ appFit enc zs xs.length bytes ∧
      vput C.n d (.h t) K { st.kill t with res := rset (st.kill t).res t (.sl sz enc (xs ++ zs)), mv := t :: st.mv }
  | _ => False
def appX (C : Cx) (d : Option Nat) (K : St → Prop) (st : St) (sz bytes : Nat) (x y : SV) : Prop := match x with
  | .h t => appR C d K st sz bytes t y (rlk st.res t)
  | .v (.slice none 0 0) => ∃ (α : Type) (enc : α → List SV) (zs : List α), appSrc st sz enc zs y ∧ appFit enc zs 0 bytes ∧ vnew C.n d (.h st.nx) (.sl sz enc zs) K st
  | _ => False
def appI (C : Cx) (d : Option Nat) (K : St → Prop) (st : St) (x y : SV) : Option (Nat × Nat × Option Value) → Prop
  | some (sz, bytes, some z) => (0 < sz ∧ z.cells.size = sz) ∧ appX C d K st sz bytes x y
  | _ => False
def appK (C : Cx) (d : Option Nat) (K : St → Prop) (st : St) (x y : SV) : TK → Prop
  | .slice e => appI C d K st x y (tdOf C.P e).inf
  | _ => False
def zfill (l : List SV) : Nat → List SV
  | 0 => []
  | n + 1 => l ++ zfill l n
def bsF (C : Cx) (d : Option Nat) (K : St → Prop) (st : St) (sz n : Nat) : Option (List SV) → Prop
  | some l => (0 < n ∧ n * sz ≤ 16777216 ∧ l.length = n * sz) ∧ vnew C.n d (.h st.nx) (.lit sz n l) K st
  | none => False
def bsN (C : Cx) (d : Option Nat) (K : St → Prop) (st : St) (sz : Nat) (z : Value) (parts : List (Nat × SV)) : Nat → Prop
  | 0 => parts = [] ∧ ∃ (α : Type) (enc : α → List SV), vnew C.n d (.h st.nx) (.sl sz enc ([] : List α)) K st
  | n + 1 => z.cells.size = sz ∧ bsF C d K st sz (n + 1) (vfill (fun i => some (i * sz, sz)) (zfill (zcells z) (n + 1)) parts)
def bsI (C : Cx) (d : Option Nat) (K : St → Prop) (st : St) (n : Nat) (parts : List (Nat × SV)) : Option (Nat × Nat × Option Value) → Prop
  | some (sz, _, some z) => bsN C d K st sz z parts n
  | _ => False
def bsK (C : Cx) (d : Option Nat) (K : St → Prop) (st : St) (n : Nat) (parts : List (Nat × SV)) : TK → Prop
  | .slice e => bsI C d K st n parts (tdOf C.P e).inf
  | _ => False
def msX (C : Cx) (d : Option Nat) (K : St → Prop) (st : St) (sz bytes : Nat) (z : Value) (x y : SV) : Prop := match x, y with
  | .v (.int _ a), .v (.int _ b) => (a = b ∧ 0 ≤ a ∧ a ≤ 140737488355328 ∧ a * bytes ≤ 140737488355328 ∧ z.cells.size = sz) ∧
      ((∃ (α : Type) (enc : α → List SV) (z0 : α), enc z0 = zcells z ∧ vnew C.n d (.h st.nx) (.sl sz enc (List.replicate a.toNat z0)) K st) ∨
       (∃ (α : Type) (sz' : Nat) (enc : α → List SV), (z = .slice none 0 0 ∧ sz = 1) ∧ vnew C.n d (.h st.nx) (.nest sz' enc (List.replicate a.toNat ([] : List α)) none) K st))
  | _, _ => False
def msI (C : Cx) (d : Option Nat) (K : St → Prop) (st : St) (x y : SV) : Option (Nat × Nat × Option Value) → Prop
  | some (sz, bytes, some z) => msX C d K st sz bytes z x y
  | _ => False
def msK (C : Cx) (d : Option Nat) (K : St → Prop) (st : St) (x y : SV) : TK → Prop
  | .slice e => msI C d K st x y (tdOf C.P e).inf
  | _ => False
def clR (C : Cx) (d : Option Nat) (K : St → Prop) (st : St) (n : Nat) (z : Value) (u sz i m : Nat) : Option Res → Prop
  | some (.sl sz' enc xs) => (sz' = sz ∧ n = sz ∧ z.cells.size = sz ∧ (zcells z).all one = true ∧ i + m ≤ xs.length) ∧ ∃ z0, enc z0 = zcells z ∧
      vput C.n d .any K { st with res := rset st.res u (.sl sz' enc (xs.take i ++ (List.replicate m z0 ++ xs.drop (i + m)))) }
  | _ => False
def clX (C : Cx) (d : Option Nat) (K : St → Prop) (st : St) (n : Nat) (z : Value) : SV → Prop
  | .hs u sz i m => clR C d K st n z u sz i m (rlk st.res u)
  | _ => False
def clI (C : Cx) (d : Option Nat) (K : St → Prop) (st : St) (x : SV) : Option (Nat × Nat × Option Value) → Prop
  | some (n, _, some z) => clX C d K st n z x
  | _ => False
def clK (C : Cx) (d : Option Nat) (K : St → Prop) (st : St) (x : SV) : TK → Prop
  | .slice e => clI C d K st x (tdOf C.P e).inf
  | _ => False

def mkMapK (C : Cx) (d : Option Nat) (K : St → Prop) (st : St) : Prop := ∃ S : Value → Prop, vnew C.n d (.h st.nx) (.mp S []) K st
def vcall (C : Cx) (d : Option Nat) (c : Call) (K : St → Prop) (st : St) : Prop := match c.callee with
  | .value f => match ev st f with
    | .fn g first cap => CallVC C.P C.np C.n g (first ++ (c.args.toList.map (ev st) ++ cap)) d K st
    | _ => False
  | .builtin .len => pc C.n d (vpure C.P (.call c) st) K st
  | .builtin .min => pc C.n d (vpure C.P (.call c) st) K st
  | .builtin .max => pc C.n d (vpure C.P (.call c) st) K st
  | .builtin .delete => match c.args.toList, c.argTypes[0]? with
    | [m, k], some mt => delG C d K st (mapAt C.P st mt (ev st m)) (valOf (ev st k))
    | _, _ => False
  | .builtin .append => match c.args.toList, c.argTypes.toList with
    | [x, y], [t, t'] => t' = t ∧ appK C d K st (ev st x) (ev st y) (tdOf C.P t).kind
    | _, _ => False
  | .builtin .clear => match c.args.toList, c.argTypes.toList with
    | [x], [t] => clK C d K st (ev st x) (tdOf C.P t).kind
    | _, _ => False
  | _ => False
def fzd (fz : List Nat) : Option Nat → Bool
  | some d => fz.contains d
  | none => false
def boxF (C : Cx) (d : Option Nat) (K : St → Prop) (st : St) (l : List SV) : Bool → Prop
  | true => l.all rd = true ∧ vput C.n d (.rop l) K st
  | false => vnew C.n d (.ptr st.nx 0) (.cells l) K st
def boxK (C : Cx) (d : Option Nat) (K : St → Prop) (st : St) : Option (List SV) → Prop
  | some l => boxF C d K st l (fzd C.fz d)
  | none => False
def vop (C : Cx) (d : Option Nat) (o : Op) (K : St → Prop) (st : St) : Prop := match o with
  | .move x => vput C.n d (ev st x) K st
  | .assign x => vput C.n d (ev st x) K st
  | .pick a b c => pc C.n d (vpure C.P (.pick a b c) st) K st
  | .nilCheck x => pc C.n d (vpure C.P (.nilCheck x) st) K st
  | .binOp a b c x y => pc C.n d (vpure C.P (.binOp a b c x y) st) K st
  | .unOp a b c => pc C.n d (vpure C.P (.unOp a b c) st) K st
  | .convert a b c => pc C.n d (vpure C.P (.convert a b c) st) K st
  | .fieldAddr a b c => pc C.n d (vpure C.P (.fieldAddr a b c) st) K st
  | .field a b c => pc C.n d (vpure C.P (.field a b c) st) K st
  | .indexAddr a b c => pc C.n d (vpure C.P (.indexAddr a b c) st) K st
  | .index a b c => pc C.n d (vpure C.P (.index a b c) st) K st
  | .extract a b => pc C.n d (vpure C.P (.extract a b) st) K st
  | .build a b => pc C.n d (vpure C.P (.build a b) st) K st
  | .makeFunc a b c => pc C.n d (vpure C.P (.makeFunc a b c) st) K st
  | .slice a b x y z => pc C.n d (vpure C.P (.slice a b x y z) st) K st
  | .load t x => pc C.n d (vload C.P st t (ev st x)) K st
  | .alloc e => match (tdOf C.P e).inf with
    | some (_, _, some z) => vnew C.n d (.ptr st.nx 0) (.cells (zcells z)) K st
    | _ => False
  | .box _ x => boxK C d K st (cellsOf (ev st x))
  | .store t x y => vstore C.P C.n d t (ev st x) (ev st y) K st
  | .makeMap _ none => mkMapK C d K st
  | .lookup mt m k ok => pc C.n d (lookG C.P ok (mapR C.P st mt (ev st m)) (valOf (ev st k))) K st
  | .buildSlice t n parts => bsK C d K st n (parts.toList.map fun p => (p.1, ev st p.2)) (tdOf C.P t).kind
  | .makeSlice t x y => msK C d K st (ev st x) (ev st y) (tdOf C.P t).kind
  | .mapUpdate mt m k x => upG C d K st (mapAt C.P st mt (ev st m)) (valOf (ev st k)) (valOf (ev st x))
  | .call c => vcall C d c K st
  | _ => False
def vops (C : Cx) (all : Array Oper) : List Oper → (St → Prop) → St → Prop
  | [], K, st => K st
  | o :: r, K, st => match o.guard with
    | none => vop C o.dst o.op (vops C all r K) st
    | some (j, want) => match (all[j]?).bind (·.dst) with
      | some e => match lk st.env e with
        | .v (.bool b) => e < C.n ∧ (b = want → vop C o.dst o.op (vops C all r K) (st.put e (.v (.bool want)))) ∧ (b = (!want) → vput C.n o.dst (.v undef) (vops C all r K) (st.put e (.v (.bool (!want)))))
        | .v (.tuple _) => e < C.n ∧ vput C.n o.dst (.v undef) (vops C all r K) st
        | _ => False
      | none => False

def isRop : SV → Bool
  | .rop _ => true
  | _ => false
def isRom : SV → Bool
  | .rom _ _ => true
  | _ => false
def opIsRo (st : St) : Op → Bool
  | .load _ x => isRop (ev st x)
  | .lookup _ m _ _ => isRom (ev st m)
  | _ => false
def vopr (C : Cx) (ro : Bool) (d : Option Nat) (o : Op) (K : St → Prop) (st : St) : Prop := match ro with
  | true => opIsRo st o = true ∧ vop C d o K st
  | false => vop C d o K st
def vordg (C : Cx) (ro : Bool) (all : Array Oper) (o : Oper) (K : St → Prop) (st : St) : Prop := match o.guard with
  | none => vopr C ro o.dst o.op K st
  | some (j, want) => match (all[j]?).bind (·.dst) with
    | some e => match lk st.env e with
      | .v (.bool b) => e < C.n ∧ (b = want → vopr C ro o.dst o.op K (st.put e (.v (.bool want)))) ∧ (b = (!want) → vput C.n o.dst (.v undef) K (st.put e (.v (.bool (!want)))))
      | .v (.tuple _) => e < C.n ∧ vput C.n o.dst (.v undef) K st
      | _ => False
    | none => False
def vord (C : Cx) (all : Array Oper) (K : St → Prop) : Ord → St → Prop
  | .nil, st => K st
  | .op i r, st => match all[i]? with
    | some o => vordg C false all o (vord C all K r) st
    | none => False
  | .ro i r, st => match all[i]? with
    | some o => vordg C true all o (vord C all K r) st
    | none => False
  | .alt a b, st => vord C all K a st ∧ vord C all K b st

/-! ### Loops -/
mutual
def SV.lt (n : Nat) : SV → Bool
  | .any => true
  | .v _ => true
  | .h u => decide (u < n)
  | .hp u _ _ _ => decide (u < n)
  | .ptr u _ => decide (u < n)
  | .agg l => SV.ltL n l
  | .tup l => SV.ltL n l
  | .fn _ a b => SV.ltL n a && SV.ltL n b
  | .ro _ _ _ _ => true
  | .rop _ => true
  | .rom _ _ => true
  | .hs u _ _ _ => decide (u < n)
def SV.ltL (n : Nat) : List SV → Bool
  | [] => true
  | s :: l => SV.lt n s && SV.ltL n l
end
def Res.lt (n : Nat) : Res → Bool
  | .gone => true
  | .cells l => SV.ltL n l
  | .lit _ _ l => SV.ltL n l
  | .sl _ _ _ => true
  | .mp _ _ => true
  | .nest _ _ _ hole => match hole with | some p => p.2.lt n | none => true
def envLt (n : Nat) : List (Nat × SV) → Bool
  | [] => true
  | (_, s) :: l => s.lt n && envLt n l
def resLt (n : Nat) : List (Nat × Res) → Bool
  | [] => true
  | (t, s) :: l => decide (t < n) && s.lt n && resLt n l
/-- The registers that a loop leaves alone. -/
def kept (env : List (Nat × SV)) : List Nat → List (Nat × SV)
  | [] => []
  | k :: l => (k, lk env k) :: kept env l
def matE (env : List (Nat × SV)) : List (Nat × SV) → Prop
  | [] => True
  | (k, s) :: l => lk env k = s ∧ matE env l
def matR (res : List (Nat × Res)) : List (Nat × Res) → Prop
  | [] => True
  | (t, r) :: l => rlk res t = some r ∧ matR res l
def rover : List (Nat × Res) → List (Nat × Res) → List (Nat × Res)
  | res, [] => res
  | res, (t, r) :: l => rset (rover res l) t r
def lst (st : St) (env : List (Nat × SV)) (res : List (Nat × Res)) (mvs : List Nat) : St := ⟨env, rover st.res res, st.nx, mvs⟩
def LoopVC (C : Cx) (run : List VI → St → Prop) (body : Code) (k : List VI) (st : St) : Prop :=
  ∃ (ι : Type) (I : ι → Prop) (ks : List Nat) (env : ι → List (Nat × SV)) (res : ι → List (Nat × Res)) (mvs : List Nat) (μ : ι → Nat) (i₀ : ι), I i₀ ∧ matE st.env (env i₀) ∧ matR st.res (res i₀) ∧ (∀ t ∈ st.mv, t ∈ mvs) ∧
    (∀ i, envLt st.nx (env i ++ kept st.env ks) = true ∧ resLt st.nx (rover st.res (res i)) = true) ∧
    ∀ i, I i → ∀ E : St → Prop, (∀ st', (∃ i', I i' ∧ μ i' < μ i ∧ matE st'.env (env i' ++ kept st.env ks) ∧ matR st'.res (rover st.res (res i')) ∧ (∀ t ∈ st'.mv, t ∈ mvs)) → E st') →
      run (.code body :: .loop E :: k) (lst st (env i ++ kept st.env ks) (res i) mvs)
/-! ### The same state, told otherwise -/
mutual
def SV.frz (t : Nat) (fh : SV) (fp : Nat → SV) : SV → SV
  | .any => .any
  | .v x => .v x
  | .h u => if u = t then fh else .h u
  | .hp u a b c => if u = t then .any else .hp u a b c
  | .ptr u o => if u = t then fp o else .ptr u o
  | .agg l => .agg (SV.frzL t fh fp l)
  | .tup l => .tup (SV.frzL t fh fp l)
  | .fn f a b => .fn f (SV.frzL t fh fp a) (SV.frzL t fh fp b)
  | .ro sz e xs x => .ro sz e xs x
  | .rop l => .rop l
  | .rom S kv => .rom S kv
  | .hs u a b c => if u = t then .any else .hs u a b c
def SV.frzL (t : Nat) (fh : SV) (fp : Nat → SV) : List SV → List SV
  | [] => []
  | s :: l => SV.frz t fh fp s :: SV.frzL t fh fp l
end
def Res.frz (t : Nat) (fh : SV) (fp : Nat → SV) : Res → Res
  | .gone => .gone
  | .cells l => .cells (SV.frzL t fh fp l)
  | .lit sz n l => .lit sz n (SV.frzL t fh fp l)
  | .sl sz e xs => .sl sz e xs
  | .mp ks kv => .mp ks kv
  | .nest sz e xss hole => .nest sz e xss (hole.map fun p => (p.1, SV.frz t fh fp p.2))
def St.frz (st : St) (t : Nat) (fh : SV) (fp : Nat → SV) : St := { st with
  env := st.env.map fun p => (p.1, SV.frz t fh fp p.2)
  res := rset (st.res.map fun p => (p.1, Res.frz t fh fp p.2)) t .gone }
inductive Gh
  | frz (t : Nat)        -- what a handle owns is written no more
  | trim (d : Nat)       -- the slice in slot d, a first part of its handle's, is the handle's now
  | nil (d : Nat)        -- the nil slice in slot d gets a handle
  | det (t i : Nat)      -- row i of a slice of slices gets a handle of its own
  | att (t : Nat)        -- and is put back
  | nilc (t i : Nat)     -- the nil slice in cell i of a handle's cells gets a handle
def ghFrz (K : St → Prop) (st : St) (t : Nat) : Option Res → Prop
  | some (.cells l) => l.all rd = true ∧ K (st.frz t .any (fun o => .rop (l.drop o)))
  | some (.mp S kv) => K (st.frz t (.rom S kv) (fun _ => .any))
  | some (.sl sz enc xs) => ∀ v, K (st.frz t (.ro sz enc xs v) (fun _ => .any))
  | some (.lit sz n l) => (l.all rd = true) ∧ ∃ (α : Type) (enc : α → List SV) (xs : List α), (xs.length = n ∧ rowsAre sz enc xs l) ∧ ∀ v, K (st.frz t (.ro sz enc xs v) (fun _ => .any))
  | some (@Res.nest α sz enc xss none) => ∀ vs v, vs.length = xss.length → K (st.frz t (.ro 1 (fun p : List α × Value => [.ro sz enc p.1 p.2]) (xss.zip vs) v) (fun _ => .any))
  | _ => False
def ghTrimR (K : St → Prop) (st : St) (d t n : Nat) : Option Res → Prop
  | some (.sl sz enc xs) => n ≤ xs.length ∧ K ⟨(d, .h t) :: (st.kill t).env, rset (st.kill t).res t (.sl sz enc (xs.take n)), st.nx, t :: st.mv⟩
  | _ => False
def ghTrim (K : St → Prop) (st : St) (d : Nat) : SV → Prop
  | .hs t _ i n => i = 0 ∧ ghTrimR K st d t n (rlk st.res t)
  | _ => False
def ghNil (K : St → Prop) (st : St) (d : Nat) : SV → Prop
  | .v (.slice none 0 0) => ∃ (α : Type) (sz : Nat) (enc : α → List SV), K ⟨(d, .h st.nx) :: st.env, (st.nx, .sl sz enc ([] : List α)) :: st.res, st.nx + 1, st.mv⟩
  | _ => False
def ghDet (K : St → Prop) (st : St) (t i : Nat) : Option Res → Prop
  | some (.nest sz enc xss none) => ∃ xs, xss[i]? = some xs ∧ K ⟨st.env, (st.nx, .sl sz enc xs) :: rset st.res t (.nest sz enc xss (some (i, .h st.nx))), st.nx + 1, st.mv⟩
  | _ => False
def ghAtt (K : St → Prop) (st : St) (t : Nat) : Option Res → Prop
  | some (.nest sz enc xss (some (i, .h u))) => u ≠ t ∧ ∃ ys, rlk st.res u = some (.sl sz enc ys) ∧ K ⟨st.env, rset (rset st.res u .gone) t (.nest sz enc (xss.set i ys) none), st.nx, st.mv⟩
  | _ => False
def ghNilcS (K : St → Prop) (st : St) (t i : Nat) (l : List SV) : Option SV → Prop
  | some (.v (.slice none 0 0)) => ∃ (α : Type) (sz : Nat) (enc : α → List SV), K ⟨st.env, rset ((st.nx, .sl sz enc ([] : List α)) :: st.res) t (.cells (l.set i (.h st.nx))), st.nx + 1, st.mv⟩
  | _ => False
def ghNilc (K : St → Prop) (st : St) (t i : Nat) : Option Res → Prop
  | some (.cells l) => ghNilcS K st t i l l[i]?
  | _ => False
def gh1 (K : St → Prop) (st : St) : Gh → Prop
  | .frz t => ghFrz K st t (rlk st.res t)
  | .trim d => ghTrim K st d (lk st.env d)
  | .nil d => ghNil K st d (lk st.env d)
  | .det t i => ghDet K st t i (rlk st.res t)
  | .att t => ghAtt K st t (rlk st.res t)
  | .nilc t i => ghNilc K st t i (rlk st.res t)
def ghV (K : St → Prop) : List Gh → St → Prop
  | [], st => K st
  | g :: l, st => gh1 (ghV K l) st g
def GhostVC (K : St → Prop) (st : St) : Prop := ∃ l, ghV K l st
def ghC (K : St → Prop) : Bool → St → Prop
  | true => GhostVC K
  | false => K
def regM (C : Cx) (ops : Array Oper) (draw : Bool) (K : St → Prop) (st : St) : Option Ord → Prop
  | some o => draw = true ∧ vord C ops K o st
  | none => vops C ops ops.toList K st
def leSt (a b : St) : Prop := matE a.env b.env ∧ matR a.res b.res ∧ a.nx = b.nx ∧ ∀ t ∈ a.mv, t ∈ b.mv
def MergeVC (C : Cx) (ops : Array Oper) (draw : Bool) (K : St → Prop) (st : St) (o : Option Ord) : Prop :=
  ∃ (ι : Type) (I : ι → Prop) (S : ι → St), regM C ops draw (fun st' => ∃ i, I i ∧ leSt st' (S i)) st o ∧ ∀ i, I i → K (S i)
def regC (C : Cx) (ops : Array Oper) (draw : Bool) (K : St → Prop) (st : St) (o : Option Ord) : Bool → Prop
  | true => MergeVC C ops draw K st o
  | false => regM C ops draw K st o
/-- Ahead of a piece of code the state is told anew. -/
def CutVC (run : List VI → St → Prop) (a b : Code) (k : List VI) (st : St) : Prop :=
  ∃ (ι : Type) (I : ι → Prop) (S : ι → St), (∀ E : St → Prop, (∀ st', (∃ i, I i ∧ leSt st' (S i)) → E st') → run (.code a :: .loop E :: .code b :: k) st) ∧ ∀ i, I i → run (.code b :: k) (S i)
def seqC (run : List VI → St → Prop) (a b : Code) (k : List VI) (st : St) : Bool → Prop
  | true => CutVC run a b k st
  | false => run (.code a :: .code b :: k) st
/-! ### A range over a function -/
/-- What an iterator may do between two rounds: lay blocks (T: those that are its own), turn one of its own. -/
structure Steps' (T T' : List Nat) (W W' : World) : Prop where
  os : W'.os = W.os
  tape : W'.tape = W.tape
  output : W'.output = W.output
  size : W.heap.size ≤ W'.heap.size
  drawn : W.drawn ≤ W'.drawn
  block : ∀ b o, b ∉ T → hp W b = some o → hp W' b = some o
  own : ∀ b, b ∈ T → b ∈ T'
  new : ∀ b, b ∈ T' → b ∈ T ∨ (W.heap.size ≤ b ∧ b < W'.heap.size)
def AbidesT {α : Type} (J : List α → List Nat → World → Prop) : Prop := ∀ pre T T' W W', J pre T W → Steps' T T' W W' → J pre T' W'
/-- An iterator's word: called with the yield of a loop, in whatever world that keeps H: the values that it gives (told by enc) are such that come next (Nx). -/
def SeqP (P : Program) (g : FuncId) (lb : Array Value) {α : Type} (encs : α → Array Value) (H : Hp) (Nx : List α → α → Prop) (S Sp : List α → Prop) : Prop :=
  ∀ (l : Nat) (J Jx : List α → List Nat → World → Prop) (W : World), H.le (hp W) → AbidesT J → AbidesT Jx →
    (∀ pre T x W1, J pre T W1 → H.le (hp W1) → Nx pre x → YieldAt Fence.wide 0 P l (encs x) W1 fun e W' => (e = .returned (.bool true) ∧ J (pre ++ [x]) T W' ∧ H.le (hp W') ∧ ∀ b ∈ T, hp W' b = hp W1 b) ∨ (e = .returned (.bool false) ∧ Jx (pre ++ [x]) T W')) →
    J [] [] W → Calls P g (#[.func (.yield l) #[] #[]] ++ lb) W fun e W' => (∃ v, e = .returned v) ∧ ((∃ xs T, S xs ∧ J xs T W') ∨ (∃ pre T, Sp pre ∧ Jx pre T W'))
def IterOk (P : Program) (g : FuncId) (cap : List SV) {α : Type} (enc : α → List SV) (Nx : List α → α → Prop) (S Sp : List α → Prop) : Prop :=
  callable P g ∧ ∀ (w : World) (H : Hp) (vs : List Value), H.le (hp w) → RDenL H cap vs → ∃ (β : Type) (f : β → α) (encs : β → List Value) (Nx' : List β → β → Prop) (S' Sp' : List β → Prop),
    (∀ x, RDenL H (enc (f x)) (encs x)) ∧ (∀ pre x, Nx' pre x → Nx (pre.map f) (f x)) ∧ (∀ xs, S' xs → S (xs.map f)) ∧ (∀ xs, Sp' xs → Sp (xs.map f)) ∧ SeqP P g vs.toArray (fun x => (encs x).toArray) H Nx' S' Sp'
def roundEnv : List Nat → List SV → List (Nat × SV) → List (Nat × SV)
  | t :: ts, s :: ss, env => roundEnv ts ss ((t, s) :: env)
  | _, _, env => env
def outerEnv (st : St) (mv : List Nat) : List (Nat × SV) := (St.kills ⟨st.env, [], 0, []⟩ mv).env
def RangeVC (C : Cx) (run : Cx → List VI → St → Prop) (k : List VI) (ps : List Nat) (assign body : Code) (st : St) : SV → Prop
  | .fn g [] cap => (C.rd = false ∧ cap.all rd = true) ∧ ∃ (α : Type) (enc : α → List SV) (Nx : List α → α → Prop) (S Sp : List α → Prop), IterOk C.P g cap enc Nx S Sp ∧ (∀ x, (enc x).length = ps.length) ∧ (∀ p ∈ ps, p < C.n) ∧
      ∃ (ι : Type) (I : List α → ι → Prop) (res : ι → List (Nat × Res)) (mvs : List Nat) (i₀ : ι), I [] i₀ ∧ matR st.res (res i₀) ∧ (∀ i, resLt st.nx (rover st.res (res i)) = true) ∧
      (∀ pre x i, I pre i → Nx pre x → ∀ E : Exit → St → Prop, (∀ st', (∃ i', I (pre ++ [x]) i' ∧ matR st'.res (rover st.res (res i')) ∧ (∀ t ∈ st'.mv, t ∈ mvs)) → E .normal st') →
        (∀ st', RetVC C ⟨outerEnv st (mvs ++ st'.mv), st'.res, st'.nx, st'.mv ++ (mvs ++ st.mv)⟩ → E .ret st') →
        (∀ id k' st', popTo id k = some k' → run C k' ⟨outerEnv st (mvs ++ st'.mv), st'.res, st'.nx, st'.mv ++ (mvs ++ st.mv)⟩ → E (.exit id) st') →
        run { C with np := st.nx, rd := true } [.code assign, .stop fun e st1 => e = .normal ∧ run { C with np := st.nx, rd := true } [.code body, .stop E] st1] ⟨roundEnv ps (enc x) (outerEnv st mvs), rover st.res (res i), st.nx, []⟩) ∧
      ∀ xs i, S xs → I xs i → run C k ⟨outerEnv st mvs, rover st.res (res i), st.nx, mvs ++ st.mv⟩
  | _ => False
def vrun : Cx → Nat → List VI → St → Prop
  | _, 0, _, _ => False
  | C, f + 1, k, st => match k with
    | [] => RetVC C st
    | .blk _ :: k => vrun C f k st
    | .loop E :: _ => E st
    | .stop E :: _ => E .normal st
    | .code c :: k => match c with
      | .skip => vrun C f k st
      | .label _ => vrun C f k st
      | .seq a b => seqC (vrun C f) a b k st (C.cut.contains (hd b + 1000))
      | .region id ops draw => regC C ops draw (ghC (vrun C f k) (C.gh.contains id)) st (olk C.ord id) (C.cut.contains id)
      | .cond c x y => match ev st c with
        | .v (.bool b) => (b = true → vrun C f (.code x :: k) st) ∧ (b = false → vrun C f (.code y :: k) st)
        | _ => False
      | .block id b => vrun C f (.code b :: .blk id :: k) st
      | .scope b => C.rd = false ∧ vrun C f (.code b :: k) st
      | .exit id => match popTo id k with
        | some k => vrun C f k st
        | none => match bot k with
          | some E => E (.exit id) st
          | none => False
      | .loop b => LoopVC C (vrun C f) b k st
      | .ret => match bot k with
        | some E => E .ret st
        | none => RetVC C st
      | .rangeFunc g ps a b => RangeVC C (fun C => vrun C f) k ps.toList a b st (ev st g)
      | _ => False
section
variable {C : Cx} {all : Array Oper} {r : List Oper} {K : St → Prop} {st : St} {d : Option Nat} {n f : Nat} {k : List VI} {s : SV} {c : Prop}
@[go_sem] theorem vput_some {d : Nat} : vput n (some d) s K st = (d < n ∧ K (st.put d s)) := rfl
@[go_sem] theorem vput_none : vput n none s K st = K st := rfl
@[go_sem] theorem pc_some : pc n d (some (c, s)) K st = (c ∧ vput n d s K st) := rfl
@[go_sem] theorem pc_none : pc n d none K st = False := rfl
@[go_sem] theorem vnew_eq {q : Res} : vnew n d s q K st = vput n d s K { st with res := (st.nx, q) :: st.res, nx := st.nx + 1 } := rfl
@[go_sem] theorem vop_move {x} : vop C d (.move x) K st = vput C.n d (ev st x) K st := rfl
@[go_sem] theorem vop_assign {x} : vop C d (.assign x) K st = vput C.n d (ev st x) K st := rfl
@[go_sem] theorem vop_pick {a b c} : vop C d (.pick a b c) K st = pc C.n d (vpure C.P (.pick a b c) st) K st := rfl
@[go_sem] theorem vop_nilCheck {x} : vop C d (.nilCheck x) K st = pc C.n d (vpure C.P (.nilCheck x) st) K st := rfl
@[go_sem] theorem vop_binOp {a b c x y} : vop C d (.binOp a b c x y) K st = pc C.n d (vpure C.P (.binOp a b c x y) st) K st := rfl
@[go_sem] theorem vop_unOp {a b c} : vop C d (.unOp a b c) K st = pc C.n d (vpure C.P (.unOp a b c) st) K st := rfl
@[go_sem] theorem vop_convert {a b c} : vop C d (.convert a b c) K st = pc C.n d (vpure C.P (.convert a b c) st) K st := rfl
@[go_sem] theorem vop_fieldAddr {a b c} : vop C d (.fieldAddr a b c) K st = pc C.n d (vpure C.P (.fieldAddr a b c) st) K st := rfl
@[go_sem] theorem vop_field {a b c} : vop C d (.field a b c) K st = pc C.n d (vpure C.P (.field a b c) st) K st := rfl
@[go_sem] theorem vop_indexAddr {a b c} : vop C d (.indexAddr a b c) K st = pc C.n d (vpure C.P (.indexAddr a b c) st) K st := rfl
@[go_sem] theorem vop_index {a b c} : vop C d (.index a b c) K st = pc C.n d (vpure C.P (.index a b c) st) K st := rfl
@[go_sem] theorem vop_extract {a b} : vop C d (.extract a b) K st = pc C.n d (vpure C.P (.extract a b) st) K st := rfl
@[go_sem] theorem vop_build {a b} : vop C d (.build a b) K st = pc C.n d (vpure C.P (.build a b) st) K st := rfl
@[go_sem] theorem vop_makeFunc {a b c} : vop C d (.makeFunc a b c) K st = pc C.n d (vpure C.P (.makeFunc a b c) st) K st := rfl
@[go_sem] theorem vop_slice {a b x y z} : vop C d (.slice a b x y z) K st = pc C.n d (vpure C.P (.slice a b x y z) st) K st := rfl
@[go_sem] theorem vop_load {t x} : vop C d (.load t x) K st = pc C.n d (vload C.P st t (ev st x)) K st := rfl
@[go_sem] theorem vop_store {t x y} : vop C d (.store t x y) K st = vstore C.P C.n d t (ev st x) (ev st y) K st := rfl
@[go_sem] theorem vop_call {x} : vop C d (.call x) K st = vcall C d x K st := rfl
def allocK (n : Nat) (d : Option Nat) (K : St → Prop) (st : St) : Option (Nat × Nat × Option Value) → Prop
  | some (_, _, some z) => vnew n d (.ptr st.nx 0) (.cells (zcells z)) K st
  | _ => False
@[go_sem] theorem vop_alloc {e} : vop C d (.alloc e) K st = allocK C.n d K st (tdOf C.P e).inf := rfl
@[go_sem] theorem allocK_eq {a b z} : allocK n d K st (some (a, b, some z)) = vnew n d (.ptr st.nx 0) (.cells (zcells z)) K st := rfl
@[go_sem] theorem vop_box {e x} : vop C d (.box e x) K st = boxK C d K st (cellsOf (ev st x)) := rfl
@[go_sem] theorem boxK_eq {l} : boxK C d K st (some l) = boxF C d K st l (fzd C.fz d) := rfl
@[go_sem] theorem boxF_t {l} : boxF C d K st l true = (l.all rd = true ∧ vput C.n d (.rop l) K st) := rfl
@[go_sem] theorem boxF_f {l} : boxF C d K st l false = vnew C.n d (.ptr st.nx 0) (.cells l) K st := rfl
@[go_sem] theorem fzd_none {fz} : fzd fz none = false := rfl
@[go_sem] theorem fzd_nil : fzd [] d = false := by cases d <;> rfl
@[go_sem] theorem fzd_cons {a d : Nat} {fz} : fzd (a :: fz) (some d) = if d = a then true else fzd fz (some d) := by
  simp only [fzd, List.contains_cons]
  by_cases h : d = a <;> simp [h]
def callK (C : Cx) (d : Option Nat) (K : St → Prop) (st : St) (args : List SV) : SV → Prop
  | .fn g first cap => CallVC C.P C.np C.n g (first ++ (args ++ cap)) d K st
  | _ => False
@[go_sem] theorem vcall_fn {f xs ts} : vcall C d ⟨.value f, xs, ts⟩ K st = callK C d K st (xs.toList.map (ev st)) (ev st f) := rfl
@[go_sem] theorem callK_eq {g first cap args} : callK C d K st args (.fn g first cap) = CallVC C.P C.np C.n g (first ++ (args ++ cap)) d K st := rfl
@[go_sem] theorem vcall_len {xs ts} : vcall C d ⟨.builtin .len, xs, ts⟩ K st = pc C.n d (vpure C.P (.call ⟨.builtin .len, xs, ts⟩) st) K st := rfl
@[go_sem] theorem vcall_min {xs ts} : vcall C d ⟨.builtin .min, xs, ts⟩ K st = pc C.n d (vpure C.P (.call ⟨.builtin .min, xs, ts⟩) st) K st := rfl
@[go_sem] theorem vcall_max {xs ts} : vcall C d ⟨.builtin .max, xs, ts⟩ K st = pc C.n d (vpure C.P (.call ⟨.builtin .max, xs, ts⟩) st) K st := rfl
@[go_sem] theorem vops_nil : vops C all [] K st = K st := rfl
@[go_sem] theorem vops_cons {op ty pos af} : vops C all (⟨d, op, ty, pos, af, none⟩ :: r) K st = vop C d op (vops C all r K) st := rfl
def guardK (C : Cx) (ro : Bool) (d : Option Nat) (op : Op) (K : St → Prop) (st : St) (e : Nat) (want : Bool) : SV → Prop
  | .v (.bool b) => e < C.n ∧ (b = want → vopr C ro d op K (st.put e (.v (.bool want)))) ∧ (b = (!want) → vput C.n d (.v undef) K (st.put e (.v (.bool (!want)))))
  | .v (.tuple _) => e < C.n ∧ vput C.n d (.v undef) K st
  | _ => False
def guardJ (C : Cx) (ro : Bool) (d : Option Nat) (op : Op) (K : St → Prop) (st : St) (want : Bool) : Option Nat → Prop
  | some e => guardK C ro d op K st e want (lk st.env e)
  | none => False
@[go_sem] theorem guardJ_eq {ro op want e} : guardJ C ro d op K st want (some e) = guardK C ro d op K st e want (lk st.env e) := rfl
-- simp tries first what bears a variable in an earlier place: here the state stands written out, so that the lemmas on true and false come first
@[go_sem] theorem guardK_eq {ro op want e b env res nx mv} : guardK C ro d op K ⟨env, res, nx, mv⟩ e want (.v (.bool b)) = (e < C.n ∧ (b = want → vopr C ro d op K (St.put ⟨env, res, nx, mv⟩ e (.v (.bool want)))) ∧ (b = (!want) → vput C.n d (.v undef) K (St.put ⟨env, res, nx, mv⟩ e (.v (.bool (!want)))))) := rfl
@[go_sem] theorem guardK_tt {ro op e} : guardK C ro d op K st e true (.v (.bool true)) = (e < C.n ∧ vopr C ro d op K (st.put e (.v (.bool true)))) := by simp [guardK]
@[go_sem] theorem guardK_ff {ro op e} : guardK C ro d op K st e false (.v (.bool false)) = (e < C.n ∧ vopr C ro d op K (st.put e (.v (.bool false)))) := by simp [guardK]
@[go_sem] theorem guardK_tf {ro op e} : guardK C ro d op K st e true (.v (.bool false)) = (e < C.n ∧ vput C.n d (.v undef) K (st.put e (.v (.bool false)))) := by simp [guardK]
@[go_sem] theorem guardK_ft {ro op e} : guardK C ro d op K st e false (.v (.bool true)) = (e < C.n ∧ vput C.n d (.v undef) K (st.put e (.v (.bool true)))) := by simp [guardK]
@[go_sem] theorem guardK_u {ro op e want} : guardK C ro d op K st e want (.v undef) = (e < C.n ∧ vput C.n d (.v undef) K st) := rfl
@[go_sem] theorem vops_guard {op ty pos af j want} : vops C all (⟨d, op, ty, pos, af, some (j, want)⟩ :: r) K st = guardJ C false d op (vops C all r K) st want ((all[j]?).bind (·.dst)) := rfl
@[go_sem] theorem vrun_nil : vrun C (f + 1) [] st = RetVC C st := rfl
@[go_sem] theorem vrun_blk {id} : vrun C (f + 1) (.blk id :: k) st = vrun C f k st := rfl
@[go_sem] theorem vrun_loopE {E} : vrun C (f + 1) (.loop E :: k) st = E st := rfl
@[go_sem] theorem vrun_stopE {E} : vrun C (f + 1) (.stop E :: k) st = E .normal st := rfl
@[go_sem] theorem vrun_skip : vrun C (f + 1) (.code .skip :: k) st = vrun C f k st := rfl
@[go_sem] theorem vrun_label {l} : vrun C (f + 1) (.code (.label l) :: k) st = vrun C f k st := rfl
@[go_sem] theorem vrun_seq {a b} : vrun C (f + 1) (.code (.seq a b) :: k) st = seqC (vrun C f) a b k st (C.cut.contains (hd b + 1000)) := rfl
@[go_sem] theorem seqC_t {run : List VI → St → Prop} {a b} : seqC run a b k st true = CutVC run a b k st := rfl
@[go_sem] theorem seqC_f {run : List VI → St → Prop} {a b} : seqC run a b k st false = run (.code a :: .code b :: k) st := rfl
@[go_sem] theorem hd_region {id ops dr} : hd (.region id ops dr) = id := rfl
@[go_sem] theorem hd_seq {a b} : hd (.seq a b) = hd a := rfl
@[go_sem] theorem hd_block {id b} : hd (.block id b) = hd b := rfl
@[go_sem] theorem hd_scope {b} : hd (.scope b) = hd b := rfl
@[go_sem] theorem hd_loop {b} : hd (.loop b) = hd b := rfl
@[go_sem] theorem hd_cond {a b c} : hd (.cond a b c) = 999999 := rfl
@[go_sem] theorem hd_ret : hd .ret = 999999 := rfl
@[go_sem] theorem hd_skip : hd .skip = 999999 := rfl
@[go_sem] theorem hd_exit {a} : hd (.exit a) = 999999 := rfl
@[go_sem] theorem hd_label {a} : hd (.label a) = 999999 := rfl
@[go_sem] theorem hd_rangeFunc {a b c d} : hd (.rangeFunc a b c d) = 999999 := rfl
def rangeK (C : Cx) (f : Nat) (k : List VI) (ps : List Nat) (assign body : Code) (st : St) : SV → Prop := RangeVC C (fun C => vrun C f) k ps assign body st
@[go_sem] theorem vrun_range {g ps a b} : vrun C (f + 1) (.code (.rangeFunc g ps a b) :: k) st = rangeK C f k ps.toList a b st (ev st g) := rfl
@[go_sem] theorem vrun_region {id ops dr} : vrun C (f + 1) (.code (.region id ops dr) :: k) st = regC C ops dr (ghC (vrun C f k) (C.gh.contains id)) st (olk C.ord id) (C.cut.contains id) := rfl
@[go_sem] theorem regC_t {ops dr o} : regC C ops dr K st o true = MergeVC C ops dr K st o := rfl
@[go_sem] theorem regC_f {ops dr o} : regC C ops dr K st o false = regM C ops dr K st o := rfl
@[go_sem] theorem regM_none {ops dr} : regM C ops dr K st none = vops C ops ops.toList K st := rfl
@[go_sem] theorem regM_some {ops dr o} : regM C ops dr K st (some o) = (dr = true ∧ vord C ops K o st) := rfl
@[go_sem] theorem contains_nil {a : Nat} : ([] : List Nat).contains a = false := rfl
@[go_sem] theorem contains_cons {a b : Nat} {l : List Nat} : (a :: l).contains b = if b = a then true else l.contains b := by
  simp only [List.contains_cons]
  by_cases h : b = a <;> simp [h]
@[go_sem] theorem vopr_t {o} : vopr C true d o K st = (opIsRo st o = true ∧ vop C d o K st) := rfl
@[go_sem] theorem vopr_f {o} : vopr C false d o K st = vop C d o K st := rfl
@[go_sem] theorem vordg_none {ro op ty pos af} : vordg C ro all ⟨d, op, ty, pos, af, none⟩ K st = vopr C ro d op K st := rfl
@[go_sem] theorem vordg_guard {ro op ty pos af j want} : vordg C ro all ⟨d, op, ty, pos, af, some (j, want)⟩ K st = guardJ C ro d op K st want ((all[j]?).bind (·.dst)) := rfl
@[go_sem] theorem vord_nil : vord C all K .nil st = K st := rfl
def ordK (C : Cx) (ro : Bool) (all : Array Oper) (K : St → Prop) (r : Ord) (st : St) : Option Oper → Prop
  | some o => vordg C ro all o (vord C all K r) st
  | none => False
@[go_sem] theorem ordK_eq {ro r o} : ordK C ro all K r st (some o) = vordg C ro all o (vord C all K r) st := rfl
@[go_sem] theorem vord_op {i r} : vord C all K (.op i r) st = ordK C false all K r st all[i]? := rfl
@[go_sem] theorem vord_ro {i r} : vord C all K (.ro i r) st = ordK C true all K r st all[i]? := rfl
@[go_sem] theorem vord_alt {x y} : vord C all K (.alt x y) st = (vord C all K x st ∧ vord C all K y st) := rfl
def condK (C : Cx) (f : Nat) (x y : Code) (k : List VI) (st : St) : SV → Prop
  | .v (.bool b) => (b = true → vrun C f (.code x :: k) st) ∧ (b = false → vrun C f (.code y :: k) st)
  | _ => False
@[go_sem] theorem vrun_cond {c x y} : vrun C (f + 1) (.code (.cond c x y) :: k) st = condK C f x y k st (ev st c) := rfl
@[go_sem] theorem condK_eq {x y b env res nx mv} : condK C f x y k ⟨env, res, nx, mv⟩ (.v (.bool b)) = ((b = true → vrun C f (.code x :: k) ⟨env, res, nx, mv⟩) ∧ (b = false → vrun C f (.code y :: k) ⟨env, res, nx, mv⟩)) := rfl
@[go_sem] theorem condK_t {x y} : condK C f x y k st (.v (.bool true)) = vrun C f (.code x :: k) st := by simp [condK]
@[go_sem] theorem condK_f {x y} : condK C f x y k st (.v (.bool false)) = vrun C f (.code y :: k) st := by simp [condK]
@[go_sem] theorem vrun_scope {b} : vrun C (f + 1) (.code (.scope b) :: k) st = (C.rd = false ∧ vrun C f (.code b :: k) st) := rfl
@[go_sem] theorem vrun_block {id b} : vrun C (f + 1) (.code (.block id b) :: k) st = vrun C f (.code b :: .blk id :: k) st := rfl
def exitB (st : St) (id : Nat) : Option (Exit → St → Prop) → Prop
  | some E => E (.exit id) st
  | none => False
def exitK (C : Cx) (f : Nat) (st : St) (id : Nat) (b : Option (Exit → St → Prop)) : Option (List VI) → Prop
  | some k => vrun C f k st
  | none => exitB st id b
@[go_sem] theorem vrun_exit {id} : vrun C (f + 1) (.code (.exit id) :: k) st = exitK C f st id (bot k) (popTo id k) := by
  show (match popTo id k with | some k => vrun C f k st | none => match bot k with | some E => E (.exit id) st | none => False) = _
  cases popTo id k with
  | some k => rfl
  | none => cases bot k <;> rfl
@[go_sem] theorem exitK_some {id b} : exitK C f st id b (some k) = vrun C f k st := rfl
@[go_sem] theorem exitK_none {id b} : exitK C f st id b none = exitB st id b := rfl
@[go_sem] theorem exitB_eq {id} {E : Exit → St → Prop} : exitB st id (some E) = E (.exit id) st := rfl
def retB (C : Cx) (st : St) : Option (Exit → St → Prop) → Prop
  | some E => E .ret st
  | none => RetVC C st
@[go_sem] theorem vrun_ret : vrun C (f + 1) (.code .ret :: k) st = retB C st (bot k) := by
  show (match bot k with | some E => E .ret st | none => RetVC C st) = _
  cases bot k <;> rfl
@[go_sem] theorem retB_none : retB C st none = RetVC C st := rfl
@[go_sem] theorem retB_some {E : Exit → St → Prop} : retB C st (some E) = E .ret st := rfl
@[go_sem] theorem vrun_loop {b} : vrun C (f + 1) (.code (.loop b) :: k) st = LoopVC C (vrun C f) b k st := rfl
@[go_sem] theorem put_eq {e : List (Nat × SV)} {r : List (Nat × Res)} {m : List Nat} {d n : Nat} : St.put ⟨e, r, n, m⟩ d s = ⟨(d, s) :: e, r, n, m⟩ := rfl
@[go_sem] theorem ev_tmp {e : List (Nat × SV)} {r : List (Nat × Res)} {m : List Nat} {t n : Nat} : ev ⟨e, r, n, m⟩ (.tmp t) = lk e t := rfl
@[go_sem] theorem ev_const {c : Value} : ev st (.const c) = ofVal c := rfl
@[go_sem] theorem ev_global {g} : ev st (.global g) = .v (.pointer (some ⟨g, 0, none⟩)) := rfl
@[go_sem] theorem ev_func {g} : ev st (.func g) = .fn g [] [] := rfl
@[go_sem] theorem ofVal_int {k i} : ofVal (.int k i) = .v (.int k i) := rfl
@[go_sem] theorem ofVal_bool {i} : ofVal (.bool i) = .v (.bool i) := rfl
@[go_sem] theorem ofVal_string {i} : ofVal (.string i) = .v (.string i) := rfl
@[go_sem] theorem ofVal_slice {a b c} : ofVal (.slice a b c) = .v (.slice a b c) := rfl
@[go_sem] theorem ofVal_pointer {a} : ofVal (.pointer a) = .v (.pointer a) := rfl
@[go_sem] theorem ofVal_map {a} : ofVal (.map a) = .v (.map a) := rfl
@[go_sem] theorem ofVal_nilFunc : ofVal .nilFunc = .v .nilFunc := rfl
@[go_sem] theorem ofVal_nilIface : ofVal .nilIface = .v .nilIface := rfl
@[go_sem] theorem ofVal_agg {cs} : ofVal (.agg cs) = .agg (cs.toList.map .v) := rfl
@[go_sem] theorem cellsOf_agg {l} : cellsOf (.agg l) = if l.all one then some l else none := rfl
@[go_sem] theorem cellsOf_v {x} : cellsOf (.v x) = if one (.v x) then some [.v x] else none := rfl
@[go_sem] theorem cellsOf_ptr {x y} : cellsOf (.ptr x y) = some [.ptr x y] := rfl
@[go_sem] theorem cellsOf_h {x} : cellsOf (.h x) = some [.h x] := rfl
@[go_sem] theorem cellsOf_hp {x y z u} : cellsOf (.hp x y z u) = some [.hp x y z u] := rfl
@[go_sem] theorem cellsOf_fn {x y z} : cellsOf (.fn x y z) = some [.fn x y z] := rfl
@[go_sem] theorem cellsOf_ro {α : Type} {sz} {enc : α → List SV} {xs x} : cellsOf (.ro sz enc xs x) = some [.ro sz enc xs x] := rfl
@[go_sem] theorem cellsOf_rop {l} : cellsOf (.rop l) = some [.rop l] := rfl
@[go_sem] theorem cellsOf_rom {S kv} : cellsOf (.rom S kv) = some [.rom S kv] := rfl
@[go_sem] theorem cellsOf_hs {x y z u} : cellsOf (.hs x y z u) = some [.hs x y z u] := rfl
@[go_sem] theorem ghC_t : ghC K true = GhostVC K := rfl
@[go_sem] theorem ghC_f : ghC K false = K := rfl
@[go_sem] theorem opIsRo_look {t x y z} : opIsRo st (.lookup t x y z) = isRom (ev st x) := rfl
@[go_sem] theorem isRom_rom {S kv} : isRom (.rom S kv) = true := rfl
@[go_sem] theorem vop_makeMap {t} : vop C d (.makeMap t none) K st = mkMapK C d K st := rfl
@[go_sem] theorem vop_lookup {t m k' ok} : vop C d (.lookup t m k' ok) K st = pc C.n d (lookG C.P ok (mapR C.P st t (ev st m)) (valOf (ev st k'))) K st := rfl
@[go_sem] theorem vop_mapUpdate {t m k' x} : vop C d (.mapUpdate t m k' x) K st = upG C d K st (mapAt C.P st t (ev st m)) (valOf (ev st k')) (valOf (ev st x)) := rfl
@[go_sem] theorem vop_buildSlice {t n' p} : vop C d (.buildSlice t n' p) K st = bsK C d K st n' (p.toList.map fun p => (p.1, ev st p.2)) (tdOf C.P t).kind := rfl
@[go_sem] theorem vop_makeSlice {t x y} : vop C d (.makeSlice t x y) K st = msK C d K st (ev st x) (ev st y) (tdOf C.P t).kind := rfl
@[go_sem] theorem vcall_delete {m k' mt kt} : vcall C d ⟨.builtin .delete, #[m, k'], #[mt, kt]⟩ K st = delG C d K st (mapAt C.P st mt (ev st m)) (valOf (ev st k')) := rfl
@[go_sem] theorem vcall_append {x y t t'} : vcall C d ⟨.builtin .append, #[x, y], #[t, t']⟩ K st = (t' = t ∧ appK C d K st (ev st x) (ev st y) (tdOf C.P t).kind) := rfl
@[go_sem] theorem vcall_clear {x t} : vcall C d ⟨.builtin .clear, #[x], #[t]⟩ K st = clK C d K st (ev st x) (tdOf C.P t).kind := rfl
@[go_sem] theorem appK_eq {x y e} : appK C d K st x y (.slice e) = appI C d K st x y (tdOf C.P e).inf := rfl
@[go_sem] theorem appI_eq {x y sz b z} : appI C d K st x y (some (sz, b, some z)) = ((0 < sz ∧ z.cells.size = sz) ∧ appX C d K st sz b x y) := rfl
@[go_sem] theorem appX_h {sz b t y} : appX C d K st sz b (.h t) y = appR C d K st sz b t y (rlk st.res t) := rfl
@[go_sem] theorem appX_nil {sz b y} : appX C d K st sz b (.v (.slice none 0 0)) y = ∃ (α : Type) (enc : α → List SV) (zs : List α), appSrc st sz enc zs y ∧ appFit enc zs 0 b ∧ vnew C.n d (.h st.nx) (.sl sz enc zs) K st := rfl
@[go_sem] theorem appR_eq {α : Type} {sz b t y sz'} {enc : α → List SV} {xs} : appR C d K st sz b t y (some (.sl sz' enc xs)) = (sz' = sz ∧ ∃ zs, appSrc st sz enc zs y ∧ appFit enc zs xs.length b ∧
      vput C.n d (.h t) K { st.kill t with res := rset (st.kill t).res t (.sl sz enc (xs ++ zs)), mv := t :: st.mv }) := rfl
@[go_sem] theorem appSrc_h {α : Type} {sz u} {enc : α → List SV} {zs} : appSrc st sz enc zs (.h u) = srcR sz enc zs (rlk st.res u) := rfl
@[go_sem] theorem appSrc_ro {α β : Type} {sz sz'} {enc : α → List SV} {zs} {enc' : β → List SV} {ys v} : appSrc st sz enc zs (.ro sz' enc' ys v) = (sz' = sz ∧ zs.map enc = ys.map enc') := rfl
@[go_sem] theorem appSrc_nil {α : Type} {sz} {enc : α → List SV} {zs} : appSrc st sz enc zs (.v (.slice none 0 0)) = (zs = []) := rfl
@[go_sem] theorem srcR_eq {α : Type} {sz sz' m l} {enc : α → List SV} {zs} : srcR sz enc zs (some (.lit sz' m l)) = (sz' = sz ∧ zs.length = m ∧ l.all rd = true ∧ rowsAre sz enc zs l) := rfl
@[go_sem] theorem bsK_eq {n' p e} : bsK C d K st n' p (.slice e) = bsI C d K st n' p (tdOf C.P e).inf := rfl
@[go_sem] theorem bsI_eq {n' p sz b z} : bsI C d K st n' p (some (sz, b, some z)) = bsN C d K st sz z p n' := rfl
@[go_sem] theorem bsN_0 {p sz z} : bsN C d K st sz z p 0 = (p = [] ∧ ∃ (α : Type) (enc : α → List SV), vnew C.n d (.h st.nx) (.sl sz enc ([] : List α)) K st) := rfl
@[go_sem] theorem bsN_1 {p sz z} : bsN C d K st sz z p 1 = (z.cells.size = sz ∧ bsF C d K st sz 1 (vfill (fun i => some (i * sz, sz)) (zcells z ++ []) p)) := rfl
@[go_sem] theorem bsF_eq {sz n' l} : bsF C d K st sz n' (some l) = ((0 < n' ∧ n' * sz ≤ 16777216 ∧ l.length = n' * sz) ∧ vnew C.n d (.h st.nx) (.lit sz n' l) K st) := rfl
@[go_sem] theorem msK_eq {x y e} : msK C d K st x y (.slice e) = msI C d K st x y (tdOf C.P e).inf := rfl
@[go_sem] theorem msI_eq {x y sz b z} : msI C d K st x y (some (sz, b, some z)) = msX C d K st sz b z x y := rfl
@[go_sem] theorem msX_eq {sz b z i j a b'} : msX C d K st sz b z (.v (.int i a)) (.v (.int j b')) = ((a = b' ∧ 0 ≤ a ∧ a ≤ 140737488355328 ∧ a * b ≤ 140737488355328 ∧ z.cells.size = sz) ∧
      ((∃ (α : Type) (enc : α → List SV) (z0 : α), enc z0 = zcells z ∧ vnew C.n d (.h st.nx) (.sl sz enc (List.replicate a.toNat z0)) K st) ∨
       (∃ (α : Type) (sz' : Nat) (enc : α → List SV), (z = .slice none 0 0 ∧ sz = 1) ∧ vnew C.n d (.h st.nx) (.nest sz' enc (List.replicate a.toNat ([] : List α)) none) K st))) := rfl
@[go_sem] theorem clK_eq {x e} : clK C d K st x (.slice e) = clI C d K st x (tdOf C.P e).inf := rfl
@[go_sem] theorem clI_eq {x n' b z} : clI C d K st x (some (n', b, some z)) = clX C d K st n' z x := rfl
@[go_sem] theorem clX_eq {n' z u sz i m} : clX C d K st n' z (.hs u sz i m) = clR C d K st n' z u sz i m (rlk st.res u) := rfl
@[go_sem] theorem clR_eq {α : Type} {n' z u sz i m sz'} {enc : α → List SV} {xs} : clR C d K st n' z u sz i m (some (.sl sz' enc xs)) = ((sz' = sz ∧ n' = sz ∧ z.cells.size = sz ∧ (zcells z).all one = true ∧ i + m ≤ xs.length) ∧ ∃ z0, enc z0 = zcells z ∧
      vput C.n d .any K { st with res := rset st.res u (.sl sz' enc (xs.take i ++ (List.replicate m z0 ++ xs.drop (i + m)))) }) := rfl
@[go_sem] theorem upG_eq {S kv t kt vt k' x} : upG C d K st (some (S, kv, t, kt, vt)) (some k') (some x) = ((S k' ∧ KeyGood C.P kt S) ∧ vput C.n d .any K { st with res := rset st.res t (.mp S (mset kv k' x)) }) := rfl
@[go_sem] theorem delG_eq {S kv t kt vt k'} : delG C d K st (some (S, kv, t, kt, vt)) (some k') = ((S k' ∧ KeyGood C.P kt S) ∧ vput C.n d .any K { st with res := rset st.res t (.mp S (mdel kv k')) }) := rfl
@[go_sem] theorem opIsRo_load {t x} : opIsRo st (.load t x) = isRop (ev st x) := rfl
@[go_sem] theorem isRop_rop {l} : isRop (.rop l) = true := rfl
end
attribute [go_sem] olk.eq_1 olk.eq_2 rd.eq_1 rd.eq_2 rd.eq_3 rd.eq_4 rd.eq_5 rd.eq_6 rd.eq_7 rd.eq_8 rd.eq_9 rd.eq_10 rd.eq_11 rd.eq_12 vstore stK vst vst1 vst2 vload vldA vpure vbin2 vbin vcmp vagg vun vconv vfieldA vfield vidxA vidx vbuild vfill splaces vslice bnd vlen vpick vnil vextract vmm mkVal one.eq_1 one.eq_2 one.eq_3 one.eq_4 one.eq_5 one.eq_6 one.eq_7 one.eq_8 one.eq_9 one.eq_10 one.eq_11 one.eq_12 zcells.eq_1 kk kb fEq fEqs.eq_1 fEqs.eq_2 cEqI cEqB cEqS lk.eq_1 lk.eq_2 rlk.eq_1 rlk.eq_2 TK.agg.eq_1 TK.agg.eq_2 TK.agg.eq_3 TK.ok rset.eq_1 rset.eq_2 splice.eq_1 popTo.eq_1 popTo.eq_2 popTo.eq_3 popTo.eq_4 popTo.eq_5 bot.eq_1 bot.eq_2 bot.eq_3 bot.eq_4 bot.eq_5 roundEnv.eq_1 outerEnv arith resV.eq_1 resV.eq_2 resV.eq_3 conj.eq_1 conj.eq_2 packV SV.kill.eq_1 SV.kill.eq_2 SV.kill.eq_3 SV.kill.eq_4 SV.kill.eq_5 SV.kill.eq_6 SV.kill.eq_7 SV.kill.eq_8 SV.kill.eq_9 SV.kill.eq_10 SV.kill.eq_11 SV.kill.eq_12 SV.killL.eq_1 SV.killL.eq_2 Res.kill.eq_1 Res.kill.eq_2 Res.kill.eq_3 Res.kill.eq_4 Res.kill.eq_5 Res.kill.eq_6 St.kill St.kills.eq_1 St.kills.eq_2 SV.ren.eq_1 SV.ren.eq_2 SV.ren.eq_3 SV.ren.eq_4 SV.ren.eq_5 SV.ren.eq_6 SV.ren.eq_7 SV.ren.eq_8 SV.ren.eq_9 SV.ren.eq_10 SV.ren.eq_11 SV.ren.eq_12 SV.renL.eq_1 SV.renL.eq_2 Res.ren.eq_1 Res.ren.eq_2 Res.ren.eq_3 Res.ren.eq_4 Res.ren.eq_5 Res.ren.eq_6 tagOf rsets.eq_1 rsets.eq_2 movd_nil movd_cons mvc.eq_1 mvc.eq_2 List.filter_nil List.filter_cons SV.hand.eq_1 SV.hand.eq_2 SV.hand.eq_3 SV.hand.eq_4 SV.hand.eq_5 SV.hand.eq_6 SV.hand.eq_7 SV.hand.eq_8 SV.hand.eq_9 SV.hand.eq_10 SV.hand.eq_11 SV.hand.eq_12 SV.handL.eq_1 SV.handL.eq_2 Res.hand.eq_1 Res.hand.eq_2 Res.hand.eq_3 Res.hand.eq_4 Res.hand.eq_5 Res.hand.eq_6 preOf.eq_1 preOf.eq_2 lend SV.lt.eq_1 SV.lt.eq_2 SV.lt.eq_3 SV.lt.eq_4 SV.lt.eq_5 SV.lt.eq_6 SV.lt.eq_7 SV.lt.eq_8 SV.lt.eq_9 SV.lt.eq_10 SV.lt.eq_11 SV.lt.eq_12 SV.ltL.eq_1 SV.ltL.eq_2 Res.lt.eq_1 Res.lt.eq_2 Res.lt.eq_3 Res.lt.eq_4 Res.lt.eq_5 Res.lt.eq_6 envLt.eq_1 envLt.eq_2 resLt.eq_1 resLt.eq_2 kept.eq_1 kept.eq_2 matE.eq_1 matE.eq_2 matR.eq_1 matR.eq_2 rover.eq_1 rover.eq_2 lst SV.rofree.eq_1 SV.rofree.eq_2 SV.rofree.eq_3 SV.rofree.eq_4 SV.rofree.eq_5 SV.rofree.eq_6 SV.rofree.eq_7 SV.rofree.eq_8 SV.rofree.eq_9 SV.rofree.eq_10 SV.rofree.eq_11 SV.rofree.eq_12 SV.rofreeL.eq_1 SV.rofreeL.eq_2 Res.rofree.eq_1 Res.rofree.eq_2 Res.rofree.eq_3 Res.rofree.eq_4 Res.rofree.eq_5 Res.rofree.eq_6 num.eq_1 num.eq_2 List.size_toArray List.getElem?_nil vsliceH orS SV.frz.eq_1 SV.frz.eq_2 SV.frz.eq_3 SV.frz.eq_4 SV.frz.eq_5 SV.frz.eq_6 SV.frz.eq_7 SV.frz.eq_8 SV.frz.eq_9 SV.frz.eq_10 SV.frz.eq_11 SV.frz.eq_12 SV.frzL.eq_1 SV.frzL.eq_2 Res.frz.eq_1 Res.frz.eq_2 Res.frz.eq_3 Res.frz.eq_4 Res.frz.eq_5 Res.frz.eq_6 St.frz ghFrz.eq_1 ghFrz.eq_2 ghFrz.eq_3 ghFrz.eq_4 ghFrz.eq_5 ghTrim ghTrimR.eq_1 ghNil.eq_1 ghDet.eq_1 ghAtt.eq_1 gh1.eq_1 gh1.eq_2 gh1.eq_3 gh1.eq_4 gh1.eq_5 gh1.eq_6 ghNilc.eq_1 ghNilcS.eq_1 List.set_cons_zero List.set_cons_succ ghV.eq_1 ghV.eq_2 valsOf.eq_1 valsOf.eq_2 valOf.eq_1 valOf.eq_2 mapAt mapR lookG lookS mkMapK
attribute [go_sem] Value.oneCell' Value.cells List.map_cons List.map_nil List.drop_succ_cons List.drop_zero List.take_succ_cons List.take_zero List.length_cons List.length_nil List.cons_append List.nil_append List.getElem?_cons_zero List.getElem?_cons_succ
  Option.map_some Option.map_none Option.getD_some Option.getD_none Option.bind_some Option.bind_none and_true true_and if_true if_false Option.some.injEq List.all_cons List.all_nil Bool.and_true Bool.true_and Bool.not_true Bool.not_false Option.isSome_some Option.isSome_none
  forall_const implies_true false_implies true_implies ne_eq not_false_eq_true not_true_eq_false List.drop_nil List.take_nil List.append_nil Nat.add_zero Nat.zero_add eq_self List.toList_toArray List.getElem?_toArray Bool.false_eq_true Bool.true_eq_false false_and and_false reduceCtorEq Nat.reduceAdd Nat.reduceMul Nat.reduceLT Nat.reduceEqDiff
  Int.toNat_natCast decide_true decide_false Int.reduceLT Int.reduceNeg Int.reduceLE Int.reduceAdd Int.reduceSub Int.reduceMul Int.reduceEq Int.reduceToNat Nat.reduceSub Nat.reduceLeDiff
end Go.Proofs.Ytbpobdlahighoaa.Sx
