/- All operations that touch no memory: vpure, and that it tells the truth. -/
import Derived.Test.YtbpobdlahighoaaSxD
namespace Go.Proofs.Ytbpobdlahighoaa.Sx
open Go
set_option linter.unusedVariables false
set_option linter.unusedSimpArgs false

def vagg (op : BinOp) (r : Option Bool) : Option (Prop × SV) := match op, r with
  | .eql, some b => some (True, .v (.bool b))
  | .neq, some b => some (True, .v (.bool (!b)))
  | _, _ => none
def vcmp (P : Program) (op : BinOp) (t : Nat) (x y : SV) : Option (Prop × SV) := match x, y with
  | .agg l, .agg m => match (tdOf P t).kind, (tdOf P t).eqg with | .struct _, false => vagg op (fEq P 6 t l m) | _, _ => none
  | .ptr _ _, .v (.pointer none) => match (tdOf P t).kind with | .ptr _ => vagg op (some false) | _ => none
  | .rop _, .v (.pointer none) => match (tdOf P t).kind with | .ptr _ => vagg op (some false) | _ => none
  | .v (.pointer none), .v (.pointer none) => match (tdOf P t).kind with | .ptr _ => vagg op (some true) | _ => none
  | .fn _ _ _, .v .nilFunc => match (tdOf P t).kind with | .func => vagg op (some false) | _ => none
  | .v .nilFunc, .v .nilFunc => match (tdOf P t).kind with | .func => vagg op (some true) | _ => none
  | .ro _ _ _ v, .v (.slice none _ _) => match (tdOf P t).kind with | .slice _ => vagg op (some (isNilV v)) | _ => none
  | .v (.slice a n c), .v (.slice none _ _) => match (tdOf P t).kind with | .slice _ => vagg op (some (isNilV (.slice a n c))) | _ => none
  | _, _ => none
def vbin2 (P : Program) (op : BinOp) (t : Nat) (x y : SV) : Option (Prop × SV) := match vbin P op t x y with
  | some r => some r
  | none => vcmp P op t x y
def vun (op : UnOp) (x : SV) : Option (Prop × SV) := match op, x with
  | .not, .v (.bool b) => some (True, .v (.bool (!b)))
  | .neg, .v (.int k n) => some ((arith k (0 - n)).1, .v (.int k (arith k (0 - n)).2))
  | .xor, .v (.int k n) => some (True, .v (.int k (bitsOp .xor k (if k.signed then -1 else k.max) n)))
  | _, _ => none
def TK.ok : TK → Bool | .other => false | _ => true
def vconv (P : Program) (src dst : Nat) (x : SV) : Option (Prop × SV) :=
  if (tdOf P src).kind.ok then match (tdOf P dst).kind, x with
    | .int k, .v (.int _ n) => some (True, .v (.int k (k.wrap n)))
    | .string, .v (.string s) => match (tdOf P src).kind with | .string => some (True, .v (.string s)) | _ => none
    | _, _ => none
  else none
def vfieldA (P : Program) (s : Nat) (x : SV) (f : Nat) : Option (Prop × SV) := match (tdOf P s).kind with
  | .struct fs => match fs[f]? with
    | some (o, ft) => match (tdOf P ft).inf with
      | some (n, _, _) => if n = 0 then none else match x with
        | .ptr t p => some (True, .ptr t (p + o))
        | .hp t sz i p => some (True, .hp t sz i (p + o))
        | .rop l => some (True, .rop (l.drop o))
        | _ => none
      | none => none
    | none => none
  | _ => none
def vfield (P : Program) (s : Nat) (x : SV) (f : Nat) : Option (Prop × SV) := match (tdOf P s).kind, x with
  | .struct fs, .agg l => match fs[f]? with
    | some (o, ft) => match (tdOf P ft).inf with
      | some (n, _, _) => if (tdOf P ft).kind.ok then match mkVal (tdOf P ft).kind.agg ((l.drop o).take n) with
        | some s => some ((tdOf P ft).kind.agg = false → n = 1, s)
        | none => none
        else none
      | none => none
    | none => none
  | _, _ => none
def vidxA (P : Program) (st : St) (t : Nat) (x ix : SV) : Option (Prop × SV) := match (tdOf P t).kind, ix with
  | .slice e, .v (.int _ i) => match (tdOf P e).inf, x with
    | some (n, _, _), .ro sz enc xs _ => if n = sz then some (0 ≤ i ∧ i < (xs.length : Int), .rop (encAt enc xs i.toNat)) else none
    | some (n, _, _), .h u => match rlk st.res u with
      | some (.sl sz _ xs) => if n = sz then some (0 ≤ i ∧ i < (xs.length : Int), .hp u sz i.toNat 0) else none
      | some (.lit sz m _) => if n = sz then some (0 ≤ i ∧ i < (m : Int), .hp u sz i.toNat 0) else none
      | some (.nest _ _ xss _) => if n = 1 then some (0 ≤ i ∧ i < (xss.length : Int), .hp u 1 i.toNat 0) else none
      | _ => none
    | some (n, _, _), .hs u sz j m => if n = sz then some (0 ≤ i ∧ i < (m : Int), .hp u sz (j + i.toNat) 0) else none
    | _, _ => none
  | .array m e, .v (.int _ i) => match (tdOf P e).inf, x with
    | some (n, _, _), .ptr u o => some (0 ≤ i ∧ i < (m : Int), .ptr u (o + i.toNat * n))
    | some (n, _, _), .rop l => some (0 ≤ i ∧ i < (m : Int), .rop (l.drop (i.toNat * n)))
    | _, _ => none
  | _, _ => none
def bAt (s : ByteArray) (i : Nat) : Int := ((s[i]?).getD 0).toNat
def vidx (P : Program) (t : Nat) (x ix : SV) : Option (Prop × SV) := match (tdOf P t).kind, x, ix with
  | .string, .v (.string s), .v (.int _ i) => some (0 ≤ i ∧ i < (s.size : Int), .v (.int .u8 (bAt s i.toNat)))
  | .array m e, .agg l, .v (.int _ i) => match (tdOf P e).inf with
    | some (n, _, _) => if (tdOf P e).kind.ok then match mkVal (tdOf P e).kind.agg ((l.drop (i.toNat * n)).take n) with
      | some s => some (0 ≤ i ∧ i < (m : Int) ∧ ((tdOf P e).kind.agg = false → n = 1), s)
      | none => none
      else none
    | none => none
  | _, _, _ => none
def vfill (place : Nat → Option (Nat × Nat)) : List SV → List (Nat × SV) → Option (List SV)
  | cells, [] => some cells
  | cells, (i, x) :: r => match place i with
    | some (o, n) => match cellsOf x with
      | some l => if l.length = n ∧ o + n ≤ cells.length then vfill place (cells.take o ++ l ++ cells.drop (o + n)) r else none
      | none => none
    | none => none
def zcells (z : Value) : List SV := z.cells.toList.map .v
def splaces (P : Program) : List (Nat × Nat) → List (Option (Nat × Nat))
  | [] => []
  | (o, t) :: r => ((tdOf P t).inf.map fun i => (o, i.1)) :: splaces P r
def vbuild (P : Program) (t : Nat) (parts : List (Nat × SV)) : Option (Prop × SV) := match (tdOf P t).inf with
  | some (_, _, some z) => match (tdOf P t).kind with
    | .struct fs => match vfill (fun i => ((splaces P fs)[i]?).getD none) (zcells z) parts with
      | some l => if (splaces P fs).all Option.isSome then some (True, .agg l) else none
      | none => none
    | .array _ e => match (tdOf P e).inf with
      | some (n, _, _) => match vfill (fun i => some (i * n, n)) (zcells z) parts with | some l => some (True, .agg l) | none => none
      | none => none
    | _ => none
  | _ => none
def subV (v : Value) (l h m sz : Nat) : Value := match v with
  | .slice a _ _ => .slice (if m = l then a else a.map (·.add (l * sz))) (h - l) (m - l)
  | v => v
def capV : Value → Nat | .slice _ _ c => c | _ => 0
def bnd : Option SV → Int → Option Int
  | none, d => some d
  | some (.v (.int _ i)), _ => some i
  | _, _ => none
def vslice (P : Program) (t : Nat) (x : SV) (lo hi mx : Option SV) : Option (Prop × SV) := match (tdOf P t).kind, x with
  | .string, .v (.string s) => match bnd lo 0, bnd hi s.size, mx with
    | some l, some h, none => some (0 ≤ l ∧ l ≤ h ∧ h ≤ (s.size : Int), .v (.string (s.extract l.toNat h.toNat)))
    | _, _, _ => none
  | .slice e, .ro sz enc xs v => match (tdOf P e).inf with
    | some (n, _, _) => if n = sz then match bnd lo 0, bnd hi xs.length, mx with
      | some l, some h, none => some (0 ≤ l ∧ l ≤ h ∧ h ≤ (xs.length : Int), .ro sz enc ((xs.take h.toNat).drop l.toNat) (subV v l.toNat h.toNat (capV v) sz))
      | some l, some h, some (.v (.int _ m)) => match hi with
        | some _ => some (0 ≤ l ∧ l ≤ h ∧ h ≤ m ∧ m ≤ (xs.length : Int), .ro sz enc ((xs.take h.toNat).drop l.toNat) (subV v l.toNat h.toNat m.toNat sz))
        | none => none
      | _, _, _ => none
      else none
    | none => none
  | _, _ => none
/-- A part of a slice of one's own. -/
def vsliceH (P : Program) (st : St) (t : Nat) (x : SV) (lo hi mx : Option SV) : Option (Prop × SV) := match (tdOf P t).kind, x with
  | .slice e, .h u => match (tdOf P e).inf, rlk st.res u with
    | some (n, _, _), some (.sl sz _ xs) => if n = sz then match bnd lo 0, bnd hi xs.length, mx with
      | some l, some h, none => some ((0 ≤ l ∧ l < (xs.length : Int)) ∧ l ≤ h ∧ h ≤ (xs.length : Int), .hs u sz l.toNat (h.toNat - l.toNat))
      | _, _, _ => none
      else none
    | _, _ => none
  | _, _ => none
def orS (a b : Option (Prop × SV)) : Option (Prop × SV) := match a with
  | some r => some r
  | none => b
def vlen (P : Program) (st : St) (t : Nat) (x : SV) : Option (Prop × SV) := match (tdOf P t).kind, x with
  | .slice _, .ro _ _ xs _ => some (True, .v (.int .i64 xs.length))
  | .slice _, .v (.slice _ n _) => some (True, .v (.int .i64 n))
  | .slice _, .h u => match rlk st.res u with
    | some (.sl _ _ xs) => some (True, .v (.int .i64 xs.length))
    | some (.lit _ n _) => some (True, .v (.int .i64 n))
    | some (.nest _ _ xss _) => some (True, .v (.int .i64 xss.length))
    | _ => none
  | .slice _, .hs _ _ _ m => some (True, .v (.int .i64 m))
  | .string, .v (.string s) => some (True, .v (.int .i64 s.size))
  | .array n _, _ => some (True, .v (.int .i64 n))
  | _, _ => none
def vpick (c a b : SV) : Option (Prop × SV) := match c with
  | .v (.bool c) => some (True, match c with | true => a | false => b)
  | _ => none
def vnil (x : SV) : Option (Prop × SV) := match x with
  | .ptr t o => some (True, .ptr t o)
  | .rop l => some (True, .rop l)
  | .hp t a b c => some (True, .hp t a b c)
  | .fn f a b => some (True, .fn f a b)
  | _ => none
def vextract (x : SV) (i : Nat) : Option (Prop × SV) := match x with
  | .tup l => match l[i]? with | some s => some (True, s) | none => none
  | _ => none
def vmm (mn : Bool) (l : List SV) : Option (Prop × SV) := match l with
  | [.v (.int k a), .v (.int _ b)] => some (True, .v (.int k (match mn with | true => if b < a then b else a | false => if b > a then b else a)))
  | _ => none
def vpure (P : Program) (o : Op) (st : St) : Option (Prop × SV) := match o with
  | .move x => some (True, ev st x)
  | .assign x => some (True, ev st x)
  | .pick c a b => vpick (ev st c) (ev st a) (ev st b)
  | .nilCheck x => vnil (ev st x)
  | .binOp op t x y _ => vbin2 P op t (ev st x) (ev st y)
  | .unOp op _ x => vun op (ev st x)
  | .convert s d x => vconv P s d (ev st x)
  | .fieldAddr s x f => vfieldA P s (ev st x) f
  | .field s x f => vfield P s (ev st x) f
  | .indexAddr t x i => vidxA P st t (ev st x) (ev st i)
  | .index t x i => vidx P t (ev st x) (ev st i)
  | .extract x i => vextract (ev st x) i
  | .build t parts => vbuild P t (parts.toList.map fun p => (p.1, ev st p.2))
  | .makeFunc (.func f) a b => some (True, .fn f (a.toList.map (ev st)) (b.toList.map (ev st)))
  | .slice t x lo hi mx => orS (vslice P t (ev st x) (lo.map (ev st)) (hi.map (ev st)) (mx.map (ev st))) (vsliceH P st t (ev st x) (lo.map (ev st)) (hi.map (ev st)) (mx.map (ev st)))
  | .call ⟨.builtin .len, xs, ts⟩ => match xs.toList, ts.toList with | [x], [t] => vlen P st t (ev st x) | _, _ => none
  | .call ⟨.builtin .min, args, _⟩ => vmm true (args.toList.map (ev st))
  | .call ⟨.builtin .max, args, _⟩ => vmm false (args.toList.map (ev st))
  | _ => none
end Go.Proofs.Ytbpobdlahighoaa.Sx
