import Derived.Test.YtmhjjhpgbafjpaaDoorEng1
set_option linter.unusedVariables false
namespace Go.Eng
open Go

/-! ### Operations that touch no world -/
def sameK (k k' : IntKind) (p : Prop) : Prop := if k = k' then p else False
def bitsI (op : BinOp) (k : IntKind) (a b : Int) : Int := match op with
  | .and => k.wrap ((BitVec.ofInt k.bits a &&& BitVec.ofInt k.bits b).toNat : Int)
  | .or => k.wrap ((BitVec.ofInt k.bits a ||| BitVec.ofInt k.bits b).toNat : Int)
  | .xor => k.wrap ((BitVec.ofInt k.bits a ^^^ BitVec.ofInt k.bits b).toNat : Int)
  | .andNot => k.wrap ((BitVec.ofInt k.bits a &&& ~~~ BitVec.ofInt k.bits b).toNat : Int)
  | _ => 0
def binI (op : BinOp) (k : IntKind) (a b : Int) (K : Value → Prop) : Prop := match op with
  | .add => K (.int k (k.wrap (a + b)))
  | .sub => K (.int k (k.wrap (a - b)))
  | .mul => K (.int k (k.wrap (a * b)))
  | .quo => b ≠ 0 ∧ K (.int k (k.wrap (a.tdiv b)))
  | .rem => b ≠ 0 ∧ K (.int k (a.tmod b))
  | .and => K (.int k (bitsI .and k a b))
  | .or => K (.int k (bitsI .or k a b))
  | .xor => K (.int k (bitsI .xor k a b))
  | .andNot => K (.int k (bitsI .andNot k a b))
  | .eql => K (.bool (decide (a = b)))
  | .neq => K (.bool (!decide (a = b)))
  | .lss => K (.bool (decide (a < b)))
  | .leq => K (.bool (decide (a ≤ b)))
  | .gtr => K (.bool (decide (b < a)))
  | .geq => K (.bool (decide (b ≤ a)))
  | _ => False
def binS (op : BinOp) (a b : ByteArray) (K : Value → Prop) : Prop := match op with
  | .add => a.size + b.size ≤ 9223372036854775807 ∧ K (.string (a ++ b))
  | .eql => K (.bool (decide (a = b)))
  | .neq => K (.bool (!decide (a = b)))
  | _ => False
def binB (op : BinOp) (a b : Bool) (K : Value → Prop) : Prop := match op with
  | .eql => K (.bool (a == b))
  | .neq => K (.bool (!(a == b)))
  | _ => False
def binN (op : BinOp) (isNil : Bool) (K : Value → Prop) : Prop := match op with
  | .eql => K (.bool isNil)
  | .neq => K (.bool (!isNil))
  | _ => False
def shI (op : BinOp) (k : IntKind) (a b : Int) (K : Value → Prop) : Prop := match op with
  | .shl => 0 ≤ b ∧ K (.int k (k.wrap (a * 2 ^ (min b.toNat k.bits))))
  | .shr => 0 ≤ b ∧ K (.int k (a.fdiv (2 ^ (min b.toNat k.bits))))
  | _ => False
def isSh (op : BinOp) : Bool := match op with | .shl => true | .shr => true | _ => false
def binR (P : Program) (op : BinOp) (t : TypeId) (x y : Value) (K : Value → Prop) : Prop :=
  match x, y with
  | .int k a, .int k' b => (match isSh op with
    | true => shI op k a b K
    | false => match P.underlying t with
      | some (.int _) => sameK k k' (binI op k a b K)
      | _ => False)
  | .string a, .string b => (match P.underlying t with | some .string => binS op a b K | _ => False)
  | .bool a, .bool b => (match P.underlying t with | some .bool => binB op a b K | _ => False)
  | .pointer p, .pointer none => (match P.underlying t with | some (.pointer _) => binN op p.isNone K | _ => False)
  | .slice a _ _, .slice none _ _ => (match P.underlying t with | some (.slice _) => binN op a.isNone K | _ => False)
  | _, _ => False
def unR (op : UnOp) (x : Value) (K : Value → Prop) : Prop := match op, x with
  | .not, .bool b => K (.bool (!b))
  | .neg, .int k n => K (.int k (k.wrap (0 - n)))
  | .xor, .int k n => K (.int k (bitsI .xor k (if k.signed then -1 else k.max) n))
  | _, _ => False
def convR (P : Program) (s d : TypeId) (x : Value) (K : Value → Prop) : Prop := match P.underlying s with
  | some (.int _) => (match P.underlying d, x with
    | some (.int k), .int _ n => K (.int k (k.wrap n))
    | _, _ => False)
  | _ => False
def pickR (c : Bool) (x y : Value) (K : Value → Prop) : Prop := match x, y with
  | .bool a, .bool b => K (.bool (cond c a b))
  | _, _ => cond c (K x) (K y)
def szR (P : Program) (t : TypeId) (K : Nat → Prop) : Prop := match P.info? t with
  | some i => K i.size
  | none => False
def fieldAddrR (P : Program) (s : TypeId) (x : Value) (f : Nat) (K : Value → Prop) : Prop := match P.underlying s with
  | some (.struct fs) => (match fs[f]? with
    | some fl => (match x with
      | .pointer (some a) => szR P fl.type fun n => match n with
        | 0 => False
        | _ + 1 => K (.pointer (some (a.add fl.offset)))
      | _ => False)
    | none => False)
  | _ => False
def partR (P : Program) (t : TypeId) (cs : Array Value) (off : Nat) (K : Value → Prop) : Prop := match P.underlying t with
  | some (.struct _) => szR P t fun n => K (.agg (cs.extract off (off + n)))
  | some (.array _ _) => szR P t fun n => K (.agg (cs.extract off (off + n)))
  | some _ => (match cs[off]? with
    | some v => K v
    | none => False)
  | none => False
def fieldR (P : Program) (t : TypeId) (x : Value) (f : Nat) (K : Value → Prop) : Prop := match P.underlying t with
  | some (.struct fs) => (match fs[f]? with
    | some fl => (match x with
      | .agg cs => partR P fl.type cs fl.offset K
      | _ => False)
    | none => False)
  | _ => False
def indexAddrR (P : Program) (t : TypeId) (x i : Value) (K : Value → Prop) : Prop := match P.underlying t with
  | some (.slice e) => (match x, i with
    | .slice a l _, .int _ n => ∃ ad, a = some ad ∧ 0 ≤ n ∧ n < (l : Int) ∧ szR P e fun sz => K (.pointer (some (ad.add (n.toNat * sz))))
    | _, _ => False)
  | some (.array len e) => (match x, i with
    | .pointer (some ad), .int _ n => 0 ≤ n ∧ n < (len : Int) ∧ szR P e fun sz => K (.pointer (some (ad.add (n.toNat * sz))))
    | _, _ => False)
  | _ => False
def idxR (P : Program) (e : TypeId) (cs : Array Value) (sz : Nat) (n : Int) (K : Value → Prop) : List Nat → Prop
  | [] => True
  | j :: js => (match js with
    | [] => n = ((j : Nat) : Int) → partR P e cs (j * sz) K
    | _ :: _ => (n = ((j : Nat) : Int) → partR P e cs (j * sz) K) ∧ idxR P e cs sz n K js)
def indexR (P : Program) (t : TypeId) (x i : Value) (K : Value → Prop) : Prop := match P.underlying t with
  | some .string => (match x, i with
    | .string s, .int _ n => ∃ b : UInt8, 0 ≤ n ∧ s[n.toNat]? = some b ∧ K (.int .u8 b.toNat)
    | _, _ => False)
  | some (.array len e) => (match x, i with
    | .agg cs, .int _ n => 0 ≤ n ∧ n < (len : Int) ∧ szR P e fun sz => idxR P e cs sz n K (List.range len)
    | _, _ => False)
  | _ => False
def slAddr (a : Option Addr) (m l sz : Nat) : Option Addr := if m = l then a else a.map (·.add (l * sz))
def hiR (cap len : Nat) (hi : Option Value) (K : Nat → Prop) : Prop := match hi with
  | none => K len
  | some (.int _ n) => 0 ≤ n ∧ n ≤ (cap : Int) ∧ K n.toNat
  | _ => False
def loR (h : Nat) (lo : Option Value) (K : Nat → Prop) : Prop := match lo with
  | none => K 0
  | some (.int _ n) => 0 ≤ n ∧ n ≤ (h : Int) ∧ K n.toNat
  | _ => False
def sliceR (P : Program) (t : TypeId) (x : Value) (lo hi mx : Option Value) (K : Value → Prop) : Prop := match P.underlying t with
  | some .string => (match x, mx with
    | .string s, none => hiR s.size s.size hi fun h => loR h lo fun l => K (.string (s.extract l h))
    | _, _ => False)
  | some (.slice e) => (match x with
    | .slice a len cap => (match mx with
      | none => hiR cap len hi fun h => loR h lo fun l => szR P e fun sz => K (.slice (slAddr a cap l sz) (h - l) (cap - l))
      | some m => hiR cap cap (some m) fun m => match hi with
        | some hv => hiR m m (some hv) fun h => loR h lo fun l => szR P e fun sz => K (.slice (slAddr a m l sz) (h - l) (m - l))
        | none => False)
    | _ => False)
  | some (.array n e) => (match x, mx with
    | .pointer (some a), none => hiR n n hi fun h => loR h lo fun l => szR P e fun sz => K (.slice (slAddr (some a) n l sz) (h - l) (n - l))
    | _, _ => False)
  | _ => False
def extractR (x : Value) (ix : Nat) (K : Value → Prop) : Prop := match x with
  | .tuple vs => (match vs[ix]? with
    | some v => K v
    | none => False)
  | _ => False
def lenR (P : Program) (t : TypeId) (x : Value) (K : Value → Prop) : Prop := match P.underlying t with
  | some .string => (match x with | .string s => K (.int .i64 (s.size : Int)) | _ => False)
  | some (.slice _) => (match x with | .slice _ l _ => K (.int .i64 (l : Int)) | _ => False)
  | some (.array n _) => K (.int .i64 (n : Int))
  | _ => False
def nilR (x : Value) (K : Value → Prop) : Prop := match x with
  | .pointer p => ∃ a, p = some a ∧ K (.pointer (some a))
  | .func (.func f) fs cs => K (.func (.func f) fs cs)
  | _ => False
/-- A run that touches no world, as it is reckoned out. -/
def runR (s : Sem Value) (P : Program) (w : World) (K : Value → Prop) : Prop := match s.run P w with
  | .ok v _ => K v
  | .halt _ _ => False
def fillC (cells : List Value) (off : Nat) : List Value → List Value
  | [] => cells
  | c :: cs => fillC (cells.set off c) (off + 1) cs
def buildParts (P : Program) (fs : Array Field) (cells : List Value) : List (Nat × Value) → (List Value → Prop) → Prop
  | [], K => K cells
  | (i, v) :: rest, K => match fs[i]? with
    | some fl => szR P fl.type fun sz => match Nat.beq v.cells.size sz with
      | true => (match Nat.ble (fl.offset + v.cells.size) cells.length with
        | true => buildParts P fs (fillC cells fl.offset v.cells.toList) rest K
        | false => False)
      | false => False
    | none => False
def buildElems (sz : Nat) (cells : List Value) : List (Nat × Value) → (List Value → Prop) → Prop
  | [], K => K cells
  | (i, v) :: rest, K => match Nat.beq v.cells.size sz with
      | true => (match Nat.ble (i * sz + v.cells.size) cells.length with
        | true => buildElems sz (fillC cells (i * sz) v.cells.toList) rest K
        | false => False)
      | false => False
def allSized (P : Program) (fs : List Field) : Bool := fs.all fun f => (P.info? f.type).isSome
def buildR (P : Program) (t : TypeId) (parts : List (Nat × Value)) (K : Value → Prop) : Prop := match P.info? t with
  | some i => (match i.zero with
    | some z => (match P.underlying t with
      | some (.struct fs) => (match allSized P fs.toList with
        | true => buildParts P fs z.cells.toList parts fun cs => K (.agg ⟨cs⟩)
        | false => False)
      | some (.array _ e) => szR P e fun sz => buildElems sz z.cells.toList parts fun cs => K (.agg ⟨cs⟩)
      | _ => False)
    | none => False)
  | none => False
def mmR (least : Bool) (x : Value) (K : Value → Prop) : List Value → Prop
  | [] => K x
  | y :: ys => match x, y with
    | .int k a, .int k' b => (match least with
      | true => mmR least (.int k (if b < a then b else a)) K ys
      | false => mmR least (.int k (if b > a then b else a)) K ys)
    | _, _ => False
def purB (P : Program) (b : Builtin) (ts : Array TypeId) (args : List Value) (K : Value → Prop) : Prop := match b with
  | .len => (match ts[0]?, args[0]? with
    | some t, some x => lenR P t x K
    | _, _ => False)
  | .min => (match args with | [] => False | x :: xs => mmR true x K xs)
  | .max => (match args with | [] => False | x :: xs => mmR false x K xs)
  | _ => False
def isPurB (P : Program) (b : Builtin) (ts : Array TypeId) : Bool := match b with
  | .min => true
  | .max => true
  | .len => (match ts[0]? with
    | some t => (match P.underlying t with
      | some .string => true
      | some (.slice _) => true
      | some (.array _ _) => true
      | _ => false)
    | none => false)
  | _ => false
def isPur (P : Program) (op : Op) : Bool := match op with
  | .move _ => true
  | .assign _ => true
  | .pick _ _ _ => true
  | .nilCheck _ => true
  | .unOp _ _ _ => true
  | .makeFunc _ _ _ => true
  | .slice _ _ _ _ _ => true
  | .fieldAddr _ _ _ => true
  | .field _ _ _ => true
  | .indexAddr _ _ _ => true
  | .index _ _ _ => true
  | .extract _ _ => true
  | .build _ _ => true
  | .binOp _ t _ _ _ => (match P.underlying t with
    | some (.int _) => true
    | some .bool => true
    | some .string => true
    | some (.pointer _) => true
    | some (.slice _) => true
    | _ => false)
  | .convert s d _ => (match P.underlying s, P.underlying d with
    | some (.int _), some (.int _) => true
    | _, _ => false)
  | .call c => (match c.callee with
    | .builtin b => isPurB P b c.argTypes
    | _ => false)
  | _ => false
def pureR (P : Program) (op : Op) (ρ : Env) (K : Value → Prop) : Prop := match op with
  | .move x => K (ev ρ x)
  | .assign x => K (ev ρ x)
  | .pick c a b => (match ev ρ c with
    | .bool c => pickR c (ev ρ a) (ev ρ b) K
    | _ => False)
  | .nilCheck x => nilR (ev ρ x) K
  | .binOp op t x y _ => binR P op t (ev ρ x) (ev ρ y) K
  | .unOp op _ x => unR op (ev ρ x) K
  | .convert s d x => convR P s d (ev ρ x) K
  | .makeFunc fn first captured => K (.func fn (first.map (ev ρ)) (captured.map (ev ρ)))
  | .slice t x lo hi mx => sliceR P t (ev ρ x) (lo.map (ev ρ)) (hi.map (ev ρ)) (mx.map (ev ρ)) K
  | .fieldAddr s x f => fieldAddrR P s (ev ρ x) f K
  | .field t x f => fieldR P t (ev ρ x) f K
  | .indexAddr t x i => indexAddrR P t (ev ρ x) (ev ρ i) K
  | .index t x i => indexR P t (ev ρ x) (ev ρ i) K
  | .extract x ix => extractR (ev ρ x) ix K
  | .build t parts => buildR P t (parts.toList.map fun p => (p.1, ev ρ p.2)) K
  | .call c => (match c.callee with
    | .builtin b => purB P b c.argTypes (c.args.toList.map (ev ρ)) K
    | _ => False)
  | _ => False

/-! ### Their runs -/
section
variable {P : Program} {K : Value → Prop}
/-- `s` yields a value of which K holds, in whatever world, and leaves it. -/
def Yld (P : Program) (s : Sem Value) (K : Value → Prop) : Prop := ∃ v, (∀ w, s.run P w = .ok v w) ∧ K v
theorem szR_out {t : TypeId} {K : Nat → Prop} (h : szR P t K) : ∃ i, P.info? t = some i ∧ K i.size := by
  unfold szR at h; split at h
  · exact ⟨_, ‹_›, h⟩
  · exact h.elim
theorem run_sizeOf {t : TypeId} {i : TypeInfo} (h : P.info? t = some i) (w : World) : (sizeOf t).run P w = .ok i.size w := by
  simp [sizeOf, typeInfo, h]
theorem run_ul {t : TypeId} {d : TypeDesc} (h : P.underlying t = some d) (w : World) : (underlying t).run P w = .ok d w := by
  simp [underlying, h]
end
end Go.Eng
