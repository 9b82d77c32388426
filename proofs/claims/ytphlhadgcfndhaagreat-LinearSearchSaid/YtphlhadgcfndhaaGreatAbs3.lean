/- What each operation does to values told without addresses: the plan of an operation. -/
import Derived.Test.YtphlhadgcfndhaaGreatAbs2
import Derived.Laws.BytesArg
namespace Go.Proofs.YtphlhadgcfndhaaGreat.Abs
open Go Go.RowKit
set_option linter.unusedVariables false

/-! ### types -/
structure TI where
  d : TypeDesc
  zero : Value
  size : Nat
  bytes : Nat
  cmp : Bool
abbrev TyEnv := List (Nat × TI)
def TyOk (P : Program) (t : Nat) (ti : TI) : Prop := P.underlying t = some ti.d ∧ (P.info? t).map (fun i => (i.zero, i.size, i.bytes)) = some (some ti.zero, ti.size, ti.bytes) ∧ ti.zero.cells.all (·.oneCell') = true ∧ ti.zero.cells.size = ti.size ∧ (ti.cmp = true → P.stoodInHeld t = false ∧ P.eqGuardType P.depth t = false)
def TOk (P : Program) (T : TyEnv) : Prop := ∀ t ti, look t T = some ti → TyOk P t ti
theorem TOk.nil (P : Program) : TOk P [] := fun t ti h => by cases h
theorem TOk.cons {P : Program} {T : TyEnv} {t : Nat} {ti : TI} (h : TyOk P t ti) (hT : TOk P T) : TOk P ((t, ti) :: T) := fun s si hs => by
  unfold look at hs
  split at hs
  · rename_i e
    cases hs
    rw [e]
    exact h
  · exact hT s si hs
def TI.agg (ti : TI) : Bool := match ti.d with | .struct _ | .array _ _ => true | _ => false
def TI.zeros (ti : TI) : List Cell := ti.zero.cells.toList.map .sc

/-! ### what an operation does -/
inductive Eff where
  | val (v : AVal)
  | wr (id : Nat) (o : AObj) (v : AVal)
  | new (o : AObj) (v : Nat → AVal)
  | mv (id : Nat) (o : AObj) (v : Nat → AVal)
  | call (f : FuncId) (args : List AVal)
inductive Plan where
  | fail
  | now (e : Eff) (p : Prop)
  | use (ids : List Nat) (f : List AObj → Option (Eff × Prop))
def Plan.val (v : AVal) : Plan := .now (.val v) True
def Eff.aval (n : Nat) : Eff → AVal
  | .val v => v
  | .wr _ _ v => v
  | .new _ v => v n
  | .mv _ _ v => v n
  | _ => .any
def Eff.sig (n : Nat) (σ : Sig) : Eff → Sig
  | .wr id o _ => putA id o σ
  | .new o _ => putA n o σ
  | .mv id o _ => putA n o (drop id σ)
  | _ => σ
def looks (σ : Sig) : List Nat → Option (List AObj)
  | [] => some []
  | id :: ids => match look id σ with
    | none => none
    | some o => (looks σ ids).map (o :: ·)
def Plan.run (σ : Sig) : Plan → Option (Eff × Prop)
  | .fail => none
  | .now e p => some (e, p)
  | .use ids f => match looks σ ids with
    | none => none
    | some os => f os

def constV : Value → AVal
  | .agg cs => if cs.all (·.oneCell') = true then .agg (cs.toList.map .sc) else .any
  | .tuple _ => .any
  | v => .c (.sc v)
def opval (τ : Tau) : Operand → AVal
  | .tmp t => (look t τ).getD .any
  | .const v => constV v
  | .global g => .c (.sc (.pointer (some ⟨g, 0, none⟩)))
  | .func f => .c (.sc (.func (.func f) #[] #[]))
def cellsOf : AVal → Option (List Cell)
  | .c x => some [x]
  | .agg cs => some cs
  | _ => none
def readA (ti : TI) (cs : List Cell) : Option AVal :=
  if ti.agg = true then (if ti.size ≤ cs.length then some (.agg (cs.take ti.size)) else none)
  else match cs with
    | c :: _ => some (.c c)
    | [] => none
def planLoad (ti : TI) : AVal → Plan
  | .c (.fad cs) => match readA ti cs with
    | some v => .val v
    | none => .fail
  | .c (.ptr id i off) => .use [id] fun
    | [o] => match o.es[i]? with
      | some e => match readA ti (e.drop off) with
        | some v => some (.val v, True)
        | none => none
      | none => none
    | _ => none
  | _ => .fail
def planStore (ti : TI) (a x : AVal) : Plan :=
  match a with
  | .c (.ptr id i off) => match cellsOf x with
    | some cs => .use [id] fun
      | [o] => match o.es[i]? with
        | some e => if cs.length = ti.size ∧ off + cs.length ≤ e.length then some (.wr id { o with es := o.es.set i (e.take off ++ cs ++ e.drop (off + cs.length)) } .any, True) else none
        | none => none
      | _ => none
    | none => .fail
  | _ => .fail
def planNew (cs : List Cell) : Plan := .now (.new ⟨cs.length, [cs]⟩ fun id => .c (.ptr id 0 0)) True
def fitsF (T : TyEnv) (ti : TI) (f : Nat) : Option Nat := match ti.d with
  | .struct fs => match fs[f]? with
    | some fd => match look fd.type T with
      | some tf => if tf.size = 0 then none else some fd.offset
      | none => none
    | none => none
  | _ => none
def planFieldAddr (T : TyEnv) (ti : TI) (f : Nat) : AVal → Plan
  | .c (.fad cs) => match fitsF T ti f with
    | some off => .val (.c (.fad (cs.drop off)))
    | none => .fail
  | .c (.ptr id i off0) => match fitsF T ti f with
    | some off => .use [id] fun _ => some (.val (.c (.ptr id i (off0 + off))), True)
    | none => .fail
  | _ => .fail
def planIndexAddr (ti tie : TI) (x ix : AVal) : Plan :=
  match ti.d, ix with
  | .slice _, .c (.sc (.int _ n)) => match x with
    | .c (.row k t es) => .now (.val (.c (.fad (es.getD n.toNat [])))) (0 ≤ n ∧ n < es.length ∧ k = tie.size)
    | .c (.ref id lo len) => .use [id] fun
      | [o] => some (.val (.c (.ptr id (lo + n.toNat) 0)), 0 ≤ n ∧ n < len ∧ o.k = tie.size)
      | _ => none
    | _ => .fail
  | .array l _, .c (.sc (.int _ n)) => match x with
    | .c (.ptr id i off) => .use [id] fun _ => some (.val (.c (.ptr id i (off + n.toNat * tie.size))), 0 ≤ n ∧ n < l)
    | .c (.fad cs) => .now (.val (.c (.fad (cs.drop (n.toNat * tie.size))))) (0 ≤ n ∧ n < l)
    | _ => .fail
  | _, _ => .fail
def scBin (tb : Bool) (op : BinOp) : Value → Value → Option (Value × Prop)
  | .int k x, .int k' y =>
    match op with
    | .shl => some (.int k (k.wrap (x * 2 ^ (min y.toNat k.bits))), 0 ≤ y)
    | .shr => some (.int k (x.fdiv (2 ^ (min y.toNat k.bits))), 0 ≤ y)
    | .add => some (.int k (k.wrap (x + y)), k = k')
    | .sub => some (.int k (k.wrap (x - y)), k = k')
    | .mul => some (.int k (k.wrap (x * y)), k = k')
    | .quo => some (.int k (k.wrap (x.tdiv y)), k = k' ∧ y ≠ 0)
    | .rem => some (.int k (x.tmod y), k = k' ∧ y ≠ 0)
    | .and => some (.int k (bits .and k x y), k = k')
    | .or => some (.int k (bits .or k x y), k = k')
    | .xor => some (.int k (bits .xor k x y), k = k')
    | .andNot => some (.int k (bits .andNot k x y), k = k')
    | .eql => some (.bool (x == y), k = k')
    | .neq => some (.bool (x != y), k = k')
    | .lss => some (.bool (x < y), k = k')
    | .leq => some (.bool (x ≤ y), k = k')
    | .gtr => some (.bool (x > y), k = k')
    | .geq => some (.bool (x ≥ y), k = k')
  | .bool x, .bool y => match op with
    | .eql => if tb = true then some (.bool (x == y), True) else none
    | .neq => if tb = true then some (.bool (x != y), True) else none
    | _ => none
  | .string x, .string y => match op with
    | .eql => some (.bool (x.toList == y.toList), True)
    | .neq => some (.bool (!(x.toList == y.toList)), True)
    | .lss => some (.bool (Op.bytesLess x.toList y.toList), True)
    | .leq => some (.bool (Op.bytesLess x.toList y.toList || x.toList == y.toList), True)
    | .gtr => some (.bool (!(Op.bytesLess x.toList y.toList || x.toList == y.toList)), True)
    | .geq => some (.bool (!(Op.bytesLess x.toList y.toList)), True)
    | .add => some (.string (x ++ y), ((x.size + y.size : Nat) : Int) ≤ 9223372036854775807)
    | _ => none
  | _, _ => none
def scUn (op : UnOp) : Value → Option Value
  | .bool b => match op with
    | .not => some (.bool (!b))
    | _ => none
  | .int k n => match op with
    | .neg => some (.int k (k.wrap (0 - n)))
    | .xor => some (.int k (bits .xor k (if k.signed then -1 else k.max) n))
    | _ => none
  | _ => none
def TI.isBool (ti : TI) : Bool := match ti.d with
  | .bool => true
  | _ => false
def planBin0 (ti : TI) (op : BinOp) (x y : AVal) : Plan :=
  match x, y with
  | .c (.sc u), .c (.sc v) => match scBin ti.isBool op u v with
    | some (r, p) => .now (.val (.c (.sc r))) p
    | none => .fail
  | _, _ => .fail
/-- A slice held against nil. -/
def nilIs (x : AVal) : Option (Option Bool) := match x with
  | .c (.sc (.slice none 0 0)) => some (some true)
  | .c (.row _ _ es) => some (if es.isEmpty = true then none else some false)
  | _ => none
def nilCmp (ti : TI) (op : BinOp) (x y : AVal) : Option Cell := match ti.d, op, y with
  | .slice _, .eql, .c (.sc (.slice none 0 0)) => match nilIs x with
    | some (some b) => some (.sc (.bool b))
    | some none => some .bit
    | none => none
  | .slice _, .neq, .c (.sc (.slice none 0 0)) => match nilIs x with
    | some (some b) => some (.sc (.bool (!b)))
    | some none => some .bit
    | none => none
  | _, _, _ => none
/-- Structs of numbers, truth values and strings, field by field. -/
def eqFs (T : TyEnv) (cs ds : List Cell) : List Field → Option Bool
  | [] => some true
  | f :: fs => if f.name = "_" then none else match look f.type T with
    | some tf => match tf.d, cs[f.offset]?, ds[f.offset]?, eqFs T cs ds fs with
      | .int _, some (.sc (.int k x)), some (.sc (.int k' y)), some r => if k = k' then some ((x == y) && r) else none
      | .bool, some (.sc (.bool x)), some (.sc (.bool y)), some r => some ((x == y) && r)
      | .string, some (.sc (.string x)), some (.sc (.string y)), some r => some ((x.toList == y.toList) && r)
      | _, _, _, _ => none
    | none => none
def eqAgg (T : TyEnv) (ti : TI) (op : BinOp) (x y : AVal) : Option Cell := match x, y, ti.d, op with
  | .agg cs, .agg ds, .struct fs, .eql => if ti.cmp = true then (eqFs T cs ds fs.toList).map fun b => .sc (.bool b) else none
  | .agg cs, .agg ds, .struct fs, .neq => if ti.cmp = true then (eqFs T cs ds fs.toList).map fun b => .sc (.bool (!b)) else none
  | _, _, _, _ => none
def planBin (T : TyEnv) (ti : TI) (op : BinOp) (x y : AVal) : Plan := match nilCmp ti op x y with
  | some c => .val (.c c)
  | none => match eqAgg T ti op x y with
    | some c => .val (.c c)
    | none => planBin0 ti op x y
def planUn (op : UnOp) : AVal → Plan
  | .c (.sc u) => match scUn op u with
    | some r => .val (.c (.sc r))
    | none => .fail
  | _ => .fail
/-- The bytes of a row. -/
def bytesOf : List (List Cell) → Option (List Int)
  | [] => some []
  | [.sc (.int .u8 n)] :: r => match bytesOf r with
    | some l => some (n :: l)
    | none => none
  | _ => none
def isU8 (T : TyEnv) (e : Nat) : Bool := match look e T with
  | some te => match te.d with
    | .int .u8 => true
    | _ => false
  | none => false
def planConv (T : TyEnv) (tis ti : TI) (x : AVal) : Plan :=
  match ti.d with
  | .int k => match x with
    | .c (.sc (.int _ n)) => .val (.c (.sc (.int k (k.wrap n))))
    | _ => .fail
  | .string => match x with
    | .c (.sc (.string s)) => .val (.c (.sc (.string s)))
    | .c (.sc (.slice none 0 0)) => match tis.d with
      | .slice e => if isU8 T e = true then .val (.c (.sc (.string (strOfNums [])))) else .fail
      | _ => .fail
    | .c (.row _ _ es) => match tis.d with
      | .slice e => if isU8 T e = true then (match bytesOf es with
        | some xs => .val (.c (.sc (.string (strOfNums xs))))
        | none => .fail) else .fail
      | _ => .fail
    | _ => .fail
  | .slice e => match x with
    | .c (.sc (.string s)) => match tis.d with
      | .string => if isU8 T e = true then .val (.c (.row 1 false (s.data.toList.map fun b => [.sc (.int .u8 b.toNat)]))) else .fail
      | _ => .fail
    | _ => .fail
  | _ => .fail
def planPick (c a b : AVal) : Plan :=
  match c with
  | .c (.sc (.bool t)) => .val (if t = true then a else b)
  | _ => .fail
def planLen (ti : TI) (x : AVal) : Plan :=
  match ti.d with
  | .slice _ => match x with
    | .c (.row _ _ es) => .val (.c (.sc (.int .i64 es.length)))
    | .c (.ref id lo n) => .use [id] fun _ => some (.val (.c (.sc (.int .i64 n))), True)
    | .c (.sc (.slice _ n _)) => .val (.c (.sc (.int .i64 n)))
    | _ => .fail
  | .string => match x with
    | .c (.sc (.string s)) => .val (.c (.sc (.int .i64 s.size)))
    | _ => .fail
  | _ => .fail
def planExtract (i : Nat) : AVal → Plan
  | .tup vs => match vs[i]? with
    | some v => .val v
    | none => .fail
  | _ => .fail
def planNil : AVal → Plan
  | .c (.ptr id i off) => .use [id] fun _ => some (.val (.c (.ptr id i off)), True)
  | .c (.fad cs) => .val (.c (.fad cs))
  | .c (.sc (.pointer (some a))) => .val (.c (.sc (.pointer (some a))))
  | .c (.sc (.func (.func f) x y)) => .val (.c (.sc (.func (.func f) x y)))
  | _ => .fail
def fillC (cs : List Cell) : List (Nat × List Cell) → Option (List Cell)
  | [] => some cs
  | (off, p) :: r => if off + p.length ≤ cs.length then fillC (cs.take off ++ p ++ cs.drop (off + p.length)) r else none
def partsF (T : TyEnv) (fs : Array Field) (ρ : Operand → AVal) : List (Nat × Operand) → Option (List (Nat × List Cell))
  | [] => some []
  | (i, x) :: r => match fs[i]?, cellsOf (ρ x), partsF T fs ρ r with
    | some f, some cs, some l => match look f.type T with
      | some ti => if cs.length = ti.size then some ((f.offset, cs) :: l) else none
      | none => none
    | _, _, _ => none
def planBuild (T : TyEnv) (ti : TI) (ρ : Operand → AVal) (ps : List (Nat × Operand)) : Plan :=
  match ti.d with
  | .struct fs => if fs.toList.all (fun f => (look f.type T).isSome) = true then (match partsF T fs ρ ps with
    | some l => match fillC ti.zeros l with
      | some cs => .val (.agg cs)
      | none => .fail
    | none => .fail) else .fail
  | _ => .fail
def frozenC : Cell → Bool
  | .ref .. => false
  | .ptr .. => false
  | _ => true
/-- A literal of all its elements, in order. -/
def partsS (size : Nat) (ρ : Operand → AVal) : Nat → List (Nat × Operand) → Option (List (List Cell))
  | _, [] => some []
  | n, (i, x) :: r => if i = n then (match cellsOf (ρ x), partsS size ρ (n + 1) r with
    | some cs, some l => if cs.length = size ∧ cs.all frozenC = true then some (cs :: l) else none
    | _, _ => none) else none
/-- The same, of what may be live. -/
def partsN (size : Nat) (ρ : Operand → AVal) : Nat → List (Nat × Operand) → Option (List (List Cell))
  | _, [] => some []
  | n, (i, x) :: r => if i = n then (match cellsOf (ρ x), partsN size ρ (n + 1) r with
    | some cs, some l => if cs.length = size then some (cs :: l) else none
    | _, _ => none) else none
def planBuildS (tie : TI) (len : Nat) (ρ : Operand → AVal) (ps : List (Nat × Operand)) : Plan :=
  match partsS tie.size ρ 0 ps with
  | some es => if es.length = len ∧ len * tie.size ≤ 16777216 then .val (.c (.row tie.size true es)) else .fail
  | none => match partsN tie.size ρ 0 ps with
    | some es => if es.length = len ∧ len * tie.size ≤ 16777216 then .now (.new ⟨tie.size, es⟩ fun id => .c (.ref id 0 es.length)) True else .fail
    | none => .fail
/-- What is appended, as elements; what it reads. -/
def srcEs : AVal → Option (List Nat × (List AObj → Option (List (List Cell))))
  | .c (.row _ _ es) => some ([], fun _ => some es)
  | .c (.sc (.slice none 0 0)) => some ([], fun _ => some [])
  | .c (.ref id lo n) => some ([id], fun
    | [o] => if lo + n ≤ o.es.length then some ((o.es.drop lo).take n) else none
    | _ => none)
  | _ => none
def growOk (tie : TI) (n : Nat) : Prop := n * tie.bytes < 140737488355328 ∧ n < 140737488355328
def planAppendM (tie : TI) (s x : AVal) : Plan :=
  match srcEs x with
  | none => .fail
  | some (ids, src) => match s with
    | .c (.sc (.slice none 0 0)) => .use ids fun os => match src os with
      | some es => some (.new ⟨tie.size, es⟩ fun id => .c (.ref id 0 es.length), growOk tie es.length ∧ ∀ e ∈ es, e.length = tie.size)
      | none => none
    | .c (.row k true old) => .use ids fun os => match src os with
      | some es => some (.new ⟨tie.size, old ++ es⟩ fun id => .c (.ref id 0 (old ++ es).length), growOk tie (old ++ es).length ∧ k = tie.size ∧ (old = [] ∨ es ≠ []) ∧ ∀ e ∈ es, e.length = tie.size)
      | none => none
    | .c (.ref id lo n) => .use (id :: ids) fun
      | o :: os => match src os with
        | some es => some (.mv id ⟨o.k, o.es ++ es⟩ fun id' => .c (.ref id' lo (n + es.length)), lo = 0 ∧ n = o.es.length ∧ growOk tie (n + es.length) ∧ o.k = tie.size ∧ ∀ e ∈ es, e.length = tie.size)
        | none => none
      | [] => none
    | _ => .fail
/-- What a slice's own rest is appended to: in place. -/
def planAppendIn (tie : TI) (id lo n lo' n' : Nat) : Plan := .use [id] fun
  | [o] => some (.wr id { o with es := o.es.take (lo + n) ++ (o.es.drop lo').take n' ++ o.es.drop (lo + n + n') } (.c (.ref id lo (n + n'))), lo' + n' ≤ o.es.length ∧ lo + n + n' ≤ o.es.length ∧ o.k = tie.size)
  | _ => none
def planAppend (tie : TI) (s x : AVal) : Plan := match s with
  | .c (.ref id lo n) => match x with
    | .c (.ref id' lo' n') => if id' = id then planAppendIn tie id lo n lo' n' else planAppendM tie s x
    | .c (.row k t es) => if es.isEmpty = true then .use [id] (fun _ => some (.val (.c (.ref id lo n)), True)) else planAppendM tie s x
    | _ => planAppendM tie s x
  | _ => planAppendM tie s x
def strEs (b : ByteArray) : List (List Cell) := b.data.toList.map fun y => [.sc (.int .u8 y.toNat)]
/-- A string is appended to bytes. -/
def planAppendS (tie : TI) (s x : AVal) : Plan := match x with
  | .c (.sc (.string b)) => planAppendM tie s (.c (.row 1 false (strEs b)))
  | _ => .fail
/-- An append of so many zeros to nil. -/
def planGrow (tie : TI) (s x : AVal) : Plan := match s, x with
  | .c (.sc (.slice none 0 0)), .c (.sc (.int _ n)) => .now (.new ⟨tie.size, List.replicate n.toNat tie.zeros⟩ fun id => .c (.ref id 0 n.toNat)) (0 < n ∧ growOk tie n.toNat)
  | .cut k c es, .c (.sc (.int _ n)) => .now (.new ⟨tie.size, es ++ List.replicate n.toNat tie.zeros⟩ fun id => .c (.ref id 0 (es.length + n.toNat))) (0 < n ∧ k = tie.size ∧ c < es.length + n.toNat ∧ growOk tie (es.length + n.toNat))
  | _, _ => .fail
def planCap : AVal → Plan
  | .c (.sc (.slice _ _ c)) => .val (.c (.sc (.int .i64 c)))
  | .c (.row _ true es) => .val (.c (.sc (.int .i64 es.length)))
  | _ => .fail
def scs (ρ : Operand → AVal) : List Operand → Option (List Value)
  | [] => some []
  | x :: xs => match ρ x, scs ρ xs with
    | .c (.sc v), some vs => some (v :: vs)
    | _, _ => none
def capsOf (ρ : Operand → AVal) : List Operand → Option (List Cell)
  | [] => some []
  | x :: xs => match ρ x, capsOf ρ xs with
    | .c c, some cs => if frozenC c = true then some (c :: cs) else none
    | _, _ => none
def planMakeFunc (ρ : Operand → AVal) (fn : Fn) (first captured : List Operand) : Plan := match fn, scs ρ first with
  | .func g, some vs => if captured.isEmpty = true then .val (.c (.sc (.func (.func g) vs.toArray #[]))) else if vs.isEmpty = true then (match capsOf ρ captured with
    | some cs => .val (.c (.fn g cs))
    | none => .fail) else .fail
  | _, _ => .fail
def planField (T : TyEnv) (ti : TI) (f : Nat) (x : AVal) : Plan := match ti.d with
  | .struct fs => match fs[f]? with
    | some fd => match look fd.type T with
      | some tf => match x with
        | .agg cs => match readA tf (cs.drop fd.offset) with
          | some v => .val v
          | none => .fail
        | _ => .fail
      | none => .fail
    | none => .fail
  | _ => .fail
def planMakeSlice (tie : TI) (l c : AVal) : Plan := match l, c with
  | .c (.sc (.int _ l)), .c (.sc (.int _ c)) => .now (.new ⟨tie.size, List.replicate l.toNat tie.zeros⟩ fun id => .c (.ref id 0 l.toNat)) (0 ≤ l ∧ l ≤ c ∧ tie.bytes * c ≤ 281474976710656 ∧ c ≤ 9223372036854775807)
  | _, _ => .fail
def planMin (x y : AVal) : Plan := match x, y with
  | .c (.sc (.int k x)), .c (.sc (.int _ y)) => .val (.c (.sc (.int k (if y < x then y else x))))
  | _, _ => .fail
def planMax (x y : AVal) : Plan := match x, y with
  | .c (.sc (.int k x)), .c (.sc (.int _ y)) => .val (.c (.sc (.int k (if y > x then y else x))))
  | _, _ => .fail
def planClear (tie : TI) : AVal → Plan
  | .c (.ref id lo n) => .use [id] fun
    | [o] => some (.wr id { o with es := o.es.take lo ++ List.replicate n tie.zeros ++ o.es.drop (lo + n) } (.tup []), lo + n ≤ o.es.length ∧ o.k = tie.size)
    | _ => none
  | _ => .fail
/-- A copy into a live slice. -/
def planCopy (tie : TI) (x y : AVal) : Plan := match srcEs y with
  | none => .fail
  | some (ids, src) => match x with
    | .c (.ref id lo n) => .use (id :: ids) fun
      | o :: os => match src os with
        | some es => some (.wr id { o with es := o.es.take lo ++ es.take n ++ o.es.drop (lo + min es.length n) } (.c (.sc (.int .i64 ((min es.length n : Nat) : Int)))), lo + n ≤ o.es.length ∧ o.k = tie.size ∧ ∀ e ∈ es, e.length = tie.size)
        | none => none
      | [] => none
    | .c (.row _ _ []) => .use ids fun
      | os => match src os with
        | some es => some (.val (.c (.sc (.int .i64 0))), ∀ e ∈ es, e.length = tie.size)
        | none => none
    | _ => .fail
def numOf (ρ : Operand → AVal) : Option Operand → Option (Option Int)
  | none => some none
  | some x => match ρ x with
    | .c (.sc (.int _ n)) => some (some n)
    | _ => none
/-- The first elements of a tight row: a slice whose capacity is known. -/
def cutS (t : Bool) (l h m : Option Int) : Bool := t && l.isNone && h.isSome && m.isNone
def planSlice (ti tie : TI) (ρ : Operand → AVal) (x : AVal) (lo hi mx : Option Operand) : Plan :=
  match ti.d, numOf ρ lo, numOf ρ hi, numOf ρ mx with
  | .slice _, some l, some h, some m => match x with
    | .c (.row k t es) => if cutS t l h m = true then .now (.val (.cut k es.length (es.take (h.getD 0).toNat))) (0 ≤ h.getD 0 ∧ h.getD 0 ≤ es.length ∧ k = tie.size) else match m with
      | none => .now (.val (.c (.row k false ((es.take (h.getD es.length).toNat).drop (l.getD 0).toNat)))) (0 ≤ l.getD 0 ∧ l.getD 0 ≤ h.getD es.length ∧ h.getD es.length ≤ es.length ∧ k = tie.size)
      | some m => .now (.val (.c (.row k true ((es.take m.toNat).drop (l.getD 0).toNat)))) (0 ≤ l.getD 0 ∧ l.getD 0 ≤ m ∧ h = some m ∧ m ≤ es.length ∧ k = tie.size)
    | .c (.ref id i n) => match m with
      | none => match l with
        | none => .use [id] fun
          | [o] => some (.val (.c (.ref id i (h.getD n).toNat)), 0 ≤ h.getD n ∧ i + (h.getD n).toNat ≤ o.es.length ∧ o.k = tie.size)
          | _ => none
        | some l => if l < h.getD n then .use [id] (fun
          | [o] => some (.val (.c (.ref id (i + l.toNat) ((h.getD n).toNat - l.toNat))), 0 ≤ l ∧ i + (h.getD n).toNat ≤ o.es.length ∧ o.k = tie.size)
          | _ => none) else .use [id] (fun
          | [o] => some (.val (.c (.row tie.size false [])), 0 ≤ l ∧ l = h.getD n ∧ i + (h.getD n).toNat ≤ o.es.length)
          | _ => none)
      | some m => .use [id] fun
        | [o] => some (.val (.c .any), 0 ≤ l.getD 0 ∧ l.getD 0 ≤ h.getD n ∧ h.getD n ≤ m ∧ i + m.toNat ≤ o.es.length ∧ h.isSome = true)
        | _ => none
    | .c (.sc (.slice none 0 0)) => match m with
      | none => .now (.val (.c (.sc (.slice none 0 0)))) (l.getD 0 = 0 ∧ h.getD 0 = 0)
      | some _ => .fail
    | _ => .fail
  | .string, some l, some h, some none => match x with
    | .c (.sc (.string s)) => .now (.val (.c (.sc (.string (s.extract (l.getD 0).toNat (h.getD s.size).toNat))))) (0 ≤ l.getD 0 ∧ l.getD 0 ≤ h.getD s.size ∧ h.getD s.size ≤ s.size)
    | _ => .fail
  | _, _, _, _ => .fail
def avs (ρ : Operand → AVal) : List Operand → List AVal
  | [] => []
  | x :: xs => ρ x :: avs ρ xs
def frozenV : AVal → Bool
  | .any => true
  | .c x => frozenC x
  | .agg cs => cs.all frozenC
  | .tup _ => false
  | .cut _ _ _ => false
def isCallOp : Op → Bool
  | .call _ => true
  | _ => false
/-- The plan of an operation. -/
def planOp (T : TyEnv) (ρ : Operand → AVal) : Op → Plan
  | .move x => .val (ρ x)
  | .assign x => .val (ρ x)
  | .pick c a b => planPick (ρ c) (ρ a) (ρ b)
  | .alloc t => match look t T with
    | some ti => planNew ti.zeros
    | none => .fail
  | .box t x => match cellsOf (ρ x) with
    | some cs => planNew cs
    | none => .fail
  | .build t ps => match look t T with
    | some ti => planBuild T ti ρ ps.toList
    | none => .fail
  | .buildSlice t len ps => match look t T with
    | some ti => match ti.d with
      | .slice el => match look el T with
        | some tie => planBuildS tie len ρ ps.toList
        | none => .fail
      | _ => .fail
    | none => .fail
  | .load t a => match look t T with
    | some ti => planLoad ti (ρ a)
    | none => .fail
  | .store t a x => match look t T with
    | some ti => planStore ti (ρ a) (ρ x)
    | none => .fail
  | .nilCheck x => planNil (ρ x)
  | .binOp op t x y _ => match look t T with
    | some ti => planBin T ti op (ρ x) (ρ y)
    | none => .fail
  | .unOp op _ x => planUn op (ρ x)
  | .convert s t x => match look s T, look t T with
    | some tis, some ti => planConv T tis ti (ρ x)
    | _, _ => .fail
  | .slice t x lo hi mx => match look t T with
    | some ti => match ti.d with
      | .slice el => match look el T with
        | some tie => planSlice ti tie ρ (ρ x) lo hi mx
        | none => .fail
      | .string => planSlice ti ti ρ (ρ x) lo hi mx
      | _ => .fail
    | none => .fail
  | .fieldAddr t x f => match look t T with
    | some ti => planFieldAddr T ti f (ρ x)
    | none => .fail
  | .indexAddr t x ix => match look t T with
    | some ti => match ti.d with
      | .slice el => match look el T with
        | some tie => planIndexAddr ti tie (ρ x) (ρ ix)
        | none => .fail
      | .array _ el => match look el T with
        | some tie => planIndexAddr ti tie (ρ x) (ρ ix)
        | none => .fail
      | _ => .fail
    | none => .fail
  | .extract x i => planExtract i (ρ x)
  | .makeFunc fn first captured => planMakeFunc ρ fn first.toList captured.toList
  | .field t x f => match look t T with
    | some ti => planField T ti f (ρ x)
    | none => .fail
  | .makeSlice t l c => match look t T with
    | some ti => match ti.d with
      | .slice el => match look el T with
        | some tie => planMakeSlice tie (ρ l) (ρ c)
        | none => .fail
      | _ => .fail
    | none => .fail
  | .call c => match c.callee with
    | .builtin .len => match c.args.toList, c.argTypes.toList with
      | [x], [t] => match look t T with
        | some ti => planLen ti (ρ x)
        | none => .fail
      | _, _ => .fail
    | .builtin .cap => match c.args.toList, c.argTypes.toList with
      | [x], [t] => match look t T with
        | some ti => match ti.d with
          | .slice _ => planCap (ρ x)
          | _ => .fail
        | none => .fail
      | _, _ => .fail
    | .builtin .append => match c.args.toList, c.argTypes.toList with
      | [s, x], [t, tx] => match look t T, look tx T with
        | some ti, some tix => match ti.d, tix.d with
          | .slice el, .slice _ => match look el T with
            | some tie => planAppend tie (ρ s) (ρ x)
            | none => .fail
          | .slice el, .int _ => match look el T with
            | some tie => planGrow tie (ρ s) (ρ x)
            | none => .fail
          | .slice el, .string => match look el T with
            | some tie => if tie.size = 1 then planAppendS tie (ρ s) (ρ x) else .fail
            | none => .fail
          | _, _ => .fail
        | _, _ => .fail
      | _, _ => .fail
    | .builtin .min => match c.args.toList with
      | [x, y] => planMin (ρ x) (ρ y)
      | _ => .fail
    | .builtin .max => match c.args.toList with
      | [x, y] => planMax (ρ x) (ρ y)
      | _ => .fail
    | .builtin .clear => match c.args.toList, c.argTypes.toList with
      | [x], [t] => match look t T with
        | some ti => match ti.d with
          | .slice el => match look el T with
            | some tie => planClear tie (ρ x)
            | none => .fail
          | _ => .fail
        | none => .fail
      | _, _ => .fail
    | .builtin .copy => match c.args.toList, c.argTypes.toList with
      | [s, x], [t, tx] => match look t T, look tx T with
        | some ti, some tix => match ti.d, tix.d with
          | .slice el, .slice _ => match look el T with
            | some tie => planCopy tie (ρ s) (ρ x)
            | none => .fail
          | _, _ => .fail
        | _, _ => .fail
      | _, _ => .fail
    | .value f => match ρ f with
      | .c (.sc (.func (.func g) first caps)) => if caps.size = 0 ∧ first.all (·.oneCell') = true then .now (.call g (first.toList.map (fun v => .c (.sc v)) ++ avs ρ c.args.toList)) True else .fail
      | .c (.fn g caps) => .now (.call g (avs ρ c.args.toList ++ caps.map .c)) True
      | _ => .fail
    | _ => .fail
  | _ => .fail
end Go.Proofs.YtphlhadgcfndhaaGreat.Abs
