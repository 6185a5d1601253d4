/-
  The evaluator itself: plans, instructions, runs. By an AI agent.
-/
import Derived.Test.YtjlkbflcdagcbaaGreatDoorEA
namespace Go.Eng
noncomputable section
inductive Ex where | normal | exit (id : Nat) | ret
inductive LSt where | ready | busy | done | exhausted
inductive Blk where
  | cells (vs : T AV) (n : Nat) (grow : Bool)
  | map (es : List (AV × AV × Nat)) (clock : Nat)
  | iter (m : Option Ps) (since : Nat) (seen : List Nat) (stepped : Nat)
  | loop (st : LSt) (pend : Option Ex) (fn : FuncId) (loc : E) (params : List Nat) (assign body : Code) (defers : Ps)
  | dfr (taken : Bool)
structure H where
  tr : T Blk
  next : Ps
inductive Dfr where | call (g : AV) (vs : List AV) | mark (b : Ps)
structure Fr where
  loc : E
  defers : List Dfr
inductive RV where | no | ok (v : AV) (h : H)
inductive RC where | no | ok (x : Ex) (f : Fr) (h : H)

def H.get (h : H) (b : Ps) : Option Blk := T.get h.tr b
def H.put (h : H) (b : Ps) (x : Blk) : H := ⟨T.put b (some x) h.tr, h.next⟩
def H.del (h : H) (b : Ps) : H := ⟨T.put b none h.tr, h.next⟩
def H.add (h : H) (x : Blk) : H := ⟨T.put h.next (some x) h.tr, h.next.inc⟩

def bytesOf (s : ByteArray) : List Nat := s.data.toList.map (·.toNat)
def ofConst : Value → Option AV
  | .bool b => some (.bool b)
  | .int k n => some (.int k n)
  | .string s => some (.str (bytesOf s))
  | .pointer none => some .ptr0
  | .slice none 0 0 => some .sl0
  | .map none => some .map0
  | .nilFunc => some .fn0
  | .nilIface => some .iface0
  | _ => none
def ofCells : List Value → Option (List AV)
  | [] => some []
  | v :: vs => match ofConst v with
    | none => none
    | some a => match ofCells vs with
      | none => none
      | some as => some (a :: as)

section
variable (P : Program)
def tinfo (t : TypeId) : Option TypeInfo := nthL P.types.toList t
def und (t : TypeId) : Option TypeDesc :=
  match tinfo P t with
  | none => none
  | some i => match i.desc with
    | .named _ u => (match tinfo P u with | none => none | some j => some j.desc)
    | d => some d
def tsize (t : TypeId) : Option Nat := match tinfo P t with | none => none | some i => some i.size
def isA (t : TypeId) : Option Bool := match und P t with
  | none => none
  | some d => match d with | .struct _ => some true | .array _ _ => some true | _ => some false
def zeroC (t : TypeId) : Option (List AV) := match tinfo P t with
  | none => none
  | some i => match i.zero with
    | none => none
    | some v => ofCells v.cells.toList
def fld (t : TypeId) (f : Nat) : Option (Nat × Nat × TypeId) := match und P t with
  | some (.struct fs) => match nthL fs.toList f with
    | none => none
    | some x => match tsize P x.type with
      | none => none
      | some s => some (x.offset, s, x.type)
  | _ => none
end

/-! ### numbers -/
def ikN (k : IntKind) : Nat := match k with | .i8 => 0 | .i16 => 1 | .i32 => 2 | .i64 => 3 | .u8 => 4 | .u16 => 5 | .u32 => 6 | .u64 => 7
def ikEq (j k : IntKind) : Bool := Nat.beq (ikN j) (ikN k)
def hi (k : IntKind) : Nat := match k with | .i8 => 128 | .i16 => 32768 | .i32 => 2147483648 | .i64 => 9223372036854775808 | .u8 => 256 | .u16 => 65536 | .u32 => 4294967296 | .u64 => 18446744073709551616
def lo (k : IntKind) : Nat := match k with | .i8 => 128 | .i16 => 32768 | .i32 => 2147483648 | .i64 => 9223372036854775808 | _ => 0
def fitsI (k : IntKind) (n : Int) : Bool := match n with | .ofNat m => Nat.blt m (hi k) | .negSucc m => Nat.blt m (lo k)
def wrapI (k : IntKind) (n : Int) : Int := match fitsI k n with | true => n | false => k.wrap n
def mkInt (k : IntKind) (n : Int) : Option AV := fI (wrapI k n) fun n => some (.int k n)
def ilt (a b : Int) : Bool := match a with
  | .ofNat x => (match b with | .ofNat y => Nat.blt x y | .negSucc _ => false)
  | .negSucc x => (match b with | .ofNat _ => true | .negSucc y => Nat.blt y x)
def ieq (a b : Int) : Bool := match a with
  | .ofNat x => (match b with | .ofNat y => Nat.beq x y | .negSucc _ => false)
  | .negSucc x => (match b with | .ofNat _ => false | .negSucc y => Nat.beq x y)
def onI (f : IntKind → Int → Option AV) (x : AV) : Option AV := match x with
  | .int k n => f k n
  | _ => none
def ii (f : IntKind → Int → Int → Option AV) (x y : AV) : Option AV := onI (fun k a => onI (fun j b => match ikEq k j with | true => f k a b | false => none) y) x
def mkB (b : Bool) : Option AV := some (.bool b)
def subI (x y : AV) : Option AV := ii (fun k a b => mkInt k (a - b)) x y
def mulI (x y : AV) : Option AV := ii (fun k a b => mkInt k (a * b)) x y
def quoI (x y : AV) : Option AV := ii (fun k a b => match ieq b 0 with | true => none | false => mkInt k (a.tdiv b)) x y
def remI (x y : AV) : Option AV := ii (fun k a b => match a with
  | .ofNat a => (match b with
    | .ofNat (b + 1) => fN (a % (b + 1)) fun n => some (.int k (.ofNat n))
    | _ => none)
  | _ => none) x y
def lssI (x y : AV) : Option AV := ii (fun _ a b => mkB (ilt a b)) x y
def gtrI (x y : AV) : Option AV := ii (fun _ a b => mkB (ilt b a)) x y
def leqI (x y : AV) : Option AV := ii (fun _ a b => mkB (!ilt b a)) x y
def geqI (x y : AV) : Option AV := ii (fun _ a b => mkB (!ilt a b)) x y
/-- bits, of numbers that have no sign -/
def nn (f : Nat → Nat → Nat) (x y : AV) : Option AV := ii (fun k a b => match k with
  | .i8 => none | .i16 => none | .i32 => none | .i64 => none
  | _ => (match a with
    | .ofNat a => (match b with
      | .ofNat b => (match Nat.blt a (hi k) with
        | true => (match Nat.blt b (hi k) with | true => fN (f a b) fun n => some (.int k (.ofNat n)) | false => none)
        | false => none)
      | _ => none)
    | _ => none)) x y
def andI (x y : AV) : Option AV := nn (fun a b => a &&& b) x y
def orI (x y : AV) : Option AV := nn (fun a b => a ||| b) x y
def addS (a b : List Nat) : Option AV := match Nat.ble (lenL a + lenL b) lim with | true => fL (a ++ b) fun s => some (.str s) | false => none
def addA (x y : AV) : Option AV := match x with
  | .str a => (match y with | .str b => addS a b | _ => none)
  | x => ii (fun k a b => mkInt k (a + b)) x y
def is64 (k : IntKind) : Bool := match k with | .i64 => true | .u64 => true | _ => false
def shlF (k : IntKind) (a : Int) (s : Nat) : Option AV := match is64 k with
  | true => (match Nat.blt s 64 with | true => mkInt k (a * (Nat.pow 2 s : Nat)) | false => some (.int k 0))
  | false => none
def shlI (x y : AV) : Option AV := onI (fun k a => onI (fun _ s => match s with
  | .ofNat s => shlF k a s
  | _ => none) y) x
def shrI (x y : AV) : Option AV := onI (fun k a => onI (fun _ s => match s with
  | .ofNat s => (match a with
    | .ofNat a => (match is64 k with
      | true => (match Nat.blt s 64 with | true => fN (a / Nat.pow 2 s) fun n => some (.int k (.ofNat n)) | false => none)
      | false => none)
    | _ => none)
  | _ => none) y) x
/-- '==', by the type -/
abbrev EqF := AV → AV → Option Bool
def eqB : EqF := fun x y => match x with
  | .bool a => (match y with | .bool b => some (match a with | true => b | false => !b) | _ => none)
  | _ => none
def eqI : EqF := fun x y => match x with
  | .int j a => (match y with | .int k b => (match ikEq j k with | true => some (ieq a b) | false => none) | _ => none)
  | _ => none
def eqS : EqF := fun x y => match x with
  | .str a => (match y with | .str b => some (leq a b) | _ => none)
  | _ => none
def eqP : EqF := fun x y => match x with
  | .ptr0 => (match y with | .ptr0 => some true | .ptr _ _ => some false | _ => none)
  | .ptr _ _ => (match y with | .ptr0 => some false | _ => none)
  | _ => none
def eqSl : EqF := fun x y => match x with
  | .sl0 => (match y with | .sl0 => some true | .sl _ _ _ _ _ => some false | _ => none)
  | .sl _ _ _ _ _ => (match y with | .sl0 => some false | _ => none)
  | _ => none
def eqFn : EqF := fun x y => match x with
  | .fn0 => (match y with | .fn0 => some true | .fn _ _ _ => some false | _ => none)
  | .fn _ _ _ => (match y with | .fn0 => some false | _ => none)
  | _ => none
def eqIf : EqF := fun x y => match x with
  | .iface0 => (match y with | .iface0 => some true | .iface _ _ => some false | _ => none)
  | .iface _ _ => (match y with | .iface0 => some false | _ => none)
  | _ => none
def eqFs : List EqF → List AV → List AV → Option Bool
  | [], [], [] => some true
  | f :: fs, x :: a, y :: b => (match f x y with
    | none => none
    | some false => some false
    | some true => eqFs fs a b)
  | _, _, _ => none
def eqAg (fs : List EqF) : EqF := fun x y => match x with
  | .agg a => (match y with | .agg b => eqFs fs a b | _ => none)
  | _ => none
def eqlA (e : EqF) (x y : AV) : Option AV := match e x y with | none => none | some b => mkB b
def neqA (e : EqF) (x y : AV) : Option AV := match e x y with | none => none | some b => mkB (!b)
def binF (op : BinOp) : Option (AV → AV → Option AV) := match op with
  | .add => some addA | .sub => some subI | .mul => some mulI | .quo => some quoI | .rem => some remI
  | .lss => some lssI | .gtr => some gtrI | .leq => some leqI | .geq => some geqI
  | .and => some andI | .or => some orI 
  | .shl => some shlI | .shr => some shrI
  | _ => none
def unF (op : UnOp) : Option (AV → Option AV) := match op with
  | .not => some fun x => match x with | .bool b => mkB (!b) | _ => none
  | _ => none

/-! ### memory -/
def nilC (x : AV) : Option AV := match x with
  | .ptr b o => some (.ptr b o)
  | _ => none
def faddr (off : Nat) (x : AV) : Option AV := match x with
  | .ptr b o => fN (o + off) fun o => some (.ptr b o)
  | _ => none
def onCells (x : Option Blk) (f : T AV → Nat → Option AV) : Option AV := match x with
  | some (.cells vs m _) => f vs m
  | _ => none
def isPtr (f : Ps → Nat → Option AV) (x : AV) : Option AV := match x with | .ptr b o => f b o | _ => none
def load1 (h : H) (x : AV) : Option AV := isPtr (fun b o => onCells (h.get b) fun vs m => match Nat.blt o m with | true => T.get vs (ps o) | false => none) x
def loadN (n : Nat) (h : H) (x : AV) : Option AV := isPtr (fun b o => onCells (h.get b) fun vs m => match Nat.ble (o + n) m with
  | true => (match takeC vs n o with | none => none | some cs => some (.agg cs))
  | false => none) x
/-- the cells of a value: each is one that may lie in a cell -/
def cellsK (v : AV) : Option (List AV) := match v with
  | .agg cs => (match okC cs with | true => some cs | false => none)
  | .undef => none
  | .tup _ => none
  | v => some [v]
def stO (n : Nat) (h : H) (b : Ps) (o : Nat) (cs : Option (List AV)) (x : Option Blk) : RV := match cs with
  | none => .no
  | some cs => (match x with
    | some (.cells c m g) => (match Nat.ble (o + n) m with
      | true => (match Nat.beq (lenL cs) n with | true => .ok (.tup []) (h.put b (.cells (fill cs o c) m g)) | false => .no)
      | false => .no)
    | _ => .no)
def storeR (n : Nat) (h : H) (xs : List AV) : RV := match xs with
  | [.ptr b o, v] => stO n h b o (cellsK v) (h.get b)
  | _ => .no
def oneV (h : H) (g : Bool) (vs : List AV) (mk : Ps → AV) : RV := match Nat.ble (lenL vs) lim with
  | true => .ok (mk h.next) (h.add (.cells (fill vs 0 .leaf) (lenL vs) g))
  | false => .no
def boxO (h : H) (cs : Option (List AV)) : RV := match cs with
  | some cs => oneV h false cs (fun b => .ptr b 0)
  | none => .no
def boxR (h : H) (xs : List AV) : RV := match xs with
  | [v] => boxO h (cellsK v)
  | _ => .no
def allocR (z : List AV) (h : H) (_ : List AV) : RV := oneV h false z (fun b => .ptr b 0)
def setL : List AV → Nat → List AV → List AV
  | cs, _, [] => cs
  | [], _, _ => []
  | _ :: cs, 0, v :: vs => v :: setL cs 0 vs
  | c :: cs, o + 1, vs => c :: setL cs o vs
/-- parts into cells: each with its place and its size -/
def buildL : List (Nat × Nat) → List AV → List AV → Option (List AV)
  | [], [], cs => some cs
  | (o, s) :: os, v :: vs, cs => (match cellsK v with
    | some l => (match Nat.beq (lenL l) s with | true => buildL os vs (setL cs o l) | false => none)
    | none => none)
  | _, _, _ => none
def buildV (os : List (Nat × Nat)) (z xs : List AV) : Option AV := match buildL os xs z with | some cs => some (.agg cs) | none => none
def buildF (os : List (Nat × Nat)) (z : List AV) (h : H) (xs : List AV) : RV := match buildV os z xs with | none => .no | some v => .ok v h
def buildSl (os : List (Nat × Nat)) (z : List AV) (es n : Nat) (h : H) (xs : List AV) : RV := match buildL os xs z with | some cs => oneV h false cs (fun b => .sl b 0 es n none) | none => .no
def idx (es : Nat) (x i : AV) : Option AV := match x with
  | .sl b o _ n _ => (match i with
    | .int _ (.ofNat i) => (match Nat.blt i n with | true => fN (o + i * es) fun o => some (.ptr b o) | false => none)
    | _ => none)
  | _ => none
def idxArr (n es : Nat) (x i : AV) : Option AV := match x with
  | .ptr b o => (match i with
    | .int _ (.ofNat i) => (match Nat.blt i n with | true => fN (o + i * es) fun o => some (.ptr b o) | false => none)
    | _ => none)
  | _ => none
def idxS (x i : AV) : Option AV := match x with
  | .str s => (match i with
    | .int _ (.ofNat i) => (match nthL s i with | some c => some (.int .u8 (.ofNat c)) | none => none)
    | _ => none)
  | _ => none
def extr (i : Nat) (x : AV) : Option AV := match x with | .tup vs => nthL vs i | _ => none
def fieldF (o : Nat) (x : AV) : Option AV := match x with
  | .agg cs => nthL cs o
  | _ => none
def lenS (_ : H) (x : AV) : Option AV := match x with
  | .str s => fN (lenL s) fun n => some (.int .i64 (.ofNat n))
  | _ => none
def lenSl (_ : H) (x : AV) : Option AV := match x with
  | .sl0 => some (.int .i64 0)
  | .sl _ _ _ n _ => some (.int .i64 (.ofNat n))
  | _ => none
def capF (x : AV) : Option AV := match x with
  | .sl0 => some (.int .i64 0)
  | .sl _ _ _ _ (some c) => some (.int .i64 (.ofNat c))
  | _ => none
/-- known room of a slice: elements that are there from its begin on -/
def roomOf (h : H) (b : Ps) (o es : Nat) (c : Option Nat) : Nat := match c with
  | some c => c
  | none => (match h.get b with
    | some (.cells _ m _) => (m - o) / es
    | _ => 0)
def natO : Option AV → Option (Option Nat)
  | none => some none
  | some (.int _ (.ofNat n)) => some (some n)
  | _ => none
def dfl (o : Option Nat) (d : Nat) : Nat := match o with | some n => n | none => d
def slMk (h : H) (b : Ps) (o es : Nat) (c : Option Nat) (l r : Nat) : Option AV := match c with
  | some c => (match Nat.beq c l with
    | true => some (.sl b o es (r - l) (some (c - l)))
    | false => fN (o + l * es) fun o => fN (r - l) fun n => some (.sl b o es n (some (c - l))))
  | none => (match Nat.beq l 0 with
    | true => fN r fun n => some (.sl b o es n none)
    | false => (match Nat.blt l (roomOf h b o es none) with
      | true => fN (o + l * es) fun o => fN (r - l) fun n => some (.sl b o es n none)
      | false => none))
def slSl (h : H) (b : Ps) (o es n : Nat) (c : Option Nat) (l : Nat) (r : Option Nat) : Option AV :=
  match Nat.ble l (dfl r n) with
  | false => none
  | true => (match Nat.ble (dfl r n) (roomOf h b o es c) with
    | false => none
    | true => slMk h b o es c l (dfl r n))
def slStr (s : List Nat) (l : Nat) (r : Option Nat) : Option AV := match r with
  | none => (match Nat.ble l (lenL s) with | true => fL (dropN s l) fun s => some (.str s) | false => none)
  | some r => (match Nat.ble l r with
    | false => none
    | true => (match Nat.ble r (lenL s) with | true => fL (takeN (dropN s l) (r - l)) fun s => some (.str s) | false => none))
def sliceV (es : Nat) (h : H) (x : AV) (lo hi : Option Nat) : Option AV := match es with
  | 0 => (match x with
    | .str s => slStr s (dfl lo 0) hi
    | _ => none)
  | es + 1 => (match x with
    | .sl0 => (match dfl lo 0, dfl hi 0 with | 0, 0 => some .sl0 | _, _ => none)
    | .sl b o es' n c => (match Nat.beq (es + 1) es' with | true => slSl h b o (es + 1) n c (dfl lo 0) hi | false => none)
    | _ => none)
def sliceB (a b : Bool) (xs : List AV) : Option (AV × Option AV × Option AV) := match xs with
  | x :: xs => (match a, b, xs with
    | false, false, [] => some (x, none, none)
    | true, false, [l] => some (x, some l, none)
    | false, true, [r] => some (x, none, some r)
    | true, true, [l, r] => some (x, some l, some r)
    | _, _, _ => none)
  | _ => none
def sliceR (es : Nat) (a b : Bool) (h : H) (xs : List AV) : RV := match sliceB a b xs with
  | none => .no
  | some (x, l, r) => (match natO l, natO r with
    | some l, some r => (match sliceV es h x l r with | some v => .ok v h | none => .no)
    | _, _ => .no)
def byteAVs : List Nat → List AV
  | [] => []
  | x :: l => .int .u8 (.ofNat x) :: byteAVs l
def srcC (h : H) (es : Nat) : AV → Option (Nat × List AV)
  | .sl0 => some (0, [])
  | .sl b o _ n _ => (match h.get b with
    | some (.cells vs m _) => (match Nat.ble (o + n * es) m with
      | true => (match takeC vs (n * es) o with | none => none | some cs => (match okC cs with | true => some (n, cs) | false => none))
      | false => none)
    | _ => none)
  | _ => none
/-- no more than this is asked for -/
def need : Nat := 1073741824
def appNew (h : H) (es n : Nat) (cs : List AV) : RV := match Nat.ble (n * es) lim with
  | true => (match Nat.ble n need with
    | true => fN n fun n => .ok (.sl h.next 0 es n none) (h.add (.cells (fill cs 0 .leaf) (n * es) true))
    | false => .no)
  | false => .no
def appMv (h : H) (b : Ps) (g : Bool) (es n : Nat) (cs : List AV) : RV := match g with
  | true => appNew (h.del b) es n cs
  | false => appNew h es n cs
def grows (g : Bool) (c : Option Nat) : Bool := match c with | none => g | some _ => false
def appTo (h : H) (es : Nat) (s : AV) (n : Nat) (cs : List AV) : RV := match s with
  | .sl0 => (match n with
    | 0 => .ok .sl0 h
    | n + 1 => appNew h es (n + 1) cs)
  | .sl b o es' len c => (match Nat.beq es es' with
    | false => .no
    | true => (match h.get b with
      | some (.cells vs m g) => (match Nat.ble (len + n) (roomOf h b o es c) with
        | true => (match Nat.ble (o + (len + n) * es) m with
          | true => fN (len + n) fun len' => .ok (.sl b o es len' c) (h.put b (.cells (fill cs (o + len * es) vs) m g))
          | false => .no)
        | false => (match Nat.ble (o + len * es) m with
          | false => .no
          | true => (match takeC vs (len * es) o with
            | none => .no
            | some old => appMv h b (grows g c) es (len + n) (old ++ cs))))
      | _ => .no))
  | _ => .no
def appR (es : Nat) (h : H) (xs : List AV) : RV := match xs with
  | [s, x] => (match srcC h es x with | none => .no | some (n, cs) => appTo h es s n cs)
  | _ => .no
def repZ (z : List AV) : Nat → List AV
  | 0 => [] | n + 1 => z ++ repZ z n
def appZ (es : Nat) (z : List AV) (h : H) (xs : List AV) : RV := match xs with
  | [s, .int _ (.ofNat n)] => (match Nat.ble n need with | true => appTo h es s n (repZ z n) | false => .no)
  | _ => .no
def copyR (es : Nat) (h : H) (xs : List AV) : RV := match xs with
  | [.sl b o _ n _, x] => (match srcC h es x with
    | none => .no
    | some (m, cs) => (match h.get b with
      | some (.cells vs z g) => (match Nat.ble m n with
        | true => (match Nat.ble (o + m * es) z with
          | true => .ok (.int .i64 (.ofNat m)) (h.put b (.cells (fill cs o vs) z g))
          | false => .no)
        | false => .no)
      | _ => .no))
  | _ => .no
def mkSlR (es : Nat) (z : List AV) (h : H) (xs : List AV) : RV := match xs with
  | [.int .i64 (.ofNat l), .int .i64 (.ofNat c)] => (match Nat.ble l c with
    | true => (match Nat.ble (c * es) lim with
      | true => (match Nat.ble c need with
        | true => oneV h false (repZ z c) (fun b => .sl b 0 es l none)
        | false => .no)
      | false => .no)
    | false => .no)
  | _ => .no
def mmI (f : Int → Int → Bool) (k : IntKind) : Int → List AV → Option AV
  | n, [] => some (.int k n)
  | n, .int j m :: l => (match ikEq k j with | true => mmI f k (match f m n with | true => m | false => n) l | false => none)
  | _, _ => none
def mm (f : Int → Int → Bool) (l : List AV) : Option AV := match l with
  | .int k n :: l => mmI f k n l
  | _ => none
def mmR (f : Int → Int → Bool) (h : H) (xs : List AV) : RV := match mm f xs with | none => .no | some v => .ok v h
/-- maps -/
def findK (e : EqF) (k : AV) : List (AV × AV × Nat) → Option (Option (AV × Nat))
  | [] => some none
  | (a, v, s) :: es => (match e k a with
    | none => none
    | some true => some (some (v, s))
    | some false => findK e k es)
def setK (e : EqF) (k v : AV) (c : Nat) : List (AV × AV × Nat) → Option (List (AV × AV × Nat) × Bool)
  | [] => some ([(k, v, c)], true)
  | (a, w, s) :: es => (match e k a with
    | none => none
    | some true => some ((k, v, s) :: es, false)
    | some false => (match setK e k v c es with
      | none => none
      | some (es, b) => some ((a, w, s) :: es, b)))
def mapOf (h : H) : AV → Option (List (AV × AV × Nat))
  | .map0 => some []
  | .map b => (match h.get b with | some (.map es _) => some es | _ => none)
  | _ => none
def lookV (ok : Bool) (z : AV) (r : Option (Option (AV × Nat))) : Option AV := match r with
  | none => none
  | some (some (v, _)) => some (match ok with | true => .tup [v, .bool true] | false => v)
  | some none => some (match ok with | true => .tup [z, .bool false] | false => z)
def lookF (e : EqF) (ok : Bool) (z : AV) (h : H) (x k : AV) : Option AV := match e k k with
  | none => none
  | some _ => (match mapOf h x with
    | none => none
    | some es => lookV ok z (findK e k es))
def updR (e : EqF) (h : H) (xs : List AV) : RV := match xs with
  | [.map b, k, v] => (match e k k with
    | none => .no
    | some _ => (match h.get b with
      | some (.map es c) => (match setK e k v c es with
        | none => .no
        | some (es, fresh) => .ok (.tup []) (h.put b (.map es (match fresh with | true => c + 1 | false => c))))
      | _ => .no))
  | _ => .no
def newMap (h : H) (_ : List AV) : RV := .ok (.map h.next) (h.add (.map [] 0))
def rangeR (h : H) (xs : List AV) : RV := match xs with
  | [.map b] => (match h.get b with
    | some (.map _ c) => .ok (.ptr h.next 0) (h.add (.iter (some b) c [] c))
    | _ => .no)
  | [.map0] => .ok (.ptr h.next 0) (h.add (.iter none 0 [] 0))
  | _ => .no
def memN (n : Nat) : List Nat → Bool
  | [] => false
  | x :: l => (match Nat.beq x n with | true => true | false => memN n l)
def leftM (seen : List Nat) : List (AV × AV × Nat) → List (AV × AV × Nat)
  | [] => []
  | (k, v, s) :: es => (match memN s seen with | true => leftM seen es | false => (k, v, s) :: leftM seen es)
def belowM (st : Nat) : List (AV × AV × Nat) → Bool
  | [] => false
  | (_, _, s) :: es => (match Nat.blt s st with | true => true | false => belowM st es)
/-- one more entry: at most one is left to give, and nothing was written since -/
def nextM (h : H) (i b : Ps) (since : Nat) (seen : List Nat) (c : Nat) (es : List (AV × AV × Nat)) : RV := match leftM seen es with
  | [] => .ok (.tup [.bool false]) h
  | [(k, v, s)] => (match Nat.blt s since with
    | true => .ok (.tup [.bool true, k, v]) (h.put i (.iter (some b) since (seen ++ [s]) c))
    | false => .no)
  | _ => .no
def okM (seen : List Nat) (st : Nat) (es : List (AV × AV × Nat)) : Bool := match seen with
  | [] => true
  | _ :: _ => (match es with | [] => true | _ :: _ => belowM st es)
def nextR (h : H) (xs : List AV) : RV := match xs with
  | [.ptr i 0] => (match h.get i with
    | some (.iter none _ _ _) => .ok (.tup [.bool false]) h
    | some (.iter (some b) since seen st) => (match h.get b with
      | some (.map es c) => (match okM seen st es with
        | true => nextM h i b since seen c es
        | false => .no)
      | _ => .no)
    | _ => .no)
  | _ => .no
def lastN : List Nat → Option Nat
  | [] => none
  | [x] => some x
  | _ :: l => lastN l
def lenM (h : H) (x : AV) : Option AV := match mapOf h x with
  | some es => fN (lenL es) fun n => some (.int .i64 (.ofNat n))
  | none => none
def findS (s : Nat) : List (AV × AV × Nat) → Option AV
  | [] => none
  | (k, v, t) :: es => (match Nat.beq t s with | true => some (.tup [k, v]) | false => findS s es)
def entryF (h : H) (x : AV) : Option AV := match x with
  | .ptr i 0 => (match h.get i with
    | some (.iter (some b) _ seen st) => (match h.get b with
      | some (.map es c) => (match Nat.beq c st with
        | true => (match lastN seen with | some s => findS s es | none => none)
        | false => none)
      | _ => none)
    | _ => none)
  | _ => none
def convI (k : IntKind) (x : AV) : Option AV := onI (fun _ n => mkInt k n) x
def strBytes (h : H) (xs : List AV) : RV := match xs with
  | [.str s] => (match Nat.ble (lenL s) lim with
    | true => .ok (.sl h.next 0 1 (lenL s) none) (h.add (.cells (fill (byteAVs s) 0 .leaf) (lenL s) true))
    | false => .no)
  | _ => .no
/-! ### the plan of a region -/
inductive Opd where | r (d : Nat) | l (d : Nat) | c (v : AV) | no
inductive Ins where
  | mv (d : Nat) (x : Opd)
  | f1 (d : Nat) (f : AV → Option AV) (x : Opd)
  | f2 (d : Nat) (f : AV → AV → Option AV) (x y : Opd)
  | g1 (d : Nat) (f : H → AV → Option AV) (x : Opd)
  | g2 (d : Nat) (f : H → AV → AV → Option AV) (x y : Opd)
  | pick (d : Nat) (c a b : Opd)
  | a1 (d : Nat) (f : H → List AV → RV) (xs : List Opd)
  | call (d : Nat) (g : Opd) (xs : List Opd)
  | inv (d : Nat) (x : Opd) (m : String) (xs : List Opd)
  | defer (d : Nat) (g : Opd) (xs : List Opd)
  | recover (d : Nat)
  | guard (x : Opd) (b : Bool) (d : Nat) (i : Ins)
  | chk (d : Nat) (i : Ins)
  | bad
inductive IC where
  | skip
  | ops (l : List Ins) (keep : List Nat)
  | seq (a b : IC)
  | cond (c : Opd) (a b : IC)
  | block (id : Nat) (a : IC)
  | loop (a : IC)
  | rf (g : Opd) (ps : List Nat) (a b : Code)
  | exit (id : Nat)
  | ret
  | bad

def opd (X defd : List Nat) : Operand → Opd
  | .tmp t => (match memN t defd with | true => .r t | false => (match memN t X with | true => .l t | false => .no))
  | .const v => (match ofConst v with | some a => .c a | none => .no)
  | .func f => .c (.fn f [] [])
  | .global _ => .no
def opds (X defd : List Nat) : List Operand → List Opd
  | [] => []
  | x :: xs => opd X defd x :: opds X defd xs
def fsts {α β : Type} : List (α × β) → List α
  | [] => [] | (a, _) :: l => a :: fsts l
def snds {α β : Type} : List (α × β) → List β
  | [] => [] | (_, a) :: l => a :: snds l
def opts : Option Operand → List Operand
  | none => [] | some x => [x]
def isSome' {α : Type} : Option α → Bool | some _ => true | none => false
section
variable (P : Program)
def fPlaces : List Field → Option (List (Nat × Nat))
  | [] => some []
  | f :: fs => match tsize P f.type, fPlaces fs with | some s, some r => some ((f.offset, s) :: r) | _, _ => none
def offsAt (ps : List (Nat × Nat)) : List Nat → Option (List (Nat × Nat))
  | [] => some []
  | i :: l => match nthL ps i, offsAt ps l with | some x, some r => some (x :: r) | _, _ => none
def fOffs (fs : List Field) (l : List Nat) : Option (List (Nat × Nat)) := match fPlaces P fs with | some ps => offsAt ps l | none => none
def aOffs (es : Nat) : List Nat → List (Nat × Nat)
  | [] => [] | i :: l => (i * es, es) :: aOffs es l
def slE (t : TypeId) : Option TypeId := match und P t with | some (.slice e) => some e | _ => none
def sizeE (t : TypeId) : Option Nat := match slE P t with | some e => tsize P e | none => none
/-- a zero value, if it is known here -/
def zeroA (t : TypeId) : Option AV := match tinfo P t with
  | none => none
  | some i => (match i.zero with
    | none => none
    | some v => (match v with
      | .agg cs => (match ofCells cs.toList with | some l => some (.agg l) | none => none)
      | v => ofConst v))
/-- '==' of plain cells -/
def eqPl (t : TypeId) : Option EqF := match und P t with
  | some .bool => some eqB | some (.int _) => some eqI | some .string => some eqS | _ => none
def plainFs : Nat → List Field → Option (List EqF)
  | _, [] => some []
  | i, f :: fs => (match f.name != "_" && Nat.beq f.offset i with
    | true => (match eqPl P f.type, plainFs (i + 1) fs with | some e, some es => some (e :: es) | _, _ => none)
    | false => none)
def eqKey (t : TypeId) : Option EqF := match und P t with
  | some .bool => some eqB | some (.int _) => some eqI | some .string => some eqS
  | some (.struct fs) => (match P.stoodInHeld t with
    | false => (match plainFs P 0 fs.toList with | some es => some (eqAg es) | none => none)
    | true => none)
  | _ => none
/-- is one of the operands the bare nil? (else two nils of an interface type with methods may meet) -/
def isC : Operand → Bool | .const _ => true | _ => false
def eqFor (t : TypeId) (x y : Operand) : Option EqF := match und P t with
  | some (.interface _) => (match isC x || isC y with | true => some eqIf | false => none)
  | some (.pointer _) => some eqP
  | some (.slice _) => some eqSl
  | some (.func _ _ _) => some eqFn
  | _ => eqKey P t
/-- lengths that fit -/
def offsOk (n : Nat) : List (Nat × Nat) → Bool
  | [] => true
  | (o, s) :: l => Nat.ble (o + s) n && offsOk n l
/-- an element's bytes are few -/
def smallB (t : TypeId) : Bool := match tinfo P t with | some i => Nat.ble i.bytes 65536 | none => false
def convP (d : Nat) (s t : TypeId) (x : Opd) : Ins := match und P s, und P t with
  | some (.int _), some (.int k) => .f1 d (convI k) x
  | some .string, some (.slice e) => (match und P e with | some (.int .u8) => (match smallB P e with | true => .a1 d strBytes [x] | false => .bad) | _ => .bad)
  | _, _ => .bad
def bld (d : Nat) (os : List (Nat × Nat)) (z : List AV) (xs : List Opd) : Ins := match offsOk (lenL z) os with
  | true => .a1 d (buildF os z) xs
  | false => .bad
def bldS (d : Nat) (os : List (Nat × Nat)) (z : List AV) (es n : Nat) (xs : List Opd) : Ins := match Nat.ble (n * es) lim with
  | true => (match Nat.beq (lenL z) es with
    | true => (match offsOk (n * es) os with
      | true => .a1 d (buildSl os (repZ z n) es n) xs
      | false => .bad)
    | false => .bad)
  | false => .bad
def updP (X dd : List Nat) (d : Nat) (t : TypeId) (m k v : Operand) : Ins := match und P t with
  | some (.map kt _) => (match eqKey P kt with | some eq => .a1 d (updR eq) [opd X dd m, opd X dd k, opd X dd v] | none => .bad)
  | _ => .bad
def mkIf (t : TypeId) : Bool := match und P t with | none => false | some (.interface _) => false | some _ => true
def lenT (t : TypeId) : Option (H → AV → Option AV) := match und P t with | some .string => some lenS | some (.slice _) => some lenSl | some (.map _ _) => some lenM | _ => none
def plan1 (X dd : List Nat) (d : Nat) (o : Op) : Ins := match o with
  | .move x => .mv d (opd X dd x)
  | .assign x => .mv d (opd X dd x)
  | .pick c a b => .pick d (opd X dd c) (opd X dd a) (opd X dd b)
  | .alloc t => (match zeroC P t with | some z => .a1 d (allocR z) [] | none => .bad)
  | .box _ x => .a1 d boxR [opd X dd x]
  | .build t ps => (match und P t, zeroC P t with
    | some (.struct fs), some z => (match fOffs P fs.toList (fsts ps.toList) with | some os => bld d os z (opds X dd (snds ps.toList)) | none => .bad)
    | some (.array _ e), some z => (match tsize P e with | some es => bld d (aOffs es (fsts ps.toList)) z (opds X dd (snds ps.toList)) | none => .bad)
    | _, _ => .bad)
  | .buildSlice t n ps => (match slE P t with
    | some e => (match tsize P e, zeroC P e with
      | some es, some z => bldS d (aOffs es (fsts ps.toList)) z es n (opds X dd (snds ps.toList))
      | _, _ => .bad)
    | none => .bad)
  | .load t a => (match isA P t with
    | some false => .g1 d load1 (opd X dd a)
    | some true => (match tsize P t with | some n => .g1 d (loadN n) (opd X dd a) | none => .bad)
    | none => .bad)
  | .store t a x => (match tsize P t with | some n => .a1 d (storeR n) [opd X dd a, opd X dd x] | none => .bad)
  | .nilCheck x => .f1 d nilC (opd X dd x)
  | .binOp op t x y _ => (match op with
    | .eql => (match eqFor P t x y with | some e => .f2 d (eqlA e) (opd X dd x) (opd X dd y) | none => .bad)
    | .neq => (match eqFor P t x y with | some e => .f2 d (neqA e) (opd X dd x) (opd X dd y) | none => .bad)
    | _ => (match binF op with
      | some f => .f2 d f (opd X dd x) (opd X dd y)
      | none => .bad))
  | .unOp op _ x => (match unF op with | some f => .f1 d f (opd X dd x) | none => .bad)
  | .convert s t x => convP P d s t (opd X dd x)
  | .makeInterface t x => (match mkIf P t with | true => .f1 d (fun v => some (.iface t v)) (opd X dd x) | false => .bad)
  | .makeFunc f a c => (match f with
    | .func f => (match a.toList with
      | [] => .a1 d (fun h xs => .ok (.fn f [] xs) h) (opds X dd c.toList)
      | [x] => (match c.toList with | [] => .a1 d (fun h xs => .ok (.fn f xs []) h) [opd X dd x] | _ => .bad)
      | _ => .bad)
    | _ => .bad)
  | .makeMap _ none => .a1 d newMap []
  | .makeSlice t l c => (match slE P t with
    | some e => (match tsize P e, zeroC P e, smallB P e with
      | some es, some z, true => (match Nat.beq (lenL z) es with | true => .a1 d (mkSlR es z) [opd X dd l, opd X dd c] | false => .bad)
      | _, _, _ => .bad)
    | none => .bad)
  | .slice t x lo hi mx => (match mx with
    | some _ => .bad
    | none => (match und P t with
      | some (.slice e) => (match tsize P e with | some (es + 1) => .a1 d (sliceR (es + 1) (isSome' lo) (isSome' hi)) (opds X dd (x :: (opts lo ++ opts hi))) | _ => .bad)
      | some .string => .a1 d (sliceR 0 (isSome' lo) (isSome' hi)) (opds X dd (x :: (opts lo ++ opts hi)))
      | _ => .bad))
  | .fieldAddr t x f => (match fld P t f with | some (off, _ + 1, _) => .f1 d (faddr off) (opd X dd x) | _ => .bad)
  | .field t x f => (match fld P t f with | some (off, _, ft) => (match isA P ft with | some false => .f1 d (fieldF off) (opd X dd x) | _ => .bad) | _ => .bad)
  | .indexAddr t x i => (match und P t with
    | some (.slice e) => (match tsize P e with | some es => .f2 d (idx es) (opd X dd x) (opd X dd i) | _ => .bad)
    | some (.array n e) => (match tsize P e with | some es => .f2 d (idxArr n es) (opd X dd x) (opd X dd i) | _ => .bad)
    | _ => .bad)
  | .index t x i => (match und P t with
    | some .string => .f2 d idxS (opd X dd x) (opd X dd i)
    | _ => .bad)
  | .lookup t x k ok => (match und P t with
    | some (.map kt e) => (match zeroA P e, eqKey P kt with | some z, some eq => .g2 d (lookF eq ok z) (opd X dd x) (opd X dd k) | _, _ => .bad)
    | _ => .bad)
  | .mapUpdate t m k v => updP P X dd d t m k v
  | .insert t m k v => updP P X dd d t m k v
  | .range t x => (match und P t with | some (.map _ _) => .a1 d rangeR [opd X dd x] | _ => .bad)
  | .next x false => .a1 d nextR [opd X dd x]
  | .entry x => .g1 d entryF (opd X dd x)
  | .extract x i => .f1 d (extr i) (opd X dd x)
  | .call c => (match c.callee with
    | .builtin .len => (match c.args.toList with | [x] => (match c.argTypes.toList with | [t] => (match lenT P t with | some f => .g1 d f (opd X dd x) | none => .bad) | _ => .bad) | _ => .bad)
    | .builtin .cap => (match c.args.toList with | [x] => (match c.argTypes.toList with | [t] => (match slE P t with | some _ => .f1 d capF (opd X dd x) | none => .bad) | _ => .bad) | _ => .bad)
    | .builtin .append => (match c.argTypes.toList with
      | [st, xt] => (match slE P st with
        | some e => (match tsize P e, zeroC P e, smallB P e with
          | some (es + 1), some z, true => (match und P xt with
            | some (.int .i64) => (match Nat.beq (lenL z) (es + 1), okC z with | true, true => .a1 d (appZ (es + 1) z) (opds X dd c.args.toList) | _, _ => .bad)
            | some (.slice _) => (match Nat.beq (lenL z) (es + 1) with | true => .a1 d (appR (es + 1)) (opds X dd c.args.toList) | false => .bad)
            | _ => .bad)
          | _, _, _ => .bad)
        | none => .bad)
      | _ => .bad)
    | .builtin .copy => (match c.argTypes.toList with
      | [st, xt] => (match sizeE P st, und P xt with | some es, some (.slice _) => .a1 d (copyR es) (opds X dd c.args.toList) | _, _ => .bad)
      | _ => .bad)
    | .builtin .max => .a1 d (mmR fun y x => ilt x y) (opds X dd c.args.toList)
    | .builtin .min => .a1 d (mmR ilt) (opds X dd c.args.toList)
    | .builtin .recover => .recover d
    | .value g => .call d (opd X dd g) (opds X dd c.args.toList)
    | .invoke x m => .inv d (opd X dd x) m (opds X dd c.args.toList)
    | _ => .bad)
  | .defer c => (match c.callee with | .value g => .defer d (opd X dd g) (opds X dd c.args.toList) | _ => .bad)
  | _ => .bad
def planG (X : List Nat) (all : List Oper) (dd : List Nat) (d : Nat) (g : Option (Nat × Bool)) (i : Ins) : Ins := match g with
  | none => i
  | some (j, b) => (match nthL all j with
    | some o => (match o.dst with | some t => .guard (opd X dd (.tmp t)) b d i | none => .bad)
    | none => .bad)
/-- where nothing is written to -/
def nowhere : Nat := 1000000
def dstOf (o : Oper) : Nat := match o.dst with | some d => d | none => nowhere
def ddOf (o : Oper) (dd : List Nat) : List Nat := match o.dst with | some d => d :: dd | none => dd
def planL (X : List Nat) (all : List Oper) : List Nat → List Oper → List Ins
  | _, [] => []
  | dd, o :: os => planG X all dd (dstOf o) o.guard (plan1 P X dd (dstOf o) o.op) :: planL X all (ddOf o dd) os

/-! ### a region that draws -/
inductive Cls where | pure | read | alloc | effect
def clsOf (o : Op) : Cls := match o with
  | .load .. => .read | .lookup .. => .read | .entry .. => .read | .slice .. => .read
  | .alloc .. => .alloc | .box .. => .alloc | .buildSlice .. => .alloc | .makeMap .. => .alloc | .makeSlice .. => .alloc | .range .. => .effect
  | .convert s t _ => (match und P s, und P t with
    | some (.slice _), _ => .read
    | _, some (.slice _) => .alloc
    | _, _ => .pure)
  | .store .. => .effect | .mapUpdate .. => .effect | .insert .. => .effect | .mapEntry .. => .effect | .entryStore .. => .effect | .next .. => .effect
  | .defer .. => .effect | .panic .. => .effect | .go .. => .effect | .send .. => .effect | .recv .. => .effect | .select .. => .effect | .ready .. => .effect | .waits .. => .effect | .assign _ => .pure
  | .call c => (match c.callee with
    | .builtin .len => .read
    | .builtin .cap => .pure
    | .builtin .max => .pure
    | .builtin .min => .pure
    | _ => .effect)
  | _ => .pure
end
def isEff (c : Cls) : Bool := match c with | .effect => true | _ => false
def isAl (c : Cls) : Bool := match c with | .alloc => true | _ => false
def isRd (c : Cls) : Bool := match c with | .read => true | _ => false
def dropT {α : Type} : List α → Nat → List α
  | l, 0 => l
  | [], _ => []
  | _ :: l, n + 1 => dropT l n
/-- binding edges' transitive mask -/
def befL (ops : List Oper) : List Nat := go ops []
  where
  go : List Oper → List Nat → List Nat
    | [], acc => acc
    | o :: os, acc => go os (acc ++ [o.after.toList.foldl (fun s e => match Region.binds .any e with | true => s ||| 2 ^ e.on ||| ((nthL acc e.on).getD 0) | false => s) 0])
def bit (m i : Nat) : Bool := m.testBit i
/-- one item of the plan's order -/
inductive It where | run (i : Nat) | chk (i : Nat)
def allIn (n : Nat) (need done : Nat) : Bool := Nat.beq (need &&& done) need
/-- what can be run of the rest, but for effects -/
def eager (cls : List Cls) (bef : List Nat) : Nat → Nat → Nat → List It → List It × Nat
  | 0, _, done, acc => (acc, done)
  | f + 1, i, done, acc =>
    if !bit done i && !isEff ((nthL cls i).getD .effect) && allIn 0 ((nthL bef i).getD 0) done then eager cls bef f (i + 1) (done ||| 2 ^ i) (acc ++ [.run i])
    else eager cls bef f (i + 1) done acc
def reads (cls : List Cls) (done b : Nat) : Nat → Nat → List It
  | 0, _ => []
  | f + 1, i => if isRd ((nthL cls i).getD .effect) && bit done i && !bit b i then .chk i :: reads cls done b f (i + 1) else reads cls done b f (i + 1)
def stages (cls : List Cls) (bef : List Nat) (n : Nat) : List Nat → Nat → Nat → List It → Option (List It)
  | [], _, done, acc =>
    let (acc, done) := eager cls bef n 0 done acc
    if done == 2 ^ n - 1 then some acc else none
  | e :: es, prev, done, acc =>
    let b := (nthL bef e).getD 0
    if prev == 0 || bit b (prev - 1) then
      let (acc, done) := eager cls bef n 0 done acc
      if allIn 0 b done then stages cls bef n es (e + 1) (done ||| 2 ^ e) (acc ++ [.run e] ++ reads cls done b n 0) else none
    else none
def effs (cls : List Cls) : Nat → List Nat
  | i => go cls i
  where
  go : List Cls → Nat → List Nat
    | [], _ => []
    | c :: cs, i => if isEff c then i :: go cs (i + 1) else go cs (i + 1)
/-- the tmps that an operation looks at -/
def looks (ops : List Oper) (o : Oper) : List Nat :=
  (o.op.operands.toList.filterMap fun x => match x with | .tmp t => some t | _ => none) ++ (match o.guard with
    | none => []
    | some (j, _) => match (nthL ops j).bind (·.dst) with | some t => [t] | none => [])
/-- each tmp is written at most once, and whatever looks at it is ordered with that -/
def tmpsOk (ops : List Oper) (bef : List Nat) : Bool :=
  (List.range ops.length).all fun i => match nthL ops i with
    | none => true
    | some o => match o.dst with
      | none => true
      | some d => (List.range ops.length).all fun j => i == j || match nthL ops j with
        | none => true
        | some u => !(u.dst == some d) && (!(memN d (looks ops u)) || bit ((nthL bef j).getD 0) i || bit ((nthL bef i).getD 0) j)
section
variable (P : Program)
def chkOf (d : Nat) (i : Ins) : Ins := match i with
  | .guard x b _ i => .guard x b nowhere (.chk d i)
  | i => .chk d i
/-- the places of the tmps that are made ahead in the text of the region -/
def madeBy (ops : List Oper) (i : Nat) : List Nat := ((List.range i).filterMap fun j => (nthL ops j).bind (·.dst))
def insAt (X : List Nat) (ops : List Oper) (i : Nat) : Ins := match nthL ops i with
  | none => .bad
  | some o => planG X ops (madeBy ops i) (dstOf o) o.guard (plan1 P X (madeBy ops i) (dstOf o) o.op)
def dstAt (ops : List Oper) (i : Nat) : Nat := match nthL ops i with | some o => dstOf o | none => nowhere
def planIt (X : List Nat) (ops : List Oper) : List It → List Ins
  | [] => []
  | .run i :: l => insAt P X ops i :: planIt X ops l
  | .chk i :: l => chkOf (dstAt ops i) (insAt P X ops i) :: planIt X ops l
/-- whatever binds an operation stands ahead of it -/
def edgeOk (i : Nat) (e : Edge) : Bool := match Region.binds .any e with | true => Nat.blt e.on i | false => true
def edgesOk : Nat → List Oper → Bool
  | _, [] => true
  | i, o :: os => (match o.after.toList.all (edgeOk i) with | true => edgesOk (i + 1) os | false => false)
/-- of what was read, what an operation with these ahead of it may come before -/
def needOf (rd done b : Nat) : Nat := (rd &&& done) ^^^ ((rd &&& done) &&& b)
def rdMask : List Cls → Nat → Nat
  | [], _ => 0
  | c :: cs, i => (match isRd c with | true => rdMask cs (i + 1) ||| 2 ^ i | false => rdMask cs (i + 1))
/-- is the order one that stands for all orders? -/
def okIt (cls : List Cls) (bef : List Nat) (n rd : Nat) : List It → Nat → Nat → Nat → Bool
  | [], done, _, need => Nat.beq done (2 ^ n - 1) && Nat.beq need 0
  | .run i :: L, done, eff, need => (match Nat.blt i n && Nat.beq need 0 && !bit done i && allIn 0 ((nthL bef i).getD 0) done with
    | false => false
    | true => (match (nthL cls i).getD .effect with
      | .pure => okIt cls bef n rd L (done ||| 2 ^ i) eff 0
      | .effect => allIn 0 eff ((nthL bef i).getD 0) && okIt cls bef n rd L (done ||| 2 ^ i) (eff ||| 2 ^ i) (needOf rd done ((nthL bef i).getD 0))
      | _ => allIn 0 eff ((nthL bef i).getD 0) && okIt cls bef n rd L (done ||| 2 ^ i) eff 0))
  | .chk i :: L, done, eff, need => bit done i && okIt cls bef n rd L done eff (need ^^^ (need &&& 2 ^ i))
def planD2 (X : List Nat) (ops : List Oper) (cls : List Cls) (bef : List Nat) (l : Option (List It)) : List Ins := match l with
  | none => [.bad]
  | some l => (match tmpsOk ops bef && edgesOk 0 ops && okIt cls bef ops.length (rdMask cls 0) l 0 0 0 with
    | true => planIt P X ops l
    | false => [.bad])
def planD1 (X : List Nat) (ops : List Oper) (cls : List Cls) (bef : List Nat) : List Ins := planD2 P X ops cls bef (stages cls bef ops.length (effs cls 0) 0 0 [])
def clss (ops : List Oper) : List Cls := ops.map fun o => clsOf P o.op
def planD (X : List Nat) (ops : List Oper) : List Ins := planD1 P X ops (clss P ops) (befL ops)
def dsts : List Oper → List Nat
  | [] => [] | o :: os => match o.dst with | some d => d :: dsts os | none => dsts os
def keepOf (X : List Nat) : List Nat → List Nat
  | [] => []
  | d :: l => (match memN d X with
    | true => (match memN d (keepOf X l) with | true => keepOf X l | false => d :: keepOf X l)
    | false => keepOf X l)
def allBelow (m : Nat) : List Nat → Bool
  | [] => true
  | d :: l => Nat.blt d m && allBelow m l
/-- neither puts off nor recovers (so it may lie in a round of a loop over a function) -/
def calmO (o : Op) : Bool := match o with
  | .defer _ => false
  | .call c => (match c.callee with | .builtin .recover => false | _ => true)
  | _ => true
def calmL : List Oper → Bool
  | [] => true
  | o :: os => (match calmO o.op with | true => calmL os | false => false)
def calmC : Code → Bool
  | .region _ ops _ => calmL ops.toList
  | .seq a b => calmC a && calmC b
  | .cond _ a b => calmC a && calmC b
  | .block _ a => calmC a
  | .loop a => calmC a
  | .scope a => calmC a
  | _ => true
def planC (X : List Nat) (m : Nat) : Code → IC
  | .skip => .skip
  | .region _ ops dr => (match Nat.ble m nowhere && allBelow m (dsts ops.toList) with
    | false => .bad
    | true => (match dr with
      | false => .ops (planL P X ops.toList [] ops.toList) (keepOf X (dsts ops.toList))
      | true => .ops (planD P X ops.toList) (keepOf X (dsts ops.toList))))
  | .seq a b => .seq (planC X m a) (planC X m b)
  | .cond c a b => .cond (opd X [] c) (planC X m a) (planC X m b)
  | .block id a => .block id (planC X m a)
  | .loop a => .loop (planC X m a)
  | .rangeFunc g ps a b => (match allBelow m ps.toList && (calmC a && calmC b) with | true => .rf (opd X [] g) ps.toList a b | false => .bad)
  | .exit id => .exit id
  | .scope a => planC X m a
  | .label _ => .skip
  | .goto _ => .bad
  | .ret => .ret
  | .refuse _ => .bad
end
/-- the tmps that are read where they were not made -/
def addN (x : Nat) (l : List Nat) : List Nat := match memN x l with | true => l | false => x :: l
def rdO (dd : List Nat) (acc : List Nat) : List Operand → List Nat
  | [] => acc
  | .tmp t :: l => rdO dd (match memN t dd with | true => acc | false => addN t acc) l
  | _ :: l => rdO dd acc l
def rdL : List Nat → List Nat → List Oper → List Nat
  | _, acc, [] => acc
  | dd, acc, o :: os => rdL (dstOf o :: dd) (rdO dd acc o.op.operands.toList) os
def rdC (acc : List Nat) : Code → List Nat
  | .region _ ops _ => rdL [] acc ops.toList
  | .seq a b => rdC (rdC acc a) b
  | .cond c a b => rdC (rdC (rdO [] acc [c]) a) b
  | .block _ a => rdC acc a
  | .loop a => rdC acc a
  | .scope a => rdC acc a
  | .rangeFunc g _ a b => rdC (rdC (rdO [] acc [g]) a) b
  | _ => acc
def resT : List ResultVar → List Nat
  | [] => [] | .tmp t :: l => t :: resT l | .cell t _ :: l => t :: resT l
def xOf (fn : Func) : List Nat := match fn.body with | some c => rdC (resT fn.results.toList) c | none => []

/-! ### the machine -/
structure Rec where
  loop : Option Ps → FuncId → IC → Fr → H → RC
  cv : AV → List AV → H → RV
  cf : FuncId → List AV → H → RV
  ud : List Dfr → H → RV
abbrev K := E → List Dfr → H → RC
def getO (x : Opd) (t l : E) : Option AV := match x with
  | .r d => E.get t d
  | .l d => E.get l d
  | .c v => some v
  | .no => none
def kV (d : Nat) (t : E) (ds : List Dfr) (h : H) (k : K) (v : Option AV) : RC := match v with
  | none => .no
  | some v => k (.cons d v t) ds h
def kR (d : Nat) (t : E) (ds : List Dfr) (k : K) (r : RV) : RC := match r with
  | .no => .no
  | .ok v h => k (.cons d v t) ds h
def k1 (d : Nat) (f : AV → Option AV) (t : E) (ds : List Dfr) (h : H) (k : K) (x : Option AV) : RC := match x with
  | none => .no
  | some v => kV d t ds h k (f v)
def kf2b (d : Nat) (f : AV → Option AV) (t : E) (ds : List Dfr) (h : H) (k : K) (y : Option AV) : RC := match y with
  | none => .no
  | some u => kV d t ds h k (f u)
def kf2 (d : Nat) (f : AV → AV → Option AV) (t : E) (ds : List Dfr) (h : H) (k : K) (x y : Option AV) : RC := match x with
  | none => .no
  | some v => kf2b d (f v) t ds h k y
def kP (d : Nat) (t : E) (ds : List Dfr) (h : H) (k : K) (c : Option AV) (a b : Option AV) : RC := match c with
  | some (.bool true) => kV d t ds h k a
  | some (.bool false) => kV d t ds h k b
  | _ => .no
def kA (d : Nat) (f : H → List AV → RV) (t : E) (ds : List Dfr) (h : H) (k : K) (xs : Option (List AV)) : RC := match xs with
  | none => .no
  | some vs => kR d t ds k (f h vs)
def kC (ih : Rec) (d : Nat) (t : E) (ds : List Dfr) (h : H) (k : K) (g : Option AV) (xs : Option (List AV)) : RC := match g with
  | none => .no
  | some g => (match xs with
    | none => .no
    | some vs => kR d t ds k (ih.cv g vs h))
def kD (d : Nat) (t : E) (ds : List Dfr) (h : H) (k : K) (g : Option AV) (xs : Option (List AV)) : RC := match g with
  | some (.fn f fi cap) => (match xs with
    | none => .no
    | some vs => k (.cons d (.tup []) t) (.call (.fn f fi cap) vs :: ds) h)
  | _ => .no
def bEq (a b : Bool) : Bool := match a with | true => b | false => !b
def kG (b : Bool) (d : Nat) (t : E) (ds : List Dfr) (h : H) (k : K) (i : RC) (g : Option AV) : RC := match g with
  | some (.bool c) => (match bEq c b with | true => i | false => k (.cons d (.tup []) t) ds h)
  | some (.tup []) => k (.cons d (.tup []) t) ds h
  | _ => .no
inductive Pl where | val (v : AV) | var (b : Ps) (o : Nat)
def ldT (P : Program) (h : H) (t : TypeId) (x : AV) : Option AV := match isA P t with
  | some false => load1 h x
  | some true => (match tsize P t with | some n => loadN n h x | none => none)
  | none => none
def plGet (P : Program) (h : H) (t : TypeId) : Pl → Option AV
  | .val v => some v
  | .var b o => ldT P h t (.ptr b o)
def followA (P : Program) (h : H) : List FieldStep → TypeId → Pl → Option (TypeId × Pl)
  | [], t, x => some (t, x)
  | s :: rest, t, x => match fld P s.struct s.index with
    | none => none
    | some (off, sz, ft) => match sz with
      | 0 => none
      | _ + 1 => match s.deref with
        | true => (match plGet P h t x with
          | some (.ptr b o) => followA P h rest ft (.var b (o + off))
          | _ => none)
        | false => (match x with
          | .var b o => followA P h rest ft (.var b (o + off))
          | _ => none)
def findM (name : String) : List Method → Option Method
  | [] => none
  | m :: ms => match m.name == name with | true => some m | false => findM name ms
def methOf (P : Program) (t : TypeId) (name : String) : Option (List FieldStep × Nat) := match tinfo P t with
  | none => none
  | some i => (match findM name i.methods.toList with
    | some m => (match m.func with | some (f, true) => some (m.path.toList, f) | _ => none)
    | none => none)
def methodA (P : Program) (h : H) (t : TypeId) (v : AV) (m : Option (List FieldStep × Nat)) : Option (Nat × AV) := match m with
  | none => none
  | some (path, f) => (match followA P h path t (.val v) with
    | none => none
    | some (xt, x) => (match und P xt with
      | some (.pointer _) => (match plGet P h xt x with | none => none | some r => some (f, r))
      | _ => none))
def kI (P : Program) (ih : Rec) (m : String) (d : Nat) (t : E) (ds : List Dfr) (h : H) (k : K) (x : Option AV) (xs : Option (List AV)) : RC := match x with
  | some (.iface u v) => (match xs with
    | none => .no
    | some vs => (match methodA P h u v (methOf P u m) with
      | none => .no
      | some (f, r) => kR d t ds k (ih.cf f (r :: vs) h)))
  | _ => .no
def oeq (a b : Option Nat) : Bool := match a with | none => (match b with | none => true | _ => false) | some a => (match b with | some b => Nat.beq a b | none => false)
/-- the same value? (of what a load may answer) -/
def sameA : Nat → AV → AV → Bool
  | 0, _, _ => false
  | n + 1, x, y => match x with
    | .bool a => (match y with | .bool b => bEq a b | _ => false)
    | .int j a => (match y with | .int k b => ikEq j k && ieq a b | _ => false)
    | .str a => (match y with | .str b => leq a b | _ => false)
    | .ptr0 => (match y with | .ptr0 => true | _ => false)
    | .ptr a o => (match y with | .ptr b q => a.beq b && Nat.beq o q | _ => false)
    | .sl0 => (match y with | .sl0 => true | _ => false)
    | .sl a o e l c => (match y with | .sl b q f m c' => a.beq b && (Nat.beq o q && (Nat.beq e f && (Nat.beq l m && oeq c c'))) | _ => false)
    | .map0 => (match y with | .map0 => true | _ => false)
    | .map a => (match y with | .map b => a.beq b | _ => false)
    | .fn0 => (match y with | .fn0 => true | _ => false)
    | .fn f a c => (match y with | .fn g b d => Nat.beq f g && (sameL n a b && sameL n c d) | _ => false)
    | .iface0 => (match y with | .iface0 => true | _ => false)
    | .iface t a => (match y with | .iface u b => Nat.beq t u && sameA n a b | _ => false)
    | .agg a => (match y with | .agg b => sameL n a b | _ => false)
    | _ => false
  where
  sameL : Nat → List AV → List AV → Bool
    | _, [], [] => true
    | n, x :: a, y :: b => sameA n x y && sameL n a b
    | _, _, _ => false
def kK (t : E) (ds : List Dfr) (h : H) (k : K) (was : Option AV) (now : RV) : RC := match was with
  | some u => (match now with
    | .ok v _ => (match sameA 20 u v with | true => k t ds h | false => .no)
    | .no => .no)
  | none => .no
def getL (xs : List Opd) (t l : E) : Option (List AV) := List.rec (motive := fun _ => Option (List AV)) (some [])
  (fun x _ ih => Option.rec (motive := fun _ => Option (List AV)) none (fun v => Option.rec (motive := fun _ => Option (List AV)) none (fun vs => some (v :: vs)) ih) (getO x t l)) xs
def oB (f : AV → Option AV) (x : Option AV) : Option AV := match x with | none => none | some v => f v
def ofO (h : H) (v : Option AV) : RV := match v with | none => .no | some v => .ok v h
def oB2 (f : AV → AV → Option AV) (x y : Option AV) : Option AV := match x with | none => none | some v => oB (f v) y
def oP (c a b : Option AV) : Option AV := match c with
  | some (.bool true) => a
  | some (.bool false) => b
  | _ => none
def rL (f : H → List AV → RV) (h : H) (xs : Option (List AV)) : RV := match xs with | none => .no | some vs => f h vs
/-- what an operation answers, if it is no call -/
def insV (t l : E) (h : H) (i : Ins) : RV := match i with
  | .mv _ x => ofO h (getO x t l)
  | .f1 _ f x => ofO h (oB f (getO x t l))
  | .f2 _ f x y => ofO h (oB2 f (getO x t l) (getO y t l))
  | .g1 _ f x => ofO h (oB (f h) (getO x t l))
  | .g2 _ f x y => ofO h (oB2 (f h) (getO x t l) (getO y t l))
  | .pick _ c a b => ofO h (oP (getO c t l) (getO a t l) (getO b t l))
  | .a1 _ f xs => rL f h (getL xs t l)
  | _ => .no
def thenC (b : Fr → H → RC) (r : RC) : RC := match r with
  | .no => .no
  | .ok x f h => (match x with
    | .normal => b f h
    | .exit id => .ok (.exit id) f h
    | .ret => .ok .ret f h)
def blkC (id : Nat) (r : RC) : RC := match r with
  | .no => .no
  | .ok x f h => (match x with
    | .normal => .ok .normal f h
    | .exit j => (match Nat.beq j id with | true => .ok .normal f h | false => .ok (.exit j) f h)
    | .ret => .ok .ret f h)
def condC (a b : Fr → H → RC) (f : Fr) (h : H) (c : Option AV) : RC := match c with
  | some (.bool true) => a f h
  | some (.bool false) => b f h
  | _ => .no
/-- behind a loop over a function -/
def afterLoop (l : Ps) (f : Fr) (r : RV) : RC := match r with
  | .no => .no
  | .ok _ h => (match h.get l with
    | some (.loop st pend fn loc ps a b d) => (match st with
      | .busy => .no
      | _ => (match pend with
        | none => .ok .normal f (h.put l (.loop .exhausted pend fn loc ps a b d))
        | some x => .ok x f (h.put l (.loop .exhausted pend fn loc ps a b d))))
    | _ => .no)
def rf1 (ih : Rec) (fn : FuncId) (g : AV) (ps : List Nat) (a b : Code) (f : Fr) (d : Ps) (h : H) : RC :=
  afterLoop h.next f (ih.cv g [.yield h.next] (h.add (.loop .ready none fn f.loc ps a b d)))
def rf0 (ih : Rec) (r : Option Ps) (fn : FuncId) (ps : List Nat) (a b : Code) (f : Fr) (h : H) (g : Option AV) : RC := match g with
  | none => .no
  | some g => (match r with
    | none => rf1 ih fn g ps a b ⟨f.loc, .mark h.next :: f.defers⟩ h.next (h.add (.dfr false))
    | some l => (match h.get l with
      | some (.loop _ _ _ _ _ _ _ d) => rf1 ih fn g ps a b f d h
      | _ => .no))
def execI (P : Program) (ih : Rec) (l : E) (i : Ins) : E → List Dfr → H → K → RC :=
  Ins.rec (motive := fun _ => E → List Dfr → H → K → RC)
    (fun d x t ds h k => kV d t ds h k (getO x t l))
    (fun d f x t ds h k => k1 d f t ds h k (getO x t l))
    (fun d f x y t ds h k => kf2 d f t ds h k (getO x t l) (getO y t l))
    (fun d f x t ds h k => k1 d (f h) t ds h k (getO x t l))
    (fun d f x y t ds h k => kf2 d (f h) t ds h k (getO x t l) (getO y t l))
    (fun d c a b t ds h k => kP d t ds h k (getO c t l) (getO a t l) (getO b t l))
    (fun d f xs t ds h k => kA d f t ds h k (getL xs t l))
    (fun d g xs t ds h k => kC ih d t ds h k (getO g t l) (getL xs t l))
    (fun d x m xs t ds h k => kI P ih m d t ds h k (getO x t l) (getL xs t l))
    (fun d g xs t ds h k => kD d t ds h k (getO g t l) (getL xs t l))
    (fun d t ds h k => k (.cons d .iface0 t) ds h)
    (fun x b d _ ex t ds h k => kG b d t ds h k (ex t ds h k) (getO x t l))
    (fun d i _ t ds h k => kK t ds h k (E.get t d) (insV t l h i))
    (fun _ _ _ _ => .no) i
def keepE (t : E) (ks : List Nat) (l : E) : E := List.rec (motive := fun _ => E → E) (fun l => l) (fun d _ ih l => ih (Option.rec (motive := fun _ => E) l (fun v => E.set l d v) (E.get t d))) ks l
def execL (P : Program) (ih : Rec) (l : E) (keep : List Nat) (is : List Ins) : K :=
  List.rec (motive := fun _ => K) (fun t ds h => .ok .normal ⟨keepE t keep l, ds⟩ h) (fun i _ rest t ds h => execI P ih l i t ds h rest) is
def evalI (P : Program) (ih : Rec) (r : Option Ps) (fn : FuncId) (c : IC) : Fr → H → RC :=
  IC.rec (motive := fun _ => Fr → H → RC)
    (fun f h => .ok .normal f h)
    (fun l ks f h => execL P ih f.loc ks l .nil f.defers h)
    (fun _ _ ea eb f h => thenC eb (ea f h))
    (fun x _ _ ea eb f h => condC ea eb f h (getO x .nil f.loc))
    (fun id _ eb f h => blkC id (eb f h))
    (fun b eb f h => thenC (ih.loop r fn b) (eb f h))
    (fun g ps a b f h => rf0 ih r fn ps a b f h (getO g .nil f.loc))
    (fun id f h => .ok (.exit id) f h)
    (fun f h => .ok .ret f h)
    (fun _ _ => .no) c
def stepLoop (P : Program) (ih : Rec) (r : Option Ps) (fn : FuncId) (b : IC) (f : Fr) (h : H) : RC := thenC (ih.loop r fn b) (evalI P ih r fn b f h)
def argE : Nat → List AV → E
  | _, [] => .nil
  | i, v :: vs => .cons i v (argE (i + 1) vs)
def bindE : List Nat → List AV → E → Option E
  | [], [], l => some l
  | p :: ps, v :: vs, l => bindE ps vs (E.set l p v)
  | _, _, _ => none
def resV (P : Program) (l : E) (h : H) : List ResultVar → Option (List AV)
  | [] => some []
  | .tmp t :: rs => (match E.get l t with
    | none => none
    | some v => (match resV P l h rs with
      | none => none
      | some vs => some (v :: vs)))
  | .cell a t :: rs => (match E.get l a with
    | none => none
    | some p => (match ldT P h t p with
      | none => none
      | some v => (match resV P l h rs with
        | none => none
        | some vs => some (v :: vs))))
def one : List AV → AV
  | [v] => v
  | vs => .tup vs
def retV (P : Program) (rs : List ResultVar) (l : E) (r : RV) : RV := match r with
  | .no => .no
  | .ok _ h => (match resV P l h rs with | none => .no | some vs => .ok (one vs) h)
def retF (P : Program) (ih : Rec) (rs : List ResultVar) (f : Fr) (h : H) : RV := match f.defers with
  | [] => (match resV P f.loc h rs with | none => .no | some vs => .ok (one vs) h)
  | _ => retV P rs f.loc (ih.ud f.defers h)
def ret1 (P : Program) (ih : Rec) (rs : List ResultVar) (r : RC) : RV := match r with
  | .no => .no
  | .ok x f h => (match x with
    | .normal => retF P ih rs f h
    | .ret => retF P ih rs f h
    | _ => .no)
structure FI where
  code : IC
  res : List ResultVar
  X : List Nat
  m : Nat
def infoOf (P : Program) (g : Nat) : Option FI := match nthL P.funcs.toList g with
  | none => none
  | some fn => (match fn.body with
    | none => none
    | some c => some ⟨planC P (xOf fn) fn.ntmps c, fn.results.toList, xOf fn, fn.ntmps⟩)
def cf1 (P : Program) (ih : Rec) (g : FuncId) (vs : List AV) (h : H) (i : Option FI) : RV := match i with
  | none => .no
  | some i => ret1 P ih i.res (evalI P ih none g i.code ⟨argE 0 vs, []⟩ h)
/-- what the intrinsic 'strings.Join' answers -/
def strsOf : List AV → Option (List (List Nat))
  | [] => some []
  | .str s :: l => (match strsOf l with | none => none | some r => some (s :: r))
  | _ => none
def joinL (sep : List Nat) : List (List Nat) → List Nat
  | [] => []
  | [s] => s
  | s :: l => s ++ (sep ++ joinL sep l)
def joinSl (x : AV) : Bool := match x with
  | .sl _ _ es n c => (match Nat.beq es 1 with
    | true => (match c with | none => true | some c => Nat.ble n c)
    | false => false)
  | _ => false
def joinR (h : H) (vs : List AV) : RV := match vs with
  | [x, .str sep] => (match joinSl x with
    | false => .no
    | true => (match srcC h 1 x with
      | none => .no
      | some (_, cs) => (match strsOf cs with
        | none => .no
        | some l => fL (joinL sep l) fun s => (match Nat.ble (lenL s) lim with | true => .ok (.str s) h | false => .no))))
  | _ => .no
def stepCF (P : Program) (J : FuncId) (ih : Rec) (g : FuncId) (vs : List AV) (h : H) : RV := match Nat.beq g J with
  | true => joinR h vs
  | false => cf1 P ih g vs h (infoOf P g)
/-- a round of a loop over a function -/
def endRound (l : Ps) (r : RC) : RV := match r with
  | .no => .no
  | .ok x f h => (match f.defers with
    | [] => (match h.get l with
      | some (.loop _ _ fn loc ps a b d) => (match x with
        | .normal => .ok (.bool true) (h.put l (.loop .ready none fn loc ps a b d))
        | x => .ok (.bool false) (h.put l (.loop .done (some x) fn loc ps a b d)))
      | _ => .no)
    | _ => .no)
def thenN (b : Fr → H → RC) (r : RC) : RC := match r with
  | .ok .normal f h => b f h
  | _ => .no
def beginRound (P : Program) (ih : Rec) (l : Ps) (fn : FuncId) (b : IC) (f : Fr) (h : H) : RC := match h.get l with
  | some (.loop .ready pend fn' loc ps a' b' d) => evalI P ih (some l) fn b f (h.put l (.loop .busy pend fn' loc ps a' b' d))
  | _ => .no
def round1 (P : Program) (ih : Rec) (l : Ps) (fn : FuncId) (a b : Code) (e : Option E) (h : H) (i : Option FI) : RV := match i with
  | none => .no
  | some i => (match e with
    | none => .no
    | some e => endRound l (thenN (beginRound P ih l fn (planC P i.X i.m b)) (evalI P ih (some l) fn (planC P i.X i.m a) ⟨e, []⟩ h)))
def round (P : Program) (ih : Rec) (l : Ps) (vs : List AV) (h : H) : RV := match h.get l with
  | some (.loop _ _ fn loc ps a b _) => round1 P ih l fn a b (bindE ps vs loc) h (infoOf P fn)
  | _ => .no
def stepCV (P : Program) (ih : Rec) (g : AV) (vs : List AV) (h : H) : RV := match g with
  | .fn f fi cap => ih.cf f (fi ++ (vs ++ cap)) h
  | .yield l => round P ih l vs h
  | _ => .no
/-- what was put off -/
def udN (ih : Rec) (ds : List Dfr) (r : RV) : RV := match r with
  | .no => .no
  | .ok _ h => ih.ud ds h
def stepUD (J : FuncId) (ih : Rec) (ds : List Dfr) (h : H) : RV := match ds with
  | [] => .ok .undef h
  | .mark b :: ds => (match h.get b with
    | some (.dfr false) => ih.ud ds (h.put b (.dfr true))
    | _ => .no)
  | .call g vs :: ds => (match g with
    | .fn f fi cap => (match Nat.beq f J with
      | true => .no
      | false => udN ih ds (ih.cf f (fi ++ (vs ++ cap)) h))
    | _ => .no)
def rec0 : Rec := ⟨fun _ _ _ _ _ => .no, fun _ _ _ => .no, fun _ _ _ => .no, fun _ _ => .no⟩
def stepR (P : Program) (J : FuncId) (ih : Rec) : Rec := ⟨stepLoop P ih, stepCV P ih, stepCF P J ih, stepUD J ih⟩
def runR (P : Program) (J : FuncId) (n : Nat) : Rec := Nat.rec (motive := fun _ => Rec) rec0 (fun _ ih => stepR P J ih) n
end
end Go.Eng
