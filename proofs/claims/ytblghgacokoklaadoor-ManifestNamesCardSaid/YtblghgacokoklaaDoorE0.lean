/-
  THE ENGINE, 1: a denotation of the translation's code as a predicate over a part of the heap that is owned; boxes that do not leave a call are kept apart.
  Plain definitions; no seat's number stands in it.
-/
import Derived.Calls
import Derived.Tactics
import Derived.KernelRfl
import Derived.Deep.LoopGhost
import Derived.Laws.Append
namespace Go.Eng

/-! ### 1. The owned part of a heap; slices; kinds of cells -/
abbrev Hp := Nat → Option Obj
/-- What a call denotes: a predicate transformer over the owned part of the heap. -/
abbrev PT := Hp → (Value → Hp → Prop) → Prop

structure Sl where
  a : Option Addr
  n : Nat
  c : Nat
@[reducible] def Sl.v (s : Sl) : Value := .slice s.a s.n s.c

/-- The cell at block b, place o. -/
def Hp.at (h : Hp) (b o : Nat) : Option Value :=
  match h b with
  | some (.cells c _ _) => c[o]?
  | _ => none
def Hp.new (h : Hp) (b : Nat) (o : Obj) : Hp := fun k => if k = b then some o else h k
/-- vs are laid over the cells from o on. -/
def setL (c : List Value) (o : Nat) : List Value → List Value
  | [] => c
  | v :: vs => setL (c.set o v) (o + 1) vs
def Hp.wr (h : Hp) (b o : Nat) (vs : List Value) : Hp :=
  fun k => if k = b then (match h b with
    | some (.cells c t f) => some (.cells (setL c.toList o vs).toArray t f)
    | x => x) else h k
def Hp.canW (h : Hp) (b o n : Nat) : Prop :=
  ∃ c t f, h b = some (.cells c t f) ∧ o + n ≤ c.size ∧ ∀ j, o ≤ j → j < o + n → ¬ (f.1 ≤ j ∧ j < f.2)
/-- k cells from an address on hold vs. -/
def Hp.row (h : Hp) (A : Option Addr) (k : Nat) (vs : List Value) : Prop :=
  vs.length = k ∧ (k = 0 ∨ ∃ b o, A = some ⟨b, o, none⟩ ∧ ∀ j, j < k → h.at b (o + j) = vs[j]?)

inductive Kd where
  | int (k : IntKind) | bool | str | sl | ptr | map | raw
@[reducible] def Kd.T : Kd → Type
  | .int _ => Int
  | .bool => Bool
  | .str => ByteArray
  | .sl => Sl
  | .ptr => Option Addr
  | .map => Option Nat
  | .raw => Value
@[reducible] def Kd.enc : (k : Kd) → k.T → Value
  | .int k, n => .int k n
  | .bool, b => .bool b
  | .str, s => .string s
  | .sl, s => .slice s.a s.n s.c
  | .ptr, p => .pointer p
  | .map, m => .map m
  | .raw, v => v

/-! ### 2. Values of slots; boxes -/
inductive AV where
  | unk
  | v (x : Value)
  | p (b o : Nat)
  | loc (l off : Nat)
  | sl (l n : Nat)
  | f (x : Value)
/-- A box of the call's own that does not leave it: its name (the slot that it was made in), whether it may be written here, its type, its cells. -/
structure LE where
  l : Nat
  m : Bool
  t : Nat
  cs : List AV

def grd (c : Bool) (p : Prop) : Prop := match c with | true => p | false => False
def AV.get (x : AV) (K : Value → Prop) : Prop :=
  match x with
  | .v x => K x
  | .p b o => K (.pointer (some ⟨b, o, none⟩))
  | .f x => K x
  | _ => False
def AV.plain : AV → Bool
  | .v _ => true
  | .p _ _ => true
  | .f _ => true
  | _ => false
/-- All of them as values. -/
def getAll : List AV → (List Value → Prop) → Prop
  | [], K => K []
  | x :: xs, K => x.get fun v => getAll xs fun vs => K (v :: vs)
def getN (A : List AV) (i : Nat) : AV :=
  match A, i with
  | [], _ => .unk
  | x :: _, 0 => x
  | _ :: A, i + 1 => getN A i
/-- The slots of a call: how many there are; what is known of them, the youngest first. -/
structure Env where
  n : Nat
  l : List (Nat × AV)
def look : List (Nat × AV) → Nat → AV
  | [], _ => .unk
  | (j, x) :: l, i => match Nat.beq j i with
    | true => x
    | false => look l i
def getE (A : Env) (i : Nat) : AV := match Nat.blt i A.n with
  | true => look A.l i
  | false => .unk
def putE (A : Env) (i : Nat) (x : AV) : Env := ⟨A.n, (i, x) :: A.l⟩
def putD (A : Env) (d : Option Nat) (x : AV) : Env :=
  match d with
  | some d => putE A d x
  | none => A
def ev (A : Env) : Operand → AV
  | .tmp t => getE A t
  | .const v => .v v
  | .global g => .p g 0
  | .func f => .v (.func (.func f) #[] #[])
def memN (i : Nat) : List Nat → Bool
  | [] => false
  | j :: l => (i == j) || memN i l
def findL (L : List LE) (l : Nat) : Option LE :=
  match L with
  | [] => none
  | e :: L => match e.l == l with | true => some e | false => findL L l
def updL (L : List LE) (l : Nat) (cs : List AV) : List LE :=
  match L with
  | [] => []
  | e :: L => match e.l == l with | true => ⟨e.l, e.m, e.t, cs⟩ :: L | false => e :: updL L l cs
def delL (L : List LE) (l : Nat) : List LE :=
  match L with
  | [] => []
  | e :: L => match e.l == l with | true => L | false => e :: delL L l
/-- Slots that point into one of these boxes, and these slots, are forgotten. -/
def AV.kill (W : List Nat) : AV → AV
  | .unk => .unk
  | .v x => .v x
  | .p b o => .p b o
  | .f x => .f x
  | .loc l o => match memN l W with | true => .unk | false => .loc l o
  | .sl l n => match memN l W with | true => .unk | false => .sl l n
def forgetL (W : List Nat) : List (Nat × AV) → List (Nat × AV)
  | [] => []
  | (i, x) :: l => match memN i W with
    | true => forgetL W l
    | false => (i, x.kill W) :: forgetL W l
def forgetE (W : List Nat) (A : Env) : Env := ⟨A.n, forgetL W A.l⟩
def killL (W : List Nat) : List (Nat × AV) → List (Nat × AV)
  | [] => []
  | (i, x) :: l => (i, x.kill W) :: killL W l
def killE (W : List Nat) (A : Env) : Env := ⟨A.n, killL W A.l⟩
def takeN (l : List AV) (o n : Nat) : List AV := (l.drop o).take n
def setLA (c : List AV) (o : Nat) : List AV → List AV
  | [] => c
  | v :: vs => setLA (c.set o v) (o + 1) vs
def lenB (l : List AV) (n : Nat) : Bool := l.length == n
def allPlain (l : List AV) : Bool := l.all AV.plain

def stOk (v : Value) (p : Prop) : Prop :=
  match v with
  | .agg _ => False
  | .tuple _ => False
  | _ => p

/-! ### 3. Types -/
def under (P : Program) (t : Nat) : TypeDesc := (P.underlying t).getD .invalid
def kindOf (P : Program) (t : Nat) : Kd :=
  match under P t with
  | .int k => .int k
  | .bool => .bool
  | .string => .str
  | .slice _ => .sl
  | .pointer _ => .ptr
  | .map _ _ => .map
  | _ => .raw
def repl (n : Nat) (l : List Kd) : List Kd :=
  match n with
  | 0 => []
  | n + 1 => l ++ repl n l
def kinds (P : Program) : Nat → Nat → List Kd
  | 0, _ => []
  | d + 1, t =>
    match under P t with
    | .struct fs => fs.toList.flatMap fun f => kinds P d f.type
    | .array n e => repl n (kinds P d e)
    | _ => [kindOf P t]
def isAggB (P : Program) (t : Nat) : Bool :=
  match under P t with
  | .struct _ => true
  | .array _ _ => true
  | _ => false
def elemT (P : Program) (t : Nat) : Option Nat :=
  match under P t with
  | .slice e => some e
  | _ => none
def hasInfo (P : Program) (t : Nat) : Bool := (P.info? t).isSome
def hasUnder (P : Program) (t : Nat) : Bool := (P.underlying t).isSome
/-- A field's place, if it takes room. -/
def fieldOff (P : Program) (s f : Nat) : Option (Nat × Nat) :=
  match under P s with
  | .struct fs => match fs[f]? with
    | some x => match P.cellsOf x.type with
      | 0 => none
      | _ + 1 => match hasInfo P x.type with
        | true => some (x.offset, x.type)
        | false => none
    | none => none
  | _ => none
def zeroOf (P : Program) (t : Nat) : Option (List Value) :=
  match P.info? t with
  | some i => match i.zero with
    | some z => match z.cells.size == i.size with
      | true => some z.cells.toList
      | false => none
    | none => none
  | none => none
def addo (o : Nat) : Nat → Nat
  | 0 => o
  | j + 1 => o + (j + 1)
def mulo (i : Nat) : Nat → Nat
  | 1 => i
  | s => i * s
/-- Cells of a type as one value. -/
def mkv (P : Program) (t : Nat) (vs : List Value) : Value :=
  match isAggB P t with
  | true => .agg ⟨vs⟩
  | false => match vs with
    | [v] => v
    | _ => .agg ⟨vs⟩
def cellsV (P : Program) (t : Nat) (x : AV) (K : List AV → Prop) : Prop :=
  match isAggB P t with
  | true => match x with
    | .v (.agg ⟨vs⟩) => K (vs.map AV.v)
    | _ => False
  | false => match x with
    | .v (.agg _) => False
    | .v (.tuple _) => False
    | .v y => K [.v y]
    | .p b o => K [.p b o]
    | .f y => stOk y (K [.f y])
    | _ => False

/-! ### 4. Typed views -/
def parB (b : Bool) (T F : Prop) : Prop := (b = true → T) ∧ (b = false → F)
def ex1 (k : Kd) (K : Value → Prop) : Prop :=
  match k with
  | .int k => ∃ n : Int, K (.int k n)
  | .bool => ∃ b : Bool, parB b (K (.bool true)) (K (.bool false))
  | .str => ∃ s : ByteArray, K (.string s)
  | .sl => ∃ s : Sl, K (.slice s.a s.n s.c)
  | .ptr => ∃ p : Option Addr, K (.pointer p)
  | .map => ∃ m : Option Nat, K (.map m)
  | .raw => ∃ v : Value, v.oneCell' = true ∧ K v
def exRd (h : Hp) (b o : Nat) (j : Nat) : List Kd → (List Value → Prop) → Prop
  | [], K => K []
  | k :: ks, K => ex1 k fun v => h.at b (addo o j) = some v ∧ exRd h b o (j + 1) ks fun vs => K (v :: vs)
def exAll : List Kd → (List Value → Prop) → Prop
  | [], K => K []
  | k :: ks, K => ex1 k fun v => exAll ks fun vs => K (v :: vs)
/-- A truth that a way parts on. -/
def par (c : Prop) (T F : Prop) : Prop := (c → T) ∧ (¬ c → F)
def exTup (P : Program) : List Nat → (List Value → Prop) → Prop
  | [], K => K []
  | t :: ts, K => exAll (kinds P 8 t) fun vs => exTup P ts fun ws => K (mkv P t vs :: ws)
/-- What a call has answered, by its type. -/
def exVal (P : Program) (t : Nat) (v : Value) (K : AV → Prop) : Prop :=
  match under P t with
  | .bool => ∃ b : Bool, v = .bool b ∧ parB b (K (.v (.bool true))) (K (.v (.bool false)))
  | .tuple ts => match ts.toList with
    | [] => K (.v v)
    | ts => exTup P ts fun vs => v = .tuple ⟨vs⟩ ∧ K (.v (.tuple ⟨vs⟩))
  | _ => exAll (kinds P 8 t) fun vs => v = mkv P t vs ∧ K (.v (mkv P t vs))

/-! ### 5. The operations -/
def bt (s : ByteArray) (i : Int) : Int := if h : i.toNat < s.size then ((s[i.toNat]'h).toNat : Int) else 0
def bytesV (s : ByteArray) : List Value := s.data.toList.map fun b => .int .u8 b.toNat
def Sl.cut (s : Sl) (size : Nat) (l g m : Int) : Sl :=
  ⟨if m.toNat = l.toNat then s.a else s.a.map (·.add (l.toNat * size)), g.toNat - l.toNat, m.toNat - l.toNat⟩
def Sl.okCut (s : Sl) (l g m : Int) : Prop := 0 ≤ l ∧ l ≤ g ∧ g ≤ m ∧ m ≤ (s.c : Int)
def okSub (s : ByteArray) (l g : Int) : Prop := 0 ≤ l ∧ l ≤ g ∧ g ≤ (s.size : Int)
def bitsI (op : BinOp) (k : IntKind) (x y : Int) : Int :=
  let a := BitVec.ofInt k.bits x
  let b := BitVec.ofInt k.bits y
  match op with
  | .and => k.wrap (a &&& b).toNat
  | .or => k.wrap (a ||| b).toNat
  | .xor => k.wrap (a ^^^ b).toNat
  | _ => k.wrap (a &&& ~~~b).toNat
def shlI (k : IntKind) (x y : Int) : Int := k.wrap (x * 2 ^ (min y.toNat k.bits))
def shrI (k : IntKind) (x y : Int) : Int := x.fdiv (2 ^ (min y.toNat k.bits))
def sLt (s t : ByteArray) : Prop := Op.bytesLess s.toList t.toList = true
def sMin (s t : ByteArray) : ByteArray := if Op.bytesLess s.toList t.toList || s.toList == t.toList then s else t
def sMax (s t : ByteArray) : ByteArray := if Op.bytesLess s.toList t.toList then t else s
def iMin (x y : Int) : Int := if y < x then y else x
def iMax (x y : Int) : Int := if x < y then y else x
/-- An address of a block whose cells nobody else's equal. -/
def solid (h : Hp) (a : Addr) : Prop := ∃ c t, h a.block = some (.cells c t (0, 0)) ∧ 0 < c.size
def okPtr (h : Hp) (p q : Option Addr) : Prop := ∀ a b, p = some a → q = some b → a.block ≠ b.block → solid h a ∧ solid h b
def Hp.wrA (h : Hp) (A : Option Addr) (vs : List Value) : Hp :=
  match A with
  | some ⟨b, o, none⟩ => h.wr b o vs
  | _ => h
def Hp.canWA (h : Hp) (A : Option Addr) (n : Nat) : Prop := n = 0 ∨ ∃ b o, A = some ⟨b, o, none⟩ ∧ h.canW b o n
def oneAll : List Value → Prop → Prop
  | [], p => p
  | v :: vs, p => stOk v (oneAll vs p)
def zerosV (z : List Value) (n : Nat) : List Value := (Builtin.zeroCells z.toArray n).toList

abbrev KO := AV → List LE → Hp → Prop

section
variable (P : Program) (lo : List Nat)

def dNew (d : Option Nat) (t : Nat) (cs : List AV) (L : List LE) (h : Hp) (K : KO) : Prop :=
  match d with
  | none => False
  | some d => match memN d lo with
    | true => grd (allPlain cs) (match findL L d with
      | some e => grd e.m (K (.loc d 0) (⟨d, true, t, cs⟩ :: delL L d) h)
      | none => K (.loc d 0) (⟨d, true, t, cs⟩ :: L) h)
    | false => getAll cs fun vs => ∀ b, h b = none → K (.p b 0) L (h.new b (.cells ⟨vs⟩ t (0, 0)))
def dAlloc (d : Option Nat) (t : Nat) (L : List LE) (h : Hp) (K : KO) : Prop :=
  match zeroOf P t with
  | some z => dNew lo d t (z.map AV.v) L h K
  | none => False
def dBox (d : Option Nat) (t : Nat) (x : AV) (L : List LE) (h : Hp) (K : KO) : Prop :=
  cellsV P t x fun cs => dNew lo d t cs L h K
def dLoad (t : Nat) (x : AV) (L : List LE) (h : Hp) (K : KO) : Prop :=
  grd (hasInfo P t && hasUnder P t) (match x with
    | .p b o => match under P t with
      | .bool => grd (P.cellsOf t == 1) (∃ x : Bool, h.at b o = some (.bool x) ∧ parB x (K (.v (.bool true)) L h) (K (.v (.bool false)) L h))
      | _ => grd ((kinds P 8 t).length == P.cellsOf t) (exRd h b o 0 (kinds P 8 t) fun vs => K (.v (mkv P t vs)) L h)
    | .loc l off => match findL L l with
      | some e => match isAggB P t with
        | true => grd (lenB (takeN e.cs off (P.cellsOf t)) (P.cellsOf t)) (getAll (takeN e.cs off (P.cellsOf t)) fun vs => K (.v (.agg ⟨vs⟩)) L h)
        | false => grd (Nat.blt off e.cs.length) (K (getN e.cs off) L h)
      | none => False
    | _ => False)
def plainAll : List AV → Prop → Prop
  | [], p => p
  | x :: xs, p => match x with
    | .v v => stOk v (plainAll xs p)
    | .p _ _ => plainAll xs p
    | .f v => stOk v (plainAll xs p)
    | _ => False
def dStore (t : Nat) (x y : AV) (L : List LE) (h : Hp) (K : KO) : Prop :=
  grd (hasInfo P t) (cellsV P t y fun cs => grd (lenB cs (P.cellsOf t)) (match x with
    | .p b o => getAll cs fun vs => oneAll vs (h.canW b o vs.length ∧ K (.v undef) L (h.wr b o vs))
    | .loc l off => match findL L l with
      | some e => grd (e.m && Nat.ble (off + cs.length) e.cs.length) (plainAll cs (K (.v undef) (updL L l (setLA e.cs off cs)) h))
      | none => False
    | _ => False))
def dNil (x : AV) (L : List LE) (h : Hp) (K : KO) : Prop :=
  match x with
  | .p b o => K (.p b o) L h
  | .loc l o => K (.loc l o) L h
  | .v (.pointer p) => ∃ b o, p = some ⟨b, o, none⟩ ∧ K (.p b o) L h
  | _ => False
def dField (s f : Nat) (x : AV) (L : List LE) (h : Hp) (K : KO) : Prop :=
  match fieldOff P s f with
  | some (off, _) => match x with
    | .p b o => K (.p b (addo o off)) L h
    | .loc l o => K (.loc l (addo o off)) L h
    | _ => False
  | none => False
def dIndexA (t : Nat) (x i : AV) (L : List LE) (h : Hp) (K : KO) : Prop :=
  match i with
  | .v (.int _ n) => match under P t with
    | .slice e => grd (hasInfo P e) (match x with
      | .v (.slice a len _) => ∃ b o, a = some ⟨b, o, none⟩ ∧ (0 ≤ n ∧ n < (len : Int)) ∧ K (.p b (o + mulo n.toNat (P.cellsOf e))) L h
      | .sl l len => match n with
        | .ofNat k => grd (Nat.blt k len) (K (.loc l (k * P.cellsOf e)) L h)
        | .negSucc _ => False
      | _ => False)
    | .array len e => grd (hasInfo P e) (match x with
      | .p b o => (0 ≤ n ∧ n < (len : Int)) ∧ K (.p b (o + mulo n.toNat (P.cellsOf e))) L h
      | .loc l o => match n with
        | .ofNat k => grd (Nat.blt k len) (K (.loc l (o + k * P.cellsOf e)) L h)
        | .negSucc _ => False
      | _ => False)
    | _ => False
  | _ => False
def dIndex (t : Nat) (x i : AV) (L : List LE) (h : Hp) (K : KO) : Prop :=
  match i with
  | .v (.int _ n) => match under P t with
    | .string => match x with
      | .v (.string s) => (0 ≤ n ∧ n < (s.size : Int)) ∧ K (.v (.int .u8 (bt s n))) L h
      | _ => False
    | _ => False
  | _ => False
def bnd (x : Option AV) (d : Int) (K : Int → Prop) : Prop :=
  match x with
  | none => K d
  | some (.v (.int _ n)) => K n
  | some _ => False
def dSlice (t : Nat) (x : AV) (lo' hi mx : Option AV) (L : List LE) (h : Hp) (K : KO) : Prop :=
  match under P t with
  | .string => match x with
    | .v (.string s) => match mx with
      | none => bnd lo' 0 fun l => bnd hi s.size fun g => okSub s l g ∧ K (.v (.string (s.extract l.toNat g.toNat))) L h
      | some _ => False
    | _ => False
  | .slice e => grd (hasInfo P e && (hi.isSome || mx.isNone)) (match x with
    | .v (.slice a n c) => bnd lo' 0 fun l => bnd hi n fun g => bnd mx c fun m =>
        Sl.okCut ⟨a, n, c⟩ l g m ∧ K (.v (.slice (Sl.cut ⟨a, n, c⟩ (P.cellsOf e) l g m).a (Sl.cut ⟨a, n, c⟩ (P.cellsOf e) l g m).n (Sl.cut ⟨a, n, c⟩ (P.cellsOf e) l g m).c)) L h
    | _ => False)
  | _ => False
def fillP (e size : Nat) : List (Nat × AV) → List AV → (List AV → Prop) → Prop
  | [], cs, K => K cs
  | (i, x) :: ps, cs, K => cellsV P e x fun vs => grd (lenB vs size && Nat.ble (i * size + size) cs.length) (fillP e size ps (setLA cs (i * size) vs) K)
def replA (n : Nat) (l : List AV) : List AV :=
  match n with
  | 0 => []
  | n + 1 => l ++ replA n l
def dBuildSlice (d : Option Nat) (t n : Nat) (ps : List (Nat × AV)) (L : List LE) (h : Hp) (K : KO) : Prop :=
  match under P t with
  | .slice e => grd (hasInfo P e) (match zeroOf P e with
    | some z => grd (Nat.ble (n * P.cellsOf e) 16777216 && Nat.blt 0 z.length) (fillP P e (P.cellsOf e) ps (replA n (z.map AV.v)) fun cs => match d with
      | none => False
      | some d => match memN d lo with
        | true => grd (allPlain cs) (match findL L d with
          | some x => grd x.m (K (.sl d n) (⟨d, true, e, cs⟩ :: delL L d) h)
          | none => K (.sl d n) (⟨d, true, e, cs⟩ :: L) h)
        | false => getAll cs fun vs => ∀ b, h b = none → K (.v (.slice (some ⟨b, 0, none⟩) n n)) L (h.new b (.cells ⟨vs⟩ e (0, 0))))
    | none => False)
  | _ => False
/-- The parts of a struct: by field. -/
def fillS (fs : Array Field) : List (Nat × AV) → List AV → (List AV → Prop) → Prop
  | [], cs, K => K cs
  | (i, x) :: ps, cs, K => match fs[i]? with
    | some f => cellsV P f.type x fun vs => grd (hasInfo P f.type && lenB vs (P.cellsOf f.type) && Nat.ble (f.offset + vs.length) cs.length) (fillS fs ps (setLA cs f.offset vs) K)
    | none => False
def dBuild (t : Nat) (ps : List (Nat × AV)) (L : List LE) (h : Hp) (K : KO) : Prop :=
  match zeroOf P t with
  | some z => match under P t with
    | .struct fs => grd (fs.toList.all fun f => hasInfo P f.type) (fillS P fs ps (z.map AV.v) fun cs => getAll cs fun vs => K (.v (.agg ⟨vs⟩)) L h)
    | .array _ e => grd (hasInfo P e) (fillP P e (P.cellsOf e) ps (z.map AV.v) fun cs => getAll cs fun vs => K (.v (.agg ⟨vs⟩)) L h)
    | _ => False
  | none => False
def dMake (t : Nat) (l c : AV) (L : List LE) (h : Hp) (K : KO) : Prop :=
  match under P t with
  | .slice e => match P.info? e with
    | some i => match zeroOf P e with
      | some z => match l with
        | .v (.int _ n) => match c with
          | .v (.int _ m) => grd (Nat.blt 0 i.bytes && Nat.blt 0 z.length) ((0 ≤ n ∧ n ≤ m ∧ i.bytes * m ≤ 281474976710656) ∧
              ∀ b, h b = none → K (.v (.slice (some ⟨b, 0, none⟩) n.toNat m.toNat)) L (h.new b (.cells (Builtin.zeroCells z.toArray m.toNat) e (0, 0))))
          | _ => False
        | _ => False
      | none => False
    | none => False
  | _ => False
def dUn (op : UnOp) (x : AV) (L : List LE) (h : Hp) (K : KO) : Prop :=
  match op, x with
  | .not, .v (.bool b) => K (.v (.bool (!b))) L h
  | .neg, .v (.int k n) => K (.v (.int k (k.wrap (0 - n)))) L h
  | .xor, .v (.int k n) => K (.v (.int k (bitsI .xor k (if k.signed then -1 else k.max) n))) L h
  | _, _ => False
def dInt (op : BinOp) (k : IntKind) (a : Int) (k' : IntKind) (b : Int) (L : List LE) (h : Hp) (K : KO) : Prop :=
  match op with
  | .shl => 0 ≤ b ∧ K (.v (.int k (shlI k a b))) L h
  | .shr => 0 ≤ b ∧ K (.v (.int k (shrI k a b))) L h
  | op => match decide (k = k') with
    | false => False
    | true => match op with
      | .add => K (.v (.int k (k.wrap (a + b)))) L h
      | .sub => K (.v (.int k (k.wrap (a - b)))) L h
      | .mul => K (.v (.int k (k.wrap (a * b)))) L h
      | .quo => b ≠ 0 ∧ K (.v (.int k (k.wrap (a.tdiv b)))) L h
      | .rem => b ≠ 0 ∧ K (.v (.int k (a.tmod b))) L h
      | .and => K (.v (.int k (bitsI .and k a b))) L h
      | .or => K (.v (.int k (bitsI .or k a b))) L h
      | .xor => K (.v (.int k (bitsI .xor k a b))) L h
      | .andNot => K (.v (.int k (bitsI .andNot k a b))) L h
      | .eql => par (a = b) (K (.v (.bool true)) L h) (K (.v (.bool false)) L h)
      | .neq => par (a = b) (K (.v (.bool false)) L h) (K (.v (.bool true)) L h)
      | .lss => par (a < b) (K (.v (.bool true)) L h) (K (.v (.bool false)) L h)
      | .leq => par (a ≤ b) (K (.v (.bool true)) L h) (K (.v (.bool false)) L h)
      | .gtr => par (b < a) (K (.v (.bool true)) L h) (K (.v (.bool false)) L h)
      | .geq => par (b ≤ a) (K (.v (.bool true)) L h) (K (.v (.bool false)) L h)
      | _ => False
def dStr (op : BinOp) (s t : ByteArray) (L : List LE) (h : Hp) (K : KO) : Prop :=
  match op with
  | .add => ((s.size + t.size : Nat) : Int) ≤ 9223372036854775807 ∧ K (.v (.string (s ++ t))) L h
  | .eql => par (s = t) (K (.v (.bool true)) L h) (K (.v (.bool false)) L h)
  | .neq => par (s = t) (K (.v (.bool false)) L h) (K (.v (.bool true)) L h)
  | .lss => par (sLt s t) (K (.v (.bool true)) L h) (K (.v (.bool false)) L h)
  | .leq => par (sLt s t ∨ s = t) (K (.v (.bool true)) L h) (K (.v (.bool false)) L h)
  | .gtr => par (sLt s t ∨ s = t) (K (.v (.bool false)) L h) (K (.v (.bool true)) L h)
  | .geq => par (sLt s t) (K (.v (.bool false)) L h) (K (.v (.bool true)) L h)
  | _ => False
/-- Struct types whose '==' holds all cells against one another: whole numbers, bools and strings alone. -/
def eqTy (P : Program) : Nat → Nat → Bool
  | 0, _ => false
  | d + 1, t => match under P t with
    | .int _ => true
    | .bool => true
    | .string => true
    | .struct fs => !P.stoodInHeld t && fs.toList.all fun f => f.name != "_" && (hasInfo P f.type && eqTy P d f.type)
    | _ => false
/-- The fields lie one behind the other. -/
def tight (P : Program) : Nat → Nat → Bool
  | 0, _ => false
  | d + 1, t => match under P t with
    | .struct fs => (go fs.toList 0 == some (P.cellsOf t)) && fs.toList.all fun f => tight P d f.type
    | _ => P.cellsOf t == 1
where go : List Field → Nat → Option Nat
  | [], o => some o
  | f :: fs, o => match f.offset == o with | true => go fs (o + P.cellsOf f.type) | false => none
/-- The cells are of these kinds. -/
def fitK : List Kd → List Value → Bool
  | [], [] => true
  | .int k :: ks, .int k' _ :: vs => decide (k = k') && fitK ks vs
  | .bool :: ks, .bool _ :: vs => fitK ks vs
  | .str :: ks, .string _ :: vs => fitK ks vs
  | _, _ => false
def tf (op : BinOp) (c : Prop) (L : List LE) (h : Hp) (K : KO) : Prop :=
  match op with
  | .eql => par c (K (.v (.bool true)) L h) (K (.v (.bool false)) L h)
  | .neq => par c (K (.v (.bool false)) L h) (K (.v (.bool true)) L h)
  | _ => False
def dEq (op : BinOp) (t : Nat) (x y : Value) (L : List LE) (h : Hp) (K : KO) : Prop :=
  match under P t with
  | .bool => match x with
    | .bool a => match y with
      | .bool b => tf op (a = b) L h K
      | _ => False
    | _ => False
  | .pointer e => match x with
    | .pointer p => match y with
      | .pointer q => grd (hasInfo P e && !(P.cellsOf e == 0)) (okPtr h p q ∧ tf op (p = q) L h K)
      | _ => False
    | _ => False
  | .slice _ => match x with
    | .slice a _ _ => match y with
      | .slice none _ _ => tf op (a = none) L h K
      | _ => False
    | _ => False
  | .map _ _ => match x with
    | .map a => match y with
      | .map none => tf op (a = none) L h K
      | _ => False
    | _ => False
  | .struct _ => match x with
    | .agg ⟨vs⟩ => match y with
      | .agg ⟨ws⟩ => grd (eqTy P 8 t && tight P 8 t && !P.eqGuardType P.depth t && fitK (kinds P 8 t) vs && fitK (kinds P 8 t) ws) (tf op (vs = ws) L h K)
      | _ => False
    | _ => False
  | _ => False
def dBin (op : BinOp) (t : Nat) (x y : AV) (L : List LE) (h : Hp) (K : KO) : Prop :=
  match x with
  | .v (.int k a) => match y with
    | .v (.int k' b) => dInt op k a k' b L h K
    | _ => False
  | .v (.string s) => match y with
    | .v (.string u) => dStr op s u L h K
    | _ => False
  | x => x.get fun v => y.get fun u => dEq P op t v u L h K
def dConv (src dst : Nat) (x : AV) (L : List LE) (h : Hp) (K : KO) : Prop :=
  match under P dst with
  | .int k => match x with
    | .v (.int _ n) => grd (hasUnder P src) (K (.v (.int k (k.wrap n))) L h)
    | _ => False
  | .string => match x with
    | .v (.string s) => match under P src with
      | .string => K (.v (.string s)) L h
      | _ => False
    | .v (.slice a n _) => match under P src with
      | .slice e => match under P e with
        | .int .u8 => ∃ s : ByteArray, h.row a n (bytesV s) ∧ K (.v (.string s)) L h
        | _ => False
      | _ => False
    | _ => False
  | .slice e => match x with
    | .v (.string s) => match under P src with
      | .string => match under P e with
        | .int .u8 => ∀ b c, h b = none → s.size ≤ c → K (.v (.slice (some ⟨b, 0, none⟩) s.size c)) L
            (h.new b (.cells ⟨bytesV s ++ List.replicate (c - s.size) (.int .u8 0)⟩ e (c, c + 1)))
        | _ => False
      | _ => False
    | .v (.slice A n c) => match A with
      | some ⟨b, o, none⟩ => match under P src with
        | .slice _ => match src == dst with
          | true => match under P e with
            | .int .u8 => ∃ cs t, h b = some (.cells cs t (0, 0)) ∧ K (.v (.slice (some ⟨b, o, none⟩) n c)) L (h.new b (.cells cs t (cs.size, cs.size + 1)))
            | _ => False
          | false => False
        | _ => False
      | _ => False
    | _ => False
  | _ => False
def dExtract (x : AV) (i : Nat) (L : List LE) (h : Hp) (K : KO) : Prop :=
  match x with
  | .v (.tuple ⟨vs⟩) => match vs[i]? with
    | some v => K (.v v) L h
    | none => False
  | _ => False
/-- What is appended, or copied: its cells, how many elements. -/
def source (size : Nat) (x : AV) (L : List LE) (h : Hp) (K : Nat → List Value → Prop) : Prop :=
  match x with
  | .v (.slice a n _) => ∃ vs, h.row a (n * size) vs ∧ oneAll' vs ∧ K n vs
  | .v (.string s) => grd (size == 1) (K s.size (bytesV s))
  | .sl l n => match findL L l with
    | some e => grd (lenB e.cs (n * size)) (getAll e.cs fun vs => oneAll vs (K n vs))
    | none => False
  | _ => False
where oneAll' (vs : List Value) : Prop := ∀ v ∈ vs, v.oneCell' = true
def appendD (s : Sl) (e size bytes : Nat) (z : List Value) (m : Nat) (vs : List Value) (h : Hp) (K : Sl → Hp → Prop) : Prop :=
  (s.n + m) * bytes ≤ 140737488355328 ∧
  (s.n + m ≤ s.c → h.canWA (s.a.map (·.add (s.n * size))) vs.length ∧ K ⟨s.a, s.n + m, s.c⟩ (h.wrA (s.a.map (·.add (s.n * size))) vs)) ∧
  (s.c < s.n + m → ∃ old, h.row s.a (s.n * size) old ∧ ∀ b c, h b = none → s.n + m ≤ c →
    K ⟨some ⟨b, 0, none⟩, s.n + m, c⟩ (h.new b (.cells ⟨old ++ vs ++ zerosV z (c - (s.n + m))⟩ e (0, 0))))
def dAppend (st : Nat) (s x : AV) (L : List LE) (h : Hp) (K : KO) : Prop :=
  match under P st with
  | .slice e => match P.info? e with
    | some i => match zeroOf P e with
      | some z => grd (Nat.blt 0 i.size && Nat.blt 0 i.bytes) (match s with
        | .v (.slice a n c) => source i.size x L h fun m vs => appendD ⟨a, n, c⟩ e i.size i.bytes z m vs h fun r h' => K (.v (.slice r.a r.n r.c)) L h'
        | _ => False)
      | none => False
    | none => False
  | _ => False
def dCopy (dt : Nat) (x y : AV) (L : List LE) (h : Hp) (K : KO) : Prop :=
  match under P dt with
  | .slice e => grd (hasInfo P e) (match x with
    | .v (.slice a n _) => match y with
      | .v (.slice sa sn _) => ∃ vs, h.row sa (Nat.min sn n * P.cellsOf e) vs ∧ (∀ v ∈ vs, v.oneCell' = true) ∧ h.canWA a vs.length ∧ K (.v (.int .i64 ((Nat.min sn n : Nat) : Int))) L (h.wrA a vs)
      | .v (.string s) => grd (P.cellsOf e == 1) (h.canWA a ((bytesV s).take (Nat.min s.size n)).length ∧ K (.v (.int .i64 ((Nat.min s.size n : Nat) : Int))) L (h.wrA a ((bytesV s).take (Nat.min s.size n))))
      | _ => False
    | _ => False)
  | _ => False
def dLen (t : Nat) (x : AV) (L : List LE) (h : Hp) (K : KO) : Prop :=
  match under P t with
  | .string => match x with
    | .v (.string s) => K (.v (.int .i64 (s.size : Int))) L h
    | _ => False
  | .slice _ => match x with
    | .v (.slice _ n _) => K (.v (.int .i64 (n : Int))) L h
    | .sl _ n => K (.v (.int .i64 (n : Int))) L h
    | _ => False
  | .array n _ => K (.v (.int .i64 (n : Int))) L h
  | _ => False
def dCap (t : Nat) (x : AV) (L : List LE) (h : Hp) (K : KO) : Prop :=
  match under P t with
  | .slice _ => match x with
    | .v (.slice _ _ c) => K (.v (.int .i64 (c : Int))) L h
    | _ => False
  | _ => False
def mmI (mx : Bool) (a b : Int) : Int := match mx with | true => iMax a b | false => iMin a b
def mmS (mx : Bool) (a b : ByteArray) : ByteArray := match mx with | true => sMax a b | false => sMin a b
def dMinMax (mx : Bool) (x : AV) : List AV → List LE → Hp → KO → Prop
  | [], L, h, K => K x L h
  | y :: xs, L, h, K => match x, y with
    | .v (.int k a), .v (.int k' b) => match decide (k = k') with
      | true => dMinMax mx (.v (.int k (mmI mx a b))) xs L h K
      | false => False
    | .v (.string a), .v (.string b) => dMinMax mx (.v (.string (mmS mx a b))) xs L h K
    | _, _ => False
end
end Go.Eng
