/-
  THE ENGINE, 2: the denotation of operations, of code, of a function.
-/
import Derived.Test.YtblghgacokoklaaDoorE0
import Derived.Orders
namespace Go.Eng

/-- Notes on the code, by place: where ways meet again, and what is known at a loop's head. -/
inductive Ann where
  | join (vs : List (Nat × Kd)) (ls : List (Nat × List Kd))
  | loop (vs : List (Nat × Kd)) (ls : List (Nat × List Kd))
  | order (l : List Nat)
  | jump (l : Nat)
  | live (n : Nat) (l : List Nat)
def lkA (l : List (Nat × Ann)) (n : Nat) : Option Ann :=
  match l with
  | [] => none
  | (m, a) :: l => match m == n with | true => some a | false => lkA l n
def lkG (G : List (Nat × (List Value → PT))) (f : Nat) : Option (List Value → PT) :=
  match G with
  | [] => none
  | (g, T) :: G => match g == f with | true => some T | false => lkG G f

@[reducible] def Fun : List Kd → Type → Type
  | [], β => β
  | k :: ks, β => k.T → Fun ks β
def lamK : (ks : List Kd) → {β : Type} → (List Value → β) → Fun ks β
  | [], _, f => f []
  | k :: ks, _, f => fun x => lamK ks fun vs => f (k.enc x :: vs)
/-- Cells as values of their kinds. -/
def appK : (ks : List Kd) → {β : Type} → Fun ks β → List AV → (β → Prop) → Prop
  | [], _, f, [], K => K f
  | .int k :: ks, _, f, x :: xs, K => match x with
    | .v (.int k' n) => match decide (k = k') with
      | true => appK ks (f n) xs K
      | false => False
    | _ => False
  | .bool :: ks, _, f, x :: xs, K => match x with
    | .v (.bool b) => appK ks (f b) xs K
    | _ => False
  | .str :: ks, _, f, x :: xs, K => match x with
    | .v (.string b) => appK ks (f b) xs K
    | _ => False
  | .sl :: ks, _, f, x :: xs, K => match x with
    | .v (.slice a n c) => appK ks (f ⟨a, n, c⟩) xs K
    | _ => False
  | .ptr :: ks, _, f, x :: xs, K => match x with
    | .v (.pointer p) => appK ks (f p) xs K
    | .p b o => appK ks (f (some ⟨b, o, none⟩)) xs K
    | _ => False
  | .map :: ks, _, f, x :: xs, K => match x with
    | .v (.map p) => appK ks (f p) xs K
    | _ => False
  | .raw :: ks, _, f, x :: xs, K => match x with
    | .f v => appK ks (f v) xs K
    | _ => False
  | _, _, _, _, _ => False
def Kd.av : (k : Kd) → k.T → AV
  | .int k, n => .v (.int k n)
  | .bool, b => .v (.bool b)
  | .str, s => .v (.string s)
  | .sl, s => .v (.slice s.a s.n s.c)
  | .ptr, p => .v (.pointer p)
  | .map, m => .v (.map m)
  | .raw, v => .f v
/-- For all values of these kinds, two families taken along. -/
def all2 : (ks : List Kd) → {β γ : Type} → Fun ks β → Fun ks γ → (List AV → β → γ → Prop) → Prop
  | [], _, _, f, g, K => K [] f g
  | .bool :: ks, _, _, f, g, K => (all2 ks (f true) (g true) fun vs a b => K (Kd.av .bool true :: vs) a b) ∧ (all2 ks (f false) (g false) fun vs a b => K (Kd.av .bool false :: vs) a b)
  | k :: ks, _, _, f, g, K => ∀ x : k.T, all2 ks (f x) (g x) fun vs a b => K (k.av x :: vs) a b
def all1 : (ks : List Kd) → {β : Type} → Fun ks β → (List AV → β → Prop) → Prop
  | [], _, f, K => K [] f
  | .bool :: ks, _, f, K => (all1 ks (f true) fun vs a => K (Kd.av .bool true :: vs) a) ∧ (all1 ks (f false) fun vs a => K (Kd.av .bool false :: vs) a)
  | k :: ks, _, f, K => ∀ x : k.T, all1 ks (f x) fun vs a => K (k.av x :: vs) a

def kindsOf (vs : List (Nat × Kd)) (ls : List (Nat × List Kd)) : List Kd := vs.map (·.2) ++ ls.flatMap (·.2)
/-- What is live, out of the slots and the boxes. -/
def liveV (A : Env) : List (Nat × Kd) → List AV
  | [] => []
  | (i, _) :: vs => getE A i :: liveV A vs
def liveL (L : List LE) : List (Nat × List Kd) → List AV
  | [] => []
  | (l, _) :: ls => (match findL L l with | some e => e.cs | none => []) ++ liveL L ls
def backV (A : Env) : List (Nat × Kd) → List AV → Env
  | [], _ => A
  | _ :: _, [] => A
  | (i, _) :: vs, x :: xs => backV (putE A i x) vs xs
def backL (L : List LE) : List (Nat × List Kd) → List AV → List LE
  | [], _ => L
  | (l, ks) :: ls, xs => backL (updL L l (xs.take ks.length)) ls (xs.drop ks.length)
/-- Boxes that are not named may not be written. -/
def freezeL (ls : List (Nat × List Kd)) : List LE → List LE
  | [] => []
  | e :: L => ⟨e.l, e.m && memN e.l (ls.map (·.1)), e.t, e.cs⟩ :: freezeL ls L
def thaw (L0 : List LE) : List LE → List LE
  | [] => []
  | e :: L => (match findL L0 e.l with | some e0 => ⟨e.l, e0.m, e.t, e.cs⟩ | none => e) :: thaw L0 L
/-- The named boxes are there, may be written, and have that many cells. -/
def okL (L : List LE) : List (Nat × List Kd) → Bool
  | [] => true
  | (l, ks) :: ls => (match findL L l with | some e => e.m && (e.cs.length == ks.length) | none => false) && okL L ls
/-- They are of the types that they were of. -/
def sameT (L L' : List LE) : List (Nat × List Kd) → Bool
  | [] => true
  | (l, _) :: ls => (match findL L l, findL L' l with | some e, some e' => e.t == e'.t | _, _ => false) && sameT L L' ls
def distinct : List Nat → Bool
  | [] => true
  | x :: xs => !memN x xs && distinct xs

def opWrites : List Oper → List Nat
  | [] => []
  | o :: ops => match o.dst with
    | some d => d :: opWrites ops
    | none => opWrites ops
def writes : Code → List Nat
  | .region _ ops _ => opWrites ops.toList
  | .seq a b => writes a ++ writes b
  | .cond _ a b => writes a ++ writes b
  | .block _ b => writes b
  | .loop b => writes b
  | _ => []

section
variable (P : Program) (lo : List Nat) (G : List (Nat × (List Value → PT))) (V : Value → List Value → PT)

def dCall (f : AV) (vs : List Value) (t : Nat) (L : List LE) (h : Hp) (K : KO) : Prop :=
  match f with
  | .v (.func (.func g) ⟨first⟩ ⟨cap⟩) => match lkG G g with
    | some T => T (first ++ (vs ++ cap)) h fun v h' => exVal P t v fun x => K x L h'
    | none => False
  | .f v => V v vs h fun v h' => exVal P t v fun x => K x L h'
  | _ => False
def optEv (A : Env) : Option Operand → Option AV
  | none => none
  | some x => some (ev A x)
def mapEv (A : Env) : List Operand → List AV
  | [] => []
  | x :: xs => ev A x :: mapEv A xs
def partsEv (A : Env) : List (Nat × Operand) → List (Nat × AV)
  | [] => []
  | (i, x) :: xs => (i, ev A x) :: partsEv A xs

def dBuiltin (b : Builtin) (ts : List Nat) (xs : List AV) (L : List LE) (h : Hp) (K : KO) : Prop :=
  match b with
  | .len => match ts, xs with
    | [t], [x] => dLen P t x L h K
    | _, _ => False
  | .cap => match ts, xs with
    | [t], [x] => dCap P t x L h K
    | _, _ => False
  | .min => match xs with
    | x :: xs => dMinMax false x xs L h K
    | [] => False
  | .max => match xs with
    | x :: xs => dMinMax true x xs L h K
    | [] => False
  | .append => match ts, xs with
    | [t, u], [x, y] => match under P u with
      | .int _ => False
      | _ => grd (hasUnder P u) (dAppend P t x y L h K)
    | _, _ => False
  | .copy => match ts, xs with
    | [t, _], [x, y] => dCopy P t x y L h K
    | _, _ => False
  | _ => False

def opD (d : Option Nat) (ty : Nat) (o : Op) (A : Env) (L : List LE) (h : Hp) (K : KO) : Prop :=
  match o with
  | .move x => K (ev A x) L h
  | .assign x => K (ev A x) L h
  | .pick c a b => match ev A c with
    | .v (.bool x) => match x with
      | true => K (ev A a) L h
      | false => K (ev A b) L h
    | _ => False
  | .alloc t => dAlloc P lo d t L h K
  | .box t x => dBox P lo d t (ev A x) L h K
  | .build t ps => dBuild P t (partsEv A ps.toList) L h K
  | .buildSlice t n ps => dBuildSlice P lo d t n (partsEv A ps.toList) L h K
  | .load t x => dLoad P t (ev A x) L h K
  | .store t x y => dStore P t (ev A x) (ev A y) L h K
  | .nilCheck x => dNil (ev A x) L h K
  | .binOp op t x y _ => dBin P op t (ev A x) (ev A y) L h K
  | .unOp op _ x => dUn op (ev A x) L h K
  | .convert s t x => dConv P s t (ev A x) L h K
  | .makeSlice t l c => dMake P t (ev A l) (ev A c) L h K
  | .slice t x l g m => dSlice P t (ev A x) (optEv A l) (optEv A g) (optEv A m) L h K
  | .fieldAddr s x f => dField P s f (ev A x) L h K
  | .indexAddr t x i => dIndexA P t (ev A x) (ev A i) L h K
  | .index t x i => dIndex P t (ev A x) (ev A i) L h K
  | .extract x i => dExtract (ev A x) i L h K
  | .makeFunc fn first cap => getAll (mapEv A first.toList) fun vs => getAll (mapEv A cap.toList) fun ws => K (.v (.func fn ⟨vs⟩ ⟨ws⟩)) L h
  | .call c => match c.callee with
    | .builtin b => dBuiltin P b c.argTypes.toList (mapEv A c.args.toList) L h K
    | .value f => getAll (mapEv A c.args.toList) fun vs => dCall P G V (ev A f) vs ty L h K
    | _ => False
  | _ => False

/-- Does it make a box (or a slice) that is kept apart? -/
def makes (o : Op) : Bool :=
  match o with
  | .alloc _ => true
  | .box _ _ => true
  | .buildSlice _ _ _ => true
  | _ => false
def killA (d : Option Nat) (o : Op) (A : Env) : Env :=
  match makes o with
  | true => match d with
    | some d => match memN d lo with
      | true => killE [d] A
      | false => A
    | none => A
  | false => A

abbrev KS := Env → List LE → Hp → Prop
def dstOf (ops : List Oper) (j : Nat) : Option Nat :=
  match ops[j]? with
  | some o => o.dst
  | none => none
def stepD (ops : List Oper) (o : Oper) (A : Env) (L : List LE) (h : Hp) (K : KS) : Prop :=
  match o.guard with
  | none => opD P lo G V o.dst o.type o.op A L h fun x L' h' => K (putD (killA lo o.dst o.op A) o.dst x) L' h'
  | some (j, want) => match dstOf ops j with
    | some g => match getE A g with
      | .v (.bool b) => match b, want with
        | true, true => opD P lo G V o.dst o.type o.op A L h fun x L' h' => K (putD (killA lo o.dst o.op A) o.dst x) L' h'
        | false, false => opD P lo G V o.dst o.type o.op A L h fun x L' h' => K (putD (killA lo o.dst o.op A) o.dst x) L' h'
        | _, _ => K (putD A o.dst (.v undef)) L h
      | .v (.tuple _) => K (putD A o.dst (.v undef)) L h
      | _ => False
    | none => False
def denOps (ops : List Oper) : List Oper → Env → List LE → Hp → KS → Prop
  | [], A, L, h, K => K A L h
  | o :: rest, A, L, h, K => stepD P lo G V ops o A L h fun A' L' h' => denOps ops rest A' L' h' K

/-! Regions whose order is drawn: an order in which what only reads comes as soon as it may; behind what acts, what has been read is looked at again where it might have been read later. -/
def pureT (t : Nat) : Bool :=
  match under P t with
  | .int _ => true
  | .string => true
  | _ => false
def intT (t : Nat) : Bool :=
  match under P t with
  | .int _ => true
  | _ => false
def lenT (t : Nat) : Bool :=
  match under P t with
  | .slice _ => true
  | .string => true
  | _ => false
def isLoad (o : Op) : Bool :=
  match o with
  | .load _ _ => true
  | _ => false
def bytesT (t : Nat) : Bool :=
  match under P t with
  | .slice e => match under P e with
    | .int .u8 => true
    | _ => false
  | _ => false
def strT (t : Nat) : Bool :=
  match under P t with
  | .string => true
  | _ => false
/-- A string of bytes that are read. -/
def isConv (o : Op) : Bool :=
  match o with
  | .convert s t _ => bytesT P s && strT P t
  | _ => false
def isRead (o : Op) : Bool := isLoad o || isConv P o
def quietB (o : Op) : Bool :=
  match o with
  | .move _ => true
  | .pick _ _ _ => true
  | .extract _ _ => true
  | .fieldAddr s _ f => (fieldOff P s f).isSome
  | .indexAddr _ _ _ => true
  | .slice _ _ _ _ _ => true
  | .unOp _ _ _ => true
  | .binOp _ t _ _ _ => pureT P t
  | .convert s t _ => (intT P s && intT P t) || (bytesT P s && strT P t)
  | .call c => match c.callee with
    | .builtin .len => match c.argTypes.toList with
      | [t] => lenT P t
      | _ => false
    | .builtin .max => true
    | .builtin .min => true
    | _ => false
  | .load _ _ => true
  | .nilCheck _ => true
  | _ => false
def quietO (o : Oper) : Bool := o.dst.isSome && quietB P o.op
def addAll (l : List Nat) : List Nat → List Nat
  | [] => l
  | x :: xs => match memN x l with
    | true => addAll l xs
    | false => addAll (x :: l) xs
def edgesOf (o : Oper) : List Nat := (o.after.toList.filter fun e => Region.binds .any e).map (·.on)
/-- All that must come before. -/
def ancOf (tab : List (List Nat)) (l : List Nat) : List Nat → List Nat
  | [] => l
  | e :: es => ancOf tab (addAll l (e :: (tab[e]?).getD [])) es
def ancTab (tab : List (List Nat)) : List Oper → List (List Nat)
  | [] => tab
  | o :: os => ancTab (tab ++ [ancOf tab [] (edgesOf o)]) os
def notAnc (tab : List (List Nat)) (i x : Nat) : Bool := !memN x ((tab[i]?).getD [])
def orderPair (ops : Array Oper) (tab : List (List Nat)) (x i : Nat) : Bool :=
  match ops[x]?, ops[i]? with
  | some ox, some oi => (!notAnc tab i x || (quietO P ox && ox.apart ops oi)) && ((!notAnc tab i x && !quietO P oi) || (match oi.dst with | some d => !(ox.looksAt ops).contains d && (ox.dst != some d) | none => true))
  | _, _ => false
def orderPairs (ops : Array Oper) (tab : List (List Nat)) : List Nat → Bool
  | [] => true
  | x :: l => l.all (orderPair P ops tab x) && orderPairs ops tab l
def orderTopo (ops : Array Oper) (seen : List Nat) : List Nat → Bool
  | [] => true
  | i :: l => (match ops[i]? with | some o => (edgesOf o).all (fun e => memN e seen && Nat.blt e i) | none => false) && orderTopo ops (i :: seen) l
def orderOk (ops : Array Oper) (tab : List (List Nat)) (l : List Nat) : Bool :=
  Region.noSelect ops && (l.length == ops.size) && (List.range ops.size).all (fun j => memN j l) && distinct l && ops.all (fun o => !quietO P o || (match o.dst with | some d => !(o.looksAt ops).contains d | none => false)) && orderTopo ops [] l && orderPairs P ops tab l
def rowsAt (h : Hp) (b o j : Nat) (vs : List Value) (p : Prop) : Prop :=
  match vs with
  | [] => p
  | v :: vs => h.at b (addo o j) = some v ∧ rowsAt h b o (j + 1) vs p
def stillAt (h : Hp) (b o t : Nat) (x : AV) (p : Prop) : Prop :=
  match isAggB P t with
  | true => match x with
    | .v (.agg ⟨vs⟩) => grd (lenB' vs (P.cellsOf t)) (rowsAt h b o 0 vs p)
    | _ => False
  | false => match x with
    | .v v => h.at b o = some v ∧ p
    | _ => False
where lenB' (l : List Value) (n : Nat) : Bool := l.length == n
/-- Has what was read stayed so? -/
def reLoad (L : List LE) (no : List Nat) (A : Env) (h : Hp) (x : Oper) (p : Prop) : Prop :=
  match x.op with
  | .load t ad => match ev A ad with
    | .p b o => match x.dst with
      | some d => grd (hasInfo P t && hasUnder P t) (stillAt P h b o t (getE A d) p)
      | none => False
    | .loc l _ => match findL L l with
      | some _ => match memN l no with
        | true => False
        | false => p
      | none => False
    | _ => False
  | .convert _ _ y => match ev A y with
    | .v (.slice a n _) => match x.dst with
      | some d => match getE A d with
        | .v (.string s) => h.row a n (bytesV s) ∧ p
        | _ => False
      | none => False
    | _ => False
  | _ => p
def reOne (ops : List Oper) (L : List LE) (no : List Nat) (A : Env) (h : Hp) (x : Oper) (p : Prop) : Prop :=
  match isRead P x.op with
  | false => p
  | true => match x.guard with
    | none => reLoad P L no A h x p
    | some (j, want) => match dstOf ops j with
      | some g => match getE A g with
        | .v (.bool b) => match b, want with
          | true, true => reLoad P L no A h x p
          | false, false => reLoad P L no A h x p
          | _, _ => p
        | .v (.tuple _) => p
        | _ => False
      | none => False
def reAll (ops : List Oper) (L : List LE) (no : List Nat) (A : Env) (h : Hp) : List Nat → Prop → Prop
  | [], p => p
  | i :: l, p => match ops[i]? with
    | some x => reOne P ops L no A h x (reAll ops L no A h l p)
    | none => False
/-- The boxes that an operation may write. -/
def keepOf (o : Oper) (A : Env) : List Nat :=
  match o.op with
  | .store _ x _ => match ev A x with
    | .loc l _ => [l]
    | _ => []
  | op => match makes op with
    | true => match o.dst with
      | some d => [d]
      | none => []
    | false => []
def dsts (d : Option Nat) : List Nat := match d with | some d => [d] | none => []
def keepLs (l : List Nat) : List (Nat × List Kd) := l.map fun x => (x, [])
def denP (ops : Array Oper) (tab : List (List Nat)) : List Nat → List Nat → Env → List LE → Hp → KS → Prop
  | [], _, A, L, h, K => K A L h
  | i :: rest, done, A, L, h, K => match ops[i]? with
    | none => False
    | some o => match quietO P o with
      | true => stepD P lo G V ops.toList o A L h fun A' L' h' => denP ops tab rest (done ++ [i]) A' L' h' K
      | false => stepD P lo G V ops.toList o A (freezeL (keepLs (keepOf o A)) L) h fun A' L' h' =>
          reAll P ops.toList L (dsts o.dst ++ keepOf o A) A' h' (done.filter (notAnc tab i)) (denP ops tab rest (done.filter (notAnc tab i)) A' (thaw L L') h' K)

/-- Only these slots are kept. -/
def keepL (A : Env) : List Nat → List (Nat × AV)
  | [] => []
  | i :: l => (i, getE A i) :: keepL A l
def keepA (l : List Nat) (A : Env) : Env := ⟨A.n, keepL A l⟩
abbrev KC := Exit → Env → List LE → Hp → Prop
def den (an : List (Nat × Ann)) : Code → Nat → Env → List LE → Hp → KC → Prop
  | .skip, _, A, L, h, K => K .normal A L h
  | .region _ ops draw, n, A, L, h, K => match draw with
    | false => denOps P lo G V ops.toList ops.toList A L h (K .normal)
    | true => match lkA an n with
      | some (.order l) => grd (P.follows .mixedOrders && orderOk P ops (ancTab [] ops.toList) l) (denP P lo G V ops (ancTab [] ops.toList) l [] A L h (K .normal))
      | _ => False
  | .seq x y, n, A, L, h, K => match lkA an n with
    | some (.join vs ls) => ∃ J : Fun (kindsOf vs ls) (Hp → Prop),
        grd (okL L ls && distinct (vs.map (·.1)) && distinct (ls.map (·.1)))
          (all1 (kindsOf vs ls) J (fun xs j => ∀ h, j h →
            den an y (2 * n + 1) (backV (forgetE (writes x) A) vs xs) (backL L ls (xs.drop vs.length)) h K) ∧
          den an x (2 * n) A (freezeL ls L) h fun e A' L' h' => match e with
            | .normal => grd (okL L' ls && sameT L L' ls) (appK (kindsOf vs ls) J (liveV A' vs ++ liveL L' ls) fun j => j h')
            | e => K e A' (thaw L L') h')
    | some (.live _ l) => den an x (2 * n) A L h fun e A' L' h' => match e with
      | .normal => den an y (2 * n + 1) (keepA l A') L' h' K
      | e => K e A' L' h'
    | _ => den an x (2 * n) A L h fun e A' L' h' => match e with
      | .normal => den an y (2 * n + 1) A' L' h' K
      | e => K e A' L' h'
  | .cond c x y, n, A, L, h, K => match ev A c with
    | .v (.bool b) => match b with
      | true => den an x (2 * n) A L h K
      | false => den an y (2 * n + 1) A L h K
    | _ => False
  | .block id x, n, A, L, h, K => den an x (2 * n) A L h fun e A' L' h' => match e with
    | .exit id' => match id' == id with
      | true => K .normal A' L' h'
      | false => K (.exit id') A' L' h'
    | e => K e A' L' h'
  | .loop x, n, A, L, h, K => match lkA an n with
    | some (.loop vs ls) => ∃ (I : Fun (kindsOf vs ls) (Hp → Prop)) (m : Fun (kindsOf vs ls) (Hp → Nat)),
        grd (okL L ls && distinct (vs.map (·.1)) && distinct (ls.map (·.1)))
          (appK (kindsOf vs ls) I (liveV A vs ++ liveL L ls) (fun j => j h) ∧
          all2 (kindsOf vs ls) I m fun xs i u => ∀ h, i h →
            den an x (2 * n) (backV (forgetE (writes x) A) vs xs) (backL (freezeL ls L) ls (xs.drop vs.length)) h fun e A' L' h' => match e with
              | .normal => grd (okL L' ls && sameT L L' ls) (appK (kindsOf vs ls) I (liveV A' vs ++ liveL L' ls) (fun j => j h') ∧ appK (kindsOf vs ls) m (liveV A' vs ++ liveL L' ls) fun q => q h' < u h)
              | e => K e A' (thaw L L') h')
    | _ => False
  | .exit id, _, A, L, h, K => K (.exit id) A L h
  | .ret, _, A, L, h, K => K .ret A L h
  | .label _, _, A, L, h, K => K .normal A L h
  | .goto l, _, A, L, h, K => K (.goto l) A L h
  | _, _, _, _, _, _ => False

/-- A body: a scope whose jumps all go forward to one label. -/
def denT (an : List (Nat × Ann)) (c : Code) (n : Nat) (A : Env) (L : List LE) (h : Hp) (K : KC) : Prop :=
  match c with
  | .scope x => match lkA an n with
    | some (.jump l) => match findLabel x l with
      | some r => den P lo G V an x (2 * n) A L h fun e A' L' h' => match e with
        | .goto l' => match l' == l with
          | true => den P lo G V an r (2 * n + 1) A' L' h' fun e A' L' h' => match e with
            | .goto _ => False
            | e => K e A' L' h'
          | false => False
        | e => K e A' L' h'
      | none => False
    | _ => False
  | .seq x (.scope y) => den P lo G V an x (2 * n) A L h fun e A' L' h' => match e with
    | .normal => match lkA an (2 * n + 1) with
      | some (.jump l) => match findLabel y l with
        | some r => den P lo G V an y (2 * (2 * n + 1)) A' L' h' fun e A' L' h' => match e with
          | .goto l' => match l' == l with
            | true => den P lo G V an r (2 * (2 * n + 1) + 1) A' L' h' fun e A' L' h' => match e with
              | .goto _ => False
              | e => K e A' L' h'
            | false => False
          | e => K e A' L' h'
        | none => False
      | _ => False
    | e => K e A' L' h'
  | c => den P lo G V an c n A L h K
/-- One result. -/
def resOne (A : Env) (L : List LE) (r : ResultVar) (K : Value → Prop) : Prop :=
  match r with
  | .tmp t => (getE A t).get K
  | .cell p t => grd (hasInfo P t && hasUnder P t) (match getE A p with
    | .loc l off => match findL L l with
      | some e => match isAggB P t with
        | true => grd (lenB (takeN e.cs off (P.cellsOf t)) (P.cellsOf t)) (getAll (takeN e.cs off (P.cellsOf t)) fun vs => K (.agg ⟨vs⟩))
        | false => (getN e.cs off).get K
      | none => False
    | _ => False)
def resAll (A : Env) (L : List LE) : List ResultVar → (List Value → Prop) → Prop
  | [], K => K []
  | r :: rs, K => resOne P A L r fun v => resAll A L rs fun vs => K (v :: vs)
def resD (A : Env) (L : List LE) (rs : List ResultVar) (K : Value → Prop) : Prop :=
  resAll P A L rs fun vs => match vs with
    | [v] => K v
    | vs => K (.tuple ⟨vs⟩)
def numL : Nat → List AV → List (Nat × AV)
  | _, [] => []
  | i, x :: xs => (i, x) :: numL (i + 1) xs
def initA (args : List AV) (n : Nat) : Env := ⟨args.length + (n - args.length), numL 0 args⟩
def denF (an : List (Nat × Ann)) (F : Func) (args : List AV) : PT := fun h Q =>
  match F.body with
  | some c => denT P lo G V an c 1 (initA args F.ntmps) [] h fun e A L h' => match e with
    | .normal => resD P A L F.results.toList fun v => Q v h'
    | .ret => resD P A L F.results.toList fun v => Q v h'
    | _ => False
  | none => False
end
end Go.Eng
