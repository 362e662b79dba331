/-
  JOINED.
-/
import Derived.Calls
import Derived.Tactics
import Derived.KernelRfl
import Derived.Deep.LoopGhost
import Derived.Laws.Append
import Derived.Orders
import Derived.RowKit3
import Derived.Laws.Cells
import Derived.Laws.Slices
import Derived.Laws.BytesArg
import Derived.Laws.Strings
set_option linter.unusedSimpArgs false
set_option linter.unusedVariables false
open Go.IntKind (wrap)
open List (length_cons mem_cons_self getElem?_eq_getElem getElem?_map mem_cons_of_mem length_set mem_cons pairwise_cons)
section
namespace Go.Eng
abbrev Hp:=Nat->Option Obj
abbrev PT:=Hp->(Value->Hp->Prop)->Prop
structure Sl where
 a:Option Addr
 n:Nat
 c:Nat
@[reducible] def Sl.v(s:Sl):Value:=.slice s.a s.n s.c
def Hp.at(h:Hp)(b o:Nat):Option Value:=
 match h b with
 |some (.cells c _ _)=>c[o]?
 |_=>none
def Hp.new(h:Hp)(b:Nat)(o:Obj):Hp:=λk=>if k=b then some o else h k
def setL(c:List Value)(o:Nat):List Value->List Value
 |[]=>c
 |v::vs=>setL (c.set o v) (o+1) vs
def Hp.wr(h:Hp)(b o:Nat)(vs:List Value):Hp:=
 λk=>if k=b then(match h b with
  |some (.cells c t f)=>some (.cells (setL c.toList o vs).toArray t f)
  |x=>x) else h k
def Hp.canW(h:Hp)(b o n:Nat):Prop:=
 ∃ c t f,h b=some (.cells c t f)/\o+n<=c.size/\∀ j,o<=j->j<o+n->¬ (f.1<=j/\j<f.2)
def Hp.row(h:Hp)(A:Option Addr)(k:Nat)(vs:List Value):Prop:=
 vs.length=k/\(k=0\/∃ b o,A=some ⟨b,o,none⟩/\∀ j,j<k->h.at b (o+j)=vs[j]?)
inductive Kd where
 |int (k:IntKind)|bool|str|sl|ptr|map|raw
@[reducible] def Kd.T:Kd->Type
 |.int _=>Int
 |.bool=>Bool
 |.str=>ByteArray
 |.sl=>Sl
 |.ptr=>Option Addr
 |.map=>Option Nat
 |.raw=>Value
@[reducible] def Kd.enc:(k:Kd)->k.T->Value
 |.int k,n=>.int k n
 |.bool,b=>.bool b
 |.str,s=>.string s
 |.sl,s=>.slice s.a s.n s.c
 |.ptr,p=>.pointer p
 |.map,m=>.map m
 |.raw,v=>v
inductive AV where
 |unk
 |v (x:Value)
 |p (b o:Nat)
 |loc (l off:Nat)
 |sl (l n:Nat)
 |f (x:Value)
structure LE where
 l:Nat
 m:Bool
 t:Nat
 cs:List AV
def grd(c:Bool)(p:Prop):Prop:=match c with|true=>p|false=>False
def AV.get(x:AV)(K:Value->Prop):Prop:=
 match x with
 |.v x=>K x
 |.p b o=>K (.pointer (some ⟨b,o,none⟩))
 |.f x=>K x
 |_=>False
def AV.plain:AV->Bool
 |.v _=>true
 |.p _ _=>true
 |.f _=>true
 |_=>false
def getAll:List AV->(List Value->Prop)->Prop
 |[],K=>K []
 |x::xs,K=>x.get λv=>getAll xs λvs=>K (v::vs)
def getN(A:List AV)(i:Nat):AV:=
 match A,i with
 |[],_=>.unk
 |x::_,0=>x
 |_::A,i+1=>getN A i
structure Env where
 n:Nat
 l:List (Nat×AV)
def look:List (Nat×AV)->Nat->AV
 |[],_=>.unk
 |(j,x)::l,i=>match Nat.beq j i with
  |true=>x
  |false=>look l i
def getE(A:Env)(i:Nat):AV:=match Nat.blt i A.n with
 |true=>look A.l i
 |false=>.unk
def putE(A:Env)(i:Nat)(x:AV):Env:=⟨A.n,(i,x)::A.l⟩
def putD(A:Env)(d:Option Nat)(x:AV):Env:=
 match d with
 |some d=>putE A d x
 |none=>A
def ev(A:Env):Operand->AV
 |.tmp t=>getE A t
 |.const v=>.v v
 |.global g=>.p g 0
 |.func f=>.v (.func (.func f) #[] #[])
def memN(i:Nat):List Nat->Bool
 |[]=>false
 |j::l=>(i == j) || memN i l
def findL(L:List LE)(l:Nat):Option LE:=
 match L with
 |[]=>none
 |e::L=>match e.l == l with|true=>some e|false=>findL L l
def updL(L:List LE)(l:Nat)(cs:List AV):List LE:=
 match L with
 |[]=>[]
 |e::L=>match e.l == l with|true=>⟨e.l,e.m,e.t,cs⟩::L|false=>e::updL L l cs
def delL(L:List LE)(l:Nat):List LE:=
 match L with
 |[]=>[]
 |e::L=>match e.l == l with|true=>L|false=>e::delL L l
def AV.kill(W:List Nat):AV->AV
 |.unk=>.unk
 |.v x=>.v x
 |.p b o=>.p b o
 |.f x=>.f x
 |.loc l o=>match memN l W with|true=>.unk|false=>.loc l o
 |.sl l n=>match memN l W with|true=>.unk|false=>.sl l n
def forgetL(W:List Nat):List (Nat×AV)->List (Nat×AV)
 |[]=>[]
 |(i,x)::l=>match memN i W with
  |true=>forgetL W l
  |false=>(i,x.kill W)::forgetL W l
def forgetE(W:List Nat)(A:Env):Env:=⟨A.n,forgetL W A.l⟩
def killL(W:List Nat):List (Nat×AV)->List (Nat×AV)
 |[]=>[]
 |(i,x)::l=>(i,x.kill W)::killL W l
def killE(W:List Nat)(A:Env):Env:=⟨A.n,killL W A.l⟩
def takeN(l:List AV)(o n:Nat):List AV:=(l.drop o).take n
def setLA(c:List AV)(o:Nat):List AV->List AV
 |[]=>c
 |v::vs=>setLA (c.set o v) (o+1) vs
def lenB(l:List AV)(n:Nat):Bool:=l.length == n
def allPlain(l:List AV):Bool:=l.all AV.plain
def stOk(v:Value)(p:Prop):Prop:=
 match v with
 |.agg _=>False
 |.tuple _=>False
 |_=>p
def under(P:Program)(t:Nat):TypeDesc:=(P.underlying t).getD .invalid
def kindOf(P:Program)(t:Nat):Kd:=
 match under P t with
 |.int k=>.int k
 |.bool=>.bool
 |.string=>.str
 |.slice _=>.sl
 |.pointer _=>.ptr
 |.map _ _=>.map
 |_=>.raw
def repl(n:Nat)(l:List Kd):List Kd:=
 match n with
 |0=>[]
 |n+1=>l++repl n l
def kinds(P:Program):Nat->Nat->List Kd
 |0,_=>[]
 |d+1,t=>
  match under P t with
  |.struct fs=>fs.toList.flatMap λf=>kinds P d f.type
  |.array n e=>repl n (kinds P d e)
  |_=>[kindOf P t]
def isAggB(P:Program)(t:Nat):Bool:=
 match under P t with
 |.struct _=>true
 |.array _ _=>true
 |_=>false
def elemT(P:Program)(t:Nat):Option Nat:=
 match under P t with
 |.slice e=>some e
 |_=>none
def hasInfo(P:Program)(t:Nat):Bool:=(P.info? t).isSome
def hasUnder(P:Program)(t:Nat):Bool:=(P.underlying t).isSome
def fieldOff(P:Program)(s f:Nat):Option (Nat×Nat):=
 match under P s with
 |.struct fs=>match fs[f]? with
  |some x=>match P.cellsOf x.type with
   |0=>none
   |_+1=>match hasInfo P x.type with
    |true=>some (x.offset,x.type)
    |false=>none
  |none=>none
 |_=>none
def zeroOf(P:Program)(t:Nat):Option (List Value):=
 match P.info? t with
 |some i=>match i.zero with
  |some z=>match z.cells.size == i.size with
   |true=>some z.cells.toList
   |false=>none
  |none=>none
 |none=>none
def addo(o:Nat):Nat->Nat
 |0=>o
 |j+1=>o+(j+1)
def mulo(i:Nat):Nat->Nat
 |1=>i
 |s=>i*s
def mkv(P:Program)(t:Nat)(vs:List Value):Value:=
 match isAggB P t with
 |true=>.agg ⟨vs⟩
 |false=>match vs with
  |[v]=>v
  |_=>.agg ⟨vs⟩
def cellsV(P:Program)(t:Nat)(x:AV)(K:List AV->Prop):Prop:=
 match isAggB P t with
 |true=>match x with
  |.v (.agg ⟨vs⟩)=>K (vs.map AV.v)
  |_=>False
 |false=>match x with
  |.v (.agg _)=>False
  |.v (.tuple _)=>False
  |.v y=>K [.v y]
  |.p b o=>K [.p b o]
  |.f y=>stOk y (K [.f y])
  |_=>False
def parB(b:Bool)(T F:Prop):Prop:=(b=true->T)/\(b=false->F)
def ex1(k:Kd)(K:Value->Prop):Prop:=
 match k with
 |.int k=>∃ n:Int,K (.int k n)
 |.bool=>∃ b:Bool,parB b (K (.bool true)) (K (.bool false))
 |.str=>∃ s:ByteArray,K (.string s)
 |.sl=>∃ s:Sl,K (.slice s.a s.n s.c)
 |.ptr=>∃ p:Option Addr,K (.pointer p)
 |.map=>∃ m:Option Nat,K (.map m)
 |.raw=>∃ v:Value,v.oneCell'=true/\K v
def exRd(h:Hp)(b o:Nat)(j:Nat):List Kd->(List Value->Prop)->Prop
 |[],K=>K []
 |k::ks,K=>ex1 k λv=>h.at b (addo o j)=some v/\exRd h b o (j+1) ks λvs=>K (v::vs)
def exAll:List Kd->(List Value->Prop)->Prop
 |[],K=>K []
 |k::ks,K=>ex1 k λv=>exAll ks λvs=>K (v::vs)
def par(c:Prop)(T F:Prop):Prop:=(c->T)/\(¬ c->F)
def exTup(P:Program):List Nat->(List Value->Prop)->Prop
 |[],K=>K []
 |t::ts,K=>exAll (kinds P 8 t) λvs=>exTup P ts λws=>K (mkv P t vs::ws)
def exVal(P:Program)(t:Nat)(v:Value)(K:AV->Prop):Prop:=
 match under P t with
 |.bool=>∃ b:Bool,v=.bool b/\parB b (K (.v (.bool true))) (K (.v (.bool false)))
 |.tuple ts=>match ts.toList with
  |[]=>K (.v v)
  |ts=>exTup P ts λvs=>v=.tuple ⟨vs⟩/\K (.v (.tuple ⟨vs⟩))
 |_=>exAll (kinds P 8 t) λvs=>v=mkv P t vs/\K (.v (mkv P t vs))
def bt(s:ByteArray)(i:Int):Int:=if h:i.toNat<s.size then((s[i.toNat]'h).toNat:Int) else 0
def bytesV(s:ByteArray):List Value:=s.data.toList.map λb=>.int .u8 b.toNat
def Sl.cut(s:Sl)(size:Nat)(l g m:Int):Sl:=
 ⟨if m.toNat=l.toNat then s.a else s.a.map (·.add (l.toNat*size)),g.toNat-l.toNat,m.toNat-l.toNat⟩
def Sl.okCut(s:Sl)(l g m:Int):Prop:=0<=l/\l<=g/\g<=m/\m<=(s.c:Int)
def okSub(s:ByteArray)(l g:Int):Prop:=0<=l/\l<=g/\g<=(s.size:Int)
def bitsI(op:BinOp)(k:IntKind)(x y:Int):Int:=
 let a:=BitVec.ofInt k.bits x
 let b:=BitVec.ofInt k.bits y
 match op with
 |.and=>k.wrap (a &&& b).toNat
 |.or=>k.wrap (a ||| b).toNat
 |.xor=>k.wrap (a ^^^ b).toNat
 |_=>k.wrap (a &&& ~~~b).toNat
def shlI(k:IntKind)(x y:Int):Int:=k.wrap (x*2 ^ (min y.toNat k.bits))
def shrI(k:IntKind)(x y:Int):Int:=x.fdiv (2 ^ (min y.toNat k.bits))
def sLt(s t:ByteArray):Prop:=Op.bytesLess s.toList t.toList=true
def sMin(s t:ByteArray):ByteArray:=if Op.bytesLess s.toList t.toList || s.toList == t.toList then s else t
def sMax(s t:ByteArray):ByteArray:=if Op.bytesLess s.toList t.toList then t else s
def iMin(x y:Int):Int:=if y<x then y else x
def iMax(x y:Int):Int:=if x<y then y else x
def solid(h:Hp)(a:Addr):Prop:=∃ c t,h a.block=some (.cells c t (0,0))/\0<c.size
def okPtr(h:Hp)(p q:Option Addr):Prop:=∀ a b,p=some a->q=some b->a.block≠b.block->solid h a/\solid h b
def Hp.wrA(h:Hp)(A:Option Addr)(vs:List Value):Hp:=
 match A with
 |some ⟨b,o,none⟩=>h.wr b o vs
 |_=>h
def Hp.canWA(h:Hp)(A:Option Addr)(n:Nat):Prop:=n=0\/∃ b o,A=some ⟨b,o,none⟩/\h.canW b o n
def oneAll:List Value->Prop->Prop
 |[],p=>p
 |v::vs,p=>stOk v (oneAll vs p)
def zerosV(z:List Value)(n:Nat):List Value:=(Builtin.zeroCells z.toArray n).toList
abbrev KO:=AV->List LE->Hp->Prop
section
variable(P:Program)(lo:List Nat)
def dNew(d:Option Nat)(t:Nat)(cs:List AV)(L:List LE)(h:Hp)(K:KO):Prop:=
 match d with
 |none=>False
 |some d=>match memN d lo with
  |true=>grd (allPlain cs) (match findL L d with
   |some e=>grd e.m (K (.loc d 0) (⟨d,true,t,cs⟩::delL L d) h)
   |none=>K (.loc d 0) (⟨d,true,t,cs⟩::L) h)
  |false=>getAll cs λvs=>∀ b,h b=none->K (.p b 0) L (h.new b (.cells ⟨vs⟩ t (0,0)))
def dAlloc(d:Option Nat)(t:Nat)(L:List LE)(h:Hp)(K:KO):Prop:=
 match zeroOf P t with
 |some z=>dNew lo d t (z.map AV.v) L h K
 |none=>False
def dBox(d:Option Nat)(t:Nat)(x:AV)(L:List LE)(h:Hp)(K:KO):Prop:=
 cellsV P t x λcs=>dNew lo d t cs L h K
def dLoad(t:Nat)(x:AV)(L:List LE)(h:Hp)(K:KO):Prop:=
 grd (hasInfo P t && hasUnder P t) (match x with
  |.p b o=>match under P t with
   |.bool=>grd (P.cellsOf t == 1) (∃ x:Bool,h.at b o=some (.bool x)/\parB x (K (.v (.bool true)) L h) (K (.v (.bool false)) L h))
   |_=>grd ((kinds P 8 t).length == P.cellsOf t) (exRd h b o 0 (kinds P 8 t) λvs=>K (.v (mkv P t vs)) L h)
  |.loc l off=>match findL L l with
   |some e=>match isAggB P t with
    |true=>grd (lenB (takeN e.cs off (P.cellsOf t)) (P.cellsOf t)) (getAll (takeN e.cs off (P.cellsOf t)) λvs=>K (.v (.agg ⟨vs⟩)) L h)
    |false=>grd (Nat.blt off e.cs.length) (K (getN e.cs off) L h)
   |none=>False
  |_=>False)
def plainAll:List AV->Prop->Prop
 |[],p=>p
 |x::xs,p=>match x with
  |.v v=>stOk v (plainAll xs p)
  |.p _ _=>plainAll xs p
  |.f v=>stOk v (plainAll xs p)
  |_=>False
def dStore(t:Nat)(x y:AV)(L:List LE)(h:Hp)(K:KO):Prop:=
 grd (hasInfo P t) (cellsV P t y λcs=>grd (lenB cs (P.cellsOf t)) (match x with
  |.p b o=>getAll cs λvs=>oneAll vs (h.canW b o vs.length/\K (.v undef) L (h.wr b o vs))
  |.loc l off=>match findL L l with
   |some e=>grd (e.m && Nat.ble (off+cs.length) e.cs.length) (plainAll cs (K (.v undef) (updL L l (setLA e.cs off cs)) h))
   |none=>False
  |_=>False))
def dNil(x:AV)(L:List LE)(h:Hp)(K:KO):Prop:=
 match x with
 |.p b o=>K (.p b o) L h
 |.loc l o=>K (.loc l o) L h
 |.v (.pointer p)=>∃ b o,p=some ⟨b,o,none⟩/\K (.p b o) L h
 |_=>False
def dField(s f:Nat)(x:AV)(L:List LE)(h:Hp)(K:KO):Prop:=
 match fieldOff P s f with
 |some (off,_)=>match x with
  |.p b o=>K (.p b (addo o off)) L h
  |.loc l o=>K (.loc l (addo o off)) L h
  |_=>False
 |none=>False
def dIndexA(t:Nat)(x i:AV)(L:List LE)(h:Hp)(K:KO):Prop:=
 match i with
 |.v (.int _ n)=>match under P t with
  |.slice e=>grd (hasInfo P e) (match x with
   |.v (.slice a len _)=>∃ b o,a=some ⟨b,o,none⟩/\(0<=n/\n<(len:Int))/\K (.p b (o+mulo n.toNat (P.cellsOf e))) L h
   |.sl l len=>match n with
    |.ofNat k=>grd (Nat.blt k len) (K (.loc l (k*P.cellsOf e)) L h)
    |.negSucc _=>False
   |_=>False)
  |.array len e=>grd (hasInfo P e) (match x with
   |.p b o=>(0<=n/\n<(len:Int))/\K (.p b (o+mulo n.toNat (P.cellsOf e))) L h
   |.loc l o=>match n with
    |.ofNat k=>grd (Nat.blt k len) (K (.loc l (o+k*P.cellsOf e)) L h)
    |.negSucc _=>False
   |_=>False)
  |_=>False
 |_=>False
def dIndex(t:Nat)(x i:AV)(L:List LE)(h:Hp)(K:KO):Prop:=
 match i with
 |.v (.int _ n)=>match under P t with
  |.string=>match x with
   |.v (.string s)=>(0<=n/\n<(s.size:Int))/\K (.v (.int .u8 (bt s n))) L h
   |_=>False
  |_=>False
 |_=>False
def bnd(x:Option AV)(d:Int)(K:Int->Prop):Prop:=
 match x with
 |none=>K d
 |some (.v (.int _ n))=>K n
 |some _=>False
def dSlice(t:Nat)(x:AV)(lo' hi mx:Option AV)(L:List LE)(h:Hp)(K:KO):Prop:=
 match under P t with
 |.string=>match x with
  |.v (.string s)=>match mx with
   |none=>bnd lo' 0 λl=>bnd hi s.size λg=>okSub s l g/\K (.v (.string (s.extract l.toNat g.toNat))) L h
   |some _=>False
  |_=>False
 |.slice e=>grd (hasInfo P e && (hi.isSome || mx.isNone)) (match x with
  |.v (.slice a n c)=>bnd lo' 0 λl=>bnd hi n λg=>bnd mx c λm=>
    Sl.okCut ⟨a,n,c⟩ l g m/\K (.v (.slice (Sl.cut ⟨a,n,c⟩ (P.cellsOf e) l g m).a (Sl.cut ⟨a,n,c⟩ (P.cellsOf e) l g m).n (Sl.cut ⟨a,n,c⟩ (P.cellsOf e) l g m).c)) L h
  |_=>False)
 |.array n e=>grd (hasInfo P e && mx.isNone) (match x with
  |.p b o=>bnd lo' 0 λl=>bnd hi n λg=>
    Sl.okCut ⟨some ⟨b,o,none⟩,n,n⟩ l g n/\K (.v (.slice (Sl.cut ⟨some ⟨b,o,none⟩,n,n⟩ (P.cellsOf e) l g n).a (Sl.cut ⟨some ⟨b,o,none⟩,n,n⟩ (P.cellsOf e) l g n).n (Sl.cut ⟨some ⟨b,o,none⟩,n,n⟩ (P.cellsOf e) l g n).c)) L h
  |_=>False)
 |_=>False
def fillP(e size:Nat):List (Nat×AV)->List AV->(List AV->Prop)->Prop
 |[],cs,K=>K cs
 |(i,x)::ps,cs,K=>cellsV P e x λvs=>grd (lenB vs size && Nat.ble (i*size+size) cs.length) (fillP e size ps (setLA cs (i*size) vs) K)
def replA(n:Nat)(l:List AV):List AV:=
 match n with
 |0=>[]
 |n+1=>l++replA n l
def dBuildSlice(d:Option Nat)(t n:Nat)(ps:List (Nat×AV))(L:List LE)(h:Hp)(K:KO):Prop:=
 match under P t with
 |.slice e=>grd (hasInfo P e) (match zeroOf P e with
  |some z=>grd (Nat.ble (n*P.cellsOf e) 16777216 && Nat.blt 0 z.length) (fillP P e (P.cellsOf e) ps (replA n (z.map AV.v)) λcs=>match d with
   |none=>False
   |some d=>match memN d lo with
    |true=>grd (allPlain cs) (match findL L d with
     |some x=>grd x.m (K (.sl d n) (⟨d,true,e,cs⟩::delL L d) h)
     |none=>K (.sl d n) (⟨d,true,e,cs⟩::L) h)
    |false=>getAll cs λvs=>∀ b,h b=none->K (.v (.slice (some ⟨b,0,none⟩) n n)) L (h.new b (.cells ⟨vs⟩ e (0,0))))
  |none=>False)
 |_=>False
def fillS(fs:Array Field):List (Nat×AV)->List AV->(List AV->Prop)->Prop
 |[],cs,K=>K cs
 |(i,x)::ps,cs,K=>match fs[i]? with
  |some f=>cellsV P f.type x λvs=>grd (hasInfo P f.type && lenB vs (P.cellsOf f.type) && Nat.ble (f.offset+vs.length) cs.length) (fillS fs ps (setLA cs f.offset vs) K)
  |none=>False
def dBuild(t:Nat)(ps:List (Nat×AV))(L:List LE)(h:Hp)(K:KO):Prop:=
 match zeroOf P t with
 |some z=>match under P t with
  |.struct fs=>grd (fs.toList.all λf=>hasInfo P f.type) (fillS P fs ps (z.map AV.v) λcs=>getAll cs λvs=>K (.v (.agg ⟨vs⟩)) L h)
  |.array _ e=>grd (hasInfo P e) (fillP P e (P.cellsOf e) ps (z.map AV.v) λcs=>getAll cs λvs=>K (.v (.agg ⟨vs⟩)) L h)
  |_=>False
 |none=>False
def dMake(t:Nat)(l c:AV)(L:List LE)(h:Hp)(K:KO):Prop:=
 match under P t with
 |.slice e=>match P.info? e with
  |some i=>match zeroOf P e with
   |some z=>match l with
    |.v (.int _ n)=>match c with
     |.v (.int _ m)=>grd (Nat.blt 0 i.bytes && Nat.blt 0 z.length) ((0<=n/\n<=m/\i.bytes*m<=281474976710656) /\
       ∀ b,h b=none->K (.v (.slice (some ⟨b,0,none⟩) n.toNat m.toNat)) L (h.new b (.cells (Builtin.zeroCells z.toArray m.toNat) e (0,0))))
     |_=>False
    |_=>False
   |none=>False
  |none=>False
 |_=>False
def dUn(op:UnOp)(x:AV)(L:List LE)(h:Hp)(K:KO):Prop:=
 match op,x with
 |.not,.v (.bool b)=>K (.v (.bool (!b))) L h
 |.neg,.v (.int k n)=>K (.v (.int k (k.wrap (0-n)))) L h
 |.xor,.v (.int k n)=>K (.v (.int k (bitsI .xor k (if k.signed then -1 else k.max) n))) L h
 |_,_=>False
def dInt(op:BinOp)(k:IntKind)(a:Int)(k':IntKind)(b:Int)(L:List LE)(h:Hp)(K:KO):Prop:=
 match op with
 |.shl=>0<=b/\K (.v (.int k (shlI k a b))) L h
 |.shr=>0<=b/\K (.v (.int k (shrI k a b))) L h
 |op=>match decide (k=k') with
  |false=>False
  |true=>match op with
   |.add=>K (.v (.int k (k.wrap (a+b)))) L h
   |.sub=>K (.v (.int k (k.wrap (a-b)))) L h
   |.mul=>K (.v (.int k (k.wrap (a*b)))) L h
   |.quo=>b≠0/\K (.v (.int k (k.wrap (a.tdiv b)))) L h
   |.rem=>b≠0/\K (.v (.int k (a.tmod b))) L h
   |.and=>K (.v (.int k (bitsI .and k a b))) L h
   |.or=>K (.v (.int k (bitsI .or k a b))) L h
   |.xor=>K (.v (.int k (bitsI .xor k a b))) L h
   |.andNot=>K (.v (.int k (bitsI .andNot k a b))) L h
   |.eql=>par (a=b) (K (.v (.bool true)) L h) (K (.v (.bool false)) L h)
   |.neq=>par (a=b) (K (.v (.bool false)) L h) (K (.v (.bool true)) L h)
   |.lss=>par (a<b) (K (.v (.bool true)) L h) (K (.v (.bool false)) L h)
   |.leq=>par (a<=b) (K (.v (.bool true)) L h) (K (.v (.bool false)) L h)
   |.gtr=>par (b<a) (K (.v (.bool true)) L h) (K (.v (.bool false)) L h)
   |.geq=>par (b<=a) (K (.v (.bool true)) L h) (K (.v (.bool false)) L h)
   |_=>False
def dStr(op:BinOp)(s t:ByteArray)(L:List LE)(h:Hp)(K:KO):Prop:=
 match op with
 |.add=>((s.size+t.size:Nat):Int)<=9223372036854775807/\K (.v (.string (s++t))) L h
 |.eql=>par (s=t) (K (.v (.bool true)) L h) (K (.v (.bool false)) L h)
 |.neq=>par (s=t) (K (.v (.bool false)) L h) (K (.v (.bool true)) L h)
 |.lss=>par (sLt s t) (K (.v (.bool true)) L h) (K (.v (.bool false)) L h)
 |.leq=>par (sLt s t\/s=t) (K (.v (.bool true)) L h) (K (.v (.bool false)) L h)
 |.gtr=>par (sLt s t\/s=t) (K (.v (.bool false)) L h) (K (.v (.bool true)) L h)
 |.geq=>par (sLt s t) (K (.v (.bool false)) L h) (K (.v (.bool true)) L h)
 |_=>False
def eqTy(P:Program):Nat->Nat->Bool
 |0,_=>false
 |d+1,t=>match under P t with
  |.int _=>true
  |.bool=>true
  |.string=>true
  | .struct fs => !P.stoodInHeld t && fs.toList.all fun f => f.name != "_" && (hasInfo P f.type && eqTy P d f.type)
  |_=>false
def tight(P:Program):Nat->Nat->Bool
 |0,_=>false
 |d+1,t=>match under P t with
  |.struct fs=>(go fs.toList 0 == some (P.cellsOf t)) && fs.toList.all λf=>tight P d f.type
  |_=>P.cellsOf t == 1
where go:List Field->Nat->Option Nat
 |[],o=>some o
 |f::fs,o=>match f.offset == o with|true=>go fs (o+P.cellsOf f.type)|false=>none
def fitK:List Kd->List Value->Bool
 |[],[]=>true
 |.int k::ks,.int k' _::vs=>decide (k=k') && fitK ks vs
 |.bool::ks,.bool _::vs=>fitK ks vs
 |.str::ks,.string _::vs=>fitK ks vs
 |_,_=>false
def tf(op:BinOp)(c:Prop)(L:List LE)(h:Hp)(K:KO):Prop:=
 match op with
 |.eql=>par c (K (.v (.bool true)) L h) (K (.v (.bool false)) L h)
 |.neq=>par c (K (.v (.bool false)) L h) (K (.v (.bool true)) L h)
 |_=>False
def dEq(op:BinOp)(t:Nat)(x y:Value)(L:List LE)(h:Hp)(K:KO):Prop:=
 match under P t with
 |.bool=>match x with
  |.bool a=>match y with
   |.bool b=>tf op (a=b) L h K
   |_=>False
  |_=>False
 |.pointer e=>match x with
  |.pointer p=>match y with
   |.pointer q=>grd (hasInfo P e && !(P.cellsOf e == 0)) (okPtr h p q/\tf op (p=q) L h K)
   |_=>False
  |_=>False
 |.slice _=>match x with
  |.slice a _ _=>match y with
   |.slice none _ _=>tf op (a=none) L h K
   |_=>False
  |_=>False
 |.map _ _=>match x with
  |.map a=>match y with
   |.map none=>tf op (a=none) L h K
   |_=>False
  |_=>False
 |.struct _=>match x with
  |.agg ⟨vs⟩=>match y with
   |.agg ⟨ws⟩=>grd (eqTy P 8 t && tight P 8 t && !P.eqGuardType P.depth t && fitK (kinds P 8 t) vs && fitK (kinds P 8 t) ws) (tf op (vs=ws) L h K)
   |_=>False
  |_=>False
 |_=>False
def dBin(op:BinOp)(t:Nat)(x y:AV)(L:List LE)(h:Hp)(K:KO):Prop:=
 match x with
 |.v (.int k a)=>match y with
  |.v (.int k' b)=>dInt op k a k' b L h K
  |_=>False
 |.v (.string s)=>match y with
  |.v (.string u)=>dStr op s u L h K
  |_=>False
 |x=>x.get λv=>y.get λu=>dEq P op t v u L h K
def dConv(src dst:Nat)(x:AV)(L:List LE)(h:Hp)(K:KO):Prop:=
 match under P dst with
 |.int k=>match x with
  |.v (.int _ n)=>grd (hasUnder P src) (K (.v (.int k (k.wrap n))) L h)
  |_=>False
 |.string=>match x with
  |.v (.string s)=>match under P src with
   |.string=>K (.v (.string s)) L h
   |_=>False
  |.v (.slice a n _)=>match under P src with
   |.slice e=>match under P e with
    |.int .u8=>∃ s:ByteArray,h.row a n (bytesV s)/\K (.v (.string s)) L h
    |_=>False
   |_=>False
  |_=>False
 |.slice e=>match x with
  |.v (.string s)=>match under P src with
   |.string=>match under P e with
    |.int .u8=>∀ b c,h b=none->s.size<=c->K (.v (.slice (some ⟨b,0,none⟩) s.size c)) L
      (h.new b (.cells ⟨bytesV s++List.replicate (c-s.size) (.int .u8 0)⟩ e (c,c+1)))
    |_=>False
   |_=>False
  |.v (.slice A n c)=>match A with
   |some ⟨b,o,none⟩=>match under P src with
    |.slice _=>match src == dst with
     |true=>match under P e with
      |.int .u8=>∃ cs t,h b=some (.cells cs t (0,0))/\K (.v (.slice (some ⟨b,o,none⟩) n c)) L (h.new b (.cells cs t (cs.size,cs.size+1)))
      |_=>False
     |false=>False
    |_=>False
   |_=>False
  |_=>False
 |_=>False
def dMakeMap(r:Option Operand)(L:List LE)(h:Hp)(K:KO):Prop:=
 match r with
 |none=>∀ b,h b=none->K (.v (.map (some b))) L (h.new b (.map #[] 0))
 |some _=>False
def Hp.mp(h:Hp)(m:Option Nat)(es:Array MapEntry)(c:Nat):Prop:=match m with|none=>es=#[]/\c=0|some b=>h b=some (.map es c)
def Hp.setM(h:Hp)(m:Option Nat)(o:Obj):Hp:=match m with|none=>h|some b=>h.new b o
def kFit:Value->Value->Bool
 |.int k _,.int k' _=>decide (k=k')
 |.string _,.string _=>true
 |_,_=>false
def kEq:Value->Value->Bool
 |.int k a,.int k' b=>decide (k=k') && a == b
 |.string a,.string b=>decide (a=b)
 |.pointer a,.pointer b=>decide (a=b)
 |_,_=>false
def keysFit(k:Value)(es:Array MapEntry):Prop:=∀ e∈es.toList,kFit k e.key=true
def mget(es:Array MapEntry)(k z:Value):Value:=match es.toList.find? λe=>kEq k e.key with|some e=>e.val|none=>z
def mhas(es:Array MapEntry)(k:Value):Prop:=∃ e∈es.toList,kEq k e.key=true
def mPut(es:Array MapEntry)(c:Nat)(k v:Value):Obj:=
 match es.toList.findIdx? λe=>kEq k e.key with
 |some i=>.map (es.modify i λe=>{ e with key:=k,val:=v }) c
 |none=>.map (es.push { key:=k,val:=v,born:=c }) (c+1)
def mDel(es:Array MapEntry)(k:Value):Array MapEntry:=
 match es.toList.findIdx? λe=>kEq k e.key with
 |some i=>es.eraseIdxIfInBounds i
 |none=>es
def zeroV(P:Program)(t:Nat):Option Value:=
 match P.info? t with
 |some i=>i.zero
 |none=>none
def keysP(h:Hp)(k:Value)(es:Array MapEntry):Prop:=match k with
 |.pointer p=>∀ e∈es.toList,∃ q,e.key=.pointer q/\okPtr h p q
 |_=>False
def keyFit(P:Program)(t:Nat)(h:Hp)(k:Value)(es:Array MapEntry)(p:Prop):Prop:=
 match under P t with
 |.pointer _=>keysP h k es/\p
 |_=>keysFit k es/\p
def keyV(P:Program)(t:Nat)(v:Value)(p:Prop):Prop:=
 match under P t with
 |.int _=>match v with
  |.int _ _=>p
  |_=>False
 |.string=>match v with
  |.string _=>p
  |_=>False
 |.pointer e=>match v with
  |.pointer _=>grd (hasInfo P e && !(P.cellsOf e == 0)) p
  |_=>False
 |_=>False
def dLookup(t:Nat)(x i:AV)(ok:Bool)(L:List LE)(h:Hp)(K:KO):Prop:=
 match under P t with
 |.map kt et=>match zeroV P et with
  |some z=>match x with
   |.v (.map m)=>i.get λk=>keyV P kt k (∃ es c,h.mp m es c/\keyFit P kt h k es (match ok with
    |false=>exVal P et (mget es k z) λx=>K x L h
    |true=>par (mhas es k) (exAll (kinds P 8 et) λvs=>mget es k z=mkv P et vs/\K (.v (.tuple ⟨[mkv P et vs,.bool true]⟩)) L h) (K (.v (.tuple ⟨[z,.bool false]⟩)) L h)))
   |_=>False
  |none=>False
 |_=>False
def dMapUpdate(t:Nat)(x i y:AV)(L:List LE)(h:Hp)(K:KO):Prop:=
 match under P t with
 |.map kt _=>match x with
  |.v (.map m)=>i.get λk=>y.get λv=>keyV P kt k (∃ b es c,m=some b/\h b=some (.map es c)/\keyFit P kt h k es (K (.v undef) L (h.new b (mPut es c k v))))
  |_=>False
 |_=>False
def dDelete(t:Nat)(x i:AV)(L:List LE)(h:Hp)(K:KO):Prop:=
 match under P t with
 |.map kt _=>match x with
  |.v (.map m)=>i.get λk=>keyV P kt k (∃ es c,h.mp m es c/\keyFit P kt h k es (K (.v (.tuple ⟨[]⟩)) L (h.setM m (.map (mDel es k) c))))
  |_=>False
 |_=>False
def dClear(t:Nat)(x:AV)(L:List LE)(h:Hp)(K:KO):Prop:=
 match under P t with
 |.map _ _=>match x with
  |.v (.map m)=>∃ es c,h.mp m es c/\K (.v (.tuple ⟨[]⟩)) L (h.setM m (.map #[] c))
  |_=>False
 |.slice e=>match zeroOf P e with
  |some z=>match x with
   |.v (.slice a n _)=>grd (z.all λv=>v.oneCell') (h.canWA a (n*z.length)/\K (.v (.tuple ⟨[]⟩)) L (h.wrA a (zerosV z n)))
   |_=>False
  |none=>False
 |_=>False
def dRange(t:Nat)(x:AV)(L:List LE)(h:Hp)(K:KO):Prop:=
 match under P t with
 |.map _ _=>match x with
  |.v (.map m)=>∃ es c,h.mp m es c/\∀ b,h b=none->K (.p b 0) L (h.new b (.mapIter m c #[] c))
  |_=>False
 |_=>False
def nextOk(es:Array MapEntry)(seen:Array Nat)(last:Nat):Bool:=!(!seen.isEmpty && !es.isEmpty && es.all (λe=>decide (e.born ≥ last)))
def dNext(x:AV)(str:Bool)(L:List LE)(h:Hp)(K:KO):Prop:=
 match str with
 |true=>False
 |false=>x.get λv=>match v with
  |.pointer p=>∃ r m s seen la es c,p=some ⟨r,0,none⟩/\h r=some (.mapIter m s seen la)/\h.mp m es c/\nextOk es seen la=true /\
    (∀ e,e∈es.toList->seen.contains e.born=false->K (.v (.tuple ⟨[.bool true,e.key,e.val]⟩)) L (h.new r (.mapIter m s (seen.push e.born) c))) /\
    ((∀ e∈es.toList,e.born<s->seen.contains e.born=true)->K (.v (.tuple ⟨[.bool false]⟩)) L h)
  |_=>False
def hintOf(d:Option Nat):List Nat->Option (Nat×Nat)
 |[]=>none
 |x::xs=>match d with
  |none=>none
  |some d=>match Nat.beq (x / 4294967296) (d+1) with
   |true=>some (x / 65536 % 65536,x % 65536)
   |false=>hintOf (some d) xs
def dEntry(d:Option Nat)(x:AV)(L:List LE)(h:Hp)(K:KO):Prop:=
 match hintOf d lo with
 |some (kt,et)=>x.get λv=>match v with
  |.pointer p=>∃ r b s seen es c st e,p=some ⟨r,0,none⟩/\h r=some (.mapIter (some b) s seen c)/\seen.back?=some st/\h b=some (.map es c)/\es.find? (λe=>e.born == st)=some e /\
    exTup P [kt,et] λvs=>[e.key,e.val]=vs/\K (.v (.tuple ⟨vs⟩)) L h
  |_=>False
 |none=>False
def dExtract(x:AV)(i:Nat)(L:List LE)(h:Hp)(K:KO):Prop:=
 match x with
 |.v (.tuple ⟨vs⟩)=>match vs[i]? with
  |some v=>K (.v v) L h
  |none=>False
 |_=>False
def source(size:Nat)(x:AV)(L:List LE)(h:Hp)(K:Nat->List Value->Prop):Prop:=
 match x with
 |.v (.slice a n _)=>∃ vs,h.row a (n*size) vs/\oneAll' vs/\K n vs
 |.v (.string s)=>grd (size == 1) (K s.size (bytesV s))
 |.sl l n=>match findL L l with
  |some e=>grd (lenB e.cs (n*size)) (getAll e.cs λvs=>oneAll vs (K n vs))
  |none=>False
 |_=>False
where oneAll' (vs:List Value):Prop:=∀ v∈vs,v.oneCell'=true
def appendD(s:Sl)(e size bytes:Nat)(z:List Value)(m:Nat)(vs:List Value)(h:Hp)(K:Sl->Hp->Prop):Prop:=
 (s.n+m)*bytes<=140737488355328 /\
 (s.n+m<=s.c->h.canWA (s.a.map (·.add (s.n*size))) vs.length/\K ⟨s.a,s.n+m,s.c⟩ (h.wrA (s.a.map (·.add (s.n*size))) vs)) /\
 (s.c<s.n+m->∃ old,h.row s.a (s.n*size) old/\∀ b c,h b=none->s.n+m<=c ->
  K ⟨some ⟨b,0,none⟩,s.n+m,c⟩ (h.new b (.cells ⟨old++vs++zerosV z (c-(s.n+m))⟩ e (0,0))))
def dAppend(st:Nat)(s x:AV)(L:List LE)(h:Hp)(K:KO):Prop:=
 match under P st with
 |.slice e=>match P.info? e with
  |some i=>match zeroOf P e with
   |some z=>grd (Nat.blt 0 i.size && Nat.blt 0 i.bytes) (match s with
    |.v (.slice a n c)=>source i.size x L h λm vs=>appendD ⟨a,n,c⟩ e i.size i.bytes z m vs h λr h'=>K (.v (.slice r.a r.n r.c)) L h'
    |_=>False)
   |none=>False
  |none=>False
 |_=>False
def dAppendN(st:Nat)(s x:AV)(L:List LE)(h:Hp)(K:KO):Prop:=
 match under P st with
 |.slice e=>match P.info? e with
  |some i=>match zeroOf P e with
   |some z=>grd (Nat.blt 0 i.size && Nat.blt 0 i.bytes && z.all λv=>v.oneCell') (match s with
    |.v (.slice a n c)=>match x with
     |.v (.int _ m)=>(0:Int)<=m/\appendD ⟨a,n,c⟩ e i.size i.bytes z m.toNat (zerosV z m.toNat) h λr h'=>K (.v (.slice r.a r.n r.c)) L h'
     |_=>False
    |_=>False)
   |none=>False
  |none=>False
 |_=>False
def dCopy(dt:Nat)(x y:AV)(L:List LE)(h:Hp)(K:KO):Prop:=
 match under P dt with
 |.slice e=>grd (hasInfo P e) (match x with
  |.v (.slice a n _)=>match y with
   |.v (.slice sa sn _)=>∃ vs,h.row sa (Nat.min sn n*P.cellsOf e) vs/\(∀ v∈vs,v.oneCell'=true)/\h.canWA a vs.length/\K (.v (.int .i64 ((Nat.min sn n:Nat):Int))) L (h.wrA a vs)
   |.v (.string s)=>grd (P.cellsOf e == 1) (h.canWA a ((bytesV s).take (Nat.min s.size n)).length/\K (.v (.int .i64 ((Nat.min s.size n:Nat):Int))) L (h.wrA a ((bytesV s).take (Nat.min s.size n))))
   |_=>False
  |_=>False)
 |_=>False
def dLen(t:Nat)(x:AV)(L:List LE)(h:Hp)(K:KO):Prop:=
 match under P t with
 |.string=>match x with
  |.v (.string s)=>K (.v (.int .i64 (s.size:Int))) L h
  |_=>False
 |.slice _=>match x with
  |.v (.slice _ n _)=>K (.v (.int .i64 (n:Int))) L h
  |.sl _ n=>K (.v (.int .i64 (n:Int))) L h
  |_=>False
 |.array n _=>K (.v (.int .i64 (n:Int))) L h
 |.map _ _=>match x with
  |.v (.map m)=>∃ es c,h.mp m es c/\K (.v (.int .i64 (es.size:Int))) L h
  |_=>False
 |_=>False
def dCap(t:Nat)(x:AV)(L:List LE)(h:Hp)(K:KO):Prop:=
 match under P t with
 |.slice _=>match x with
  |.v (.slice _ _ c)=>K (.v (.int .i64 (c:Int))) L h
  |_=>False
 |_=>False
def mmI(mx:Bool)(a b:Int):Int:=match mx with|true=>iMax a b|false=>iMin a b
def mmS(mx:Bool)(a b:ByteArray):ByteArray:=match mx with|true=>sMax a b|false=>sMin a b
def dMinMax(mx:Bool)(x:AV):List AV->List LE->Hp->KO->Prop
 |[],L,h,K=>K x L h
 |y::xs,L,h,K=>match x,y with
  |.v (.int k a),.v (.int k' b)=>match decide (k=k') with
   |true=>dMinMax mx (.v (.int k (mmI mx a b))) xs L h K
   |false=>False
  |.v (.string a),.v (.string b)=>dMinMax mx (.v (.string (mmS mx a b))) xs L h K
  |_,_=>False
end
end Go.Eng
end
section
namespace Go.Eng
inductive Ann where
 |join (vs:List (Nat×Kd)) (ls:List (Nat×List Kd))
 |loop (vs:List (Nat×Kd)) (ls:List (Nat×List Kd))
 |order (l:List Nat)
 |orderL (l lt:List Nat)
 |jump (l:Nat)
 |live (n:Nat) (l:List Nat)
 |cut
def lkA(l:List (Nat×Ann))(n:Nat):Option Ann:=
 match l with
 |[]=>none
 |(m,a)::l=>match m == n with|true=>some a|false=>lkA l n
def lkG(G:List (Nat×(List Value->PT)))(f:Nat):Option (List Value->PT):=
 match G with
 |[]=>none
 |(g,T)::G=>match g == f with|true=>some T|false=>lkG G f
@[reducible] def Fun:List Kd->Type->Type
 |[],β=>β
 |k::ks,β=>k.T->Fun ks β
def lamK:(ks:List Kd)->{β:Type}->(List Value->β)->Fun ks β
 |[],_,f=>f []
 |k::ks,_,f=>λx=>lamK ks λvs=>f (k.enc x::vs)
def appK:(ks:List Kd)->{β:Type}->Fun ks β->List AV->(β->Prop)->Prop
 |[],_,f,[],K=>K f
 |.int k::ks,_,f,x::xs,K=>match x with
  |.v (.int k' n)=>match decide (k=k') with
   |true=>appK ks (f n) xs K
   |false=>False
  |_=>False
 |.bool::ks,_,f,x::xs,K=>match x with
  |.v (.bool b)=>appK ks (f b) xs K
  |_=>False
 |.str::ks,_,f,x::xs,K=>match x with
  |.v (.string b)=>appK ks (f b) xs K
  |_=>False
 |.sl::ks,_,f,x::xs,K=>match x with
  |.v (.slice a n c)=>appK ks (f ⟨a,n,c⟩) xs K
  |_=>False
 |.ptr::ks,_,f,x::xs,K=>match x with
  |.v (.pointer p)=>appK ks (f p) xs K
  |.p b o=>appK ks (f (some ⟨b,o,none⟩)) xs K
  |_=>False
 |.map::ks,_,f,x::xs,K=>match x with
  |.v (.map p)=>appK ks (f p) xs K
  |_=>False
 |.raw::ks,_,f,x::xs,K=>match x with
  |.f v=>appK ks (f v) xs K
  |_=>False
 |_,_,_,_,_=>False
def Kd.av:(k:Kd)->k.T->AV
 |.int k,n=>.v (.int k n)
 |.bool,b=>.v (.bool b)
 |.str,s=>.v (.string s)
 |.sl,s=>.v (.slice s.a s.n s.c)
 |.ptr,p=>.v (.pointer p)
 |.map,m=>.v (.map m)
 |.raw,v=>.f v
def all2:(ks:List Kd)->{β γ:Type}->Fun ks β->Fun ks γ->(List AV->β->γ->Prop)->Prop
 |[],_,_,f,g,K=>K [] f g
 |.bool::ks,_,_,f,g,K=>(all2 ks (f true) (g true) λvs a b=>K (Kd.av .bool true::vs) a b)/\(all2 ks (f false) (g false) λvs a b=>K (Kd.av .bool false::vs) a b)
 |k::ks,_,_,f,g,K=>∀ x:k.T,all2 ks (f x) (g x) λvs a b=>K (k.av x::vs) a b
def all1:(ks:List Kd)->{β:Type}->Fun ks β->(List AV->β->Prop)->Prop
 |[],_,f,K=>K [] f
 |.bool::ks,_,f,K=>(all1 ks (f true) λvs a=>K (Kd.av .bool true::vs) a)/\(all1 ks (f false) λvs a=>K (Kd.av .bool false::vs) a)
 |k::ks,_,f,K=>∀ x:k.T,all1 ks (f x) λvs a=>K (k.av x::vs) a
def kindsOf(vs:List (Nat×Kd))(ls:List (Nat×List Kd)):List Kd:=vs.map (·.2)++ls.flatMap (·.2)
def liveV(A:Env):List (Nat×Kd)->List AV
 |[]=>[]
 |(i,_)::vs=>getE A i::liveV A vs
def liveL(L:List LE):List (Nat×List Kd)->List AV
 |[]=>[]
 |(l,_)::ls=>(match findL L l with|some e=>e.cs|none=>[])++liveL L ls
def backV(A:Env):List (Nat×Kd)->List AV->Env
 |[],_=>A
 |_::_,[]=>A
 |(i,_)::vs,x::xs=>backV (putE A i x) vs xs
def backL(L:List LE):List (Nat×List Kd)->List AV->List LE
 |[],_=>L
 |(l,ks)::ls,xs=>backL (updL L l (xs.take ks.length)) ls (xs.drop ks.length)
def freezeL(ls:List (Nat×List Kd)):List LE->List LE
 |[]=>[]
 |e::L=>⟨e.l,e.m && memN e.l (ls.map (·.1)),e.t,e.cs⟩::freezeL ls L
def thaw(L0:List LE):List LE->List LE
 |[]=>[]
 |e::L=>(match findL L0 e.l with|some e0=>⟨e.l,e0.m,e.t,e.cs⟩|none=>e)::thaw L0 L
def okL(L:List LE):List (Nat×List Kd)->Bool
 |[]=>true
 |(l,ks)::ls=>(match findL L l with|some e=>e.m && (e.cs.length == ks.length)|none=>false) && okL L ls
def sameT(L L':List LE):List (Nat×List Kd)->Bool
 |[]=>true
 |(l,_)::ls=>(match findL L l,findL L' l with|some e,some e'=>e.t == e'.t|_,_=>false) && sameT L L' ls
def distinct:List Nat->Bool
 |[]=>true
 |x::xs=>!memN x xs && distinct xs
def opWrites:List Oper->List Nat
 |[]=>[]
 |o::ops=>match o.dst with
  |some d=>d::opWrites ops
  |none=>opWrites ops
def writes:Code->List Nat
 |.region _ ops _=>opWrites ops.toList
 |.seq a b=>writes a++writes b
 |.cond _ a b=>writes a++writes b
 |.block _ b=>writes b
 |.loop b=>writes b
 |_=>[]
section
variable(P:Program)(lo:List Nat)(G:List (Nat×(List Value->PT)))(V:Value->List Value->PT)
def dCall(f:AV)(vs:List Value)(t:Nat)(L:List LE)(h:Hp)(K:KO):Prop:=
 match f with
 |.v (.func (.func g) ⟨first⟩ ⟨cap⟩)=>match lkG G g with
  |some T=>T (first++(vs++cap)) h λv h'=>exVal P t v λx=>K x L h'
  |none=>False
 |.f v=>V v vs h λv h'=>exVal P t v λx=>K x L h'
 |_=>False
def optEv(A:Env):Option Operand->Option AV
 |none=>none
 |some x=>some (ev A x)
def mapEv(A:Env):List Operand->List AV
 |[]=>[]
 |x::xs=>ev A x::mapEv A xs
def partsEv(A:Env):List (Nat×Operand)->List (Nat×AV)
 |[]=>[]
 |(i,x)::xs=>(i,ev A x)::partsEv A xs
def dBuiltin(b:Builtin)(ts:List Nat)(xs:List AV)(L:List LE)(h:Hp)(K:KO):Prop:=
 match b with
 |.len=>match ts,xs with
  |[t],[x]=>dLen P t x L h K
  |_,_=>False
 |.cap=>match ts,xs with
  |[t],[x]=>dCap P t x L h K
  |_,_=>False
 |.min=>match xs with
  |x::xs=>dMinMax false x xs L h K
  |[]=>False
 |.max=>match xs with
  |x::xs=>dMinMax true x xs L h K
  |[]=>False
 |.append=>match ts,xs with
  |[t,u],[x,y]=>match under P u with
   |.int _=>grd (hasUnder P u) (dAppendN P t x y L h K)
   |_=>grd (hasUnder P u) (dAppend P t x y L h K)
  |_,_=>False
 |.copy=>match ts,xs with
  |[t,_],[x,y]=>dCopy P t x y L h K
  |_,_=>False
 |.delete=>match ts,xs with
  |t::_,[x,y]=>dDelete P t x y L h K
  |_,_=>False
 |.clear=>match ts,xs with
  |[t],[x]=>dClear P t x L h K
  |_,_=>False
 |_=>False
def opD(d:Option Nat)(ty:Nat)(o:Op)(A:Env)(L:List LE)(h:Hp)(K:KO):Prop:=
 match o with
 |.move x=>K (ev A x) L h
 |.assign x=>K (ev A x) L h
 |.pick c a b=>match ev A c with
  |.v (.bool x)=>match x with
   |true=>K (ev A a) L h
   |false=>K (ev A b) L h
  |_=>False
 |.alloc t=>dAlloc P lo d t L h K
 |.box t x=>dBox P lo d t (ev A x) L h K
 |.build t ps=>dBuild P t (partsEv A ps.toList) L h K
 |.buildSlice t n ps=>dBuildSlice P lo d t n (partsEv A ps.toList) L h K
 |.load t x=>dLoad P t (ev A x) L h K
 |.store t x y=>dStore P t (ev A x) (ev A y) L h K
 |.nilCheck x=>dNil (ev A x) L h K
 |.binOp op t x y _=>dBin P op t (ev A x) (ev A y) L h K
 |.unOp op _ x=>dUn op (ev A x) L h K
 |.convert s t x=>dConv P s t (ev A x) L h K
 |.makeSlice t l c=>dMake P t (ev A l) (ev A c) L h K
 |.makeMap _ r=>dMakeMap r L h K
 |.lookup t x i ok=>dLookup P t (ev A x) (ev A i) ok L h K
 |.mapUpdate t x i y=>dMapUpdate P t (ev A x) (ev A i) (ev A y) L h K
 |.range t x=>dRange P t (ev A x) L h K
 |.next x str=>dNext (ev A x) str L h K
 |.entry x=>dEntry P lo d (ev A x) L h K
 |.slice t x l g m=>dSlice P t (ev A x) (optEv A l) (optEv A g) (optEv A m) L h K
 |.fieldAddr s x f=>dField P s f (ev A x) L h K
 |.indexAddr t x i=>dIndexA P t (ev A x) (ev A i) L h K
 |.index t x i=>dIndex P t (ev A x) (ev A i) L h K
 |.extract x i=>dExtract (ev A x) i L h K
 |.makeFunc fn first cap=>getAll (mapEv A first.toList) λvs=>getAll (mapEv A cap.toList) λws=>K (.v (.func fn ⟨vs⟩ ⟨ws⟩)) L h
 |.call c=>match c.callee with
  |.builtin b=>dBuiltin P b c.argTypes.toList (mapEv A c.args.toList) L h K
  |.value f=>getAll (mapEv A c.args.toList) λvs=>dCall P G V (ev A f) vs ty L h K
  |_=>False
 |_=>False
def makes(o:Op):Bool:=
 match o with
 |.alloc _=>true
 |.box _ _=>true
 |.buildSlice _ _ _=>true
 |_=>false
def killA(d:Option Nat)(o:Op)(A:Env):Env:=
 match makes o with
 |true=>match d with
  |some d=>match memN d lo with
   |true=>killE [d] A
   |false=>A
  |none=>A
 |false=>A
def bsD(t n:Nat)(ps:List (Nat×AV))(C:Nat->List Value->Prop):Prop:=
 match under P t with
 |.slice e=>grd (hasInfo P e) (match zeroOf P e with
  |some z=>grd (Nat.ble (n*P.cellsOf e) 16777216 && Nat.blt 0 z.length) (fillP P e (P.cellsOf e) ps (replA n (z.map AV.v)) λcs=>getAll cs (C e))
  |none=>False)
 |_=>False
def mkD(t:Nat)(l c:AV)(C:Nat->List Value->Int->Int->Prop):Prop:=
 match under P t with
 |.slice e=>match P.info? e with
  |some i=>match zeroOf P e with
   |some z=>match l with
    |.v (.int _ n)=>match c with
     |.v (.int _ m)=>grd (Nat.blt 0 i.bytes && Nat.blt 0 z.length) ((0<=n/\n<=m/\i.bytes*m<=281474976710656)/\C e z n m)
     |_=>False
    |_=>False
   |none=>False
  |none=>False
 |_=>False
def lateD(o:Op)(A:Env)(p:Prop):Prop:=
 match o with
 |.buildSlice t n ps=>bsD P t n (partsEv A ps.toList) λ_ _=>p
 |.makeSlice t l c=>mkD P t (ev A l) (ev A c) λ_ _ _ _=>p
 |.makeMap _ r=>match r with
  |none=>p
  |some _=>False
 |.alloc t=>match zeroOf P t with
  |some _=>p
  |none=>False
 |_=>False
def isUnk(x:AV):Bool:=match x with|.unk=>true|_=>false
def isLate(lo:List Nat)(o:Oper):Bool:=
 (match o.op with|.buildSlice _ _ _=>true|.makeSlice _ _ _=>true|.makeMap _ _=>true|.alloc _=>true|_=>false) &&
 (match o.dst with|some d=>!memN d lo|none=>false)
abbrev KS:=Env->List LE->Hp->Prop
def dstOf(ops:List Oper)(j:Nat):Option Nat:=
 match ops[j]? with
 |some o=>o.dst
 |none=>none
def stepD(ops:List Oper)(o:Oper)(A:Env)(L:List LE)(h:Hp)(K:KS):Prop:=
 match o.guard with
 |none=>opD P lo G V o.dst o.type o.op A L h λx L' h'=>K (putD (killA lo o.dst o.op A) o.dst x) L' h'
 |some (j,want)=>match dstOf ops j with
  |some g=>match getE A g with
   |.v (.bool b)=>match b,want with
    |true,true=>opD P lo G V o.dst o.type o.op A L h λx L' h'=>K (putD (killA lo o.dst o.op A) o.dst x) L' h'
    |false,false=>opD P lo G V o.dst o.type o.op A L h λx L' h'=>K (putD (killA lo o.dst o.op A) o.dst x) L' h'
    |_,_=>K (putD A o.dst (.v undef)) L h
   |.v (.tuple _)=>K (putD A o.dst (.v undef)) L h
   |_=>False
  |none=>False
def denOps(ops:List Oper):List Oper->Env->List LE->Hp->KS->Prop
 |[],A,L,h,K=>K A L h
 |o::rest,A,L,h,K=>stepD P lo G V ops o A L h λA' L' h'=>denOps ops rest A' L' h' K
def pureT(t:Nat):Bool:=
 match under P t with
 |.int _=>true
 |.string=>true
 |_=>false
def intT(t:Nat):Bool:=
 match under P t with
 |.int _=>true
 |_=>false
def lenT(t:Nat):Bool:=
 match under P t with
 |.slice _=>true
 |.string=>true
 |_=>false
def isLoad(o:Op):Bool:=
 match o with
 |.load _ _=>true
 |_=>false
def bytesT(t:Nat):Bool:=
 match under P t with
 |.slice e=>match under P e with
  |.int .u8=>true
  |_=>false
 |_=>false
def strT(t:Nat):Bool:=
 match under P t with
 |.string=>true
 |_=>false
def isConv(o:Op):Bool:=
 match o with
 |.convert s t _=>bytesT P s && strT P t
 |_=>false
def lookT(t:Nat):Bool:=
 match under P t with
 |.map kt _=>strT P kt
 |_=>false
def isLook(o:Op):Bool:=
 match o with
 |.lookup t _ _ ok=>!ok && lookT P t
 |_=>false
def isEqP(o:Op):Bool:=
 match o with
 |.binOp op t _ _ _=>match op with
  |.eql=>match under P t with
   |.pointer _=>true
   |_=>false
  |.neq=>match under P t with
   |.pointer _=>true
   |_=>false
  |_=>false
 |_=>false
def isRead(o:Op):Bool:=isLoad o || (isConv P o || (isLook P o || isEqP P o))
def quietB(o:Op):Bool:=
 match o with
 |.move _=>true
 |.pick _ _ _=>true
 |.extract _ _=>true
 |.fieldAddr s _ f=>(fieldOff P s f).isSome
 |.indexAddr _ _ _=>true
 |.index t _ _=>strT P t
 |.slice _ _ _ _ _=>true
 |.unOp _ _ _=>true
 |.binOp op t x y z=>pureT P t || isEqP P (.binOp op t x y z)
 |.convert s t _=>(intT P s && intT P t) || (bytesT P s && strT P t)
 |.call c=>match c.callee with
  |.builtin .len=>match c.argTypes.toList with
   |[t]=>lenT P t
   |_=>false
  |.builtin .max=>true
  |.builtin .min=>true
  |_=>false
 |.load _ _=>true
 |.nilCheck _=>true
 |.lookup t _ _ ok=>!ok && lookT P t
 |.build _ _=>true
 |_=>false
def quietO(o:Oper):Bool:=o.dst.isSome && quietB P o.op
def addAll(l:List Nat):List Nat->List Nat
 |[]=>l
 |x::xs=>match memN x l with
  |true=>addAll l xs
  |false=>addAll (x::l) xs
def edgesOf(o:Oper):List Nat:=(o.after.toList.filter λe=>Region.binds .any e).map (·.on)
def ancOf(tab:List (List Nat))(l:List Nat):List Nat->List Nat
 |[]=>l
 |e::es=>ancOf tab (addAll l (e::(tab[e]?).getD [])) es
def ancTab(tab:List (List Nat)):List Oper->List (List Nat)
 |[]=>tab
 |o::os=>ancTab (tab++[ancOf tab [] (edgesOf o)]) os
def notAnc(tab:List (List Nat))(i x:Nat):Bool:=!memN x ((tab[i]?).getD [])
def orderPair(ops:Array Oper)(tab:List (List Nat))(x i:Nat):Bool:=
 match ops[x]?,ops[i]? with
 |some ox,some oi=>(!notAnc tab i x || (quietO P ox && ox.apart ops oi)) && ((!notAnc tab i x && !quietO P oi) || (match oi.dst with|some d=>!(ox.looksAt ops).contains d && (ox.dst != some d)|none=>true))
 |_,_=>false
def orderPairs(ops:Array Oper)(tab:List (List Nat)):List Nat->Bool
 |[]=>true
 |x::l=>l.all (orderPair P ops tab x) && orderPairs ops tab l
def orderTopo(ops:Array Oper)(seen:List Nat):List Nat->Bool
 |[]=>true
 |i::l=>(match ops[i]? with|some o=>(edgesOf o).all (λe=>memN e seen && Nat.blt e i)|none=>false) && orderTopo ops (i::seen) l
def orderOk(ops:Array Oper)(tab:List (List Nat))(l:List Nat):Bool:=
 Region.noSelect ops && (l.length == ops.size) && (List.range ops.size).all (λj=>memN j l) && distinct l && ops.all (λo=>!quietO P o || (match o.dst with|some d=>!(o.looksAt ops).contains d|none=>false)) && orderTopo ops [] l && orderPairs P ops tab l
def rowsAt(h:Hp)(b o j:Nat)(vs:List Value)(p:Prop):Prop:=
 match vs with
 |[]=>p
 |v::vs=>h.at b (addo o j)=some v/\rowsAt h b o (j+1) vs p
def stillAt(h:Hp)(b o t:Nat)(x:AV)(p:Prop):Prop:=
 match isAggB P t with
 |true=>match x with
  |.v (.agg ⟨vs⟩)=>grd (lenB' vs (P.cellsOf t)) (rowsAt h b o 0 vs p)
  |_=>False
 |false=>match x with
  |.v v=>h.at b o=some v/\p
  |_=>False
where lenB' (l:List Value) (n:Nat):Bool:=l.length == n
def reLoad(L:List LE)(no:List Nat)(A:Env)(h:Hp)(x:Oper)(p:Prop):Prop:=
 match x.op with
 |.load t ad=>match ev A ad with
  |.p b o=>match x.dst with
   |some d=>grd (hasInfo P t && hasUnder P t) (stillAt P h b o t (getE A d) p)
   |none=>False
  |.loc l _=>match findL L l with
   |some _=>match memN l no with
    |true=>False
    |false=>p
   |none=>False
  |_=>False
 |.convert _ _ y=>match ev A y with
  |.v (.slice a n _)=>match x.dst with
   |some d=>match getE A d with
    |.v (.string s)=>h.row a n (bytesV s)/\p
    |_=>False
   |none=>False
  |_=>False
 |.lookup t y i _=>match under P t with
  |.map _ et=>match zeroV P et with
   |some z=>match ev A y with
    |.v (.map m)=>match ev A i with
     |.v (.string k)=>match x.dst with
      |some d=>match getE A d with
       |.v v=>(∃ es c,h.mp m es c/\keysFit (.string k) es/\mget es (.string k) z=v)/\p
       |_=>False
      |none=>False
     |_=>False
    |_=>False
   |none=>False
  |_=>False
 |.binOp _ _ _ _ _=>False
 |_=>p
def reOne(ops:List Oper)(L:List LE)(no:List Nat)(A:Env)(h:Hp)(x:Oper)(p:Prop):Prop:=
 match isRead P x.op with
 |false=>p
 |true=>match x.guard with
  |none=>reLoad P L no A h x p
  |some (j,want)=>match dstOf ops j with
   |some g=>match getE A g with
    |.v (.bool b)=>match b,want with
     |true,true=>reLoad P L no A h x p
     |false,false=>reLoad P L no A h x p
     |_,_=>p
    |.v (.tuple _)=>p
    |_=>False
   |none=>False
def reAll(ops:List Oper)(L:List LE)(no:List Nat)(A:Env)(h:Hp):List Nat->Prop->Prop
 |[],p=>p
 |i::l,p=>match ops[i]? with
  |some x=>reOne P ops L no A h x (reAll ops L no A h l p)
  |none=>False
def keepOf(o:Oper)(A:Env):List Nat:=
 match o.op with
 |.store _ x _=>match ev A x with
  |.loc l _=>[l]
  |_=>[]
 |op=>match makes op with
  |true=>match o.dst with
   |some d=>[d]
   |none=>[]
  |false=>[]
def dsts(d:Option Nat):List Nat:=match d with|some d=>[d]|none=>[]
def keepLs(l:List Nat):List (Nat×List Kd):=l.map λx=>(x,[])
def denP(ops:Array Oper)(tab:List (List Nat)):List Nat->List Nat->Env->List LE->Hp->KS->Prop
 |[],_,A,L,h,K=>K A L h
 |i::rest,done,A,L,h,K=>match ops[i]? with
  |none=>False
  |some o=>match quietO P o with
   |true=>stepD P lo G V ops.toList o A L h λA' L' h'=>denP ops tab rest (done++[i]) A' L' h' K
   |false=>stepD P lo G V ops.toList o A (freezeL (keepLs (keepOf o A)) L) h λA' L' h'=>
     reAll P ops.toList L (dsts o.dst++keepOf o A) A' h' (done.filter (notAnc tab i)) (denP ops tab rest (done.filter (notAnc tab i)) A' (thaw L L') h' K)
def orderPairL(ops:Array Oper)(tab:List (List Nat))(lt:List Nat)(x i:Nat):Bool:=
 match ops[x]?,ops[i]? with
 |some ox,some oi=>(!notAnc tab i x || (quietO P ox && ox.apart ops oi) || (memN i lt && ox.apart ops oi)) && ((!notAnc tab i x && !quietO P oi) || (match oi.dst with|some d=>!(ox.looksAt ops).contains d && (ox.dst != some d)|none=>true))
 |_,_=>false
def orderPairsL(ops:Array Oper)(tab:List (List Nat))(lt:List Nat):List Nat->Bool
 |[]=>true
 |x::l=>l.all (orderPairL P ops tab lt x) && orderPairsL ops tab lt l
def lateOk(ops:Array Oper)(tab:List (List Nat))(lt:List Nat)(j:Nat):Bool:=
 match ops[j]? with
 |some o=>isLate lo o && !quietO P o && (match o.dst with|some d=>!(o.looksAt ops).contains d|none=>false) && ((tab[j]?).getD []).all λx=>!memN x lt
 |none=>false
def orderOkL(ops:Array Oper)(tab:List (List Nat))(l lt:List Nat):Bool:=
 Region.noSelect ops && (l.length == ops.size) && (List.range ops.size).all (λj=>memN j l) && distinct l && ops.all (λo=>!quietO P o || (match o.dst with|some d=>!(o.looksAt ops).contains d|none=>false)) && orderTopo ops [] l && orderPairsL P ops tab lt l && lt.all (lateOk P lo ops tab lt) && lt.all (λj=>memN j l) && ops.all (λo=>!isEqP P o.op)
def lateG(ops:List Oper)(o:Oper)(A:Env)(p:Prop):Prop:=
 match o.guard with
 |none=>lateD P o.op A p
 |some (j,want)=>match dstOf ops j with
  |some g=>match getE A g with
   |.v (.bool b)=>match b,want with
    |true,true=>lateD P o.op A p
    |false,false=>lateD P o.op A p
    |_,_=>p
   |.v (.tuple _)=>p
   |_=>False
  |none=>False
def preAll(ops:Array Oper)(tab:List (List Nat))(l:List Nat)(A:Env):List Nat->Prop->Prop
 |[],p=>p
 |j::lt,p=>match memN j l && ((tab[j]?).getD []).all (λx=>!memN x l) with
  |true=>match ops[j]? with
   |some o=>match o.dst with
    |some d=>grd (isUnk (getE A d)) (lateG P ops.toList o A (preAll ops tab l A lt p))
    |none=>False
   |none=>False
  |false=>preAll ops tab l A lt p
def denL(ops:Array Oper)(tab:List (List Nat))(lt:List Nat):List Nat->List Nat->Env->List LE->Hp->KS->Prop
 |[],_,A,L,h,K=>K A L h
 |i::rest,done,A,L,h,K=>match ops[i]? with
  |none=>False
  |some o=>match quietO P o with
   |true=>stepD P lo G V ops.toList o A L h λA' L' h'=>denL ops tab lt rest (done++[i]) A' L' h' K
   |false=>preAll P ops tab (i::rest) A lt (stepD P lo G V ops.toList o A (freezeL (keepLs (keepOf o A)) L) h λA' L' h'=>
     reAll P ops.toList L (dsts o.dst++keepOf o A) A' h' (done.filter (notAnc tab i)) (denL ops tab lt rest (done.filter (notAnc tab i)) A' (thaw L L') h' K))
def lateDsts(ops:Array Oper)(lt:List Nat):List Nat:=
 match lt with
 |[]=>[]
 |j::lt=>match dstOf ops.toList j with
  |some d=>d::lateDsts ops lt
  |none=>lateDsts ops lt
def keepL(A:Env):List Nat->List (Nat×AV)
 |[]=>[]
 |i::l=>(i,getE A i)::keepL A l
def keepA(l:List Nat)(A:Env):Env:=⟨A.n,keepL A l⟩
abbrev KC:=Exit->Env->List LE->Hp->Prop
def den(an:List (Nat×Ann)):Code->Nat->Env->List LE->Hp->KC->Prop
 |.skip,_,A,L,h,K=>K .normal A L h
 |.region _ ops draw,n,A,L,h,K=>match draw with
  |false=>denOps P lo G V ops.toList ops.toList A L h (K .normal)
  |true=>match lkA an n with
   |some (.order l)=>grd (P.follows .mixedOrders && orderOk P ops (ancTab [] ops.toList) l) (denP P lo G V ops (ancTab [] ops.toList) l [] A L h (K .normal))
   |some (.orderL l lt)=>grd (P.follows .mixedOrders && orderOkL P lo ops (ancTab [] ops.toList) l lt) (denL P lo G V ops (ancTab [] ops.toList) lt l [] (forgetE (lateDsts ops lt) A) L h (K .normal))
   |_=>False
 |.seq x y,n,A,L,h,K=>match lkA an n with
  |some (.join vs ls)=>∃ J:Fun (kindsOf vs ls) (Hp->Prop),
    grd (okL L ls && distinct (vs.map (·.1)) && distinct (ls.map (·.1)))
     (all1 (kindsOf vs ls) J (λxs j=>∀ h,j h ->
      den an y (2*n+1) (backV (forgetE (writes x) A) vs xs) (backL L ls (xs.drop vs.length)) h K) /\
     den an x (2*n) A (freezeL ls L) h λe A' L' h'=>match e with
      |.normal=>grd (okL L' ls && sameT L L' ls) (appK (kindsOf vs ls) J (liveV A' vs++liveL L' ls) λj=>j h')
      |e=>K e A' (thaw L L') h')
  |some (.live _ l)=>den an x (2*n) A L h λe A' L' h'=>match e with
   |.normal=>den an y (2*n+1) (keepA l A') L' h' K
   |e=>K e A' L' h'
  |some .cut=>False
  |_=>den an x (2*n) A L h λe A' L' h'=>match e with
   |.normal=>den an y (2*n+1) A' L' h' K
   |e=>K e A' L' h'
 |.cond c x y,n,A,L,h,K=>match ev A c with
  |.v (.bool b)=>match b with
   |true=>den an x (2*n) A L h K
   |false=>den an y (2*n+1) A L h K
  |_=>False
 |.block id x,n,A,L,h,K=>den an x (2*n) A L h λe A' L' h'=>match e with
  |.exit id'=>match id' == id with
   |true=>K .normal A' L' h'
   |false=>K (.exit id') A' L' h'
  |e=>K e A' L' h'
 |.loop x,n,A,L,h,K=>match lkA an n with
  |some (.loop vs ls)=>∃ (I:Fun (kindsOf vs ls) (Hp->Prop)) (m:Fun (kindsOf vs ls) (Hp->Nat)),
    grd (okL L ls && distinct (vs.map (·.1)) && distinct (ls.map (·.1)))
     (appK (kindsOf vs ls) I (liveV A vs++liveL L ls) (λj=>j h) /\
     all2 (kindsOf vs ls) I m λxs i u=>∀ h,i h ->
      den an x (2*n) (backV (forgetE (writes x) A) vs xs) (backL (freezeL ls L) ls (xs.drop vs.length)) h λe A' L' h'=>match e with
       |.normal=>grd (okL L' ls && sameT L L' ls) (appK (kindsOf vs ls) I (liveV A' vs++liveL L' ls) (λj=>j h')/\appK (kindsOf vs ls) m (liveV A' vs++liveL L' ls) λq=>q h'<u h)
       |e=>K e A' (thaw L L') h')
  |_=>False
 |.exit id,_,A,L,h,K=>K (.exit id) A L h
 |.ret,_,A,L,h,K=>K .ret A L h
 |.label _,_,A,L,h,K=>K .normal A L h
 |.goto l,_,A,L,h,K=>K (.goto l) A L h
 |_,_,_,_,_,_=>False
def denT(an:List (Nat×Ann))(c:Code)(n:Nat)(A:Env)(L:List LE)(h:Hp)(K:KC):Prop:=
 match c with
 |.scope x=>match lkA an n with
  |some (.jump l)=>match findLabel x l with
   |some r=>den P lo G V an x (2*n) A L h λe A' L' h'=>match e with
    |.goto l'=>match l' == l with
     |true=>den P lo G V an r (2*n+1) A' L' h' λe A' L' h'=>match e with
      |.goto _=>False
      |e=>K e A' L' h'
     |false=>False
    |e=>K e A' L' h'
   |none=>False
  |_=>False
 |.seq x (.scope y)=>den P lo G V an x (2*n) A L h λe A' L' h'=>match e with
  |.normal=>match lkA an (2*n+1) with
   |some (.jump l)=>match findLabel y l with
    |some r=>den P lo G V an y (2*(2*n+1)) A' L' h' λe A' L' h'=>match e with
     |.goto l'=>match l' == l with
      |true=>den P lo G V an r (2*(2*n+1)+1) A' L' h' λe A' L' h'=>match e with
       |.goto _=>False
       |e=>K e A' L' h'
      |false=>False
     |e=>K e A' L' h'
    |none=>False
   |_=>False
  |e=>K e A' L' h'
 |c=>den P lo G V an c n A L h K
def resOne(A:Env)(L:List LE)(r:ResultVar)(K:Value->Prop):Prop:=
 match r with
 |.tmp t=>(getE A t).get K
 |.cell p t=>grd (hasInfo P t && hasUnder P t) (match getE A p with
  |.loc l off=>match findL L l with
   |some e=>match isAggB P t with
    |true=>grd (lenB (takeN e.cs off (P.cellsOf t)) (P.cellsOf t)) (getAll (takeN e.cs off (P.cellsOf t)) λvs=>K (.agg ⟨vs⟩))
    |false=>(getN e.cs off).get K
   |none=>False
  |_=>False)
def resAll(A:Env)(L:List LE):List ResultVar->(List Value->Prop)->Prop
 |[],K=>K []
 |r::rs,K=>resOne P A L r λv=>resAll A L rs λvs=>K (v::vs)
def resD(A:Env)(L:List LE)(rs:List ResultVar)(K:Value->Prop):Prop:=
 resAll P A L rs λvs=>match vs with
  |[v]=>K v
  |vs=>K (.tuple ⟨vs⟩)
def numL:Nat->List AV->List (Nat×AV)
 |_,[]=>[]
 |i,x::xs=>(i,x)::numL (i+1) xs
def initA(args:List AV)(n:Nat):Env:=⟨args.length+(n-args.length),numL 0 args⟩
def denF(an:List (Nat×Ann))(F:Func)(args:List AV):PT:=λh Q=>
 match F.body with
 |some c=>denT P lo G V an c 1 (initA args F.ntmps) [] h λe A L h'=>match e with
  |.normal=>resD P A L F.results.toList λv=>Q v h'
  |.ret=>resD P A L F.results.toList λv=>Q v h'
  |_=>False
 |none=>False
end
end Go.Eng
end
section
namespace Go.Eng
def AV.is(g:Nat->Nat):AV->Value->Prop
 |.unk,_=>True
 |.v x,y=>y=x
 |.p b o,y=>y=.pointer (some ⟨b,o,none⟩)
 |.loc l o,y=>y=.pointer (some ⟨g l,o,none⟩)
 |.sl l n,y=>y=.slice (some ⟨g l,0,none⟩) n n
 |.f x,y=>y=x
theorem AV.is_plain{g g':Nat->Nat}{x:AV}{y:Value}(hp:x.plain=true)(h:x.is g y):x.is g' y:=by
 cases x<;>first|exact h|cases hp
theorem AV.is_get{g:Nat->Nat}{x:AV}{y:Value}{K:Value->Prop}(h:x.is g y)(hk:x.get K):K y:=by
 cases x with
 |v x=>have h':y=x:=h;rw[h'];exact hk
 |p b o=>have h':y=_:=h;rw[h'];exact hk
 |f x=>have h':y=x:=h;rw[h'];exact hk
 |_=>exact False.elim hk
theorem AV.get_plain{x:AV}{K:Value->Prop}(hk:x.get K):∃ v,(∀ g,x.is g v)/\K v/\x.plain=true:=by
 cases x with
 |v x=>exact⟨_,λ_=>rfl,hk,rfl⟩
 |p b o=>exact⟨_,λ_=>rfl,hk,rfl⟩
 |f x=>exact⟨_,λ_=>rfl,hk,rfl⟩
 |_=>exact False.elim hk
structure FO(g:Nat->Nat)(A:Env)(a:Act):Prop where
 len:A.n=a.tmps.size
 at_:∀ i,(getE A i).is g (a.tmps.getD i undef)
 df:a.defers=[]
structure LEok(fr:Hp)(g:Nat->Nat)(h:Hp)(w:World)(e:LE)(cs:Array Value):Prop where
 at_:w.heap[g e.l]?=some (.cells cs e.t (0,0))
 sz:cs.size=e.cs.length
 is_:∀ i,i<e.cs.length->(getN e.cs i).is g (cs.getD i undef)
 pl:∀ x∈e.cs,x.plain=true
 nh:h (g e.l)=none
 nf:fr (g e.l)=none
structure HO(fr:Hp)(g:Nat->Nat)(L:List LE)(h:Hp)(w:World):Prop where
 hh:∀ b o,h b=some o->w.heap[b]?=some o
 ff:∀ b o,fr b=some o->w.heap[b]?=some o
 dj:∀ b,h b=none\/fr b=none
 ll:∀ e∈L,∃ cs,LEok fr g h w e cs
 uq:L.Pairwise (λe e'=>e.l≠e'.l/\g e.l≠g e'.l)
structure Wr(w w':World):Prop where
 os:w'.os=w.os
 tape:w'.tape=w.tape
 output:w'.output=w.output
 size:w.heap.size<=w'.heap.size
theorem Wr.refl(w:World):Wr w w:=⟨rfl,rfl,rfl,Nat.le_refl _⟩
theorem Wr.trans{a b c:World}(h:Wr a b)(k:Wr b c):Wr a c:=⟨k.os.trans h.os,k.tape.trans h.tape,k.output.trans h.output,Nat.le_trans h.size k.size⟩
def Kp(L L':List LE):Prop:=∀ e∈L,e.m=false->e∈L'
theorem Kp.refl(L:List LE):Kp L L:=λ_ h _=>h
theorem Kp.trans{a b c:List LE}(h:Kp a b)(k:Kp b c):Kp a c:=λe he hm=>k e (h e he hm) hm
theorem getN_eq(A:List AV)(i:Nat):getN A i=(A[i]?).getD .unk:=by
 induction A generalizing i with
 |nil=>rfl
 |cons x A ih=>cases i with
  |zero=>rfl
  |succ i=>simp only[getN,ih,List.getElem?_cons_succ]
theorem getE_put(A:Env)(i j:Nat)(x:AV):getE (putE A i x) j=if i=j/\i<A.n then x else getE A j:=by
 unfold getE
 show(match Nat.blt j A.n with|true=>look ((i,x)::A.l) j|false=>.unk)=_
 cases hb:Nat.blt j A.n with
 |true=>
  have hj:j<A.n:=by rw[<- Nat.blt_eq];exact hb
  show(match Nat.beq i j with|true=>x|false=>look A.l j)=_
  cases he:Nat.beq i j with
  |true=>have:=Nat.eq_of_beq_eq_true he;subst this;rw[if_pos ⟨rfl,hj⟩]
  |false=>rw[if_neg (λq:i=j/\i<A.n=>Nat.ne_of_beq_eq_false he q.1)]
 |false=>
  have hj:¬ j<A.n:=by rw[<- Nat.blt_eq,hb];exact Bool.false_ne_true
  rw[if_neg (λq:i=j/\i<A.n=>hj (q.1 ▸ q.2))]
theorem memN_iff{i:Nat}{l:List Nat}:memN i l=true↔i∈l:=by
 induction l with
 |nil=>simp[memN]
 |cons j l ih=>simp[memN,ih]
theorem ev_is{g:Nat->Nat}{A:Env}{a:Act}(h:FO g A a)(x:Operand):(ev A x).is g (a.eval x):=by
 cases x with
 |tmp t=>exact h.at_ t
 |const v=>rfl
 |global n=>rfl
 |func f=>rfl
theorem FO.put{g:Nat->Nat}{A:Env}{a:Act}(h:FO g A a)(d:Option Nat){x:AV}{v:Value}(hx:x.is g v):FO g (putD A d x) (a.put d v):=by
 cases d with
 |none=>exact h
 |some d=>
  refine⟨?_,λi=>?_,h.df⟩
  ·show A.n=(a.tmps.setIfInBounds d v).size
   rw[Array.size_setIfInBounds];exact h.len
  ·show(getE (putE A d x) i).is g ((a.tmps.setIfInBounds d v).getD i undef)
   rw[getE_put]
   by_cases hd:d=i/\d<A.n
   ·rw[if_pos hd]
    obtain⟨rfl,hl⟩:=hd
    have hl':d<a.tmps.size:=by rw[<- h.len];exact hl
    simpa[hl'] using hx
   ·rw[if_neg hd]
    have:(a.tmps.setIfInBounds d v).getD i undef=a.tmps.getD i undef:=by
     by_cases hdi:d=i
     ·subst hdi
      have hl':¬ d<a.tmps.size:=by rw[<- h.len];exact λhl=>hd ⟨rfl,hl⟩
      simp[hl']
     ·simp[Array.getElem?_setIfInBounds_ne hdi]
    rw[this]
    exact h.at_ i
theorem findL_mem{L:List LE}{l:Nat}{e:LE}(h:findL L l=some e):e∈L/\e.l=l:=by
 induction L with
 |nil=>cases h
 |cons x L ih=>
  simp only[findL] at h
  cases hx:x.l == l with
  |true=>rw[hx] at h;simp only at h;cases h;exact⟨mem_cons_self,by simpa using hx⟩
  |false=>rw[hx] at h;exact⟨mem_cons_of_mem _ (ih h).1,(ih h).2⟩
section
variable{P:Program}
theorem under_some{t:Nat}{d:TypeDesc}(h:under P t=d)(hd:d≠.invalid):P.underlying t=some d:=by
 unfold under at h
 cases hu:P.underlying t with
 |none=>rw[hu] at h;exact absurd h.symm hd
 |some x=>rw[hu] at h;exact congrArg some h
theorem hasInfo_some{t:Nat}(h:hasInfo P t=true):∃ i,P.info? t=some i/\P.cellsOf t=i.size:=by
 unfold hasInfo at h
 cases hi:P.info? t with
 |none=>rw[hi] at h;cases h
 |some i=>exact⟨i,rfl,by simp[Program.cellsOf,hi]⟩
theorem run_sizeOf'{t:Nat}(h:hasInfo P t=true)(w:World):(sizeOf t).run P w=.ok (P.cellsOf t) w:=by
 obtain⟨i,hi,hs⟩:=hasInfo_some h
 simp[sizeOf,typeInfo,hi,hs]
theorem hasUnder_some{t:Nat}(h:hasUnder P t=true):P.underlying t=some (under P t):=by
 unfold hasUnder at h
 unfold under
 cases hu:P.underlying t with
 |none=>rw[hu] at h;cases h
 |some x=>rfl
theorem run_isAgg{t:Nat}(h:hasUnder P t=true)(w:World):(isAgg t).run P w=.ok (isAggB P t) w:=by
 have hu:=hasUnder_some h
 unfold isAgg isAggB
 simp only[Sem.run_bind,run_underlying hu,Result.andThen_ok]
 cases under P t<;>rfl
theorem zeroOf_some{t:Nat}{z:List Value}(h:zeroOf P t=some z):∃ i v,P.info? t=some i/\i.zero=some v/\v.cells=z.toArray/\z.length=i.size/\P.cellsOf t=i.size:=by
 unfold zeroOf at h
 cases hi:P.info? t with
 |none=>rw[hi] at h;cases h
 |some i=>
  simp only[hi] at h
  cases hz:i.zero with
  |none=>simp[hz] at h
  |some v=>
   simp only[hz] at h
   cases hs:v.cells.size == i.size with
   |false=>simp[hs] at h
   |true=>
    simp only[hs,Option.some.injEq] at h
    subst h
    exact⟨i,v,rfl,hz,by simp,by simpa using hs,by simp[Program.cellsOf,hi]⟩
theorem run_zero{t:Nat}{z:List Value}(h:zeroOf P t=some z)(w:World):∃ v,(zeroValue t).run P w=.ok v w/\v.cells=z.toArray:=by
 obtain⟨i,v,hi,hz,hc,_⟩:=zeroOf_some h
 exact⟨v,by simp[zeroValue,typeInfo,hi,hz],hc⟩
theorem addr_add(b o j:Nat):(⟨b,o,none⟩:Addr).add j=⟨b,o+j,none⟩:=by unfold Addr.add;split<;>simp_all
theorem addo_eq(o j:Nat):addo o j=o+j:=by cases j<;>rfl
theorem mulo_eq(i s:Nat):mulo i s=i*s:=by unfold mulo;split<;>simp_all
theorem cell_of{h:Hp}{w:World}(hh:∀ b o,h b=some o->w.heap[b]?=some o){b o:Nat}{v:Value}(ha:h.at b o=some v):w.cell? ⟨b,o,none⟩=some v:=by
 unfold Hp.at at ha
 cases hb:h b with
 |none=>rw[hb] at ha;cases ha
 |some x=>
  rw[hb] at ha
  cases x with
  |cells c t f=>simp only at ha;simp[World.cell?,hh b _ hb,ha]
  |_=>cases ha
theorem ex1_spec{k:Kd}{K:Value->Prop}(h:ex1 k K):∃ v,v.oneCell'=true/\K v:=by
 cases k with
 |bool=>
  obtain⟨b,h⟩:=h
  cases b with
  |true=>exact⟨.bool true,rfl,h.1 rfl⟩
  |false=>exact⟨.bool false,rfl,h.2 rfl⟩
 |raw=>obtain⟨x,h⟩:=h;exact⟨_,h.1,h.2⟩
 |_=>obtain⟨x,h⟩:=h;exact⟨_,rfl,h⟩
theorem exRd_spec{h:Hp}{b o:Nat}:∀ {ks:List Kd} {j:Nat} {K:List Value->Prop},exRd h b o j ks K ->
  ∃ vs,vs.length=ks.length/\(∀ i v,vs[i]?=some v->h.at b (o+j+i)=some v)/\K vs
 |[],_,_,hk=>⟨[],rfl,λi v h=>by simp at h,hk⟩
 |k::ks,j,K,hk=>by
  obtain⟨v,_,ha,hr⟩:=ex1_spec hk
  obtain⟨vs,hl,hat,hK⟩:=exRd_spec hr
  refine⟨v::vs,by simp[hl],λi u hu=>?_,hK⟩
  cases i with
  |zero=>simp at hu;subst hu;rw[addo_eq] at ha;exact ha
  |succ i=>have:=hat i u (by simpa using hu);rwa [show o+(j+1)+i=o+j+(i+1) by omega] at this
theorem run_loadAgg{w:World}{b o:Nat}{vs:List Value}(h:∀ i v,vs[i]?=some v->w.cell? ⟨b,o+i,none⟩=some v):(loadCells ⟨b,o,none⟩ vs.length).run P w=.ok vs.toArray w:=
 run_loadCells_list (P:=P) w ⟨b,o,none⟩ vs (λj v hv=>by rw[addr_add];exact h j v hv)
theorem run_load1{w:World}{a:Addr}{v:Value}(h:w.cell? a=some v):(load a).run P w=.ok v w:=by
 simp[load,Sem.run,h]
theorem run_loadVar'{t:Nat}{w:World}{b o:Nat}{vs:List Value}(hi:hasInfo P t=true)(hu:hasUnder P t=true)(hl:vs.length=P.cellsOf t)
  (h:∀ i v,vs[i]?=some v->w.cell? ⟨b,o+i,none⟩=some v) (h1:isAggB P t=true\/∃ v,vs=[v]):(loadVar t ⟨b,o,none⟩).run P w=.ok (mkv P t vs) w:=by
 unfold loadVar mkv
 simp only[Sem.run_bind,run_isAgg hu,Result.andThen_ok]
 cases ha:isAggB P t with
 |true=>
  simp only[if_true,Sem.run_bind,run_sizeOf' hi,Result.andThen_ok]
  rw[<- hl,run_loadAgg h]
  simp[Sem.run_pure]
 |false=>
  rcases h1 with h1|⟨v,rfl⟩
  ·rw[ha] at h1;cases h1
  ·simp only[Bool.false_eq_true,if_false]
   exact run_load1 (h 0 v rfl)
end
end Go.Eng
end
section
namespace Go.Eng
section
variable{P:Program}{fr:Hp}{g:Nat->Nat}{L:List LE}{h:Hp}{w:World}{K:KO}
def Out(fr:Hp)(g:Nat->Nat)(L:List LE)(w:World)(r:Result Value)(K:KO):Prop:=
 ∃ x L' h' v w',r=.ok v w'/\x.is g v/\HO fr g L' h' w'/\Wr w w'/\Kp L L'/\K x L' h'
theorem Out.here(H:HO fr g L h w){r:Result Value}{x:AV}{v:Value}(hr:r=.ok v w)(hx:x.is g v)(hk:K x L h):Out fr g L w r K:=
 ⟨x,L,h,v,w,hr,hx,H,Wr.refl w,Kp.refl L,hk⟩
theorem grd_spec{c:Bool}{p:Prop}(h:grd c p):c=true/\p:=by cases c<;>first|exact⟨rfl,h⟩|exact h.elim
theorem getAll_spec:∀ {xs:List AV} {K:List Value->Prop},getAll xs K->∃ vs,vs.length=xs.length/\(∀ g i,i<xs.length->(getN xs i).is g (vs.getD i undef))/\(∀ x∈xs,x.plain=true)/\K vs
 |[],_,hk=>⟨[],rfl,λg i hi=>by simp at hi,λx hx=>by simp at hx,hk⟩
 |x::xs,K,hk=>by
  obtain⟨v,hv,hr,hp⟩:=AV.get_plain hk
  obtain⟨vs,hl,hat,hpl,hK⟩:=getAll_spec hr
  refine⟨v::vs,by simp[hl],λg i hi=>?_,λy hy=>?_,hK⟩
  ·cases i with
   |zero=>exact hv g
   |succ i=>exact hat g i (by simpa using hi)
  ·rcases mem_cons.1 hy with rfl|hy
   ·exact hp
   ·exact hpl y hy
theorem is_unique{g:Nat->Nat}{x:AV}{u v:Value}(hp:x.plain=true)(hu:x.is g u)(hv:x.is g v):u=v:=by
 cases x with
 |v x=>exact(show u=x from hu).trans (show v=x from hv).symm
 |p b o=>exact(show u=_ from hu).trans (show v=_ from hv).symm
 |f x=>exact(show u=x from hu).trans (show v=x from hv).symm
 |_=>cases hp
theorem mkv_agg{t:Nat}{vs:List Value}(h:isAggB P t=true):mkv P t vs=.agg vs.toArray:=by unfold mkv;rw[h]
theorem getN_takeN(l:List AV)(o n i:Nat)(hi:i<n):getN (takeN l o n) i=getN l (o+i):=by
 rw[getN_eq,getN_eq];unfold takeN;rw[List.getElem?_take];simp[hi,List.getElem?_drop]
def OutQ(g:Nat->Nat)(L:List LE)(h:Hp)(w:World)(r:Result Value)(K:KO):Prop:=∃ x v,r=.ok v w/\x.is g v/\K x L h
theorem OutQ.here{r:Result Value}{x:AV}{v:Value}(hr:r=.ok v w)(hx:x.is g v)(hk:K x L h):OutQ g L h w r K:=⟨x,v,hr,hx,hk⟩
theorem OutQ.out(H:HO fr g L h w){r:Result Value}(q:OutQ g L h w r K):Out fr g L w r K:=let ⟨x,v,hr,hx,hk⟩:=q;Out.here H hr hx hk
theorem load_okQ(H:HO fr g L h w){t:Nat}{x:AV}{y:Value}(hk:dLoad P t x L h K)(hx:x.is g y):OutQ g L h w ((Instr.loadAt t y).run P w) K:=by
 unfold dLoad at hk
 have hq:=grd_spec hk
 clear hk
 obtain⟨hg,hk⟩:=hq
 simp only[Bool.and_eq_true] at hg
 obtain⟨hi,hu⟩:=hg
 cases x with
 |p b o=>
  have hy:y=.pointer (some ⟨b,o,none⟩):=hx
  subst hy
  dsimp only at hk
  have key:∀ vs:List Value,vs.length=P.cellsOf t->(∀ i v,vs[i]?=some v->h.at b (o+i)=some v)->(isAggB P t=true\/∃ v,vs=[v])->(Instr.loadAt t (.pointer (some ⟨b,o,none⟩))).run P w=.ok (mkv P t vs) w:=by
   intro vs hl hat h1
   unfold Instr.loadAt
   simp only[Instr.sureAddr,Sem.run_bind,Sem.run_pure,Result.andThen_ok]
   exact run_loadVar' hi hu hl (λi v hv=>cell_of H.hh (hat i v hv)) h1
  have agg_or:∀ ks,ks=kinds P 8 t->ks.length=P.cellsOf t->∀ vs:List Value,vs.length=ks.length->(isAggB P t=true\/∃ v,vs=[v]):=by
   intro ks hks _ vs hl
   by_cases ha:isAggB P t=true
   ·exact .inl ha
   ·refine .inr ?_
    have:ks.length=1:=by
     subst hks
     unfold isAggB at ha
     unfold kinds
     cases hd:under P t<;>rw[hd] at ha<;>first|rfl|exact absurd rfl ha
    match vs,hl with
    |[v],_=>exact⟨v,rfl⟩
    |[],hl=>rw[this] at hl;cases hl
    |_::_::_,hl=>rw[this] at hl;simp at hl
  have gen:grd ((kinds P 8 t).length == P.cellsOf t) (exRd h b o 0 (kinds P 8 t) λvs=>K (.v (mkv P t vs)) L h)->OutQ g L h w ((Instr.loadAt t (.pointer (some ⟨b,o,none⟩))).run P w) K:=by
   intro hk
   have hq:=grd_spec hk
   clear hk
   obtain⟨hl,hk⟩:=hq
   have hl:(kinds P 8 t).length=P.cellsOf t:=by simpa using hl
   obtain⟨vs,hvl,hat,hK⟩:=exRd_spec hk
   exact OutQ.here (x:=.v (mkv P t vs)) (key vs (hvl.trans hl) (by simpa using hat) (agg_or _ rfl hl vs hvl)) rfl hK
  cases hd:under P t with
  |bool=>
   rw[hd] at hk
   obtain⟨h1,z,hz,hk⟩:=grd_spec hk
   have h1:P.cellsOf t=1:=by simpa using h1
   have hna:isAggB P t=false:=by unfold isAggB;rw[hd]
   have hr:=key [.bool z] (by simp[h1]) (λi v hv=>by cases i<;>simp at hv;subst hv;exact hz) (.inr ⟨_,rfl⟩)
   have hm:mkv P t [.bool z]=.bool z:=by unfold mkv;rw[hna]
   rw[hm] at hr
   cases z with
   |true=>exact OutQ.here (x:=.v (.bool true)) hr rfl (hk.1 rfl)
   |false=>exact OutQ.here (x:=.v (.bool false)) hr rfl (hk.2 rfl)
  |_=>rw[hd] at hk;exact gen hk
 |loc l off=>
  have hy:y=.pointer (some ⟨g l,off,none⟩):=hx
  subst hy
  replace hk:(match findL L l with
   |some e=>match isAggB P t with
    |true=>grd (lenB (takeN e.cs off (P.cellsOf t)) (P.cellsOf t)) (getAll (takeN e.cs off (P.cellsOf t)) λvs=>K (.v (.agg ⟨vs⟩)) L h)
    |false=>grd (Nat.blt off e.cs.length) (K (getN e.cs off) L h)
   |none=>False):=hk
  cases hf:findL L l with
  |none=>rw[hf] at hk;exact False.elim hk
  |some e=>
   rw[hf] at hk
   dsimp only at hk
   obtain⟨hm,rfl⟩:=findL_mem hf
   obtain⟨cs,he⟩:=H.ll e hm
   have hcell:∀ i,i<cs.size->w.cell? ⟨g e.l,i,none⟩=some (cs.getD i undef):=by
    intro i hi'
    simp[World.cell?,he.at_,hi']
   cases ha:isAggB P t with
   |true=>
    rw[ha] at hk
    have hq:=grd_spec hk
    clear hk
    obtain⟨hl,hk⟩:=hq
    obtain⟨vs,hvl,hat,hpl,hK⟩:=getAll_spec hk
    have hl:(takeN e.cs off (P.cellsOf t)).length=P.cellsOf t:=by simpa[lenB] using hl
    have hlen:off+P.cellsOf t<=e.cs.length\/P.cellsOf t=0:=by
     unfold takeN at hl;rw[List.length_take,List.length_drop] at hl;omega
    refine OutQ.here (x:=.v (.agg vs.toArray)) (v:=.agg vs.toArray) ?_ rfl hK
    have hr:(loadVar t ⟨g e.l,off,none⟩).run P w=.ok (mkv P t vs) w:=by
     refine run_loadVar' hi hu (hvl.trans hl) (λi v hv=>?_) (.inl ha)
     have hil:i<vs.length:=(List.getElem?_eq_some_iff.1 hv).1
     have hi1:i<P.cellsOf t:=by omega
     have h2:=hat g i (by omega)
     rw[getN_takeN _ _ _ _ hi1] at h2
     have h3:=he.is_ (off+i) (by omega)
     have hp:(getN e.cs (off+i)).plain=true:=by
      rw[getN_eq,getElem?_eq_getElem (by omega)];exact he.pl _ (List.getElem_mem _)
     have h4:=is_unique hp h2 h3
     rw[hcell (off+i) (by rw[he.sz];omega),<- h4]
     simp[List.getD_eq_getElem?_getD,hv]
    unfold Instr.loadAt
    simp only[Instr.sureAddr,Sem.run_bind,Sem.run_pure,Result.andThen_ok,hr,mkv_agg ha]
   |false=>
    rw[ha] at hk
    have hq:=grd_spec hk
    clear hk
    obtain⟨hl,hk⟩:=hq
    have hl:off<e.cs.length:=by simp[Nat.blt] at hl;omega
    refine OutQ.here (v:=cs.getD off undef) ?_ (he.is_ off hl) hk
    unfold Instr.loadAt loadVar
    simp only[Instr.sureAddr,Sem.run_bind,Sem.run_pure,Result.andThen_ok,run_isAgg hu,ha,Bool.false_eq_true,if_false]
    exact run_load1 (hcell off (by rw[he.sz];exact hl))
 |_=>exact False.elim hk
theorem load_ok(H:HO fr g L h w){t:Nat}{x:AV}{y:Value}(hk:dLoad P t x L h K)(hx:x.is g y):Out fr g L w ((Instr.loadAt t y).run P w) K:=(load_okQ H hk hx).out H
theorem field_ok(H:HO fr g L h w){s f:Nat}{x:AV}{y:Value}(hk:dField P s f x L h K)(hx:x.is g y):Out fr g L w ((Instr.fieldAt s y f).run P w) K:=by
 unfold dField at hk
 cases hfo:fieldOff P s f with
 |none=>rw[hfo] at hk;exact hk.elim
 |some q=>
  obtain⟨off,ft⟩:=q
  rw[hfo] at hk
  dsimp only at hk
  unfold fieldOff at hfo
  cases hd:under P s with
  |struct fs=>
   rw[hd] at hfo
   simp only at hfo
   cases hf:fs[f]? with
   |none=>rw[hf] at hfo;cases hfo
   |some fl=>
    rw[hf] at hfo
    simp only at hfo
    cases hc:P.cellsOf fl.type with
    |zero=>rw[hc] at hfo;cases hfo
    |succ n=>
     rw[hc] at hfo
     simp only at hfo
     cases hi:hasInfo P fl.type with
     |false=>rw[hi] at hfo;cases hfo
     |true=>
      rw[hi] at hfo
      simp only[Option.some.injEq,Prod.mk.injEq] at hfo
      obtain⟨rfl,rfl⟩:=hfo
      have hu:=under_some hd (by simp)
      have hplace:∀ a:Addr,(fieldPlace a fl).run P w=.ok (a.add fl.offset) w:=by
       intro a
       unfold fieldPlace
       simp only[Sem.run_bind,run_sizeOf' hi,Result.andThen_ok,hc]
       simp[Sem.run_pure]
      have hrun:∀ a:Addr,(Instr.fieldAt s (.pointer (some a)) f).run P w=.ok (.pointer (some (a.add fl.offset))) w:=by
       intro a
       unfold Instr.fieldAt
       simp[Sem.run_bind,run_underlying hu,hf,Instr.sureAddr,hplace]
      cases x with
      |p b o=>
       have hy:y=.pointer (some ⟨b,o,none⟩):=hx
       subst hy
       refine Out.here H (hrun _) ?_ hk
       show _=_
       rw[addr_add,addo_eq]
      |loc l o=>
       have hy:y=.pointer (some ⟨g l,o,none⟩):=hx
       subst hy
       refine Out.here H (hrun _) ?_ hk
       show _=_
       rw[addr_add,addo_eq]
      |_=>exact False.elim hk
  |_=>rw[hd] at hfo;cases hfo
theorem indexA_ok(H:HO fr g L h w){t:Nat}{x i:AV}{y u:Value}(hk:dIndexA P t x i L h K)(hx:x.is g y)(hi:i.is g u):Out fr g L w ((Instr.indexAt t y u).run P w) K:=by
 unfold dIndexA at hk
 cases i with
 |v iv=>
  have hu:u=iv:=hi
  subst hu
  cases u with
  |int ik n=>
   dsimp only at hk
   cases hd:under P t with
   |slice e=>
    rw[hd] at hk
    have hq:=grd_spec hk
    clear hk
    obtain⟨hie,hk⟩:=hq
    have hut:=under_some hd (by simp)
    have hrun:∀ (a:Addr) (len c:Nat),0<=n->n<(len:Int)->(Instr.indexAt t (.slice (some a) len c) (.int ik n)).run P w=.ok (.pointer (some (a.add (n.toNat*P.cellsOf e)))) w:=by
     intro a len c h0 h1
     unfold Instr.indexAt
     simp[Sem.run_bind,run_underlying hut,asIntOf,run_sizeOf' hie,h0,h1]
    cases x with
    |v xv=>
     have hy:y=xv:=hx
     subst hy
     cases y with
     |slice a len c=>
      obtain⟨b,o,rfl,⟨h0,h1⟩,hk⟩:=hk
      refine Out.here H (hrun _ len c h0 h1) ?_ hk
      show _=_
      rw[addr_add,mulo_eq]
     |_=>exact False.elim hk
    |sl l len=>
     have hy:y=.slice (some ⟨g l,0,none⟩) len len:=hx
     subst hy
     cases n with
     |ofNat k=>
      have hq:=grd_spec hk
      clear hk
      obtain⟨hlt,hk⟩:=hq
      have hlt:k<len:=by simpa using hlt
      refine Out.here H (hrun _ len len (Int.natCast_nonneg k) (by simpa using hlt)) ?_ hk
      show _=_
      rw[addr_add]
      simp
     |negSucc k=>exact False.elim hk
    |_=>exact False.elim hk
   |array len e=>
    rw[hd] at hk
    have hq:=grd_spec hk
    clear hk
    obtain⟨hie,hk⟩:=hq
    have hut:=under_some hd (by simp)
    have hrun:∀ (a:Addr),0<=n->n<(len:Int)->(Instr.indexAt t (.pointer (some a)) (.int ik n)).run P w=.ok (.pointer (some (a.add (n.toNat*P.cellsOf e)))) w:=by
     intro a h0 h1
     unfold Instr.indexAt
     simp[Sem.run_bind,run_underlying hut,asIntOf,Instr.sureAddr,run_sizeOf' hie,h0,h1]
    cases x with
    |p b o=>
     have hy:y=.pointer (some ⟨b,o,none⟩):=hx
     subst hy
     obtain⟨⟨h0,h1⟩,hk⟩:=hk
     refine Out.here H (hrun _ h0 h1) ?_ hk
     show _=_
     rw[addr_add,mulo_eq]
    |loc l o=>
     have hy:y=.pointer (some ⟨g l,o,none⟩):=hx
     subst hy
     cases n with
     |ofNat k=>
      have hq:=grd_spec hk
      clear hk
      obtain⟨hlt,hk⟩:=hq
      have hlt:k<len:=by simpa using hlt
      refine Out.here H (hrun _ (Int.natCast_nonneg k) (by simpa using hlt)) ?_ hk
      show _=_
      rw[addr_add]
      simp
     |negSucc k=>exact False.elim hk
    |_=>exact False.elim hk
   |_=>rw[hd] at hk;exact False.elim hk
  |_=>exact False.elim hk
 |_=>exact False.elim hk
theorem bt_some(s:ByteArray)(n:Int)(h0:0<=n)(h1:n<(s.size:Int)):∃ b:UInt8,s[n.toNat]?=some b/\bt s n=(b.toNat:Int):=by
 have hl:n.toNat<s.size:=by omega
 refine⟨s[n.toNat]'hl,by rw[getElem?_pos s n.toNat hl],?_⟩
 unfold bt
 rw[dif_pos hl]
theorem index_ok(H:HO fr g L h w){t:Nat}{x i:AV}{y u:Value}(hk:dIndex P t x i L h K)(hx:x.is g y)(hi:i.is g u):Out fr g L w ((Instr.index t y u).run P w) K:=by
 unfold dIndex at hk
 cases i with
 |v iv=>
  have hu:u=iv:=hi
  subst hu
  cases u with
  |int ik n=>
   dsimp only at hk
   cases hd:under P t with
   |string=>
    rw[hd] at hk
    have hut:=under_some hd (by simp)
    cases x with
    |v xv=>
     have hy:y=xv:=hx
     subst hy
     cases y with
     |string s=>
      obtain⟨⟨h0,h1⟩,hk⟩:=hk
      obtain⟨b,hb,hbt⟩:=bt_some s n h0 h1
      rw[hbt] at hk
      refine Out.here H (x:=.v _) ?_ rfl hk
      unfold Instr.index
      simp[Sem.run_bind,run_underlying hut,asIntOf,h0,hb]
     |_=>exact False.elim hk
    |_=>exact False.elim hk
   |_=>rw[hd] at hk;exact False.elim hk
  |_=>exact False.elim hk
 |_=>exact False.elim hk
end
end Go.Eng
end
section
namespace Go.Eng
section
variable{P:Program}{fr:Hp}{g:Nat->Nat}{L:List LE}{h:Hp}{w:World}{K:KO}
theorem setL_length:∀ (vs c:List Value) (o:Nat),(setL c o vs).length=c.length
 |[],c,o=>rfl
 |v::vs,c,o=>by rw[setL,setL_length vs,length_set]
theorem setL_get:∀ (vs c:List Value) (o i:Nat),o+vs.length<=c.length->(setL c o vs)[i]?=if o<=i/\i<o+vs.length then vs[i-o]? else c[i]?
 |[],c,o,i,_=>by simp only[setL,List.length_nil,Nat.add_zero];rw[if_neg (by omega)]
 |v::vs,c,o,i,h=>by
  simp only[length_cons] at h ⊢
  rw[setL,setL_get vs _ _ _ (by rw[length_set];omega),List.getElem?_set]
  by_cases h1:o+1<=i/\i<o+1+vs.length
  ·rw[if_pos h1,if_pos (by omega),show i-o=(i-(o+1))+1 by omega,List.getElem?_cons_succ]
  ·rw[if_neg h1]
   by_cases h2:o=i
   ·subst h2
    rw[if_pos rfl,if_pos (by omega),if_pos (by omega)]
    simp
   ·rw[if_neg h2,if_neg (by omega)]
structure Laid(w w':World)(b:Nat)(o:Obj):Prop where
 at_:w'.heap[b]?=some o
 other:∀ k,k≠b->w'.heap[k]?=w.heap[k]?
 size:w'.heap.size=w.heap.size
 os:w'.os=w.os
 tape:w'.tape=w.tape
 output:w'.output=w.output
theorem Laid.wr{w w':World}{b:Nat}{o:Obj}(h:Laid w w' b o):Wr w w':=⟨h.os,h.tape,h.output,by rw[h.size];exact Nat.le_refl _⟩
theorem heap_setCell'(w:World)(a:Addr)(u:Value)(k:Nat)(h:k≠a.block):(w.setCell a u).heap[k]?=w.heap[k]?:=by
 simp only[World.setCell,Array.getElem?_modify]
 rw[if_neg (by omega)]
theorem run_store'{b o:Nat}{c:Array Value}{t:Nat}{f:Nat×Nat}{v:Value}(hb:w.heap[b]?=some (.cells c t f))(ho:o<c.size)(hf:¬ (f.1<=o/\o<f.2))(h1:v.oneCell'=true) :
  ∃ w',(store ⟨b,o,none⟩ v).run P w=.ok () w'/\Laid w w' b (.cells (c.setIfInBounds o v) t f):=by
 have hc:w.cell? ⟨b,o,none⟩=some c[o]:=by simp[World.cell?,hb,ho]
 have hz:w.frozen? ⟨b,o,none⟩=false:=by
  simp only[World.frozen?,hb]
  simp only[Bool.and_eq_false_iff,decide_eq_false_iff_not]
  by_cases h2:f.1<=o
  ·exact .inr λh3=>hf ⟨h2,h3⟩
  ·exact .inl h2
 refine⟨w.setCell ⟨b,o,none⟩ v,?_,?_,λk hk=>?_,?_,rfl,rfl,rfl⟩
 ·rw[run_store P w _ _ _ h1,hc];simp[hz]
 ·simp[World.setCell,Array.getElem?_modify,hb]
 ·exact heap_setCell' w ⟨b,o,none⟩ v k hk
 ·simp[World.setCell]
theorem run_storeCells'{b o:Nat}{t:Nat}{f:Nat×Nat}:∀ (vs:List Value) (i:Nat) (c:Array Value) (w:World),w.heap[b]?=some (.cells c t f)->o+i+vs.length<=c.size ->
  (∀ j,o+i<=j->j<o+i+vs.length->¬ (f.1<=j/\j<f.2))->(∀ v∈vs,v.oneCell'=true) ->
  ∃ w',(storeCells ⟨b,o,none⟩ vs i).run P w=.ok () w'/\Laid w w' b (.cells (setL c.toList (o+i) vs).toArray t f)
 |[],i,c,w,hb,_,_,_=>⟨w,by simp[storeCells],⟨by simpa[setL] using hb,λ_ _=>rfl,rfl,rfl,rfl,rfl⟩⟩
 |v::vs,i,c,w,hb,hl,hf,h1=>by
  simp only[length_cons] at hl hf
  obtain⟨w1,hr1,l1⟩:=run_store' (P:=P) (w:=w) (o:=o+i) (v:=v) hb (by omega) (hf (o+i) (by omega) (by omega)) (h1 v mem_cons_self)
  obtain⟨w2,hr2,l2⟩:=run_storeCells' (o:=o) vs (i+1) _ w1 l1.at_ (by simp;omega) (λj h2 h3=>hf j (by omega) (by omega)) (λu hu=>h1 u (mem_cons_of_mem _ hu))
  refine⟨w2,?_,?_,λk hk=>(l2.other k hk).trans (l1.other k hk),l2.size.trans l1.size,l2.os.trans l1.os,l2.tape.trans l1.tape,l2.output.trans l1.output⟩
  ·simp only[storeCells,Sem.run_bind,addr_add,hr1,Result.andThen_ok]
   exact hr2
  ·rw[l2.at_]
   simp[setL,Nat.add_assoc]
theorem oneAll_spec:∀ {vs:List Value} {p:Prop},oneAll vs p->(∀ v∈vs,v.oneCell'=true)/\p
 |[],p,h=>⟨λv hv=>by simp at hv,h⟩
 |v::vs,p,h=>by
  have hv:v.oneCell'=true/\oneAll vs p:=by
   cases v<;>first|exact⟨rfl,h⟩|exact False.elim h
  obtain⟨h1,h2⟩:=oneAll_spec hv.2
  exact⟨λu hu=>(mem_cons.1 hu).elim (λe=>e ▸ hv.1) (h1 u),h2⟩
theorem stOk_spec{v:Value}{p:Prop}(h:stOk v p):v.oneCell'=true/\p:=by
 cases v<;>first|exact⟨rfl,h⟩|exact False.elim h
theorem HO.wr{b o:Nat}{vs:List Value}{c:Array Value}{t:Nat}{f:Nat×Nat}{w':World}(H:HO fr g L h w)(hb:h b=some (.cells c t f))(hl:Laid w w' b (.cells (setL c.toList o vs).toArray t f)):HO fr g L (h.wr b o vs) w':=by
 have hfb:fr b=none:=(H.dj b).resolve_left (by rw[hb];simp)
 refine⟨λk x hk=>?_,λk x hk=>?_,λk=>?_,λe he=>?_,H.uq⟩
 ·unfold Hp.wr at hk
  by_cases hkb:k=b
  ·subst hkb;rw[if_pos rfl,hb] at hk;simp only[Option.some.injEq] at hk;rw[<- hk];exact hl.at_
  ·rw[if_neg hkb] at hk;rw[hl.other k hkb];exact H.hh k x hk
 ·have hkb:k≠b:=λe=>by subst e;rw[hfb] at hk;cases hk
  rw[hl.other k hkb];exact H.ff k x hk
 ·rcases H.dj k with h1|h1
  ·by_cases hkb:k=b
   ·subst hkb;exact .inr hfb
   ·exact .inl (by unfold Hp.wr;rw[if_neg hkb];exact h1)
  ·exact .inr h1
 ·obtain⟨cs,q⟩:=H.ll e he
  have hne:g e.l≠b:=λx=>by have:=q.nh;rw[x,hb] at this;cases this
  exact⟨cs,⟨by rw[hl.other _ hne];exact q.at_,q.sz,q.is_,q.pl,by unfold Hp.wr;rw[if_neg hne];exact q.nh,q.nf⟩⟩
theorem HO.upd{b:Nat}{x:Obj}{w':World}(H:HO fr g L h w)(hb:h b≠none)(hl:Laid w w' b x):HO fr g L (h.new b x) w':=by
 have hfb:fr b=none:=(H.dj b).resolve_left hb
 refine⟨λk y hk=>?_,λk y hk=>?_,λk=>?_,λe he=>?_,H.uq⟩
 ·unfold Hp.new at hk
  by_cases hkb:k=b
  ·subst hkb;rw[if_pos rfl] at hk;simp only[Option.some.injEq] at hk;rw[<- hk];exact hl.at_
  ·rw[if_neg hkb] at hk;rw[hl.other k hkb];exact H.hh k y hk
 ·have hkb:k≠b:=λe=>by subst e;rw[hfb] at hk;cases hk
  rw[hl.other k hkb];exact H.ff k y hk
 ·rcases H.dj k with h1|h1
  ·by_cases hkb:k=b
   ·subst hkb;exact .inr hfb
   ·exact .inl (by unfold Hp.new;rw[if_neg hkb];exact h1)
  ·exact .inr h1
 ·obtain⟨cs,q⟩:=H.ll e he
  have hne:g e.l≠b:=λx=>by have:=q.nh;rw[x] at this;exact hb this
  exact⟨cs,⟨by rw[hl.other _ hne];exact q.at_,q.sz,q.is_,q.pl,by unfold Hp.new;rw[if_neg hne];exact q.nh,q.nf⟩⟩
theorem updL_map(L:List LE)(l:Nat)(cs:List AV):(updL L l cs).map (·.l)=L.map (·.l):=by
 induction L with
 |nil=>rfl
 |cons e L ih=>simp only[updL];cases h:e.l == l<;>simp[ih]
theorem mem_updL{L:List LE}{l:Nat}{cs:List AV}{e:LE}(hu:L.Pairwise (λe e'=>e.l≠e'.l/\g e.l≠g e'.l))(h:e∈updL L l cs):(e∈L/\e.l≠l)\/∃ e0∈L,e0.l=l/\e=⟨e0.l,e0.m,e0.t,cs⟩:=by
 induction L with
 |nil=>simp[updL] at h
 |cons x L ih=>
  obtain⟨hx,hL⟩:=pairwise_cons.1 hu
  simp only[updL] at h
  cases hxl:x.l == l with
  |true=>
   rw[hxl] at h
   have hxl':x.l=l:=by simpa using hxl
   rcases mem_cons.1 h with h|h
   ·exact .inr ⟨x,mem_cons_self,hxl',h⟩
   ·exact .inl ⟨mem_cons_of_mem _ h,λe1=>(hx e h).1 (hxl'.trans e1.symm)⟩
  |false=>
   rw[hxl] at h
   have hxl':x.l≠l:=by simpa using hxl
   rcases mem_cons.1 h with rfl|h
   ·exact .inl ⟨mem_cons_self,hxl'⟩
   ·rcases ih hL h with⟨h1,h2⟩|⟨e0,h1,h2⟩
    ·exact .inl ⟨mem_cons_of_mem _ h1,h2⟩
    ·exact .inr ⟨e0,mem_cons_of_mem _ h1,h2⟩
theorem updL_other{L:List LE}{l:Nat}{cs:List AV}{e:LE}(he:e∈L)(hl:e.l≠l):e∈updL L l cs:=by
 induction L with
 |nil=>cases he
 |cons x L ih=>
  simp only[updL]
  cases hxl:x.l == l with
  |true=>
   have hxl':x.l=l:=by simpa using hxl
   rcases mem_cons.1 he with rfl|he
   ·exact absurd hxl' hl
   ·exact mem_cons_of_mem _ he
  |false=>
   rcases mem_cons.1 he with rfl|he
   ·exact mem_cons_self
   ·exact mem_cons_of_mem _ (ih he)
theorem updL_uq{L:List LE}{l:Nat}{cs:List AV}(hu:L.Pairwise (λe e'=>e.l≠e'.l/\g e.l≠g e'.l)):(updL L l cs).Pairwise (λe e'=>e.l≠e'.l/\g e.l≠g e'.l):=by
 have key:∀ L':List LE,L'.map (·.l)=L.map (·.l)->L'.Pairwise (λe e'=>e.l≠e'.l/\g e.l≠g e'.l):=by
  intro L' hL'
  have h1:(L.map (·.l)).Pairwise (λa b=>a≠b/\g a≠g b):=List.pairwise_map.2 hu
  rw[<- hL'] at h1
  exact List.pairwise_map.1 h1
 exact key _ (updL_map L l cs)
theorem uq_ne:∀ {L:List LE},L.Pairwise (λe e'=>e.l≠e'.l/\g e.l≠g e'.l)->∀ a∈L,∀ b∈L,a.l≠b.l->g a.l≠g b.l:=by
 intro L hL
 induction L with
 |nil=>intro a ha;cases ha
 |cons x L ih=>
  obtain⟨hx,hL'⟩:=pairwise_cons.1 hL
  intro a ha b hb hab
  rcases mem_cons.1 ha with rfl|ha'<;>rcases mem_cons.1 hb with rfl|hb'
  ·exact absurd rfl hab
  ·exact(hx b hb').2
  ·exact λq=>(hx a ha').2 q.symm
  ·exact ih hL' a ha' b hb' hab
theorem uq_eq:∀ {L:List LE},L.Pairwise (λe e'=>e.l≠e'.l/\g e.l≠g e'.l)->∀ a∈L,∀ b∈L,a.l=b.l->a=b:=by
 intro L hL
 induction L with
 |nil=>intro a ha;cases ha
 |cons x L ih=>
  obtain⟨hx,hL'⟩:=pairwise_cons.1 hL
  intro a ha b hb hab
  rcases mem_cons.1 ha with rfl|ha'<;>rcases mem_cons.1 hb with rfl|hb'
  ·rfl
  ·exact absurd hab (hx b hb').1
  ·exact absurd hab.symm (hx a ha').1
  ·exact ih hL' a ha' b hb' hab
theorem setLA_length:∀ (vs c:List AV) (o:Nat),(setLA c o vs).length=c.length
 |[],c,o=>rfl
 |v::vs,c,o=>by rw[setLA,setLA_length vs,length_set]
theorem setLA_get:∀ (vs c:List AV) (o i:Nat),o+vs.length<=c.length->(setLA c o vs)[i]?=if o<=i/\i<o+vs.length then vs[i-o]? else c[i]?
 |[],c,o,i,_=>by simp only[setLA,List.length_nil,Nat.add_zero];rw[if_neg (by omega)]
 |v::vs,c,o,i,h=>by
  simp only[length_cons] at h ⊢
  rw[setLA,setLA_get vs _ _ _ (by rw[length_set];omega),List.getElem?_set]
  by_cases h1:o+1<=i/\i<o+1+vs.length
  ·rw[if_pos h1,if_pos (by omega),show i-o=(i-(o+1))+1 by omega,List.getElem?_cons_succ]
  ·rw[if_neg h1]
   by_cases h2:o=i
   ·subst h2
    rw[if_pos rfl,if_pos (by omega),if_pos (by omega)]
    simp
   ·rw[if_neg h2,if_neg (by omega)]
theorem setLA_plain{vs c:List AV}{o:Nat}(hc:∀ x∈c,x.plain=true)(hv:∀ x∈vs,x.plain=true):∀ x∈setLA c o vs,x.plain=true:=by
 induction vs generalizing c o with
 |nil=>exact hc
 |cons v vs ih=>
  refine ih (λx hx=>?_) (λx hx=>hv x (mem_cons_of_mem _ hx))
  rcases List.mem_or_eq_of_mem_set hx with h|h
  ·exact hc x h
  ·rw[h];exact hv v mem_cons_self
theorem plainAll_spec:∀ {xs:List AV} {p:Prop},plainAll xs p->∃ vs:List Value,vs.length=xs.length/\(∀ g i,i<xs.length->(getN xs i).is g (vs.getD i undef))/\(∀ x∈xs,x.plain=true)/\(∀ v∈vs,v.oneCell'=true)/\p
 |[],p,h=>⟨[],rfl,λg i hi=>by simp at hi,λx hx=>by simp at hx,λv hv=>by simp at hv,h⟩
 |x::xs,p,h=>by
  have step:∀ v:Value,(∀ g,x.is g v)->x.plain=true->v.oneCell'=true->plainAll xs p->∃ vs:List Value,vs.length=(x::xs).length/\(∀ g i,i<(x::xs).length->(getN (x::xs) i).is g (vs.getD i undef))/\(∀ y∈x::xs,y.plain=true)/\(∀ v∈vs,v.oneCell'=true)/\p:=by
   intro v hv hp h1 hr
   obtain⟨vs,hl,hat,hpl,hone,hP⟩:=plainAll_spec hr
   refine⟨v::vs,by simp[hl],λg i hi=>?_,λy hy=>?_,λu hu=>?_,hP⟩
   ·cases i with
    |zero=>exact hv g
    |succ i=>exact hat g i (by simpa using hi)
   ·rcases mem_cons.1 hy with rfl|hy
    ·exact hp
    ·exact hpl y hy
   ·rcases mem_cons.1 hu with rfl|hu
    ·exact h1
    ·exact hone u hu
  cases x with
  |v v=>obtain⟨h1,h2⟩:=stOk_spec (show stOk v (plainAll xs p) from h);exact step v (λ_=>rfl) rfl h1 h2
  |p b o=>exact step _ (λ_=>rfl) rfl rfl h
  |f v=>obtain⟨h1,h2⟩:=stOk_spec (show stOk v (plainAll xs p) from h);exact step v (λ_=>rfl) rfl h1 h2
  |_=>exact False.elim h
theorem cellsV_spec{t:Nat}{x:AV}{y:Value}{K':List AV->Prop}(hk:cellsV P t x K')(hx:x.is g y):∃ cs:List AV,y.cells.toList.length=cs.length/\(∀ i,i<cs.length->(getN cs i).is g (y.cells.toList.getD i undef))/\K' cs:=by
 unfold cellsV at hk
 cases ha:isAggB P t with
 |true=>
  rw[ha] at hk
  cases x with
  |v xv=>
   have hy:y=xv:=hx
   subst hy
   cases y with
   |agg c=>
    obtain⟨vs⟩:=c
    refine⟨vs.map AV.v,by simp[Value.cells],λi hi=>?_,hk⟩
    have hi':i<vs.length:=by simpa using hi
    rw[getN_eq,getElem?_map,getElem?_eq_getElem hi']
    show _=_
    simp[Value.cells,List.getD_eq_getElem?_getD,getElem?_eq_getElem hi']
   |_=>exact False.elim hk
  |_=>exact False.elim hk
 |false=>
  rw[ha] at hk
  have one:∀ (x:AV) (v:Value),x.is g v->v.cells=#[v]->K' [x]->∃ cs:List AV,v.cells.toList.length=cs.length/\(∀ i,i<cs.length->(getN cs i).is g (v.cells.toList.getD i undef))/\K' cs:=by
   intro x v hxv hc hk
   refine⟨[x],by simp[hc],λi hi=>?_,hk⟩
   have:i=0:=by simpa using hi
   subst this
   simpa[hc,getN] using hxv
  cases x with
  |v xv=>
   have hy:y=xv:=hx
   subst hy
   cases y<;>first|exact False.elim hk|exact one (.v _) _ rfl rfl hk
  |p b o=>
   have hy:y=.pointer (some ⟨b,o,none⟩):=hx
   subst hy
   exact one (.p b o) _ rfl rfl hk
  |f xv=>
   have hy:y=xv:=hx
   subst hy
   obtain⟨h1,h2⟩:=stOk_spec (show stOk y (K' [.f y]) from hk)
   cases y<;>first|exact one (.f _) _ rfl rfl h2|(exfalso;cases h1)
  |_=>exact False.elim hk
theorem lists_eq{cs:List AV}{us vs:List Value}(hp:∀ x∈cs,x.plain=true)(hul:us.length=cs.length)(hvl:vs.length=cs.length)
  (hu:∀ i,i<cs.length->(getN cs i).is g (us.getD i undef)) (hv:∀ i,i<cs.length->(getN cs i).is g (vs.getD i undef)):us=vs:=by
 apply List.ext_getElem (by omega)
 intro i h1 h2
 have h3:=hu i (by omega)
 have h4:=hv i (by omega)
 have hpl:(getN cs i).plain=true:=by rw[getN_eq,getElem?_eq_getElem (by omega)];exact hp _ (List.getElem_mem _)
 have:=is_unique hpl h3 h4
 simpa[List.getD_eq_getElem?_getD,getElem?_eq_getElem h1,getElem?_eq_getElem h2] using this
theorem store_ok(H:HO fr g L h w){t:Nat}{x y:AV}{u v:Value}(hk:dStore P t x y L h K)(hx:x.is g u)(hy:y.is g v) :
  ∃ L' h' w',(Instr.storeAt t u v).run P w=.ok () w'/\HO fr g L' h' w'/\Wr w w'/\Kp L L'/\K (.v undef) L' h':=by
 unfold dStore at hk
 have hq:=grd_spec hk
 clear hk
 obtain⟨hi,hk⟩:=hq
 obtain⟨cs,hcl,hcs,hk⟩:=cellsV_spec hk hy
 have hq:=grd_spec hk
 clear hk
 obtain⟨hl,hk⟩:=hq
 have hl:cs.length=P.cellsOf t:=by simpa[lenB] using hl
 have hvs:v.cells.size=P.cellsOf t:=by rw[<- hl,<- hcl,Array.length_toList]
 cases x with
 |p b o=>
  have hu:u=.pointer (some ⟨b,o,none⟩):=hx
  subst hu
  obtain⟨vs,hvl,hat,hpl,hk⟩:=getAll_spec hk
  obtain⟨h1,⟨c,t',f,hb,hsz,hfz⟩,hK⟩:=oneAll_spec hk
  have he:v.cells.toList=vs:=lists_eq hpl hcl hvl hcs (hat g)
  obtain⟨w',hr,hlaid⟩:=run_storeCells' (P:=P) (b:=b) (o:=o) vs 0 c w (H.hh b _ hb) (by simpa using hsz) (by simpa using hfz) h1
  refine⟨L,h.wr b o vs,w',?_,HO.wr H hb (by simpa using hlaid),hlaid.wr,Kp.refl L,hK⟩
  unfold Instr.storeAt
  simp only[Instr.sureAddr,Sem.run_bind,Sem.run_pure,Result.andThen_ok]
  unfold storeVar
  simp only[Sem.run_bind,run_sizeOf' hi,Result.andThen_ok,hvs,ne_eq,not_true_eq_false,if_false,he]
  exact hr
 |loc l off=>
  have hu:u=.pointer (some ⟨g l,off,none⟩):=hx
  subst hu
  replace hk:(match findL L l with
   |some e=>grd (e.m && Nat.ble (off+cs.length) e.cs.length) (plainAll cs (K (.v undef) (updL L l (setLA e.cs off cs)) h))
   |none=>False):=hk
  cases hf:findL L l with
  |none=>rw[hf] at hk;exact False.elim hk
  |some e=>
   rw[hf] at hk
   dsimp only at hk
   have hq:=grd_spec hk
   clear hk
   obtain⟨hb,hk⟩:=hq
   simp only[Bool.and_eq_true,Nat.ble_eq] at hb
   obtain⟨hm,hble⟩:=hb
   obtain⟨vs,hvl,hat,hpl,h1,hK⟩:=plainAll_spec hk
   have hev:v.cells.toList=vs:=lists_eq hpl hcl hvl hcs (hat g)
   obtain⟨hmem,rfl⟩:=findL_mem hf
   obtain⟨c,he⟩:=H.ll e hmem
   obtain⟨w',hr,hlaid⟩:=run_storeCells' (P:=P) (b:=g e.l) (o:=off) vs 0 c w he.at_ (by rw[he.sz];simp;omega) (λj _ _=>by simp) h1
   refine⟨updL L e.l (setLA e.cs off cs),h,w',?_,?_,hlaid.wr,λe' he' hm'=>?_,hK⟩
   ·unfold Instr.storeAt
    simp only[Instr.sureAddr,Sem.run_bind,Sem.run_pure,Result.andThen_ok]
    unfold storeVar
    simp only[Sem.run_bind,run_sizeOf' hi,Result.andThen_ok,hvs,ne_eq,not_true_eq_false,if_false,hev]
    exact hr
   ·refine⟨λk x hk'=>?_,λk x hk'=>?_,H.dj,λe' he'=>?_,updL_uq H.uq⟩
    ·have hne:k≠g e.l:=λq=>by rw[q,he.nh] at hk';cases hk'
     rw[hlaid.other k hne];exact H.hh k x hk'
    ·have hne:k≠g e.l:=λq=>by rw[q,he.nf] at hk';cases hk'
     rw[hlaid.other k hne];exact H.ff k x hk'
    ·rcases mem_updL H.uq he' with⟨h2,h3⟩|⟨e0,h2,h3,rfl⟩
     ·obtain⟨c',q⟩:=H.ll e' h2
      have hne:g e'.l≠g e.l:=by
       intro hg
       exact uq_ne H.uq e' h2 e hmem h3 hg
      exact⟨c',⟨by rw[hlaid.other _ hne];exact q.at_,q.sz,q.is_,q.pl,q.nh,q.nf⟩⟩
     ·have e0e:e0=e:=uq_eq H.uq e0 h2 e hmem h3
      subst e0e
      refine⟨(setL c.toList off vs).toArray,⟨by simpa using hlaid.at_,?_,λi hi'=>?_,setLA_plain he.pl hpl,he.nh,he.nf⟩⟩
      ·simp[setL_length,setLA_length,he.sz]
      ·have hi2:i<e0.cs.length:=by rw[<- setLA_length cs e0.cs off];exact hi'
       rw[getN_eq,setLA_get _ _ _ _ hble]
       simp only[Array.getD_eq_getD_getElem?,List.getElem?_toArray]
       have hsz:c.toList.length=e0.cs.length:=by simp[he.sz]
       rw[setL_get vs c.toList off i (by omega),hvl]
       by_cases hin:off<=i/\i<off+cs.length
       ·rw[if_pos hin,if_pos hin]
        have:=hat g (i-off) (by omega)
        rw[getN_eq] at this
        simpa[List.getD_eq_getElem?_getD] using this
       ·rw[if_neg hin,if_neg hin]
        have:=he.is_ i hi2
        rw[getN_eq] at this
        simpa using this
   ·refine updL_other he' (λq=>?_)
    have:e'=e:=uq_eq H.uq e' he' e hmem q
    subst this
    rw[hm] at hm';cases hm'
 |_=>exact False.elim hk
end
end Go.Eng
end
section
namespace Go.Eng
structure New(w w1:World)(o:Obj):Prop where
 at_:w1.heap[w.heap.size]?=some o
 old:∀ k,k<w.heap.size->w1.heap[k]?=w.heap[k]?
 size:w1.heap.size=w.heap.size+1
 os:w1.os=w.os
 tape:w1.tape=w.tape
 output:w1.output=w.output
theorem New.wr{w w1:World}{o:Obj}(h:New w w1 o):Wr w w1:=⟨h.os,h.tape,h.output,by rw[h.size];omega⟩
theorem New.push(w:World)(o:Obj)(n:Nat):New w { w with heap:=w.heap.push o,drawn:=n } o:=
 ⟨by simp,λk hk=>by show(w.heap.push o)[k]?=_;rw[Array.getElem?_push,if_neg (by omega)],by simp,rfl,rfl,rfl⟩
def updG(g:Nat->Nat)(l b:Nat):Nat->Nat:=λk=>if k=l then b else g k
section
variable{P:Program}{lo:List Nat}{fr:Hp}{g:Nat->Nat}{L:List LE}{h:Hp}{w:World}{K:KO}
theorem HO.none_h(H:HO fr g L h w){k:Nat}(hk:w.heap.size<=k):h k=none:=by
 cases hb:h k with
 |none=>rfl
 |some o=>have:=H.hh k o hb;rw[Array.getElem?_eq_none hk] at this;cases this
theorem HO.none_f(H:HO fr g L h w){k:Nat}(hk:w.heap.size<=k):fr k=none:=by
 cases hb:fr k with
 |none=>rfl
 |some o=>have:=H.ff k o hb;rw[Array.getElem?_eq_none hk] at this;cases this
theorem HO.lt_h(H:HO fr g L h w){k:Nat}{o:Obj}(hk:h k=some o):k<w.heap.size:=(Array.getElem?_eq_some_iff.1 (H.hh k o hk)).1
theorem HO.lt_f(H:HO fr g L h w){k:Nat}{o:Obj}(hk:fr k=some o):k<w.heap.size:=(Array.getElem?_eq_some_iff.1 (H.ff k o hk)).1
theorem LEok.lt{e:LE}{cs:Array Value}(q:LEok fr g h w e cs):g e.l<w.heap.size:=(Array.getElem?_eq_some_iff.1 q.at_).1
theorem HO.new_heap{w1:World}{o:Obj}(H:HO fr g L h w)(hn:New w w1 o):HO fr g L (h.new w.heap.size o) w1:=by
 refine⟨λk x hk=>?_,λk x hk=>?_,λk=>?_,λe he=>?_,H.uq⟩
 ·unfold Hp.new at hk
  by_cases hkb:k=w.heap.size
  ·subst hkb;rw[if_pos rfl] at hk;rw[<- hk];exact hn.at_
  ·rw[if_neg hkb] at hk;rw[hn.old k (H.lt_h hk)];exact H.hh k x hk
 ·rw[hn.old k (H.lt_f hk)];exact H.ff k x hk
 ·unfold Hp.new
  by_cases hkb:k=w.heap.size
  ·exact .inr (H.none_f (by omega))
  ·rw[if_neg hkb];exact H.dj k
 ·obtain⟨cs,q⟩:=H.ll e he
  have hlt:=q.lt
  exact⟨cs,⟨by rw[hn.old _ hlt];exact q.at_,q.sz,q.is_,q.pl,by unfold Hp.new;rw[if_neg (by omega)];exact q.nh,q.nf⟩⟩
theorem delL_mem{L:List LE}{l:Nat}{e:LE}(hu:L.Pairwise (λe e'=>e.l≠e'.l/\g e.l≠g e'.l))(h:e∈delL L l):e∈L/\e.l≠l:=by
 induction L with
 |nil=>simp[delL] at h
 |cons x L ih=>
  obtain⟨hx,hL⟩:=pairwise_cons.1 hu
  simp only[delL] at h
  cases hxl:x.l == l with
  |true=>
   rw[hxl] at h
   have hxl':x.l=l:=by simpa using hxl
   exact⟨mem_cons_of_mem _ h,λe1=>(hx e h).1 (hxl'.trans e1.symm)⟩
  |false=>
   rw[hxl] at h
   have hxl':x.l≠l:=by simpa using hxl
   rcases mem_cons.1 h with rfl|h
   ·exact⟨mem_cons_self,hxl'⟩
   ·exact⟨mem_cons_of_mem _ (ih hL h).1,(ih hL h).2⟩
theorem delL_keep{L:List LE}{l:Nat}{e:LE}(h:e∈L)(hl:e.l≠l):e∈delL L l:=by
 induction L with
 |nil=>cases h
 |cons x L ih=>
  simp only[delL]
  cases hxl:x.l == l with
  |true=>
   have hxl':x.l=l:=by simpa using hxl
   rcases mem_cons.1 h with rfl|h
   ·exact absurd hxl' hl
   ·exact h
  |false=>
   rcases mem_cons.1 h with rfl|h
   ·exact mem_cons_self
   ·exact mem_cons_of_mem _ (ih h)
theorem delL_sub{L:List LE}{l:Nat}:(delL L l).Sublist L:=by
 induction L with
 |nil=>exact List.Sublist.refl _
 |cons x L ih=>
  simp only[delL]
  cases hxl:x.l == l with
  |true=>exact List.sublist_cons_self _ _
  |false=>exact ih.cons_cons _
theorem findL_none{L:List LE}{l:Nat}(h:findL L l=none):∀ e∈L,e.l≠l:=by
 induction L with
 |nil=>intro e he;cases he
 |cons x L ih=>
  simp only[findL] at h
  intro e he
  cases hxl:x.l == l with
  |true=>rw[hxl] at h;cases h
  |false=>
   rw[hxl] at h
   rcases mem_cons.1 he with rfl|he
   ·simpa using hxl
   ·exact ih h e he
theorem HO.new_loc{w1:World}{d t:Nat}{cs:Array Value}{xs:List AV}(H:HO fr g L h w)(hn:New w w1 (.cells cs t (0,0)))
  (hsz:cs.size=xs.length) (his:∀ g i,i<xs.length->(getN xs i).is g (cs.getD i undef)) (hpl:∀ x∈xs,x.plain=true) :
  HO fr (updG g d w.heap.size) (⟨d,true,t,xs⟩::delL L d) h w1:=by
 have hgd:updG g d w.heap.size d=w.heap.size:=by simp[updG]
 have hgo:∀ e∈delL L d,updG g d w.heap.size e.l=g e.l:=λe he=>by simp[updG,(delL_mem H.uq he).2]
 refine⟨λk x hk=>?_,λk x hk=>?_,H.dj,λe he=>?_,?_⟩
 ·rw[hn.old k (H.lt_h hk)];exact H.hh k x hk
 ·rw[hn.old k (H.lt_f hk)];exact H.ff k x hk
 ·rcases mem_cons.1 he with rfl|he
  ·exact⟨cs,⟨by rw[hgd];exact hn.at_,hsz,his _,hpl,by rw[hgd];exact H.none_h (Nat.le_refl _),by rw[hgd];exact H.none_f (Nat.le_refl _)⟩⟩
  ·obtain⟨c,q⟩:=H.ll e (delL_mem H.uq he).1
   have hge:=hgo e he
   refine⟨c,⟨by rw[hge,hn.old _ q.lt];exact q.at_,q.sz,λi hi=>?_,q.pl,by rw[hge];exact q.nh,by rw[hge];exact q.nf⟩⟩
   have hp:(getN e.cs i).plain=true:=by rw[getN_eq,getElem?_eq_getElem hi];exact q.pl _ (List.getElem_mem _)
   exact AV.is_plain hp (q.is_ i hi)
 ·refine pairwise_cons.2 ⟨λe he=>⟨(delL_mem H.uq he).2.symm,?_⟩,?_⟩
  ·show updG g d w.heap.size d≠_
   rw[hgd,hgo e he]
   obtain⟨c,q⟩:=H.ll e (delL_mem H.uq he).1
   have:=q.lt
   omega
  ·have h1:(delL L d).Pairwise (λe e'=>e.l≠e'.l/\g e.l≠g e'.l):=H.uq.sublist delL_sub
   refine h1.imp_of_mem ?_
   intro a b ha hb hab
   exact⟨hab.1,by rw[hgo a ha,hgo b hb];exact hab.2⟩
theorem killA_is{d b:Nat}{x:AV}{v:Value}(h:x.is g v):(x.kill [d]).is (updG g d b) v:=by
 cases x with
 |loc l o=>
  show AV.is _ (match memN l [d] with|true=>.unk|false=>.loc l o) v
  cases hm:memN l [d] with
  |true=>trivial
  |false=>
   have:l≠d:=λe=>by subst e;simp[memN] at hm
   show v=_
   rw[show v=.pointer (some ⟨g l,o,none⟩) from h]
   simp[updG,this]
 |sl l n=>
  show AV.is _ (match memN l [d] with|true=>.unk|false=>.sl l n) v
  cases hm:memN l [d] with
  |true=>trivial
  |false=>
   have:l≠d:=λe=>by subst e;simp[memN] at hm
   show v=_
   rw[show v=.slice (some ⟨g l,0,none⟩) n n from h]
   simp[updG,this]
 |_=>exact h
theorem kill_look(W:List Nat):∀ (l:List (Nat×AV)) (i:Nat),look (killL W l) i=(look l i).kill W
 |[],_=>rfl
 |(j,x)::l,i=>by
  simp only[killL,look]
  cases Nat.beq j i with
  |true=>rfl
  |false=>exact kill_look W l i
theorem kill_getE(W:List Nat)(A:Env)(i:Nat):getE (killE W A) i=(getE A i).kill W:=by
 show(match Nat.blt i A.n with|true=>look (killL W A.l) i|false=>.unk)=(match Nat.blt i A.n with|true=>look A.l i|false=>AV.unk).kill W
 cases Nat.blt i A.n with
 |true=>exact kill_look W A.l i
 |false=>rfl
theorem FO.killA{A:Env}{a:Act}(h:FO g A a)(d b:Nat):FO (updG g d b) (killE [d] A) a:=by
 refine⟨h.len,λi=>?_,h.df⟩
 rw[kill_getE]
 exact killA_is (h.at_ i)
def OutN(lo:List Nat)(fr:Hp)(g:Nat->Nat)(L:List LE)(w:World)(d:Option Nat)(r:Result Value)(K:KO):Prop:=
 ∃ x L' h' v w' g',r=.ok v w'/\x.is g' v/\HO fr g' L' h' w'/\Wr w w'/\Kp L L'/\K x L' h' /\
  ((g'=g/\∀ l,d=some l->memN l lo=false)\/∃ l b,d=some l/\memN l lo=true/\g'=updG g l b)
theorem Kp_del{L:List LE}{d:Nat}{e0:LE}(hu:L.Pairwise (λe e'=>e.l≠e'.l/\g e.l≠g e'.l))(hf:findL L d=some e0)(hm:e0.m=true)(x:LE):Kp L (x::delL L d):=by
 intro e he hem
 refine mem_cons_of_mem _ (delL_keep he λq=>?_)
 obtain⟨h1,h2⟩:=findL_mem hf
 have:=uq_eq hu e he e0 h1 (q.trans h2.symm)
 subst this
 rw[hm] at hem;cases hem
theorem delL_none{L:List LE}{d:Nat}(h:findL L d=none):delL L d=L:=by
 induction L with
 |nil=>rfl
 |cons x L ih=>
  simp only[findL] at h
  simp only[delL]
  cases hxl:x.l == d with
  |true=>rw[hxl] at h;cases h
  |false=>rw[hxl] at h;simp only;rw[ih h]
theorem allPlain_spec{cs:List AV}(h:allPlain cs=true):∀ x∈cs,x.plain=true:=by
 unfold allPlain at h
 exact List.all_eq_true.1 h
theorem plain_vals:∀ {cs:List AV},(∀ x∈cs,x.plain=true)->∃ vs:List Value,vs.length=cs.length/\∀ g i,i<cs.length->(getN cs i).is g (vs.getD i undef)
 |[],_=>⟨[],rfl,λg i hi=>by simp at hi⟩
 |x::cs,h=>by
  obtain⟨vs,hl,hat⟩:=plain_vals (cs:=cs) (λy hy=>h y (mem_cons_of_mem _ hy))
  have hx:∃ v,∀ g,x.is g v:=by
   have:=h x mem_cons_self
   cases x with
   |v x=>exact⟨x,λ_=>rfl⟩
   |p b o=>exact⟨_,λ_=>rfl⟩
   |f x=>exact⟨x,λ_=>rfl⟩
   |_=>cases this
  obtain⟨v,hv⟩:=hx
  refine⟨v::vs,by simp[hl],λg i hi=>?_⟩
  cases i with
  |zero=>exact hv g
  |succ i=>exact hat g i (by simpa using hi)
theorem new_ok(H:HO fr g L h w){d:Option Nat}{t:Nat}{cs:List AV}{us:List Value}{s:Sem Value}(hk:dNew lo d t cs L h K)
  (hul:us.length=cs.length) (hu:∀ i,i<cs.length->(getN cs i).is g (us.getD i undef))
  (hrun:∃ n,s.run P w=.ok (.pointer (some ⟨w.heap.size,0,none⟩)) { w with heap:=w.heap.push (.cells us.toArray t (0,0)),drawn:=n }):OutN lo fr g L w d (s.run P w) K:=by
 obtain⟨n,hrun⟩:=hrun
 have hn:=New.push w (.cells us.toArray t (0,0)) n
 unfold dNew at hk
 cases d with
 |none=>exact False.elim hk
 |some d=>
  dsimp only at hk
  cases hm:memN d lo with
  |true=>
   rw[hm] at hk
   dsimp only at hk
   have hq:=grd_spec hk
   clear hk
   obtain⟨hp,hk⟩:=hq
   have hp:=allPlain_spec hp
   obtain⟨vs,hvl,hat⟩:=plain_vals hp
   have:us=vs:=lists_eq hp hul hvl hu (hat g)
   subst this
   have HN:=HO.new_loc (d:=d) H hn (xs:=cs) (by simpa using hul) (λg i hi=>by simpa using hat g i hi) hp
   cases hf:findL L d with
   |none=>
    rw[hf] at hk
    refine⟨.loc d 0,⟨d,true,t,cs⟩::L,h,_,_,updG g d w.heap.size,hrun,?_,?_,hn.wr,λe he _=>mem_cons_of_mem _ he,hk,.inr ⟨d,_,rfl,hm,rfl⟩⟩
    ·show _=_;simp[updG]
    ·rw[delL_none hf] at HN;exact HN
   |some e=>
    rw[hf] at hk
    dsimp only at hk
    have hq:=grd_spec hk
    clear hk
    obtain⟨hem,hk⟩:=hq
    refine⟨.loc d 0,⟨d,true,t,cs⟩::delL L d,h,_,_,updG g d w.heap.size,hrun,?_,HN,hn.wr,Kp_del H.uq hf hem _,hk,.inr ⟨d,_,rfl,hm,rfl⟩⟩
    show _=_;simp[updG]
  |false=>
   rw[hm] at hk
   dsimp only at hk
   obtain⟨vs,hvl,hat,hpl,hk⟩:=getAll_spec hk
   have:us=vs:=lists_eq hpl hul hvl hu (hat g)
   subst this
   exact⟨.p w.heap.size 0,L,_,_,_,g,hrun,rfl,HO.new_heap H hn,hn.wr,Kp.refl L,hk _ (H.none_h (Nat.le_refl _)),.inl ⟨rfl,λl hl=>by cases hl;exact hm⟩⟩
theorem box_ok(H:HO fr g L h w){d:Option Nat}{t:Nat}{x:AV}{y:Value}(hk:dBox P lo d t x L h K)(hx:x.is g y):OutN lo fr g L w d ((Instr.box t y).run P w) K:=by
 unfold dBox at hk
 obtain⟨cs,hcl,hcs,hk⟩:=cellsV_spec hk hx
 refine new_ok H hk hcl hcs ⟨w.drawn,?_⟩
 simp[Instr.box,newVar,newRow,newObj,Sem.run]
theorem alloc_ok(H:HO fr g L h w){d:Option Nat}{t:Nat}(hk:dAlloc P lo d t L h K):OutN lo fr g L w d ((Instr.alloc t true (.tuple #[])).run P w) K:=by
 unfold dAlloc at hk
 cases hz:zeroOf P t with
 |none=>rw[hz] at hk;exact False.elim hk
 |some z=>
  rw[hz] at hk
  obtain⟨v,hr,hc⟩:=run_zero hz w
  refine new_ok (us:=z) H hk (by simp) (λi hi=>?_) ⟨w.drawn,?_⟩
  ·have hi':i<z.length:=by simpa using hi
   rw[getN_eq,getElem?_map,getElem?_eq_getElem hi']
   show _=_
   simp[List.getD_eq_getElem?_getD,getElem?_eq_getElem hi']
  ·unfold Instr.alloc
   simp[Sem.run_bind,hr,newVar,newRow,newObj,hc,Sem.run]
end
end Go.Eng
end
section
namespace Go.Eng
section
variable{P:Program}{lo:List Nat}{fr:Hp}{g:Nat->Nat}{L:List LE}{h:Hp}{w:World}{K:KO}
def optIs(g:Nat->Nat):Option AV->Option Value->Prop
 |none,none=>True
 |some x,some v=>x.is g v
 |_,_=>False
theorem bnd_spec{x:Option AV}{v:Option Value}{d:Int}{K:Int->Prop}(hk:bnd x d K)(hx:optIs g x v):(v=none/\x=none/\K d)\/∃ k n,v=some (.int k n)/\x.isSome=true/\K n:=by
 cases x with
 |none=>cases v with
  |none=>exact .inl ⟨rfl,rfl,hk⟩
  |some v=>exact False.elim hx
 |some x=>cases v with
  |none=>exact False.elim hx
  |some v=>
   cases x with
   |v xv=>
    have:v=xv:=hx
    subst this
    cases v with
    |int k n=>exact .inr ⟨k,n,rfl,rfl,hk⟩
    |_=>exact False.elim hk
   |_=>exact False.elim hk
theorem run_bound{k:IntKind}{n:Int}{y:Nat}{code:BoundsCode}(h0:0<=n)(h1:n<=(y:Int)):(Instr.sliceBound (.int k n) y code).run P w=.ok n.toNat w:=by
 simp[Instr.sliceBound,asIntOf,h0,h1]
theorem slice_ok(H:HO fr g L h w){t:Nat}{x:AV}{y:Value}{l' hi mx:Option AV}{lv hv mv:Option Value}(hk:dSlice P t x l' hi mx L h K)(hx:x.is g y)(hl:optIs g l' lv)(hh:optIs g hi hv)(hm:optIs g mx mv) :
  Out fr g L w ((Instr.sliceAt t y lv hv mv).run P w) K:=by
 unfold dSlice at hk
 cases hd:under P t with
 |string=>
  rw[hd] at hk
  have hut:=under_some hd (by simp)
  cases x with
  |v xv=>
   have hy:y=xv:=hx
   subst hy
   cases y with
   |string s=>
    cases mx with
    |some m=>exact False.elim hk
    |none=>
     cases mv with
     |some _=>exact False.elim hm
     |none=>
      dsimp only at hk
      have key:∀ (l u:Int) (lv hv:Option Value),okSub s l u->(lv=none/\l=0\/∃ k,lv=some (.int k l))->(hv=none/\u=s.size\/∃ k,hv=some (.int k u)) ->
        (Instr.sliceAt t (.string s) lv hv none).run P w=.ok (.string (s.extract l.toNat u.toNat)) w:=by
       intro l u lv hv ⟨h0,h1,h2⟩ hl hh
       have hb:(Instr.sliceBounds false s.size s.size lv hv none).run P w=.ok (l.toNat,u.toNat,s.size) w:=by
        unfold Instr.sliceBounds
        rcases hh with⟨rfl,rfl⟩|⟨kh,rfl⟩<;>rcases hl with⟨rfl,rfl⟩|⟨kl,rfl⟩
        ·simp
        ·simp[run_bound h0 h1]
        ·simp[run_bound (by omega:0<=u) h2]
        ·simp[run_bound (by omega:0<=u) h2,run_bound h0 (show l<=((u.toNat:Nat):Int) by omega)]
       unfold Instr.sliceAt Instr.slice
       simp only[Sem.run_bind,run_underlying hut,Result.andThen_ok]
       simp[hb]
      rcases bnd_spec hk hl with⟨rfl,rfl,hk1⟩|⟨kl,l,rfl,_,hk1⟩<;>rcases bnd_spec hk1 hh with⟨rfl,rfl,hc,hK⟩|⟨kh,u,rfl,_,hc,hK⟩
      all_goals exact Out.here H (x:=.v _) (key _ _ _ _ hc (by first|exact .inl ⟨rfl,rfl⟩|exact .inr ⟨_,rfl⟩) (by first|exact .inl ⟨rfl,rfl⟩|exact .inr ⟨_,rfl⟩)) rfl hK
   |_=>exact False.elim hk
  |_=>exact False.elim hk
 |slice e=>
  rw[hd] at hk
  have hut:=under_some hd (by simp)
  have hq:=grd_spec hk
  clear hk
  obtain⟨hg,hk⟩:=hq
  simp only[Bool.and_eq_true,Bool.or_eq_true] at hg
  obtain⟨hie,hmx⟩:=hg
  cases x with
  |v xv=>
   have hy:y=xv:=hx
   subst hy
   cases y with
   |slice a n c=>
    dsimp only at hk
    have key:∀ (l u m:Int) (lv hv mv:Option Value),Sl.okCut ⟨a,n,c⟩ l u m->(lv=none/\l=0\/∃ k,lv=some (.int k l))->(hv=none/\u=n/\mv=none\/∃ k,hv=some (.int k u))->(mv=none/\m=c\/∃ k,mv=some (.int k m)) ->
      (Instr.sliceAt t (.slice a n c) lv hv mv).run P w=.ok (Sl.cut ⟨a,n,c⟩ (P.cellsOf e) l u m).v w:=by
     intro l u m lv hv mv ⟨h0,h1,h2,h3⟩ hl hh hm
     have h3:m<=(c:Int):=h3
     have hb:(Instr.sliceBounds true n c lv hv mv).run P w=.ok (l.toNat,u.toNat,m.toNat) w:=by
      unfold Instr.sliceBounds
      rcases hm with⟨rfl,rfl⟩|⟨km,rfl⟩
      ·rcases hh with⟨rfl,rfl,_⟩|⟨kh,rfl⟩<;>rcases hl with⟨rfl,rfl⟩|⟨kl,rfl⟩
       ·simp
       ·simp[run_bound h0 h1]
       ·simp[run_bound (by omega:0<=u) h2]
       ·simp[run_bound (by omega:0<=u) h2,run_bound h0 (show l<=((u.toNat:Nat):Int) by omega)]
      ·rcases hh with⟨rfl,rfl,hx⟩|⟨kh,rfl⟩
       ·cases hx
       ·rcases hl with⟨rfl,rfl⟩|⟨kl,rfl⟩
        ·simp[run_bound (by omega:0<=m) h3,run_bound (by omega:0<=u) (show u<=((m.toNat:Nat):Int) by omega)]
        ·simp[run_bound (by omega:0<=m) h3,run_bound (by omega:0<=u) (show u<=((m.toNat:Nat):Int) by omega),run_bound h0 (show l<=((u.toNat:Nat):Int) by omega)]
     unfold Instr.sliceAt Instr.slice
     simp only[Sem.run_bind,run_underlying hut,Result.andThen_ok,hb,run_sizeOf' hie]
     simp[Sem.run_pure,Sl.cut]
    rcases bnd_spec hk hl with⟨rfl,rfl,hk1⟩|⟨kl,l,rfl,_,hk1⟩<;>rcases bnd_spec hk1 hh with⟨rfl,rfl,hk2⟩|⟨kh,u,rfl,_,hk2⟩<;>rcases bnd_spec hk2 hm with⟨rfl,rfl,hc,hK⟩|⟨km,m,rfl,hms,hc,hK⟩
    all_goals first
     |exact Out.here H (x:=.v _) (key _ _ _ _ _ _ hc (by first|exact .inl ⟨rfl,rfl⟩|exact .inr ⟨_,rfl⟩) (by first|exact .inl ⟨rfl,rfl,rfl⟩|exact .inr ⟨_,rfl⟩) (by first|exact .inl ⟨rfl,rfl⟩|exact .inr ⟨_,rfl⟩)) rfl hK
     |(exfalso;cases mx<;>simp_all)
   |_=>exact False.elim hk
  |_=>exact False.elim hk
 |array n e=>
  rw[hd] at hk
  have hut:=under_some hd (by simp)
  have hq:=grd_spec hk
  clear hk
  obtain⟨hg,hk⟩:=hq
  simp only[Bool.and_eq_true] at hg
  obtain⟨hie,hmx⟩:=hg
  cases x with
  |p b o=>
   have hy:y=.pointer (some ⟨b,o,none⟩):=hx
   subst hy
   cases mx with
   |some m=>simp at hmx
   |none=>
    cases mv with
    |some _=>exact False.elim hm
    |none=>
     dsimp only at hk
     have key:∀ (l u:Int) (lv hv:Option Value),Sl.okCut ⟨some ⟨b,o,none⟩,n,n⟩ l u n->(lv=none/\l=0\/∃ k,lv=some (.int k l))->(hv=none/\u=n\/∃ k,hv=some (.int k u)) ->
       (Instr.sliceAt t (.pointer (some ⟨b,o,none⟩)) lv hv none).run P w=.ok (Sl.cut ⟨some ⟨b,o,none⟩,n,n⟩ (P.cellsOf e) l u n).v w:=by
      intro l u lv hv ⟨h0,h1,h2,h3⟩ hl hh
      have hb:(Instr.sliceBounds false n n lv hv none).run P w=.ok (l.toNat,u.toNat,n) w:=by
       unfold Instr.sliceBounds
       rcases hh with⟨rfl,rfl⟩|⟨kh,rfl⟩<;>rcases hl with⟨rfl,rfl⟩|⟨kl,rfl⟩
       ·simp
       ·simp[run_bound h0 h1]
       ·simp[run_bound (by omega:0<=u) h2]
       ·simp[run_bound (by omega:0<=u) h2,run_bound h0 (show l<=((u.toNat:Nat):Int) by omega)]
      unfold Instr.sliceAt
      simp only[Sem.run_bind,run_underlying hut,Result.andThen_ok,Instr.sureAddr,Sem.run_pure,hb,run_sizeOf' hie]
      simp[Sl.cut,Sl.v]
      split<;>rfl
     rcases bnd_spec hk hl with⟨rfl,rfl,hk1⟩|⟨kl,l,rfl,_,hk1⟩<;>rcases bnd_spec hk1 hh with⟨rfl,rfl,hc,hK⟩|⟨kh,u,rfl,_,hc,hK⟩
     all_goals exact Out.here H (x:=.v _) (key _ _ _ _ hc (by first|exact .inl ⟨rfl,rfl⟩|exact .inr ⟨_,rfl⟩) (by first|exact .inl ⟨rfl,rfl⟩|exact .inr ⟨_,rfl⟩)) rfl hK
  |_=>exact False.elim hk
 |_=>rw[hd] at hk;exact False.elim hk
theorem un_ok(H:HO fr g L h w){op:UnOp}{x:AV}{y:Value}(hk:dUn op x L h K)(hx:x.is g y):Out fr g L w ((Op.unary op y).run P w) K:=by
 unfold dUn at hk
 cases x with
 |v xv=>
  have hy:y=xv:=hx
  subst hy
  cases op<;>cases y<;>first
   |exact False.elim hk
   |exact Out.here H (x:=.v _) (by simp[Op.unary,Op.intArith,Op.intBits,bitsI];rfl) rfl hk
   |exact Out.here H (x:=.v _) (by simp[Op.unary,Op.intArith,Op.intBits,bitsI]) rfl hk
 |_=>cases op<;>exact False.elim hk
theorem Out.tf(H:HO fr g L h w){c:Prop}{b:Bool}{r:Result Value}(hr:r=.ok (.bool b) w)(hb:b=true↔c)
  (hk:Go.Eng.par c (K (.v (.bool true)) L h) (K (.v (.bool false)) L h)):Out fr g L w r K:=by
 by_cases hc:c
 ·have:b=true:=hb.2 hc
  subst this
  exact Out.here H (x:=.v _) hr rfl (hk.1 hc)
 ·have:b=false:=by cases b with|true=>exact absurd (hb.1 rfl) hc|false=>rfl
  subst this
  exact Out.here H (x:=.v _) hr rfl (hk.2 hc)
theorem Out.ft(H:HO fr g L h w){c:Prop}{b:Bool}{r:Result Value}(hr:r=.ok (.bool b) w)(hb:b=true↔¬ c)
  (hk:Go.Eng.par c (K (.v (.bool false)) L h) (K (.v (.bool true)) L h)):Out fr g L w r K:=
 Out.tf H hr hb ⟨λh1=>hk.2 h1,λh1=>hk.1 (Classical.not_not.1 h1)⟩
theorem int_ok(H:HO fr g L h w){op:BinOp}{t:Nat}{k k':IntKind}{a b:Int}(hk:dInt op k a k' b L h K):Out fr g L w ((binOp op t (.int k a) (.int k' b)).run P w) K:=by
 unfold dInt at hk
 have sh:op=.shl\/op=.shr\/(op≠.shl/\op≠.shr):=by cases op<;>simp
 rcases sh with rfl|rfl|⟨h1,h2⟩
 ·obtain⟨h0,hk⟩:=hk
  refine Out.here H (x:=.v _) ?_ rfl hk
  simp[binOp,Op.shift,Int.not_lt.2 h0,shlI]
 ·obtain⟨h0,hk⟩:=hk
  refine Out.here H (x:=.v _) ?_ rfl hk
  simp[binOp,Op.shift,Int.not_lt.2 h0,shrI]
 ·by_cases hkk:k=k'
  ·subst hkk
   cases op<;>simp only[decide_true] at hk<;>first
    |exact absurd rfl h1
    |exact absurd rfl h2
    |exact False.elim hk
    |exact Out.here H (x:=.v _) (by simp[binOp,Op.intArith];rfl) rfl hk
    |exact Out.here H (x:=.v _) (by simp[binOp,Op.intBits,bitsI];rfl) rfl hk
    |(obtain⟨h0,hk⟩:=hk;exact Out.here H (x:=.v _) (by simp[binOp,Op.intDiv,h0]) rfl hk)
    |exact Out.tf H (by simp[binOp,Op.intCmp];rfl) (by simp) hk
    |exact Out.ft H (by simp[binOp,Op.intCmp];rfl) (by simp) hk
  ·exfalso
   have hd:decide (k=k')=false:=decide_eq_false hkk
   rw[hd] at hk
   cases op<;>first
    |exact absurd rfl h1
    |exact absurd rfl h2
    |exact hk
theorem str_ext{s t:ByteArray}:s.toList=t.toList↔s=t:=by
 constructor
 ·intro hst
  have h1:∀ x:ByteArray,x.toList=x.data.toList:=λx=>ByteArray.toList_eq x
  rw[h1,h1] at hst
  exact ByteArray.ext (Array.ext' hst)
 ·intro hst;rw[hst]
theorem str_ok (H : HO fr g L h w) {op : BinOp} {t : Nat} {s u : ByteArray} (hk : dStr op s u L h K) : Out fr g L w ((binOp op t (.string s) (.string u)).run P w) K := by
  unfold dStr at hk
  have hmax : IntKind.i64.max = 9223372036854775807 := by decide
  cases op <;> first
    | exact False.elim hk
    | (obtain ⟨h0, hk⟩ := hk
       refine Out.here H (x := .v _) ?_ rfl hk
       have hn : ¬ ((s.size + u.size : Nat) : Int) > IntKind.i64.max := by rw [hmax]; omega
       simp only [binOp, Op.stringOp, hn, if_false]; rfl)
    | exact Out.tf H (b := s.toList == u.toList) (by simp only [binOp, Op.stringOp]; rfl) (by rw [beq_iff_eq]; exact str_ext) hk
    | exact Out.ft H (b := !(s.toList == u.toList)) (by simp only [binOp, Op.stringOp]; rfl) (by rw [Bool.not_eq_true', beq_eq_false_iff_ne]; exact not_congr str_ext) hk
    | exact Out.tf H (b := Op.bytesLess s.toList u.toList) (by simp only [binOp, Op.stringOp]; rfl) Iff.rfl hk
    | exact Out.tf H (b := Op.bytesLess s.toList u.toList || s.toList == u.toList) (by simp only [binOp, Op.stringOp]; rfl) (by rw [Bool.or_eq_true, beq_iff_eq]; exact or_congr Iff.rfl str_ext) hk
    | exact Out.ft H (b := !(Op.bytesLess s.toList u.toList || s.toList == u.toList)) (by simp only [binOp, Op.stringOp]; rfl) (by rw [Bool.not_eq_true', Bool.eq_false_iff, ne_eq, Bool.or_eq_true, beq_iff_eq]; exact not_congr (or_congr Iff.rfl str_ext)) hk
    | exact Out.ft H (b := !(Op.bytesLess s.toList u.toList)) (by simp only [binOp, Op.stringOp]; rfl) (by rw [Bool.not_eq_true', Bool.eq_false_iff]; exact Iff.rfl) hk
theorem extract_ok(H:HO fr g L h w){x:AV}{y:Value}{i:Nat}(hk:dExtract x i L h K)(hx:x.is g y):Out fr g L w ((Instr.extract y i).run P w) K:=by
 unfold dExtract at hk
 cases x with
 |v xv=>
  have hy:y=xv:=hx
  subst hy
  cases y with
  |tuple vs=>
   obtain⟨vs⟩:=vs
   dsimp only at hk
   cases hv:vs[i]? with
   |none=>rw[hv] at hk;exact False.elim hk
   |some v=>
    rw[hv] at hk
    refine Out.here H (x:=.v _) ?_ rfl hk
    simp[Instr.extract,hv]
  |_=>exact False.elim hk
 |_=>exact False.elim hk
theorem len_ok(H:HO fr g L h w){t ty:Nat}{x:AV}{y:Value}(hk:dLen P t x L h K)(hx:x.is g y):Out fr g L w ((Builtin.len_ #[t] ty #[y]).run P w) K:=by
 unfold dLen at hk
 cases hd:under P t<;>rw[hd] at hk<;>try exact False.elim hk
 all_goals have hut:=under_some hd (by simp)
 case string=>
  cases x with
  |v xv=>
   have hy:y=xv:=hx
   subst hy
   cases y<;>first|exact False.elim hk|(refine Out.here H (x:=.v _) ?_ rfl hk;simp[Builtin.len_,run_underlying hut,goInt])
  |_=>exact False.elim hk
 case slice e=>
  cases x with
  |v xv=>
   have hy:y=xv:=hx
   subst hy
   cases y<;>first|exact False.elim hk|(refine Out.here H (x:=.v _) ?_ rfl hk;simp[Builtin.len_,run_underlying hut,goInt])
  |sl l n=>
   have hy:y=.slice (some ⟨g l,0,none⟩) n n:=hx
   subst hy
   refine Out.here H (x:=.v _) ?_ rfl hk
   simp[Builtin.len_,run_underlying hut,goInt]
  |_=>exact False.elim hk
 case array n e=>
  refine Out.here H (x:=.v _) ?_ rfl hk
  simp[Builtin.len_,run_underlying hut,goInt]
 case map kt et=>
  cases x with
  |v xv=>
   have hy:y=xv:=hx
   subst hy
   cases y with
   |map m=>
    obtain⟨es,c,hm,hk⟩:=hk
    cases m with
    |none=>
     obtain⟨rfl,rfl⟩:=hm
     refine Out.here H (x:=.v _) ?_ rfl hk
     simp[Builtin.len_,run_underlying hut,goInt]
    |some b=>
     have hb:=H.hh b _ hm
     refine Out.here H (x:=.v _) ?_ rfl hk
     simp[Builtin.len_,run_underlying hut,goInt,getObj,Sem.run_bind,Sem.run,hb]
   |_=>exact False.elim hk
  |_=>exact False.elim hk
theorem cap_ok(H:HO fr g L h w){t ty:Nat}{x:AV}{y:Value}(hk:dCap P t x L h K)(hx:x.is g y):Out fr g L w ((Builtin.cap_ #[t] ty #[y]).run P w) K:=by
 unfold dCap at hk
 cases hd:under P t<;>rw[hd] at hk<;>try exact False.elim hk
 have hut:=under_some hd (by simp)
 cases x with
 |v xv=>
  have hy:y=xv:=hx
  subst hy
  cases y<;>first|exact False.elim hk|(refine Out.here H (x:=.v _) ?_ rfl hk;simp[Builtin.cap_,run_underlying hut,goInt])
 |_=>exact False.elim hk
end
end Go.Eng
end
section
namespace Go.Eng
section
variable{P:Program}{lo:List Nat}{fr:Hp}{g:Nat->Nat}{L:List LE}{h:Hp}{w:World}{K:KO}
theorem row_run(H:HO fr g L h w){A:Option Addr}{size n c k:Nat}{vs:List Value}(hr:h.row A k vs)(hk:k=n*size)(w1:World)(hw:w1.heap=w.heap) :
  (Builtin.firstCells size n (.slice A c c)).run P w1=.ok vs.toArray w1/\∀ m d,(Builtin.firstCells size n (.slice A m d)).run P w1=.ok vs.toArray w1:=by
 have key:∀ m d,(Builtin.firstCells size n (.slice A m d)).run P w1=.ok vs.toArray w1:=by
  intro m d
  obtain⟨hl,h0⟩:=hr
  subst hk
  rcases h0 with h0|⟨b,o,rfl,hat⟩
  ·have hvs:vs=[]:=List.eq_nil_of_length_eq_zero (by omega)
   subst hvs
   cases A with
   |none=>simp[Builtin.firstCells]
   |some a=>simp[Builtin.firstCells,h0,loadCells,loadCellsFrom]
  ·simp only[Builtin.firstCells]
   rw[<- hl]
   refine run_loadAgg (λi v hv=>?_)
   have hil:i<vs.length:=(List.getElem?_eq_some_iff.1 hv).1
   have:=cell_of H.hh ((hat i (by omega)).trans hv)
   simpa[World.cell?,hw] using this
 exact⟨key _ _,key⟩
theorem lay_eq:∀ (vs:List Value) (c:Array Value) (o j:Nat),o+j+vs.length<=c.size ->
  (vs.zipIdx j).foldl (λcs (x:Value×Nat)=>cs.setIfInBounds (o+x.2) x.1) c=(setL c.toList (o+j) vs).toArray
 |[],c,o,j,_=>by simp[setL]
 |v::vs,c,o,j,h=>by
  simp only[length_cons] at h
  simp only[List.zipIdx_cons,List.foldl_cons]
  rw[lay_eq vs _ o (j+1) (by simp;omega)]
  simp[setL,Nat.add_assoc]
theorem fill_cons{place:Nat->Option (Nat×Nat)}{i off size:Nat}{v:Value}{rest:List (Nat×Value)}{c:Array Value}(hp:place i=some (off,size))(hs:v.cells.size=size)(hb:off+size<=c.size) :
  Instr.fill place c ((i,v)::rest)=Instr.fill place (setL c.toList off v.cells.toList).toArray rest:=by
 simp only[Instr.fill,hp]
 rw[if_neg (by simp[hs];omega)]
 congr 1
 rw[<- Array.foldl_toList,Array.toList_zipIdx]
 have:=lay_eq v.cells.toList c off 0 (by simp[hs];omega)
 simpa using this
def inStep(g:Nat->Nat)(xs:List AV)(us:List Value):Prop:=us.length=xs.length/\∀ i,i<xs.length->(getN xs i).is g (us.getD i undef)
theorem inStep.lay{xs ys:List AV}{us vs:List Value}{o:Nat}(h:inStep g xs us)(k:inStep g ys vs)(hb:o+ys.length<=xs.length):inStep g (setLA xs o ys) (setL us o vs):=by
 refine⟨by rw[setL_length,setLA_length];exact h.1,λi hi=>?_⟩
 rw[setLA_length] at hi
 rw[getN_eq,setLA_get _ _ _ _ hb,List.getD_eq_getElem?_getD,setL_get _ _ _ _ (by rw[k.1,h.1];exact hb),k.1]
 by_cases hin:o<=i/\i<o+ys.length
 ·rw[if_pos hin,if_pos hin]
  have:=k.2 (i-o) (by omega)
  rw[getN_eq,List.getD_eq_getElem?_getD] at this
  exact this
 ·rw[if_neg hin,if_neg hin]
  have:=h.2 i hi
  rw[getN_eq,List.getD_eq_getElem?_getD] at this
  exact this
def partsIs(g:Nat->Nat):List (Nat×AV)->List (Nat×Value)->Prop
 |[],[]=>True
 |(i,x)::ps,(j,v)::qs=>i=j/\x.is g v/\partsIs g ps qs
 |_,_=>False
theorem fillP_ok{e size:Nat}:∀ {ps:List (Nat×AV)} {qs:List (Nat×Value)} {cs:List AV} {us:List Value} {K':List AV->Prop},fillP P e size ps cs K'->partsIs g ps qs->inStep g cs us ->
  ∃ cs' us',Instr.fill (λi=>some (i*size,size)) us.toArray qs=some us'.toArray/\inStep g cs' us'/\cs'.length=cs.length/\K' cs'
 |[],[],cs,us,K',hk,_,hs=>⟨cs,us,rfl,hs,rfl,hk⟩
 |[],_::_,_,_,_,_,hp,_=>False.elim hp
 |_::_,[],_,_,_,_,hp,_=>by cases hp
 |(i,x)::ps,(j,v)::qs,cs,us,K',hk,hp,hs=>by
  obtain⟨rfl,hx,hp⟩:=hp
  obtain⟨ys,hyl,hys,hk⟩:=cellsV_spec hk hx
  have hq:=grd_spec hk
  clear hk
  obtain⟨hb,hk⟩:=hq
  simp only[Bool.and_eq_true,lenB,beq_iff_eq,Nat.ble_eq] at hb
  have hvs:v.cells.size=size:=by rw[<- hb.1,<- hyl,Array.length_toList]
  have hstep:inStep g (setLA cs (i*size) ys) (setL us (i*size) v.cells.toList):=inStep.lay hs ⟨hyl,hys⟩ (by omega)
  obtain⟨cs',us',hf,hst,hl,hK⟩:=fillP_ok hk hp hstep
  refine⟨cs',us',?_,hst,hl.trans (setLA_length _ _ _),hK⟩
  rw[fill_cons (off:=i*size) (size:=size) rfl hvs (by simp;rw[hs.1];omega)]
  exact hf
theorem fillS_ok{fs:Array Field}{places:Array (Nat×Nat)}(hpl:∀ (i:Nat) (f:Field),fs[i]?=some f->places[i]?=some (f.offset,P.cellsOf f.type)):∀ {ps:List (Nat×AV)} {qs:List (Nat×Value)} {cs:List AV} {us:List Value} {K':List AV->Prop},fillS P fs ps cs K'->partsIs g ps qs->inStep g cs us ->
  ∃ cs' us',Instr.fill (places[·]?) us.toArray qs=some us'.toArray/\inStep g cs' us'/\cs'.length=cs.length/\K' cs'
 |[],[],cs,us,K',hk,_,hs=>⟨cs,us,rfl,hs,rfl,hk⟩
 |[],_::_,_,_,_,_,hp,_=>False.elim hp
 |_::_,[],_,_,_,_,hp,_=>by cases hp
 |(i,x)::ps,(j,v)::qs,cs,us,K',hk,hp,hs=>by
  obtain⟨rfl,hx,hp⟩:=hp
  unfold fillS at hk
  cases hf:fs[i]? with
  |none=>rw[hf] at hk;exact False.elim hk
  |some f=>
   rw[hf] at hk
   dsimp only at hk
   obtain⟨ys,hyl,hys,hk⟩:=cellsV_spec hk hx
   have hq:=grd_spec hk
   clear hk
   obtain⟨hb,hk⟩:=hq
   simp only[Bool.and_eq_true,lenB,beq_iff_eq,Nat.ble_eq] at hb
   have hvs:v.cells.size=P.cellsOf f.type:=by rw[<- hb.1.2,<- hyl,Array.length_toList]
   have hstep:inStep g (setLA cs f.offset ys) (setL us f.offset v.cells.toList):=inStep.lay hs ⟨hyl,hys⟩ hb.2
   obtain⟨cs',us',hff,hst,hl,hK⟩:=fillS_ok hpl hk hp hstep
   refine⟨cs',us',?_,hst,hl.trans (setLA_length _ _ _),hK⟩
   rw[fill_cons (off:=f.offset) (size:=P.cellsOf f.type) (hpl i f hf) hvs (by simp;rw[hs.1];omega)]
   exact hff
theorem inStep_map(us:List Value):inStep g (us.map AV.v) us:=by
 refine⟨by simp,λi hi=>?_⟩
 have hi':i<us.length:=by simpa using hi
 rw[getN_eq,getElem?_map,getElem?_eq_getElem hi']
 show _=_
 simp[List.getD_eq_getElem?_getD,getElem?_eq_getElem hi']
def replV(n:Nat)(l:List Value):List Value:=
 match n with
 |0=>[]
 |n+1=>l++replV n l
theorem replA_map(n:Nat)(z:List Value):replA n (z.map AV.v)=(replV n z).map AV.v:=by
 induction n with
 |zero=>rfl
 |succ n ih=>simp[replA,replV,ih]
theorem replV_length(n:Nat)(z:List Value):(replV n z).length=n*z.length:=by
 induction n with
 |zero=>simp[replV]
 |succ n ih=>simp[replV,ih,Nat.succ_mul,Nat.add_comm]
theorem replV_get(n:Nat)(z:List Value):∀ i,i<n*z.length->(replV n z)[i]?=z[i % z.length]?:=by
 induction n with
 |zero=>intro i hi;omega
 |succ n ih=>
  intro i hi
  simp only[replV]
  by_cases h:i<z.length
  ·rw[List.getElem?_append_left h,Nat.mod_eq_of_lt h]
  ·rw[List.getElem?_append_right (by omega),ih (i-z.length) (by rw[Nat.succ_mul] at hi;omega)]
   congr 1
   rw[Nat.mod_eq_sub_mod (by omega:i ≥ z.length)]
theorem range_zero{z:List Value}(n:Nat)(hz:0<z.length):(Array.range (n*z.length)).map (λx=>z.toArray[x % z.toArray.size]!)=(replV n z).toArray:=by
 apply Array.ext'
 apply List.ext_getElem?
 intro i
 by_cases hi:i<n*z.length
 ·have hm:i % z.length<z.length:=Nat.mod_lt _ hz
  simp[hi,replV_get n z i hi,hm]
 ·have h1:(replV n z).length<=i:=by rw[replV_length];omega
  simp[hi,List.getElem?_eq_none h1]
end
end Go.Eng
end
section
namespace Go.Eng
section
variable{P:Program}{lo:List Nat}{fr:Hp}{g:Nat->Nat}{L:List LE}{h:Hp}{w:World}{K:KO}
theorem buildSlice_ok(H:HO fr g L h w){d:Option Nat}{t n:Nat}{ps:List (Nat×AV)}{qs:Array (Nat×Value)}(hk:dBuildSlice P lo d t n ps L h K)(hp:partsIs g ps qs.toList):OutN lo fr g L w d ((Instr.buildSlice t n qs).run P w) K:=by
 unfold dBuildSlice at hk
 cases hd:under P t<;>rw[hd] at hk<;>try exact False.elim hk
 case slice e=>
 have hut:=under_some hd (by simp)
 have hq:=grd_spec hk
 clear hk
 obtain⟨hie,hk⟩:=hq
 cases hz:zeroOf P e with
 |none=>rw[hz] at hk;exact False.elim hk
 |some z=>
  rw[hz] at hk
  dsimp only at hk
  have hq:=grd_spec hk
  clear hk
  obtain⟨hb,hk⟩:=hq
  simp only[Bool.and_eq_true,Nat.ble_eq] at hb
  obtain⟨hbig,hz0⟩:=hb
  have hz0:0<z.length:=by simp[Nat.blt] at hz0;omega
  obtain⟨i0,v0,hi0,hzi,hvc,hzl,hcs⟩:=zeroOf_some hz
  rw[replA_map] at hk
  obtain⟨cs,us,hfill,hst,hcl,hk⟩:=fillP_ok (us:=replV n z) hk hp (inStep_map _)
  have hrun:∃ m,(Instr.buildSlice t n qs).run P w=.ok (.slice (some ⟨w.heap.size,0,none⟩) n n) { w with heap:=w.heap.push (.cells us.toArray e (0,0)),drawn:=m }:=by
   refine⟨w.drawn,?_⟩
   have hcell:P.cellsOf e=z.length:=by rw[hcs,hzl]
   have hnb:¬ (n*P.cellsOf e > 2 ^ 24):=by simp;exact hbig
   have hcells:(Array.range (n*P.cellsOf e)).map (λx=>z.toArray[x % z.toArray.size]!)=(replV n z).toArray:=by rw[hcell];exact range_zero n hz0
   unfold Instr.buildSlice
   simp only[Sem.run_bind,run_underlying hut,Result.andThen_ok,run_sizeOf' hie]
   rw[if_neg hnb]
   by_cases hn0:n*P.cellsOf e=0
   ·have hn:n=0:=by rcases Nat.mul_eq_zero.1 hn0 with h1|h1<;>omega
    subst hn
    have:replV 0 z=[]:=rfl
    rw[this] at hfill
    have hnil:∀ f:Nat->Value,(Array.range 0).map f=#[]:=λf=>by simp
    simp only[hn0,if_true,Sem.run_bind,Sem.run_pure,Result.andThen_ok,hnil]
    rw[hfill]
    simp[newRow,newObj,Sem.run]
   ·obtain⟨v,hrv,hvc'⟩:=run_zero hz w
    simp only[hn0,if_false,Sem.run_bind,hrv,Result.andThen_ok,hvc',Sem.run_pure]
    rw[hcells,hfill]
    simp[newRow,newObj,Sem.run]
  obtain⟨m,hrun⟩:=hrun
  have hn:=New.push w (.cells us.toArray e (0,0)) m
  cases d with
  |none=>exact False.elim hk
  |some d=>
   dsimp only at hk
   cases hm:memN d lo with
   |true=>
    rw[hm] at hk
    dsimp only at hk
    have hq:=grd_spec hk
    clear hk
    obtain⟨hpl,hk⟩:=hq
    have hpl:=allPlain_spec hpl
    obtain⟨vs,hvl,hat⟩:=plain_vals hpl
    have:us=vs:=lists_eq hpl hst.1 hvl hst.2 (hat g)
    subst this
    have HN:=HO.new_loc (d:=d) H hn (xs:=cs) (by simpa using hst.1) (λg i hi=>by simpa using hat g i hi) hpl
    cases hf:findL L d with
    |none=>
     rw[hf] at hk
     refine⟨.sl d n,⟨d,true,e,cs⟩::L,h,_,_,updG g d w.heap.size,hrun,?_,?_,hn.wr,λe he _=>mem_cons_of_mem _ he,hk,.inr ⟨d,_,rfl,hm,rfl⟩⟩
     ·show _=_;simp[updG]
     ·rw[delL_none hf] at HN;exact HN
    |some x=>
     rw[hf] at hk
     dsimp only at hk
     have hq:=grd_spec hk
     clear hk
     obtain⟨hem,hk⟩:=hq
     refine⟨.sl d n,⟨d,true,e,cs⟩::delL L d,h,_,_,updG g d w.heap.size,hrun,?_,HN,hn.wr,Kp_del H.uq hf hem _,hk,.inr ⟨d,_,rfl,hm,rfl⟩⟩
     show _=_;simp[updG]
   |false=>
    rw[hm] at hk
    dsimp only at hk
    obtain⟨vs,hvl,hat,hpl,hk⟩:=getAll_spec hk
    have:us=vs:=lists_eq hpl hst.1 hvl hst.2 (hat g)
    subst this
    exact⟨.v (.slice (some ⟨w.heap.size,0,none⟩) n n),L,_,_,_,g,hrun,rfl,HO.new_heap H hn,hn.wr,Kp.refl L,hk _ (H.none_h (Nat.le_refl _)),.inl ⟨rfl,λl hl=>by cases hl;exact hm⟩⟩
theorem mapM_places(fs:List Field)(hfs:∀ f∈fs,hasInfo P f.type=true):(fs.mapM (m:=Sem) λf=>do pure (f.offset,<- sizeOf f.type)).run P w=.ok (fs.map λf=>(f.offset,P.cellsOf f.type)) w:=by
 induction fs with
 |nil=>simp
 |cons f fs ih=>
  rw[List.mapM_cons]
  simp only[Sem.run_bind,run_sizeOf' (hfs f mem_cons_self),Result.andThen_ok,Sem.run_pure,ih (λx hx=>hfs x (mem_cons_of_mem _ hx)),List.map_cons]
theorem build_ok(H:HO fr g L h w){t:Nat}{ps:List (Nat×AV)}{qs:Array (Nat×Value)}(hk:dBuild P t ps L h K)(hp:partsIs g ps qs.toList):Out fr g L w ((Instr.build t qs).run P w) K:=by
 unfold dBuild at hk
 cases hz:zeroOf P t with
 |none=>rw[hz] at hk;exact False.elim hk
 |some z=>
  rw[hz] at hk
  dsimp only at hk
  obtain⟨v,hrv,hvc⟩:=run_zero hz w
  cases hd:under P t<;>rw[hd] at hk<;>try exact False.elim hk
  case struct fs=>
   have hut:=under_some hd (by simp)
   have hq:=grd_spec hk
   clear hk
   obtain⟨hfs,hk⟩:=hq
   have hfs:∀ f∈fs.toList,hasInfo P f.type=true:=List.all_eq_true.1 hfs
   obtain⟨cs,us,hfill,hst,hcl,hk⟩:=fillS_ok (us:=z) (places:=(fs.toList.map λf=>(f.offset,P.cellsOf f.type)).toArray) (λi f hf=>by simp[hf]) hk hp (inStep_map _)
   obtain⟨vs,hvl,hat,hpl,hk⟩:=getAll_spec hk
   have:us=vs:=lists_eq hpl hst.1 hvl hst.2 (hat g)
   subst this
   refine Out.here H (x:=.v _) ?_ rfl hk
   have hm:(fs.mapM (m:=Sem) λf=>do pure (f.offset,<- sizeOf f.type)).run P w=.ok (fs.toList.map λf=>(f.offset,P.cellsOf f.type)).toArray w:=by
    rw[<- Array.toArray_toList (xs:=fs),List.mapM_toArray]
    have:=mapM_places (w:=w) fs.toList hfs
    simp only[Array.toArray_toList]
    rw[show ∀ s:Sem (List (Nat×Nat)),(List.toArray <$> s).run P w=(s.run P w).andThen λa w'=>.ok a.toArray w' from λs=>by simp]
    rw[this]
    rfl
   unfold Instr.build
   simp only[Sem.run_bind,hrv,Result.andThen_ok,run_underlying hut,hm,hvc]
   rw[hfill]
   rfl
  case array len e=>
   have hut:=under_some hd (by simp)
   have hq:=grd_spec hk
   clear hk
   obtain⟨hie,hk⟩:=hq
   obtain⟨cs,us,hfill,hst,hcl,hk⟩:=fillP_ok (us:=z) hk hp (inStep_map _)
   obtain⟨vs,hvl,hat,hpl,hk⟩:=getAll_spec hk
   have:us=vs:=lists_eq hpl hst.1 hvl hst.2 (hat g)
   subst this
   refine Out.here H (x:=.v _) ?_ rfl hk
   unfold Instr.build
   simp only[Sem.run_bind,hrv,Result.andThen_ok,run_underlying hut,run_sizeOf' hie,hvc]
   rw[hfill]
   rfl
theorem build_flat{t:Nat}{ps:List (Nat×AV)}{qs:Array (Nat×Value)}(hk:dBuild P t ps L h K)(hp:partsIs g ps qs.toList):∃ v,∀ w,(Instr.build t qs).run P w=.ok v w:=by
 unfold dBuild at hk
 cases hz:zeroOf P t with
 |none=>rw[hz] at hk;exact False.elim hk
 |some z=>
  rw[hz] at hk
  dsimp only at hk
  cases hd:under P t<;>rw[hd] at hk<;>try exact False.elim hk
  case struct fs=>
   have hut:=under_some hd (by simp)
   have hq:=grd_spec hk
   clear hk
   obtain⟨hfs,hk⟩:=hq
   have hfs:∀ f∈fs.toList,hasInfo P f.type=true:=List.all_eq_true.1 hfs
   obtain⟨cs,us,hfill,hst,hcl,hk⟩:=fillS_ok (us:=z) (places:=(fs.toList.map λf=>(f.offset,P.cellsOf f.type)).toArray) (λi f hf=>by simp[hf]) hk hp (inStep_map _)
   refine⟨.agg us.toArray,λw=>?_⟩
   obtain⟨v,hrv,hvc⟩:=run_zero hz w
   have hm:(fs.mapM (m:=Sem) λf=>do pure (f.offset,<- sizeOf f.type)).run P w=.ok (fs.toList.map λf=>(f.offset,P.cellsOf f.type)).toArray w:=by
    rw[<- Array.toArray_toList (xs:=fs),List.mapM_toArray]
    have:=mapM_places (w:=w) fs.toList hfs
    simp only[Array.toArray_toList]
    rw[show ∀ s:Sem (List (Nat×Nat)),(List.toArray <$> s).run P w=(s.run P w).andThen λa w'=>.ok a.toArray w' from λs=>by simp]
    rw[this]
    rfl
   unfold Instr.build
   simp only[Sem.run_bind,hrv,Result.andThen_ok,run_underlying hut,hm,hvc]
   rw[hfill]
   rfl
  case array len e=>
   have hut:=under_some hd (by simp)
   have hq:=grd_spec hk
   clear hk
   obtain⟨hie,hk⟩:=hq
   obtain⟨cs,us,hfill,hst,hcl,hk⟩:=fillP_ok (us:=z) hk hp (inStep_map _)
   refine⟨.agg us.toArray,λw=>?_⟩
   obtain⟨v,hrv,hvc⟩:=run_zero hz w
   unfold Instr.build
   simp only[Sem.run_bind,hrv,Result.andThen_ok,run_underlying hut,run_sizeOf' hie,hvc]
   rw[hfill]
   rfl
theorem make_ok(H:HO fr g L h w){t:Nat}{l c:AV}{u v:Value}(hk:dMake P t l c L h K)(hl:l.is g u)(hc:c.is g v):Out fr g L w ((Instr.makeSlice t u v).run P w) K:=by
 unfold dMake at hk
 cases hd:under P t<;>rw[hd] at hk<;>try exact False.elim hk
 case slice e=>
 have hut:=under_some hd (by simp)
 dsimp only at hk
 cases hi:P.info? e with
 |none=>rw[hi] at hk;exact False.elim hk
 |some i=>
  rw[hi] at hk
  dsimp only at hk
  cases hz:zeroOf P e with
  |none=>rw[hz] at hk;exact False.elim hk
  |some z=>
   rw[hz] at hk
   dsimp only at hk
   cases l with
   |v lv=>
    have hu:u=lv:=hl
    subst hu
    cases u with
    |int k n=>
     dsimp only at hk
     cases c with
     |v cv=>
      have hv:v=cv:=hc
      subst hv
      cases v with
      |int k' m=>
       have hq:=grd_spec hk
       clear hk
       obtain⟨hb,hk⟩:=hq
       simp only[Bool.and_eq_true] at hb
       have hby:0<i.bytes:=by have:=hb.1;simp[Nat.blt] at this;omega
       have hz0:0<z.length:=by have:=hb.2;simp[Nat.blt] at this;omega
       obtain⟨⟨h0,h1,h2⟩,hk⟩:=hk
       obtain⟨i0,v0,hi0,hzi,hvc,hzl,hcs⟩:=zeroOf_some hz
       have hii:i=i0:=by rw[hi] at hi0;exact Option.some.inj hi0
       subst hii
       have hm:m<=281474976710656:=by
        have:(1:Int)*m<=i.bytes*m:=Int.mul_le_mul_of_nonneg_right (by omega) (by omega)
        omega
       have wr:∀ x:Int,0<=x->x<=281474976710656->IntKind.i64.wrap x=x:=by
        intro x hx0 hx1
        have e1:x % (2 ^ IntKind.i64.bits:Int)=x:=Int.emod_eq_of_lt hx0 (by simp[IntKind.bits];omega)
        unfold IntKind.wrap
        simp only[e1]
        rw[if_neg (by simp[IntKind.signed,IntKind.bits];omega)]
       have wn:=wr n h0 (by omega)
       have wm:=wr m (by omega) hm
       obtain⟨M,rfl⟩:=Int.eq_ofNat_of_zero_le (show 0<=m by omega)
       obtain⟨N,rfl⟩:=Int.eq_ofNat_of_zero_le h0
       have hrun:∃ q,(Instr.makeSlice t (.int k (N:Int)) (.int k' (M:Int))).run P w=.ok (.slice (some ⟨w.heap.size,0,none⟩) N M) { w with heap:=w.heap.push (.cells (Builtin.zeroCells z.toArray M) e (0,0)),drawn:=q }:=by
        refine⟨w.drawn,?_⟩
        have hask:∀ b,(askRoom b).run P w=.ok () w:=by intro b;unfold askRoom;split<;>simp[mark,Sem.run]
        have hinf:(typeInfo e).run P w=.ok i w:=by simp[typeInfo,hi]
        have hsz:(sizeOf e).run P w=.ok i.size w:=by simp[sizeOf,typeInfo,hi]
        obtain⟨zv,hzr,hzc⟩:=run_zero hz w
        unfold Instr.makeSlice
        simp only[Sem.run_bind,run_underlying hut,Result.andThen_ok,asInt,asIntOf,Sem.run_pure,hinf,wn,wm]
        rw[if_neg (by simp;omega)]
        simp only[Sem.run_bind,hask,Result.andThen_ok,hsz,Int.toNat_natCast]
        by_cases hM:M*i.size=0
        ·have hM0:M=0:=by rcases Nat.mul_eq_zero.1 hM with h3|h3<;>omega
         subst hM0
         have hnil:∀ f:Nat->Value,(Array.range 0).map f=#[]:=λf=>by simp
         simp only[Nat.zero_mul,if_true,Sem.run_pure,Result.andThen_ok,hnil]
         have hnil2:Builtin.zeroCells z.toArray 0=#[]:=by unfold Builtin.zeroCells;rw[Nat.zero_mul];exact hnil _
         rw[hnil2]
         simp[newRow,newObj,Sem.run]
        ·simp only[hM,if_false,Sem.run_bind,hzr,Result.andThen_ok,hzc,Sem.run_pure]
         simp[newRow,newObj,Sem.run,Builtin.zeroCells,hzl]
       obtain⟨q,hrun⟩:=hrun
       have hn:=New.push w (.cells (Builtin.zeroCells z.toArray M) e (0,0)) q
       exact⟨.v (.slice (some ⟨w.heap.size,0,none⟩) N M),L,_,_,_,hrun,rfl,HO.new_heap H hn,hn.wr,Kp.refl L,hk _ (H.none_h (Nat.le_refl _))⟩
      |_=>exact False.elim hk
     |_=>exact False.elim hk
    |_=>exact False.elim hk
   |_=>exact False.elim hk
end
end Go.Eng
end
section
namespace Go.Eng
section
variable{P:Program}{lo:List Nat}{fr:Hp}{g:Nat->Nat}{L:List LE}{h:Hp}{w:World}{K:KO}
theorem bytesV_one(s:ByteArray):∀ v∈bytesV s,v.oneCell'=true:=by
 intro v hv
 obtain⟨b,_,rfl⟩:=List.mem_map.1 hv
 rfl
theorem bytesV_length(s:ByteArray):(bytesV s).length=s.size:=by
 unfold bytesV;rw[List.length_map,Array.length_toList];rfl
theorem extract_all(s:ByteArray):s.extract 0 s.size=s:=by
 apply ByteArray.ext
 simp
theorem source_spec(H:HO fr g L h w){size:Nat}{x:AV}{v:Value}{K':Nat->List Value->Prop}(hk:source size x L h K')(hx:x.is g v) :
  ∃ m vs,vs.length=m*size/\(∀ u∈vs,u.oneCell'=true)/\(Builtin.lenOf v).run P w=.ok m w/\(∀ w1:World,w1.heap=w.heap->(Builtin.firstCells size m v).run P w1=.ok vs.toArray w1)/\K' m vs:=by
 unfold source at hk
 cases x with
 |v xv=>
  have hv:v=xv:=hx
  subst hv
  cases v with
  |slice a n c=>
   obtain⟨vs,hr,h1,hK⟩:=hk
   exact⟨n,vs,hr.1,h1,by simp[Builtin.lenOf],λw1 hw=>(row_run (P:=P) (c:=c) H hr rfl w1 hw).2 _ _,hK⟩
  |string s=>
   have hq:=grd_spec hk
   clear hk
   obtain⟨hs,hK⟩:=hq
   have hs:size=1:=by simpa using hs
   subst hs
   refine⟨s.size,bytesV s,by rw[bytesV_length];omega,bytesV_one s,by simp[Builtin.lenOf],λw1 _=>?_,hK⟩
   simp only[Builtin.firstCells,extract_all,Sem.run_pure]
   congr 1
   apply Array.ext'
   simp[bytesV]
  |_=>exact False.elim hk
 |sl l n=>
  have hv:v=.slice (some ⟨g l,0,none⟩) n n:=hx
  subst hv
  replace hk:(match findL L l with
   |some e=>grd (lenB e.cs (n*size)) (getAll e.cs λvs=>oneAll vs (K' n vs))
   |none=>False):=hk
  cases hf:findL L l with
  |none=>rw[hf] at hk;exact False.elim hk
  |some e=>
   rw[hf] at hk
   dsimp only at hk
   have hq:=grd_spec hk
   clear hk
   obtain⟨hl,hk⟩:=hq
   have hl:e.cs.length=n*size:=by simpa[lenB] using hl
   obtain⟨vs,hvl,hat,hpl,hk⟩:=getAll_spec hk
   obtain⟨h1,hK⟩:=oneAll_spec hk
   obtain⟨hm,rfl⟩:=findL_mem hf
   obtain⟨cs,he⟩:=H.ll e hm
   refine⟨n,vs,hvl.trans hl,h1,by simp[Builtin.lenOf],λw1 hw=>?_,hK⟩
   simp only[Builtin.firstCells]
   rw[<- hl,<- hvl]
   refine run_loadAgg (λi v hv=>?_)
   have hil:i<vs.length:=(List.getElem?_eq_some_iff.1 hv).1
   have h2:=hat g i (by omega)
   have h3:=he.is_ i (by omega)
   have hp:(getN e.cs i).plain=true:=by
    rw[getN_eq,getElem?_eq_getElem (by omega)];exact he.pl _ (List.getElem_mem _)
   have h4:=is_unique hp h2 h3
   have hcs:i<cs.size:=by rw[he.sz];omega
   simp only[Nat.zero_add,World.cell?,hw,he.at_,Option.isSome_none,Bool.false_eq_true,if_false]
   simp only[Array.getD_eq_getD_getElem?,List.getD_eq_getElem?_getD,hv,Option.getD_some,Array.getElem?_eq_getElem hcs] at h4
   rw[Array.getElem?_eq_getElem hcs,<- h4]
 |_=>exact False.elim hk
theorem wr_nil(h:Hp)(b o:Nat):h.wr b o []=h:=by
 funext k
 unfold Hp.wr
 by_cases hk:k=b
 ·subst hk
  rw[if_pos rfl]
  cases hb:h k with
  |none=>rfl
  |some x=>cases x<;>simp[setL]
 ·rw[if_neg hk]
theorem wrA_nil(h:Hp)(A:Option Addr):h.wrA A []=h:=by
 unfold Hp.wrA
 split
 ·exact wr_nil h _ _
 ·rfl
theorem layA_ok(H:HO fr g L h w){A:Option Addr}{vs:List Value}(hc:h.canWA A vs.length)(h1:∀ v∈vs,v.oneCell'=true) :
  ∃ w',(match A with|some a=>storeCells a vs|none=>pure ()).run P w=.ok () w'/\HO fr g L (h.wrA A vs) w'/\Wr w w':=by
 rcases hc with h0|⟨b,o,rfl,c,t,f,hb,hsz,hf⟩
 ·have hvs:vs=[]:=List.eq_nil_of_length_eq_zero h0
  subst hvs
  refine⟨w,?_,by rw[wrA_nil];exact H,Wr.refl w⟩
  cases A<;>simp[storeCells]
 ·obtain⟨w',hr,hl⟩:=run_storeCells' (P:=P) (b:=b) (o:=o) vs 0 c w (H.hh b _ hb) (by simpa using hsz) (by simpa using hf) h1
  exact⟨w',hr,HO.wr H hb (by simpa using hl),hl.wr⟩
theorem copy_ok(H:HO fr g L h w){dt xt ty:Nat}{x y:AV}{u v:Value}(hk:dCopy P dt x y L h K)(hx:x.is g u)(hy:y.is g v) :
  Out fr g L w ((Builtin.copy_ #[dt,xt] ty #[u,v]).run P w) K:=by
 unfold dCopy at hk
 cases hd:under P dt<;>rw[hd] at hk<;>try exact False.elim hk
 case slice e=>
 have hut:=under_some hd (by simp)
 dsimp only at hk
 have hq:=grd_spec hk
 clear hk
 obtain⟨hi,hk⟩:=hq
 have fin:∀ (a:Option Addr) (n c m:Nat) (vs:List Value),u=.slice a n c->(Builtin.lenOf v).run P w=.ok m w->(Builtin.firstCells (P.cellsOf e) (Nat.min m n) v).run P w=.ok vs.toArray w->(∀ z∈vs,z.oneCell'=true)->h.canWA a vs.length ->
   K (.v (.int .i64 ((Nat.min m n:Nat):Int))) L (h.wrA a vs)->Out fr g L w ((Builtin.copy_ #[dt,xt] ty #[u,v]).run P w) K:=by
  intro a n c m vs hu hl hf h1 hc hK
  obtain⟨w',hr,H',hw⟩:=layA_ok (P:=P) H hc h1
  refine⟨.v _,L,_,_,w',?_,rfl,H',hw,Kp.refl L,hK⟩
  subst hu
  cases a with
  |none=>
   simp only[Sem.run_pure,Result.ok.injEq,true_and] at hr
   subst hr
   simp[Builtin.copy_,run_underlying hut,hl,run_sizeOf' hi,hf,goInt]
  |some ad=>
   simp[Builtin.copy_,run_underlying hut,hl,run_sizeOf' hi,hf,hr,goInt]
 cases x with
 |v xv=>
  have hu:u=xv:=hx
  subst hu
  cases u with
  |slice a n c=>
   cases y with
   |v yv=>
    have hv:v=yv:=hy
    subst hv
    cases v with
    |slice sa sn sc=>
     obtain⟨vs,hrow,h1,hc,hK⟩:=hk
     exact fin a n c sn vs rfl (by simp[Builtin.lenOf]) ((row_run (P:=P) (c:=sc) H hrow rfl w rfl).2 _ _) h1 hc hK
    |string s=>
     dsimp only at hk
     have hq:=grd_spec hk
     clear hk
     obtain⟨hs,hc,hK⟩:=hq
     have hs:P.cellsOf e=1:=by simpa using hs
     refine fin a n c s.size _ rfl (by simp[Builtin.lenOf]) ?_ (λz hz=>bytesV_one s z (List.mem_of_mem_take hz)) hc hK
     simp only[Builtin.firstCells,Sem.run_pure]
     congr 1
     apply Array.ext'
     simp[bytesV,List.map_take]
    |_=>exact False.elim hk
   |_=>exact False.elim hk
  |_=>exact False.elim hk
 |_=>exact False.elim hk
theorem append_ok (H : HO fr g L h w) {st xt ty : Nat} {s x : AV} {u v : Value} (hxt : ∀ k, under P xt ≠ .int k) (hxu : hasUnder P xt = true) (hk : dAppend P st s x L h K) (hs : s.is g u) (hx : x.is g v) :
    Out fr g L w ((Builtin.append_ #[st, xt] ty #[u, v]).run P w) K := by
  unfold dAppend at hk
  cases hd : under P st <;> rw [hd] at hk <;> try exact False.elim hk
  case slice e =>
  have hut := under_some hd (by simp)
  dsimp only at hk
  cases hi : P.info? e with
  | none => rw [hi] at hk; exact False.elim hk
  | some i =>
    rw [hi] at hk
    dsimp only at hk
    cases hz : zeroOf P e with
    | none => rw [hz] at hk; exact False.elim hk
    | some z =>
      rw [hz] at hk
      dsimp only at hk
      have hq := grd_spec hk
      clear hk
      obtain ⟨hb, hk⟩ := hq
      simp only [Bool.and_eq_true] at hb
      have hsz0 : 0 < i.size := by have := hb.1; simp [Nat.blt] at this; omega
      have hby : 0 < i.bytes := by have := hb.2; simp [Nat.blt] at this; omega
      cases s with
      | v sv =>
        have hu : u = sv := hs
        subst hu
        cases u with
        | slice a n c =>
          obtain ⟨m, vs, hvl, h1, hlen, hfc, hbytes, hroom, hgrow⟩ := source_spec (P := P) H hk hx
          dsimp only at hbytes hroom hgrow
          have hsz : (sizeOf e).run P w = .ok i.size w := by simp [sizeOf, typeInfo, hi]
          have hinf : ∀ w1 : World, (typeInfo e).run P w1 = .ok i w1 := fun w1 => by simp [typeInfo, hi]
          by_cases hr : n + m ≤ c
          · obtain ⟨hcan, hK⟩ := hroom hr
            obtain ⟨w', hst, HO', hwr⟩ := layA_ok (P := P) H hcan h1
            refine ⟨.v (.slice a (n + m) c), L, _, .slice a (n + m) c, w', ?_, rfl, HO', hwr, Kp.refl L, hK⟩
            unfold Builtin.append_
            simp only [List.getElem?_toArray, List.getElem?_cons_zero, List.getElem?_cons_succ, Sem.run_bind, run_underlying hut, Result.andThen_ok, hsz]
            have hxr := run_underlying (hasUnder_some hxu) w
            cases hux : under P xt <;> rw [hux] at hxr <;> first
              | exact absurd hux (hxt _)
              | (simp only [hxr, Result.andThen_ok, Sem.run_bind, Sem.run_pure, Bool.false_eq_true, if_false, hlen, hr, if_true, Bool.not_false, hfc w rfl]
                 cases a with
                 | none => simp only [Option.map_none] at hst; simpa [Sem.run_pure] using hst
                 | some ad => simp only [Option.map_some] at hst; simp [hst])
          · obtain ⟨old, hold, hK⟩ := hgrow (by omega)
            have hfit := growslice_fits (need := n + m) (old := c) (bytes := i.bytes) (by omega) hbytes
            obtain ⟨zv, hzr, hzc⟩ := run_zero hz { w with drawn := w.drawn + 1 }
            have hask : ∀ b (w1 : World), (askRoom b).run P w1 = .ok () w1 := by intro b w1; unfold askRoom; split <;> simp [mark, Sem.run]
            have hge := grownCap_ge' w (n + m) c e
            have hn := New.push w (.cells ⟨old ++ vs ++ zerosV z (grownCap w (n + m) c e - (n + m))⟩ e (0, 0)) (w.drawn + 1)
            refine ⟨.v (.slice (some ⟨w.heap.size, 0, none⟩) (n + m) (grownCap w (n + m) c e)), L, _, .slice (some ⟨w.heap.size, 0, none⟩) (n + m) (grownCap w (n + m) c e), _, ?_, rfl, HO.new_heap H hn, hn.wr, Kp.refl L, hK _ _ (H.none_h (Nat.le_refl _)) hge⟩
            have hfo := (row_run (P := P) (c := c) H hold rfl { w with drawn := w.drawn + 1 } rfl).2 n c
            have hfn := hfc { w with drawn := w.drawn + 1 } rfl
            have harr : old.toArray ++ vs.toArray ++ Builtin.zeroCells z.toArray (grownCap w (n + m) c e - (n + m)) = ⟨old ++ vs ++ zerosV z (grownCap w (n + m) c e - (n + m))⟩ := by apply Array.ext'; simp [zerosV]
            have hb0 : i.bytes ≠ 0 := by omega
            have hch : (choose (.appendCap (n + m) c e)).run P w = .ok (grownCap w (n + m) c e) { w with drawn := w.drawn + 1 } := by
              simp [choose, Sem.run, Question.forced, grownCap]
            unfold Builtin.append_
            simp only [List.getElem?_toArray, List.getElem?_cons_zero, List.getElem?_cons_succ, Sem.run_bind, run_underlying hut, Result.andThen_ok, hsz]
            have hxr := run_underlying (hasUnder_some hxu) w
            cases hux : under P xt <;> rw [hux] at hxr <;> first
              | exact absurd hux (hxt _)
              | (simp only [hxr, Result.andThen_ok, Sem.run_bind, Sem.run_pure, Bool.false_eq_true, if_false, hlen, hr, Bool.not_false, if_true, hinf, hb0, or_self, and_false]
                 rw [if_neg (by simp; omega)]
                 simp only [Sem.run_bind, hch, Result.andThen_ok, hinf, hask, hfo, hfn, hzr, hzc]
                 rw [harr]
                 rfl)
        | _ => exact False.elim hk
      | _ => exact False.elim hk
where grownCap_ge' (w:World) (need old:Nat) (e:Nat):need<=grownCap w need old e:=by simp[grownCap,Question.cut]
theorem zerosV_mem'{z:List Value}{n:Nat}{v:Value}(h:v∈zerosV z n):v∈z:=by
 unfold zerosV Builtin.zeroCells at h
 simp only[Array.toList_map,List.mem_map,List.size_toArray,Array.toList_range,List.mem_range] at h
 obtain⟨i,hi,rfl⟩:=h
 have hz:0<z.length:=by
  rcases Nat.eq_zero_or_pos z.length with h0|h0
  ·rw[h0] at hi;omega
  ·exact h0
 have hm:=Nat.mod_lt i hz
 simp only[getElem!_def,List.getElem?_toArray,getElem?_eq_getElem hm]
 exact List.getElem_mem _
theorem appendN_ok(H:HO fr g L h w){st xt ty:Nat}{s x:AV}{u v:Value}{kx:IntKind}(hxt:under P xt=.int kx)(hxu:hasUnder P xt=true)(hk:dAppendN P st s x L h K)(hs:s.is g u)(hx:x.is g v) :
  Out fr g L w ((Builtin.append_ #[st,xt] ty #[u,v]).run P w) K:=by
 unfold dAppendN at hk
 cases hd:under P st<;>rw[hd] at hk<;>try exact False.elim hk
 case slice e=>
 have hut:=under_some hd (by simp)
 dsimp only at hk
 cases hi:P.info? e with
 |none=>rw[hi] at hk;exact False.elim hk
 |some i=>
  rw[hi] at hk
  dsimp only at hk
  cases hz:zeroOf P e with
  |none=>rw[hz] at hk;exact False.elim hk
  |some z=>
   rw[hz] at hk
   dsimp only at hk
   have hq:=grd_spec hk
   clear hk
   obtain⟨hb,hk⟩:=hq
   simp only[Bool.and_eq_true] at hb
   have hsz0:0<i.size:=by have:=hb.1.1;simp[Nat.blt] at this;omega
   have hby:0<i.bytes:=by have:=hb.1.2;simp[Nat.blt] at this;omega
   have hone:∀ v∈z,Value.oneCell' v=true:=List.all_eq_true.1 hb.2
   cases s with
   |v sv=>
    have hu:u=sv:=hs
    subst hu
    cases u with
    |slice a n c=>
     cases x with
     |v xv=>
      have hv:v=xv:=hx
      subst hv
      cases v with
      |int k q=>
       obtain⟨hq0,hbytes,hroom,hgrow⟩:=hk
       dsimp only at hbytes hroom hgrow
       obtain⟨m,rfl⟩:=Int.eq_ofNat_of_zero_le hq0
       simp only[Int.toNat_natCast] at hbytes hroom hgrow
       have hmb:m*i.bytes<=140737488355328:=Nat.le_trans (Nat.mul_le_mul_right _ (Nat.le_add_left _ _)) hbytes
       have hm:m<=140737488355328:=Nat.le_trans (Nat.le_mul_of_pos_right _ hby) hmb
       have hmi:((m:Int)*(i.bytes:Int))<=140737488355328:=by rw[<- Int.natCast_mul];exact Int.ofNat_le.2 hmb
       have h1:∀ v∈zerosV z m,Value.oneCell' v=true:=λv hv=>hone v (zerosV_mem' hv)
       have hwrap:IntKind.i64.wrap (m:Int)=(m:Int):=by
        have e1:(m:Int) % (2 ^ IntKind.i64.bits:Int)=(m:Int):=Int.emod_eq_of_lt (by omega) (by simp[IntKind.bits];omega)
        unfold IntKind.wrap
        simp only[e1]
        rw[if_neg (by simp[IntKind.signed,IntKind.bits];omega)]
       obtain⟨i0,v0,hi0,hzi,hvc,hzl,hcs⟩:=zeroOf_some hz
       have hii:i=i0:=by rw[hi] at hi0;exact Option.some.inj hi0
       subst hii
       have hsz:(sizeOf e).run P w=.ok i.size w:=by simp[sizeOf,typeInfo,hi]
       have hinf:∀ w1:World,(typeInfo e).run P w1=.ok i w1:=λw1=>by simp[typeInfo,hi]
       have hxr:=run_underlying (hasUnder_some hxu) w
       rw[hxt] at hxr
       have happ:∀ w1:World,(if m*i.size=0 then(pure #[]:Sem (Array Value)) else do pure (Builtin.zeroCells (<- zeroValue e).cells m)).run P w1=.ok (zerosV z m).toArray w1:=λw1=>by
        by_cases h0:m*i.size=0
        ·have hm0:m=0:=by rcases Nat.mul_eq_zero.1 h0 with h|h<;>omega
         subst hm0
         rw[if_pos h0]
         have:zerosV z 0=[]:=by unfold zerosV Builtin.zeroCells;simp
         rw[this];rfl
        ·rw[if_neg h0]
         obtain⟨zv,hzr,hzc⟩:=run_zero hz w1
         simp only[Sem.run_bind,hzr,Result.andThen_ok,hzc,Sem.run_pure]
         simp[zerosV]
       by_cases hr:n+m<=c
       ·obtain⟨hcan,hK⟩:=hroom hr
        obtain⟨w',hst,HO',hwr⟩:=layA_ok (P:=P) H hcan h1
        refine⟨.v (.slice a (n+m) c),L,_,.slice a (n+m) c,w',?_,rfl,HO',hwr,Kp.refl L,hK⟩
        unfold Builtin.append_
        simp only[List.getElem?_toArray,List.getElem?_cons_zero,List.getElem?_cons_succ,Sem.run_bind,run_underlying hut,Result.andThen_ok,hsz,hxr,Sem.run_pure,if_true,asInt,asIntOf,hwrap]
        rw[if_neg (by omega)]
        simp only[Sem.run_bind,hinf,Result.andThen_ok]
        rw[if_neg (by omega)]
        simp only[Sem.run_pure,Result.andThen_ok,Int.toNat_natCast,hr,if_true,Bool.not_true,Bool.false_eq_true,if_false,Sem.run_bind,happ]
        cases a with
        |none=>simp only[Option.map_none] at hst;simpa[Sem.run_pure] using hst
        |some ad=>simp only[Option.map_some] at hst;simp[hst]
       ·obtain⟨old,hold,hK⟩:=hgrow (by omega)
        have hfit:=growslice_fits (need:=n+m) (old:=c) (bytes:=i.bytes) (by omega) hbytes
        obtain⟨zv,hzr,hzc⟩:=run_zero hz { w with drawn:=w.drawn+1 }
        have hask:∀ b (w1:World),(askRoom b).run P w1=.ok () w1:=by intro b w1;unfold askRoom;split<;>simp[mark,Sem.run]
        have hge:n+m<=grownCap w (n+m) c e:=by simp[grownCap,Question.cut]
        have hn:=New.push w (.cells ⟨old++zerosV z m++zerosV z (grownCap w (n+m) c e-(n+m))⟩ e (0,0)) (w.drawn+1)
        refine⟨.v (.slice (some ⟨w.heap.size,0,none⟩) (n+m) (grownCap w (n+m) c e)),L,_,.slice (some ⟨w.heap.size,0,none⟩) (n+m) (grownCap w (n+m) c e),_,?_,rfl,HO.new_heap H hn,hn.wr,Kp.refl L,hK _ _ (H.none_h (Nat.le_refl _)) hge⟩
        have hfo:=(row_run (P:=P) (c:=c) H hold rfl { w with drawn:=w.drawn+1 } rfl).2 n c
        have harr:old.toArray++(zerosV z m).toArray++Builtin.zeroCells z.toArray (grownCap w (n+m) c e-(n+m))=⟨old++zerosV z m++zerosV z (grownCap w (n+m) c e-(n+m))⟩:=by apply Array.ext';simp[zerosV]
        have hch:(choose (.appendCap (n+m) c e)).run P w=.ok (grownCap w (n+m) c e) { w with drawn:=w.drawn+1 }:=by
         simp[choose,Sem.run,Question.forced,grownCap]
        have hmax:¬ (((n+m:Nat):Int) > IntKind.i64.max/\(True\/i.bytes=0)):=by
         have h2:n+m<=140737488355328:=Nat.le_trans (Nat.le_mul_of_pos_right _ hby) hbytes
         simp[IntKind.max,IntKind.signed,IntKind.bits]
         omega
        unfold Builtin.append_
        simp only[List.getElem?_toArray,List.getElem?_cons_zero,List.getElem?_cons_succ,Sem.run_bind,run_underlying hut,Result.andThen_ok,hsz,hxr,Sem.run_pure,if_true,asInt,asIntOf,hwrap]
        rw[if_neg (by omega)]
        simp only[Sem.run_bind,hinf,Result.andThen_ok]
        rw[if_neg (by omega)]
        simp only[Sem.run_pure,Result.andThen_ok,Int.toNat_natCast,hr,if_false,Sem.run_bind,hinf,if_true,Bool.not_true,Bool.false_eq_true]
        rw[if_neg (by simpa using hmax)]
        simp only[Sem.run_bind,hinf,Result.andThen_ok]
        rw[if_neg (show ¬ (Builtin.nextslicecap (n+m) c*i.bytes > 2 ^ 48) by omega)]
        simp only[Sem.run_bind,hch,Result.andThen_ok,hinf,hask,hfo,happ,hzr,hzc]
        rw[harr]
        rfl
      |_=>exact False.elim hk
     |_=>exact False.elim hk
    |_=>exact False.elim hk
   |_=>exact False.elim hk
end
end Go.Eng
end
