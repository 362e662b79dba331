
/-
  Proved: VersionMany.
-/
import Derived.Test.YtbjnlacacapjiaaGreatDoorK8
import Derived.Test.YtbjnlacacapjiaaGreatDoorK6
import Derived.Test.YtbjnlacacapjiaaGreatDoorK5
import Derived.ChangeSlices
import Derived.ChangeArms
import Derived.SizedLaws
import Derived.Below
import Derived.Test.YtbjnlacacapjiaaGreatDoorRows
import Derived.LaidMore
import Derived.Stop.Joined
import Derived.MakeChecks
import Derived.OpenShut
import Derived.Test.YtbjnlacacapjiaaGreatDoorCards
import Derived.Test.YtbjnlacacapjiaaGreatDoorTie
import Derived.WalkKit
import Derived.ProofKit
import Derived.ChangeOld
import Derived.SevenTiedAt
set_option linter.unusedSimpArgs false
set_option linter.unusedVariables false
set_option maxRecDepth 100000
open Go.IntKind (wrap)
open List (length_append length_map length_cons mem_of_getElem? getElem?_eq_getElem getElem?_map map_append mem_of_getLast? take_of_length_le mem_cons)
section
namespace Go.Eng.YtbjnlacacapjiaaGreatDoor
open Go.Eng
theorem Mv.fresh{h h':Hp}{z:Lb}{i:Nat}:Mv h h' emp (on h' (lab h z i) i):=⟨λ_ _ e=>(by cases e),λb x n e _=>⟨rfl,by rw[on_i (lab_n n)];exact e⟩⟩
section
variable{gb:Hp}{h h':Hp}{z z':Lb}{a b c pb sp sd k N kb:Nat}{T D:List (Nat×Lv)}{pins:List Nat}{ptrs:List ByteArray}{Q:Value->Hp->Prop}
theorem begin_s{n:Int}{k:Nat}(hk:(k:Int)=iMin (iMax n 1) 5)(hab:a≠b)(hac:a≠c)(hbc:b≠c)
  (hQ:∀ h' z' pb vb wb,(∀ i,i≠a->i≠b->i≠c->on h' z' i=on h z i)->PairS h' z' a b c pb k 0 [(vb,List.replicate k [])] [(wb,List.replicate k [])] [0] (List.replicate k ⟨#[]⟩)->Q (.pointer (some ⟨pb,0,none⟩)) h'):F6.T n h Q:=by
 unfold F6.T F6.G
 refine new_q hk λh1 sp vb P=>⟨_,rfl,?_⟩
 refine new_d hk λh2 sd wb al pi ps S=>⟨_,rfl,λpb hpb=>?_⟩
 have K1:=P.kp
 have K2:=S.k
 have O0:Mine h2 (h2.new pb (.cells ⟨[.pointer (some ⟨sp,0,none⟩),.pointer (some ⟨sd,0,none⟩),.slice none 0 0,.slice none 0 0]⟩ 95 (0,0))) (Mem.put (λ_=>none) kR ⟨⟨some ⟨pb,0,none⟩,1,1⟩,4,95,[pk sp,pk sd,.slice none 0 0,.slice none 0 0]⟩):=
  (Mine.start h2).add (k:=kR) rfl (Keep.new hpb _) (.inr ⟨pb,rfl,hpb⟩) (buf_new (n:=1) _ (by simp))
 generalize h2.new pb (.cells ⟨[.pointer (some ⟨sp,0,none⟩),.pointer (some ⟨sd,0,none⟩),.slice none 0 0,.slice none 0 0]⟩ 95 (0,0))=h3 at O0 ⊢
 have O1:=O0.nil (k:=(1,0,0)) (by rw[put_ne _ _ (by unfold kR;simp)]) 1 71
 have O2:=O1.nil (k:=(2,0,0)) (by rw[put_ne _ _ (by simp),put_ne _ _ (by unfold kR;simp)]) 1 97
 have L:PLx h2 h3 pb sp sd ⟨none,0,0⟩ ⟨none,0,0⟩ [] [] _:=⟨O2,by rw[put_ne _ _ (by unfold kR;simp),put_ne _ _ (by unfold kR;simp),put_self],by rw[put_ne _ _ (by simp),put_self];rfl,by rw[put_self];rfl⟩
 have P3:=(P.keep K2).keep L.O.keep
 refine⟨_,L.cell (i:=0) (by decide) rfl,ok_nil _ _,λq=>(by cases q),λ_=>⟨_,L.cell (i:=0) (by decide) rfl,?_⟩⟩
 refine cur_q P3 λx hx=>⟨_,rfl,ok_nil _ _,λq=>(by cases q),λ_=>⟨⟨none,0,0⟩,L.cell (i:=2) (by decide) rfl,_,L.cell (i:=0) (by decide) rfl,?_⟩⟩
 refine cur_q P3 λx' hx'=>⟨_,rfl,L.cell (i:=2) (by decide) rfl,L.cell (i:=2) (by decide) rfl,?_⟩
 refine L.pushV x'.1 (by simp) λl6 h6 m6 cw6 L6=>?_
 refine⟨cw6,⟨none,0,0⟩,L6.cell (i:=3) (by decide) rfl,_,L6.cell (i:=1) (by decide) rfl,?_⟩
 refine cur_d (S.keep L6.O.keep) λd hd=>⟨_,rfl,L6.cell (i:=3) (by decide) rfl,L6.cell (i:=3) (by decide) rfl,?_⟩
 refine L6.pushW d.1 (by simp) λl8 h8 m8 cw8 L8=>?_
 refine⟨cw8,?_⟩
 cases hx'
 cases hd
 have K3:=L8.O.keep
 refine hQ _ (lab h2 (lab h1 (lab h z a) b) c) pb vb wb (λi ha hb hc=>?_) ⟨sp,sd,?_,?_,rfl,sz_new hk vb,PL.mw Mw.fresh ⟨_,_,_,L8⟩⟩
 ·rw[keep_lab K3 hc,keep_lab K2 hb,keep_lab K1 ha]
 ·rw[keep_lab K3 hac,keep_lab K2 hab]
  exact P.mv Mv.fresh
 ·rw[keep_lab K3 hbc]
  exact⟨al,pi,ps,S.mv Mv.fresh⟩
theorem all_s{n:Nat}{mark:Int}(X:PairS h z a b c pb n k T D pins ptrs)(ha:a≠1)(hb:b≠1)(hc:c≠1)(B:BkS gb h z N kb (λ_=>none))(hN:N+21*T.length<=500000)
  (hQ:∀ h' z',(∀ i,i≠1->on h' z' i=on h z i)->BkS gb h' z' (N+21*T.length) kb (λ_=>none)->Q (.bool true) h'):F11.TF (some ⟨pb,0,none⟩) (some ⟨kb,0,none⟩) mark h Q:=by
 obtain⟨sp,sd,X⟩:=X
 have hlen:=X.len
 have hT:=X.Z.l
 have hk4:=X.Z.kk
 have getL:∀ {h1 z1},(∀ i,i≠1->on h1 z1 i=on h z i)->∃ v w m,PLx (off h1 z1 c) h1 pb sp sd v w (T.map (·.1)) (D.map (·.1)) m:=λf=>(X.fx (f a ha) (f b hb) (f c hc)).L.mw Mw.inn
 unfold F11.TF F11.G
 refine⟨λi h1=>∃ (j:Nat) (z1:Lb),i=(j:Int)/\j<=T.length/\(∀ i,i≠1->on h1 z1 i=on h z i)/\BkS gb h1 z1 (N+21*j) kb (λ_=>none),λi _=>T.length-i.toNat,⟨0,z,rfl,Nat.zero_le _,λ_ _=>rfl,B⟩,?_⟩
 rintro i h1 ⟨j,z1,rfl,hj,f1,B1⟩
 obtain⟨v,w,m,L⟩:=getL f1
 have hvn:=L.vn.1
 rw[length_map] at hvn
 refine⟨pb,0,rfl,v,L.cell (i:=2) (by decide) rfl,λhlt=>?_,λhge=>?_⟩
 ·have hjT:j<T.length:=by omega
  obtain⟨xj,hxj⟩:∃ xj,T[j]?=some xj:=⟨_,getElem?_eq_getElem hjT⟩
  obtain⟨dj,hdj⟩:∃ dj,D[j]?=some dj:=⟨_,getElem?_eq_getElem (by omega)⟩
  have eA:(T.map (·.1))[j]?=some xj.1:=by rw[getElem?_map,hxj];rfl
  have eB:(D.map (·.1))[j]?=some dj.1:=by rw[getElem?_map,hdj];rfl
  have elv:dj.2=xj.2:=by
   have e1:(D.map (·.2))[j]?=some dj.2:=by rw[getElem?_map,hdj];rfl
   rw[X.e,getElem?_map,hxj] at e1
   exact(Option.some.inj e1).symm
  have hz:=X.Z.t xj (mem_of_getElem? hxj)
  refine⟨λi2 h2=>∃ (q:Nat) (z2:Lb),i2=(q:Int)-1/\q<=7/\(∀ i,i≠1->on h2 z2 i=on h z i)/\BkS gb h2 z2 (N+21*j+3*q) kb (λ_=>none),λi2 _=>(6-i2).toNat,⟨0,z1,rfl,Nat.zero_le _,f1,B1⟩,?_⟩
  rintro i2 h2 ⟨q,z2,rfl,hq,f2,B2⟩
  refine⟨λhle=>?_,λhgt=>?_⟩
  ·obtain⟨v2,w2,m2,L2⟩:=getL f2
   obtain⟨hv2,_,bv,hbv,av⟩:=L2.rdV eA
   obtain⟨hw2,_,bw,hbw,aw⟩:=L2.rdW eB
   rw[length_map] at hv2 hw2
   refine⟨pb,0,rfl,v2,L2.cell (i:=2) (by decide) rfl,bv,0,hbv,⟨by omega,by omega⟩,_,by rw[Int.toNat_natCast];exact av,pb,0,rfl,w2,L2.cell (i:=3) (by decide) rfl,bw,0,hbw,⟨by omega,by omega⟩,_,by rw[Int.toNat_natCast];exact aw,?_⟩
   have X2:=X.fx (f2 a ha) (f2 b hb) (f2 c hc)
   have VP:=X2.P.ver (mem_of_getElem? hxj)
   have VD:=X2.G.ver hdj
   rw[elv] at VD
   refine looks_s VP VD (by omega) (X.Z.ok xj (mem_of_getElem? hxj)) (by decide) (by decide) B2 (by omega) λh3 z3 f3 B3=>⟨true,rfl,λ_=>?_,λq=>Bool.noConfusion q⟩
   rw[show wrap .i64 ((q:Int)-1+1)=((q+1:Nat):Int)-1 by rw[wrap_i64 (by omega) (by omega)];omega]
   exact⟨⟨q+1,z3,rfl,by omega,λi hi=>by rw[f3 i hi,f2 i hi],by rw[show N+21*j+3*(q+1)=N+21*j+3*q+3 by omega];exact B3⟩,by dsimp only;omega⟩
  ·have hq7:q=7:=by omega
   subst hq7
   rw[nx_i hjT (by omega)]
   exact⟨⟨j+1,z2,rfl,by omega,f2,by rw[show N+21*(j+1)=N+21*j+3*7 by omega];exact B2⟩,by dsimp only;omega⟩
 ·have:j=T.length:=by omega
  subst this
  exact hQ h1 z1 f1 B1
end
end Go.Eng.YtbjnlacacapjiaaGreatDoor
end
section
namespace Go.Eng.YtbjnlacacapjiaaGreatDoor
open Go.Eng
theorem gone_len(now:Lv)(P:List Lv)(v:Lv):(goneM now P v).length<=totL v:=by
 unfold goneM
 rw[List.length_mergeSort]
 exact Nat.le_trans (List.length_filter_le _ _) (by rw[nums_len];exact Nat.le_refl _)
theorem pinL_map{D T:List (Nat×Lv)}{pins:List Nat}(e:D.map (·.2)=T.map (·.2)):pinL D pins=pinL T pins:=by
 have h:∀ X:List (Nat×Lv),pinL X pins=((X.map (·.2)).zip pins).filterMap λx=>if 0<x.2 then some x.1 else none:=λX=>by
  unfold pinL
  rw[List.zip_map_left,List.filterMap_map]
  rfl
 rw[h,h,e]
theorem curD_map{D T:List (Nat×Lv)}(e:D.map (·.2)=T.map (·.2)):curD D=curD T:=by
 have h:∀ X:List (Nat×Lv),curD X=((X.map (·.2)).getLast?).getD []:=λX=>by
  unfold curD
  rw[List.getLast?_map]
  cases X.getLast?<;>rfl
 rw[h,h,e]
theorem on_off{h:Hp}{z:Lb}{i j:Nat}(hij:i≠j):Keep (on h z i) (off h z j):=λb x e=>by
 obtain⟨e1,e2⟩:=on_s e
 rw[off_n (by rw[e1];exact hij)];exact e2
section
variable{gb:Hp}{g h h':Hp}{z z':Lb}{a b c pb sp sd n k N kb:Nat}{A B:List Nat}{T D:List (Nat×Lv)}{pins:List Nat}{ptrs:List ByteArray}{Q:Value->Hp->Prop}
theorem Sz.smd(Z:Sz k n T pins ptrs)(e:D.map (·.2)=T.map (·.2)):SmD D/\AllT kOk (curD D):=by
 have hl:D.length=T.length:=by have:=congrArg List.length e;rwa [length_map,length_map] at this
 have hk:=Z.kk
 have hZl:=Z.l
 have h5:=Z.n5
 have mem:∀ d∈D,∃ v∈T,v.2=d.2:=λd hd=>by
  have:d.2∈T.map (·.2):=by rw[<- e];exact List.mem_map_of_mem (f:=λx:Nat×Lv=>x.2) hd
  obtain⟨v,hv,e⟩:=List.mem_map.1 this
  exact⟨v,hv,e⟩
 refine⟨⟨by omega,λd hd=>?_⟩,?_⟩
 ·obtain⟨v,hv,e⟩:=mem d hd
  have:=Z.t v hv
  rw[<- e];omega
 ·unfold curD
  split
  ·next d hd=>
   obtain⟨v,hv,e⟩:=mem d (mem_of_getLast? hd)
   rw[<- e];exact Z.ok v hv
  ·exact λl hl=>by cases hl
theorem unpin_nil(P:PG g h sp T pins ptrs)(hQ:Q (.slice none 0 0) h):F43.T (some ⟨sp,0,none⟩) none h Q:=by
 obtain⟨vb,pm,cm,ps,ls,xs,L,X⟩:=P
 obtain⟨c,hc,hi⟩:=X.S.m
 have hg:mget (ents L) (.pointer none) (.int .i64 0)=.int .i64 0:=by
  unfold mget ents
  have h0:(L.map Pn.ent).find? (λe=>kEq (.pointer none) e.key)=none:=by
   rw[List.find?_eq_none]
   intro e he
   obtain⟨q,hq,rfl⟩:=List.mem_map.1 he
   simp[Pn.ent,pk,kEq]
  rw[h0]
 unfold F43.T F43.G
 refine⟨sp,0,rfl,some pm,at_of X.S.s 1,ents L,c,hc,λe he=>?_,0,hg,λ_=>hQ,λq=>absurd rfl q⟩
 obtain⟨q,hq,rfl⟩:=List.mem_map.1 (show e∈L.map Pn.ent from he)
 exact⟨some ⟨q.b,0,none⟩,rfl,λa b e=>by cases e⟩
theorem relab{r:Sl}{vs:List Value}(Br:Buf (on h z a) r 1 48 vs)(B:BkS gb h z N kb (λ_=>none))(ha:a≠1):∃ z',(∀ i,i≠1->i≠a->on h z' i=on h z i)/\Mv emp (on h z a) emp (on h z' a)/\BkS gb h z' N kb (Mem.put (λ_=>none) (kU 0 0) ⟨r,1,48,vs⟩):=by
 obtain⟨g0,K0,T0,B⟩:=B
 rcases Br.own with⟨hn,hc⟩|⟨b,cc,f,hb,hx,y⟩
 ·refine⟨z,λ_ _ _=>rfl,Mv.keep (Keep.refl _),g0,K0,T0,B.own rfl (Keep.refl _) (.inl hn) ⟨Br.len,Br.cap,.inl ⟨hn,hc⟩⟩⟩
 ·obtain⟨e1,e2⟩:=on_s hx
  refine⟨rl z b 1,λi h1 h2=>on_rl h1 (by rw[e1];exact Ne.symm h2),Mv.rl e2 rfl,g0,K0,T0,?_⟩
  have o1:on h z 1 b=none:=on_n (by rw[e1];exact ha)
  have K:Keep (on h z 1) (on h (rl z b 1) 1):=λk x e=>by
   obtain⟨e3,e4⟩:=on_s e
   rw[on_i (by unfold rl;split<;>first|rfl|exact e3)];exact e4
  refine B.own rfl K (.inr ⟨b,hb,o1⟩) ⟨Br.len,Br.cap,.inr ⟨b,cc,f,hb,?_,y⟩⟩
  rw[on_i (by unfold rl;rw[if_pos rfl])];exact e2
theorem del_put{k:Key}{x:Bf}:(Mem.put (λ_=>none) k x).del k=(λ_=>none):=by
 funext j
 unfold Mem.del Mem.put
 by_cases e:j=k
 ·rw[if_pos e]
 ·rw[if_neg e,if_neg e]
end
end Go.Eng.YtbjnlacacapjiaaGreatDoor
end
section
set_option maxHeartbeats 1000000
namespace Go.Eng.YtbjnlacacapjiaaGreatDoor
structure GoodV(lv:Lv):Prop where
 hulls:Hulls lv
 adj:∀ i ts,1<=i->lv[i]?=some ts->Adj ts
section
variable{l l1:Sl}{g h h':Hp}{vb:Nat}{ls:Sl}{xs:List (Sl×List Tab)}{Q:Value->Hp->Prop}
end
end Go.Eng.YtbjnlacacapjiaaGreatDoor
end
section
set_option maxHeartbeats 1000000
namespace Go.Eng.YtbjnlacacapjiaaGreatDoor
def tb(n w:Int)(a b:UInt8):Tab:=⟨n,w,0,0,⟨#[a]⟩,⟨#[b]⟩⟩
def pl(l n w:Int)(a b:UInt8):Placed:=⟨l,n,w,0,0,⟨#[a]⟩,⟨#[b]⟩⟩
def kP:List ByteArray:=[⟨#[]⟩,⟨#[]⟩,⟨#[]⟩]
def kIn1:List Placed:=[pl 0 1 0 97 99,pl 0 2 0 98 100,pl 1 3 0 97 98]
def kE1:Edit:=⟨0,0,0,[],kIn1,kP⟩
def kA:Lv:=[[tb 1 0 97 99,tb 2 0 98 100],[tb 3 0 97 98],[]]
def kOut2:List Place:=[⟨0,1⟩,⟨1,3⟩]
def kIn2:List Placed:=[pl 1 4 0 97 99]
def kE2:Edit:=⟨0,0,0,kOut2,kIn2,kP⟩
def kB:Lv:=[[tb 2 0 98 100],[tb 4 0 97 99],[]]
instance (a b:ByteArray):Decidable (Bl a b):=inferInstanceAs (Decidable (cmpI a b<0))
instance (a b:ByteArray):Decidable (Le a b):=inferInstanceAs (Decidable (¬ Bl b a))
theorem cell_row{h:Hp}{b t:Nat}{L:List Value}(hb:h b=some (.cells ⟨L⟩ t (0,0))):h.row (some ⟨b,0,none⟩) L.length L:=
 ⟨rfl,.inr ⟨b,0,rfl,λj _=>by rw[Nat.zero_add,at_of hb];simp⟩⟩
theorem nil_row(h:Hp):h.row none 0 []:=⟨rfl,.inl rfl⟩
section
variable{g h h':Hp}{sb vb pm cm:Nat}{ps ls l l1:Sl}{xs:List (Sl×List Tab)}{ptrs:List ByteArray}{L:List Pn}{Q:Value->Hp->Prop}
theorem sameN_s{A B:List Int}(BA:h.row l.a (l.n*1) (uvs A))(BB:h.row l1.a (l1.n*1) (uvs B))(hA:A.length<=5000000)(hT:A=B->Q (.bool true) h)(hF:A≠B->Q (.bool false) h):F35.T l l1 h Q:=by
 have n1:l.n=A.length:=by have:=BA.1;rw[uvs_len] at this;omega
 have n2:l1.n=B.length:=by have:=BB.1;rw[uvs_len] at this;omega
 unfold F35.T
 refine⟨λhl=>?_,λhl=>hF λe=>hl (by rw[n1,n2,e])⟩
 have hAB:A.length=B.length:=by omega
 refine⟨λk h1=>h1=h/\∃ P R S,A=P++R/\B=P++S/\k=(P.length:Int),λk _=>A.length-k.toNat,⟨rfl,[],_,_,rfl,rfl,rfl⟩,?_⟩
 rintro k h1 ⟨rfl,P,R,S,e,e',rfl⟩
 have e2:=congrArg List.length e
 have e3:=congrArg List.length e'
 rw[length_append] at e2 e3
 refine⟨λhlt=>?_,λhge=>?_⟩
 ·rcases R with _|⟨t,R⟩
  ·exact absurd hlt (by simp at e2;omega)
  rw[length_cons] at e2
  rcases S with _|⟨u,S⟩
  ·simp at e3;omega
  rw[length_cons] at e3
  obtain⟨b,o,ha,hat⟩:=row_get BA (i:=P.length) (by omega)
  obtain⟨b1,o1,ha1,hat1⟩:=row_get BB (i:=P.length) (by omega)
  refine⟨b,o,ha,⟨by omega,hlt⟩,t,?_,b1,o1,ha1,⟨by omega,by omega⟩,u,?_,λheq=>?_,λhne=>hF λhAB'=>hne ?_⟩
  ·rw[Int.toNat_natCast,hat _ (by omega),e];unfold uvs;rw[getElem?_map,List.getElem?_append_right (Nat.le_refl _),Nat.sub_self];rfl
  ·rw[Int.toNat_natCast,hat1 _ (by omega),e'];unfold uvs;rw[getElem?_map,List.getElem?_append_right (Nat.le_refl _),Nat.sub_self];rfl
  ·subst heq
   rw[next_i (n:=5100000) (by omega) (by omega)]
   exact⟨⟨rfl,P++[t],R,S,by rw[e];simp,by rw[e'];simp,by simp⟩,by dsimp only;omega⟩
  ·rw[e,e'] at hAB'
   exact(List.cons.inj (List.append_cancel_left hAB')).1
 ·have hR:R=[]:=List.eq_nil_of_length_eq_zero (by omega)
  have hS:S=[]:=List.eq_nil_of_length_eq_zero (by omega)
  subst hR hS
  exact hT (e.trans e'.symm)
end
end Go.Eng.YtbjnlacacapjiaaGreatDoor
end
section
set_option maxHeartbeats 1000000
namespace Go.Eng.YtbjnlacacapjiaaGreatDoor
structure Opr where
 kind:Int
 n:Int
 level:Int
 fr:ByteArray
 to:ByteArray
 e:Edit
 lo:Sl
 li:Sl
 lp:Sl
 second:Bool
def Opr.cells(o:Opr):List Value:=[.int .i64 o.kind,.int .i64 o.n,.int .i64 o.level,.string o.fr,.string o.to,.int .u64 o.e.log,.int .u64 o.e.next,.int .u64 o.e.seq,.slice o.lo.a o.lo.n o.lo.c,.slice o.li.a o.li.n o.li.c,.slice o.lp.a o.lp.n o.lp.c,.bool o.second]
def opV(l:List Opr):List Value:=l.flatMap Opr.cells
theorem opV_len(l:List Opr):(opV l).length=l.length*12:=flat_length Opr.cells 12 (λ_=>rfl) l
structure OpOk(h:Hp)(x:Opr):Prop where
 e:EdAt h x.e x.lo x.li x.lp
 z:x.e.fits
 o:x.e.out.length<=140737488355328
 i:x.e.inn.length<=140737488355328
 p:x.e.ptr.length<=140737488355328
 n:-9223372036854775808<=x.n/\x.n<=9223372036854775807
 f:x.fr.size<=9223372036854775807
 t:x.to.size<=9223372036854775807
theorem op_rd{h:Hp}{l:Sl}{P R:List Opr}{x:Opr}(hr:h.row l.a (l.n*12) (opV (P++x::R))):∃ b o,(l.a:Option Addr)=some ⟨b,o,none⟩/\((0:Int)<=(P.length:Int)/\(P.length:Int)<(l.n:Int))/\∀ j,j<12->h.at b ((o+(P.length:Int).toNat*12)+j)=(Opr.cells x)[j]?:=by
 have hl:=hr.1
 rw[opV_len,length_append,length_cons] at hl
 obtain⟨b,o,ha,hat⟩:=row_get hr (i:=P.length*12) (by omega)
 refine⟨b,o,ha,⟨by omega,by omega⟩,λj hj=>?_⟩
 rw[Int.toNat_natCast,Nat.add_assoc,hat _ (by omega)]
 have:=flat_get Opr.cells 12 (λ_=>rfl) (P++x::R) P.length j (by rw[length_append,length_cons];omega) hj
 rw[List.getElem_append_right (Nat.le_refl _)] at this
 simp only[Nat.sub_self,List.getElem_cons_zero] at this
 exact this
section
variable{h:Hp}{l:Sl}{ops:List Opr}{n:Int}{Q:Value->Hp->Prop}
end
end Go.Eng.YtbjnlacacapjiaaGreatDoor
end
section
set_option maxHeartbeats 1000000
namespace Go.Eng.YtbjnlacacapjiaaGreatDoor
open Go.Eng
def Mid(h:Hp)(z:Lb)(a b c pb n k q:Nat):Prop:=∃ sp sd T D pins ptrs,PairX h z a b c pb sp sd n k ((T.map (·.1)).take q) ((D.map (·.1)).take q) T D pins ptrs/\q<=T.length/\T.length<=q+1
section
variable{gb:Hp}{h h':Hp}{z z':Lb}{a b c pb sp sd n k N kb xb:Nat}{T D:List (Nat×Lv)}{pins:List Nat}{ptrs:List ByteArray}{Q:Value->Hp->Prop}
theorem PairX.mid(X:PairX h z a b c pb sp sd n k (T.map (·.1)) (D.map (·.1)) T D pins ptrs):Mid h z a b c pb n k T.length:=by
 have hl:=X.len
 refine⟨sp,sd,T,D,pins,ptrs,?_,Nat.le_refl _,Nat.le_succ _⟩
 rw[take_of_length_le (by rw[length_map];omega),take_of_length_le (by rw[length_map];omega)]
 exact X
theorem Mid.fx{q:Nat}(X:Mid h z a b c pb n k q)(ha:on h' z' a=on h z a)(hb:on h' z' b=on h z b)(hc:on h' z' c=on h z c):Mid h' z' a b c pb n k q:=by
 obtain⟨sp,sd,T,D,pins,ptrs,X,y⟩:=X
 exact⟨sp,sd,T,D,pins,ptrs,X.fx ha hb hc,y⟩
theorem nums_end{q:Nat}{l9:Sl}{vs:List Int}{mark:Int}{h1:Hp}{z1:Lb}(hab:a≠b)(hac:a≠c)(ha:2<a)(hb:2<b)(hc:2<c)
  (X:Mid h1 z1 a b c pb n k q) (B:BkS gb h1 z1 N kb (λ_=>none)) (hN:N+3<=500000) (Br:Buf (on h1 z1 a) l9 1 48 (uvs vs)) (hvs:vs.length<=5000000)
  (hQ:∀ h' z' N',(∀ i,i≠1->i≠a->on h' z' i=on h1 z1 i)->BkS gb h' z' N' kb (λ_=>none)->N'<=N+3->Mid h' z' a b c pb n k q->Q (.tuple ⟨[]⟩) h'):F39.TF (some ⟨kb,0,none⟩) l9 mark h1 Q:=by
 obtain⟨z2,f2,M2,B2⟩:=relab Br B (by omega)
 have hn:l9.n=vs.length:=by have:=Br.len;rw[uvs_len] at this;omega
 refine add2S B2 (a:=0) (b:=0) (by omega) (put_self _ _ _) (cols_uvs _) (by omega) λh3 z3 f3 B3=>?_
 rw[del_put] at B3
 refine hQ h3 z3 (N+1) (λi h1 h2=>by rw[f3 i h1,f2 i h1 h2]) B3 (by omega) ?_
 obtain⟨sp,sd,T,D,pins,ptrs,X,y⟩:=X
 refine⟨sp,sd,T,D,pins,ptrs,⟨?_,?_,X.e,X.Z,?_⟩,y⟩
 ·rw[f3 a (by omega)];exact X.P.mv M2
 ·rw[f3 b (by omega),f2 b (by omega) (Ne.symm hab)];exact X.G
 ·rw[f3 c (by omega),f2 c (by omega) (Ne.symm hac)];exact X.L
theorem plays_s{e:Edit}{n0 n1 n2 n3 n4 n5 n6:Int}{s s1:ByteArray}{l l1 l2:Sl}{bl:Bool}
  (X:PairX h z a b c pb sp sd n k (T.map (·.1)) (D.map (·.1)) T D pins ptrs) (hab:a≠b) (hac:a≠c) (hbc:b≠c) (ha:2<a) (hb:2<b) (hc:2<c)
  (B:BkS gb h z N kb (λ_=>none)) (hN:N+3<=500000) (hk:k+1<=400) (E:EdAt (on h z 0) e l l1 l2) (zf:e.fits) (ho:e.out.length<=8192) (hi:e.inn.length<=8192) (hp:e.ptr.length<=8192) (zs:s.size<=9223372036854775807) (zs1:s1.size<=9223372036854775807)
  (Y:n0=6->∃ c' sp' sd' A' B',PL emp (on h z c') xb sp' sd' A' B'/\0<A'.length/\A'.length<=1000000/\∀ x∈A',(∃ v,h x=some (.cells ⟨[v]⟩ 146 (0,0)))/\x∉T.map (·.1))
  (hQ:∀ h' z' N' k',(∀ i,i≠1->i≠2->i≠a->i≠b->i≠c->on h' z' i=on h z i)->BkS gb h' z' N' kb (λ_=>none)->N'<=N+3->k'<=k+(if n0=4\/n0=5 then 0 else 1)->Mid h' z' a b c pb n k' T.length->Q (.bool true) h'):F8.TF (some ⟨pb,0,none⟩) (some ⟨kb,0,none⟩) (some ⟨xb,0,none⟩) n0 n1 n2 s s1 n3 n4 n5 l l1 l2 bl n6 h Q:=by
 have hlen:=X.len
 have hTl:=X.Z.l
 have h5:=X.Z.n5
 have L0:PL (off h z c) h pb sp sd _ _:=X.L.mw Mw.inn
 obtain⟨v,w,m,L⟩:=L0
 have G0:=X.P.mv Mv.inn
 obtain⟨xl,hxl⟩:=G0.ne
 have hT0:0<T.length:=List.length_pos_of_mem (mem_of_getLast? hxl)
 have c0:=L.cell (i:=0) (by decide) rfl
 have c1:=L.cell (i:=1) (by decide) rfl
 have c2:=L.cell (i:=2) (by decide) rfl
 have c3:=L.cell (i:=3) (by decide) rfl
 obtain⟨smD,okD⟩:=X.Z.smd X.e
 have ecur:=curD_map X.e
 have epin:∀ pins,pinL D pins=pinL T pins:=λpins=>pinL_map X.e
 have hcl:totL (curD T)<=8192*k/\(curD T).length=n/\Hulls (curD T):=by
  rw[curD_eq hxl]
  have hm:=mem_of_getLast? hxl
  exact⟨(X.Z.t _ hm).1,(X.Z.t _ hm).2,X.Z.hu _ hm⟩
 unfold F8.TF F8.G
 refine⟨λe1=>?_,λne1=>⟨λe2=>?_,λne2=>⟨λe3=>?_,λne3=>⟨λe4=>?_,λne4=>⟨λe5=>?_,λne5=>⟨λe6=>?_,λne6=>?_⟩⟩⟩⟩⟩⟩
 ·-- Apply
  intro b1 hb1
  have Eh:=E.keep on_k
  refine edit_r hb1 rfl (λf hf=>by
   have:(⟨[.slice none 0 0,.slice none 0 0,.slice none 0 0,.slice none 0 0,.slice none 0 0,.slice none 0 0,.slice none 0 0,.slice none 0 0,.slice none 0 0,.slice none 0 0,.slice none 0 0,.slice none 0 0,.slice none 0 0,.slice none 0 0,.slice none 0 0,.slice none 0 0,.slice none 0 0,.slice none 0 0,.slice none 0 0,.slice none 0 0,.slice none 0 0,.slice none 0 0,.slice none 0 0,.slice none 0 0,.slice none 0 0,.slice none 0 0,.slice none 0 0,.slice none 0 0]⟩:Array Value).toList=List.replicate 28 (.slice none 0 0):=rfl
   show(⟨_⟩:Array Value).toList[f]?=_
   rw[this,List.getElem?_replicate,if_pos hf]) Eh (by omega) (by omega) (by omega) λh2 s2 s7 s1' R=>⟨_,_,_,⟨s2.a,e.out.length,s2.n⟩,⟨s7.a,e.inn.length,s7.n⟩,⟨s1'.a,e.ptr.length,s1'.n⟩,rfl,?_⟩
  have R2:RmS emp (on h2 (lab h z 2) 2) b1 s2 s7 s1' e:=R.mw Mw.fresh
  have f2:∀ i,i≠2->on h2 (lab h z 2) i=on h z i:=λi hi=>keep_lab R.kp hi
  generalize lab h z 2=z2 at R2 f2
  have PLat:∀ {h1 z1},on h1 z1 c=on h z c->∃ v w m,PLx (off h1 z1 c) h1 pb sp sd v w (T.map (·.1)) (D.map (·.1)) m:=λf=>by
   have:=X.L
   rw[<- f] at this
   exact this.mw Mw.inn
  obtain⟨v2,w2,m2,L2⟩:=PLat (f2 c (by omega))
  refine⟨pb,0,rfl,_,L2.cell (i:=0) (by decide) rfl,?_⟩
  have P2:=X.P
  rw[<- f2 a (by omega)] at P2
  have P2':=P2.mv (Mv.inn (h:=h2) (z:=z2) (i:=a))
  refine apply_q P2' X.Z (R2.ed.keep (on_off (by omega))) ho hi λh3 cc r T' pins' ptrs' P3 g3 n3=>⟨r,cc,rfl,?_⟩
  have P3':=P3.mv Mv.out
  have f3:∀ i,i≠a->on h3 (lab h2 z2 a) i=on h2 z2 i:=λi hi=>on_lab P3.kp hi
  have hB3:cc=0->∀ vs,Buf h3 r 1 48 (uvs vs)->NewN (off h2 z2 a) r->Buf (on h3 (lab h2 z2 a) a) r 1 48 (uvs vs):=λ_ vs Br Nr=>buf_on Br Nr
  generalize lab h2 z2 a=z3 at P3' f3 hB3
  obtain⟨v3,w3,m3,L3⟩:=PLat (h1:=h3) (z1:=z3) (by rw[f3 c (Ne.symm hac),f2 c (by omega)])
  refine⟨pb,0,rfl,_,L3.cell (i:=1) (by decide) rfl,?_⟩
  obtain⟨al,pi,ps,S⟩:=X.G
  rw[<- f2 b (by omega),<- f3 b (Ne.symm hab)] at S
  have S3:=S.mv (Mv.inn (h:=h3) (z:=z3) (i:=b))
  have E3:EdAt (on h3 z3 0) e l l1 l2:=by rw[f3 0 (by omega),f2 0 (by omega)];exact E
  have hkk:=X.Z.kk
  refine apply_d S3 smD (E3.keep (on_off (by omega))) (by rw[ecur];omega) (by rw[ecur];omega) (by omega) okD (fits_k zf) (by omega) λh4 cd rd al' pi' ps' D' pins2 ptrs2 S4 g4 n4=>⟨rd,cd,rfl,?_⟩
  have S4':=S4.mv (Mv.out (h:=h3) (z:=z3) (i:=b))
  have f4:∀ i,i≠b->on h4 (lab h3 z3 b) i=on h3 z3 i:=λi hi=>on_lab S4.k hi
  generalize lab h3 z3 b=z4 at S4' f4
  rw[ecur] at g4 n4
  rw[epin] at g4
  -- what both come to
  have both:∃ vs,cc=cd/\vs.length<=5000000/\Buf (on h3 z3 a) r 1 48 (uvs vs)/\h4.row rd.a (rd.n*1) (uvs vs)/\D'.map (·.2)=T'.map (·.2)/\pins2=pins'/\ptrs2=ptrs'/\Sz (k+1) n T' pins' ptrs'/\(T'.map (·.1)).take T.length=T.map (·.1)/\(D'.map (·.1)).take T.length=D.map (·.1)/\T.length<=T'.length/\T'.length<=T.length+1:=by
   by_cases h0:cc=0
   ·obtain⟨vb,lv',rfl,rfl,rfl,Rp,Br,Nr⟩:=g3 h0
    have hd0:cd=0:=by
     apply Classical.byContradiction
     intro hne
     obtain⟨_,_,_,_,Rd⟩:=n4 hne
     exact hne (Res.one hcl.2.2 Rp Rd).1.symm
    obtain⟨wb,lw',rfl,rfl,rfl,Rd,Bd⟩:=g4 hd0
    have el:lw'=lv':=((Res.one hcl.2.2 Rp Rd).2 rfl).symm
    subst el
    refine⟨_,by rw[h0,hd0],Nat.le_trans (gone_len _ _ _) (by omega),hB3 h0 _ Br Nr,Bd.row,?_,rfl,rfl,?_,?_,?_,by rw[length_append];omega,by rw[length_append];exact Nat.le_refl _⟩
    ·rw[map_append,map_append,X.e];rfl
    ·rw[curD_eq hxl] at Rp
     exact X.Z.snoc hxl Rp hi zf hk
    ·rw[map_append,List.take_left' (by rw[length_map])]
    ·rw[map_append,List.take_left' (by rw[length_map];exact hlen)]
   ·obtain⟨rfl,rfl,rfl,rfl,lw,Rp⟩:=n3 h0
    have hd0:cd≠0:=λhd0=>by
     obtain⟨wb,lw',_,_,_,Rd,_⟩:=g4 hd0
     exact h0 (Res.one hcl.2.2 Rp Rd).1
    obtain⟨rfl,rfl,rfl,rfl,Rd⟩:=n4 hd0
    exact⟨[],(Res.one hcl.2.2 Rp Rd).1,by simp,Buf.nil _ _ _,⟨rfl,.inl rfl⟩,X.e,rfl,rfl,X.Z.mono (Nat.le_succ k) hk,take_of_length_le (by rw[length_map];omega),take_of_length_le (by rw[length_map];omega),Nat.le_refl _,Nat.le_succ _⟩
  clear g3 n3 g4 n4 hB3
  obtain⟨vs,rfl,hvs,Br,Rd,e',rfl,rfl,Z',tA,tB,q1,q2⟩:=both
  rw[<- f4 a hab] at Br P3'
  refine sameN_s ((Br.keep on_k).row) Rd hvs (λ_=>⟨true,rfl,λ_=>?_,λq=>Bool.noConfusion q⟩) (λq=>absurd rfl q)
  unfold F36.T
  refine⟨_,rfl,λ_=>?_,λq=>absurd rfl q⟩
  have R4:RmS emp (on h4 z4 2) b1 s2 s7 s1' e:=by rw[f4 2 (by omega),f3 2 (by omega)];exact R2
  have E4:EdAt h4 e l l1 l2:=by
   have:EdAt (on h4 z4 0) e l l1 l2:=by rw[f4 0 (by omega)];exact E3
   exact this.keep on_k
  refine sameE_s (R4.ed.keep on_k) E4 (by omega) (by omega) (by omega) ⟨true,rfl,λ_=>?_,λq=>Bool.noConfusion q⟩
  have R4':RmS (off h4 z4 2) h4 b1 s2 s7 s1' e:=R4.mw Mw.inn
  refine hold_r R4' (by omega) (by omega) (by omega) ⟨true,rfl,λ_=>?_,λq=>Bool.noConfusion q⟩
  obtain⟨Sp4,y2,y7,y1⟩:=R4'.sp
  refine⟨λi hh=>∃ j:Nat,i=(j:Int)/\j<=e.inn.length/\Sp (off h4 z4 2) hh s2 s7 s1',λi _=>e.inn.length-i.toNat,⟨0,rfl,Nat.zero_le _,Sp4⟩,?_⟩
  rintro i hh ⟨j,rfl,hj,Sj⟩
  refine⟨λhlt=>?_,λ_=>?_⟩
  ·have hj':j<e.inn.length:=by dsimp only at hlt;omega
   obtain⟨bb,hbb,cw,Sw⟩:=Sj.w7 (i:=j) (V:=[.int .i64 77,.int .u64 0,.int .i64 0,.int .i64 0,.int .i64 0,.string ⟨#[]⟩,.string ⟨#[]⟩]) (by omega) rfl
   refine⟨bb,0,hbb,⟨by omega,hlt⟩,?_⟩
   dsimp only
   rw[Int.toNat_natCast,Nat.zero_add,nx_i hj' (by omega)]
   exact⟨cw,⟨j+1,rfl,hj',Sw⟩,by(try dsimp only);omega⟩
  refine⟨λi hh=>∃ j:Nat,i=(j:Int)/\j<=e.out.length/\Sp (off h4 z4 2) hh s2 s7 s1',λi _=>e.out.length-i.toNat,⟨0,rfl,Nat.zero_le _,Sj⟩,?_⟩
  clear Sj hj
  rintro i hh ⟨j,rfl,hj,Sj⟩
  refine⟨λhlt=>?_,λ_=>?_⟩
  ·have hj':j<e.out.length:=by dsimp only at hlt;omega
   obtain⟨bb,hbb,cw,Sw⟩:=Sj.w2 (i:=j) (V:=[.int .i64 77,.int .u64 0]) (by omega) rfl
   refine⟨bb,0,hbb,⟨by omega,hlt⟩,?_⟩
   dsimp only
   rw[Int.toNat_natCast,Nat.zero_add,nx_i hj' (by omega)]
   exact⟨cw,⟨j+1,rfl,hj',Sw⟩,by(try dsimp only);omega⟩
  refine⟨λi hh=>∃ j:Nat,i=(j:Int)/\j<=e.ptr.length/\Sp (off h4 z4 2) hh s2 s7 s1',λi _=>e.ptr.length-i.toNat,⟨0,rfl,Nat.zero_le _,Sj⟩,?_⟩
  clear Sj hj
  rintro i hh ⟨j,rfl,hj,Sj⟩
  refine⟨λhlt=>?_,λ_=>?_⟩
  ·have hj':j<e.ptr.length:=by dsimp only at hlt;omega
   obtain⟨bb,hbb,cw,Sw⟩:=Sj.w1 (i:=j) (V:=[.string (ByteArray.mk #[33])]) (by omega) rfl
   rw[Nat.mul_one] at cw Sw
   refine⟨bb,0,hbb,⟨by omega,hlt⟩,?_⟩
   dsimp only
   rw[Int.toNat_natCast,Nat.zero_add,nx_i hj' (by omega)]
   exact⟨cw,⟨j+1,rfl,hj',Sw⟩,by(try dsimp only);omega⟩
  have f5:∀ i,i≠2->on hh (lab h4 z4 2) i=on h4 z4 i:=λi hi=>on_lab Sj.kp hi
  generalize lab h4 z4 2=z5 at f5
  rw[<- f5 a (by omega)] at Br P3'
  rw[<- f5 b (by omega)] at S4'
  have M5:Mid hh z5 a b c pb n (k+1) T.length:=by
   refine⟨sp,sd,T',D',_,_,⟨P3',⟨_,_,_,S4'⟩,e',Z',?_⟩,q1,q2⟩
   rw[f5 c (by omega),f4 c (Ne.symm hbc),f3 c (Ne.symm hac),f2 c (by omega),tA,tB]
   exact X.L
  refine nums_end hab hac ha hb hc M5 (B.eq (by rw[f5 1 (by omega),f4 1 (by omega),f3 1 (by omega),f2 1 (by omega)])) hN Br hvs λh7 z7 N7 f7 B7 hN7 X7=>?_
  exact hQ h7 z7 N7 (k+1) (λi i1 i2 ia ib ic=>by rw[f7 i i1 ia,f5 i i2,f4 i ib,f3 i ia,f2 i i2]) B7 hN7 (by rw[if_neg (by omega)];omega) X7
 ·-- Pin
  refine⟨pb,0,rfl,_,c0,?_⟩
  refine pin_q G0 X.Z λh1 xv m1 hx1 hm1 P1=>⟨_,rfl,?_⟩
  have P1':=P1.mv Mv.out
  have f1:∀ i,i≠a->on h1 (lab h z a) i=on h z i:=λi hi=>on_lab P1.kp hi
  generalize lab h z a=z1 at P1' f1
  obtain⟨v1,w1,m',L1⟩:PL (off h1 z1 c) h1 pb sp sd _ _:=by
   have:=X.L
   rw[<- f1 c (Ne.symm hac)] at this
   exact this.mw Mw.inn
  obtain⟨al,pi,ps,S⟩:=X.G
  rw[<- f1 b (Ne.symm hab)] at S
  have S1:=S.mv (Mv.inn (h:=h1) (z:=z1) (i:=b))
  refine⟨pb,0,rfl,_,L1.cell (i:=1) (by decide) rfl,?_⟩
  refine pin_d S1 (λm hm=>Nat.le_trans (X.Z.p m hm) (by have:=X.Z.kk;omega)) (by omega) λh2 m2 d hd hm2 S2=>⟨_,rfl,?_⟩
  rw[hlen] at hm2 S2
  rw[hm1] at hm2
  cases hm2
  have S2':=S2.mv (Mv.out (h:=h1) (z:=z1) (i:=b))
  have f2:∀ i,i≠b->on h2 (lab h1 z1 b) i=on h1 z1 i:=λi hi=>on_lab S2.k hi
  generalize lab h1 z1 b=z2 at S2' f2
  obtain⟨v2,w2,m2',L2⟩:PL (off h2 z2 c) h2 pb sp sd _ _:=by
   have:=X.L
   rw[<- f1 c (Ne.symm hac),<- f2 c (Ne.symm hbc)] at this
   exact this.mw Mw.inn
  rw[<- f2 a hab] at P1'
  refine⟨pb,0,rfl,_,L2.cell (i:=0) (by decide) rfl,?_⟩
  have G2:=P1'.mv (Mv.inn (h:=h2) (z:=z2) (i:=a))
  refine cur_q G2 λx2 hx2=>⟨_,rfl,?_⟩
  rw[hx1] at hx2
  cases hx2
  have hxm:=mem_of_getLast? hx1
  refine⟨ok_ver (G2.ver hxm) (G2.ver hxm),λ_=>?_,λq=>absurd rfl q⟩
  have hml:=X.Z.p _ (mem_of_getElem? hm1)
  refine hQ h2 z2 N (k+1) (λi i1 i2 ia ib ic=>by rw[f2 i ib,f1 i ia]) (B.eq (by rw[f2 1 (by omega),f1 1 (by omega)])) (by omega) (by rw[if_neg (by omega)];omega) ?_
  refine PairX.mid (sp:=sp) (sd:=sd) (D:=D) (pins:=pins.set (T.length-1) (m1+1)) (ptrs:=ptrs) ⟨P1',⟨_,_,_,S2'⟩,X.e,(X.Z.mono (Nat.le_succ k) hk).set (by omega),?_⟩
  rw[f2 c (Ne.symm hbc),f1 c (Ne.symm hac)];exact X.L
 ·-- Unpin
  refine at_s L (by rw[length_map];exact hT0) (by rw[length_map];have:=X.Z.kk;omega) λj hj=>⟨_,rfl,?_⟩
  rw[length_map] at hj
  obtain⟨xj,hxj⟩:∃ xj,T[j]?=some xj:=⟨_,getElem?_eq_getElem hj⟩
  obtain⟨dj,hdj⟩:∃ dj,D[j]?=some dj:=⟨_,getElem?_eq_getElem (by omega)⟩
  have eA:(T.map (·.1))[j]?=some xj.1:=by rw[getElem?_map,hxj];rfl
  have eB:(D.map (·.1))[j]?=some dj.1:=by rw[getElem?_map,hdj];rfl
  have elv:dj.2=xj.2:=by
   have e1:(D.map (·.2))[j]?=some dj.2:=by rw[getElem?_map,hdj];rfl
   rw[X.e,getElem?_map,hxj] at e1
   exact(Option.some.inj e1).symm
  have hz:=X.Z.t xj (mem_of_getElem? hxj)
  obtain⟨hv2,hvl,bv,hbv,av⟩:=L.rdV eA
  rw[length_map] at hv2
  refine⟨pb,0,rfl,_,c0,pb,0,rfl,v,c2,bv,0,hbv,⟨by omega,by omega⟩,_,by rw[Int.toNat_natCast];exact av,?_⟩
  -- behind the program's Unpin
  have cont:∀ (h1:Hp) (z1:Lb) (l9:Sl) (pins':List Nat) (vs:List Int),(∀ i,i≠a->on h1 z1 i=on h z i)->PG emp (on h1 z1 a) sp T pins' ptrs->Buf (on h1 z1 a) l9 1 48 (uvs vs)->vs.length<=5000000->Sz k n T pins' ptrs->(∀ {Q1:Value->Hp->Prop},(∀ h2 (l11:Sl),DG (off h1 z1 b) h2 sd D pins' ptrs->h2.row l11.a (l11.n*1) (uvs vs)->Q1 (.slice l11.a l11.n l11.c) h2)->F44.T (some ⟨sd,0,none⟩) (some ⟨dj.1,0,none⟩) h1 Q1)->(dr (some ⟨pb,0,none⟩) λb13 o11=>ldP h1 b13 (o11+1) λp13=>dr (some ⟨pb,0,none⟩) λb14 o12=>ldS h1 b14 (o12+3) λl10=>ix l10.a (j:Int) l10.n λb15 o13=>ldP h1 b15 (o13+((j:Int)).toNat) λp14=>F44.T p13 p14 h1 λr13 h21=>retS r13 λl11=>F35.T l9 l11 h21 λr14 h22=>retB r14 (F39.TF (some ⟨kb,0,none⟩) l9 n6 h22 λr15 h23=>Q (.bool true) h23) (Q (.bool false) h22)):=by
   intro h1 z1 l9 pins' vs f1 P1 Br hvs Z1 HD
   obtain⟨v1,w1,m1,L1⟩:PL (off h1 z1 c) h1 pb sp sd _ _:=by
    have:=X.L
    rw[<- f1 c (Ne.symm hac)] at this
    exact this.mw Mw.inn
   obtain⟨hw1,_,bw,hbw,aw⟩:=L1.rdW eB
   rw[length_map] at hw1
   refine⟨pb,0,rfl,_,L1.cell (i:=1) (by decide) rfl,pb,0,rfl,w1,L1.cell (i:=3) (by decide) rfl,bw,0,hbw,⟨by omega,by omega⟩,_,by rw[Int.toNat_natCast];exact aw,?_⟩
   refine HD λh2 l11 S2 R2=>⟨l11,rfl,?_⟩
   obtain⟨al,pi,ps,S2⟩:=S2
   have S2':=S2.mv (Mv.out (h:=h1) (z:=z1) (i:=b))
   have f2:∀ i,i≠b->on h2 (lab h1 z1 b) i=on h1 z1 i:=λi hi=>on_lab S2.k hi
   generalize lab h1 z1 b=z2 at S2' f2
   rw[<- f2 a hab] at P1 Br
   refine sameN_s ((Br.keep on_k).row) R2 hvs (λ_=>⟨true,rfl,λ_=>?_,λq=>Bool.noConfusion q⟩) (λq=>absurd rfl q)
   have MX:Mid h2 z2 a b c pb n (k+1) T.length:=PairX.mid (sp:=sp) (sd:=sd) (D:=D) (pins:=pins') (ptrs:=ptrs) ⟨P1,⟨_,_,_,S2'⟩,X.e,Z1.mono (Nat.le_succ k) hk,by rw[f2 c (Ne.symm hbc),f1 c (Ne.symm hac)];exact X.L⟩
   refine nums_end hab hac ha hb hc MX (B.eq (by rw[f2 1 (by omega),f1 1 (by omega)])) hN Br hvs λh3 z3 N3 f3 B3 hN3 X3=>?_
   exact hQ h3 z3 N3 (k+1) (λi i1 i2 ia ib ic=>by rw[f3 i i1 ia,f2 i ib,f1 i ia]) B3 hN3 (by rw[if_neg (by omega)];omega) X3
  obtain⟨al,pi,ps,S⟩:=X.G
  have pm:∀ m∈pins,m<=1000000:=λm hm=>Nat.le_trans (X.Z.p m hm) (by have:=X.Z.kk;omega)
  refine unpin_q G0 X.Z hxj (λhp0=>⟨⟨none,0,0⟩,rfl,?_⟩) λh1 l9 m1 hm1 P1 B9 N9=>⟨l9,rfl,?_⟩
  ·refine cont h z ⟨none,0,0⟩ pins [] (λ_ _=>rfl) X.P (Buf.nil _ _ _) (by simp) X.Z λ{Q1} HQ=>?_
   have S1:=S.mv (Mv.inn (h:=h) (z:=z) (i:=b))
   refine unpin_d S1 smD hdj pm (λ_=>HQ h ⟨none,0,0⟩ ⟨_,_,_,S1⟩ ⟨rfl,.inl rfl⟩) (λh2 r m hm _ _=>?_)
   rw[hp0] at hm;cases hm
  ·have P1':=P1.mv Mv.out
   have f1:∀ i,i≠a->on h1 (lab h z a) i=on h z i:=λi hi=>on_lab P1.kp hi
   have B9':=buf_on B9 N9
   generalize lab h z a=z1 at P1' f1 B9'
   have hml:=X.Z.p _ (mem_of_getElem? hm1)
   refine cont h1 z1 l9 (pins.set j m1) _ f1 P1' B9' (Nat.le_trans (gone_len _ _ _) (by omega)) (X.Z.set (by omega)) λ{Q1} HQ=>?_
   rw[<- f1 b (Ne.symm hab)] at S
   have S1:=S.mv (Mv.inn (h:=h1) (z:=z1) (i:=b))
   refine unpin_d S1 smD hdj pm (λh0=>by rw[hm1] at h0;cases h0) (λh2 r m hm S2 Br=>?_)
   rw[hm1] at hm
   cases hm
   rw[ecur,epin,elv] at Br
   exact HQ h2 r ⟨_,_,_,S2⟩ Br.row
 ·-- Pointers
  refine⟨pb,0,rfl,_,c0,?_⟩
  refine pointers_q G0 X.Z λh1 l12 K1 B1 N1=>⟨l12,rfl,pb,0,rfl,_,keep_at K1 c1,?_⟩
  obtain⟨al,pi,ps,S⟩:=X.G
  have S1:=(S.mv (Mv.inn (h:=h) (z:=z) (i:=b))).keep K1
  have hq:=X.Z.q
  refine pointers_d S1 (by omega) λh2 l13 K2 B2 N2=>⟨l13,rfl,?_⟩
  have r1:=(B1.keep K2).row
  have r2:=B2.row
  rw[Nat.mul_one] at r1 r2
  refine sameS_s r1 r2 (by omega) ⟨true,rfl,λ_=>?_,λq=>Bool.noConfusion q⟩
  have BS:=(B.own (a:=0) (b:=0) rfl K1 N1 B1).lab1 K2
  have f2:∀ i,i≠1->on h2 (lab h1 (lab h z 1) 1) i=on h z i:=λi hi=>by rw[keep_lab K2 hi,keep_lab K1 hi]
  generalize lab h1 (lab h z 1) 1=z2 at BS f2
  have hn:l12.n=ptrs.length:=by have:=B1.len;rw[ptrV_length] at this;omega
  refine add3S BS (a:=0) (b:=0) (by omega) (put_self _ _ _) (cols_ptr _) (by omega) λh3 z3 f3 B3=>?_
  rw[del_put] at B3
  exact hQ h3 z3 (N+1) k (λi i1 i2 ia ib ic=>by rw[f3 i i1,f2 i i1]) B3 (by omega) (by omega) (X.mid.fx (by rw[f3 a (by omega),f2 a (by omega)]) (by rw[f3 b (by omega),f2 b (by omega)]) (by rw[f3 c (by omega),f2 c (by omega)]))
 ·-- the questions
  refine at_s L (by rw[length_map];exact hT0) (by rw[length_map];have:=X.Z.kk;omega) λj hj=>⟨_,rfl,?_⟩
  rw[length_map] at hj
  obtain⟨xj,hxj⟩:∃ xj,T[j]?=some xj:=⟨_,getElem?_eq_getElem hj⟩
  obtain⟨dj,hdj⟩:∃ dj,D[j]?=some dj:=⟨_,getElem?_eq_getElem (by omega)⟩
  have eA:(T.map (·.1))[j]?=some xj.1:=by rw[getElem?_map,hxj];rfl
  have eB:(D.map (·.1))[j]?=some dj.1:=by rw[getElem?_map,hdj];rfl
  have elv:dj.2=xj.2:=by
   have e1:(D.map (·.2))[j]?=some dj.2:=by rw[getElem?_map,hdj];rfl
   rw[X.e,getElem?_map,hxj] at e1
   exact(Option.some.inj e1).symm
  have hz:=X.Z.t xj (mem_of_getElem? hxj)
  have hkk:=X.Z.kk
  obtain⟨hv2,hvl,bv,hbv,av⟩:=L.rdV eA
  obtain⟨hw2,hwl,bw,hbw,aw⟩:=L.rdW eB
  rw[length_map] at hv2 hw2
  refine⟨pb,0,rfl,v,c2,bv,0,hbv,⟨by omega,by omega⟩,_,by rw[Int.toNat_natCast];exact av,pb,0,rfl,w,c3,bw,0,hbw,⟨by omega,by omega⟩,_,by rw[Int.toNat_natCast];exact aw,?_⟩
  have VD:=X.G.ver hdj
  rw[elv] at VD
  refine looks_s (X.P.ver (mem_of_getElem? hxj)) VD (by omega) (X.Z.ok xj (mem_of_getElem? hxj)) zs zs1 B hN λh3 z3 f3 B3=>⟨true,rfl,λ_=>?_,λq=>Bool.noConfusion q⟩
  exact hQ h3 z3 (N+3) k (λi i1 i2 ia ib ic=>f3 i i1) B3 (Nat.le_refl _) (by omega) (X.mid.fx (f3 a (by omega)) (f3 b (by omega)) (f3 c (by omega)))
 ·-- Unpin of what is none of its own
  have fin:Q (.bool true) h:=hQ h z N k (λ_ _ _ _ _ _=>rfl) B (by omega) (by omega) X.mid
  refine⟨by decide,λ_=>⟨pb,0,rfl,_,c0,unpin_nil G0 ⟨⟨none,0,0⟩,rfl,λ_=>fin,λq=>absurd rfl q⟩⟩,λ_=>⟨pb,0,rfl,_,c0,?_⟩⟩
  obtain⟨c',sp',sd',A',B',PL',hA0,hA1,hx⟩:=Y e6
  obtain⟨v',w',m',L'⟩:PL (off h z c') h xb sp' sd' _ _:=PL'.mw Mw.inn
  refine⟨xb,0,rfl,v',L'.cell (i:=2) (by decide) rfl,?_⟩
  refine at_s L' hA0 hA1 λj hj=>⟨_,rfl,c0,L'.cell (i:=2) (by decide) rfl,?_⟩
  obtain⟨hv2,hvl,bv,hbv,av⟩:=L'.rdV (getElem?_eq_getElem hj)
  obtain⟨⟨y,hy⟩,hno⟩:=hx _ (List.getElem_mem hj)
  exact⟨bv,0,hbv,⟨by omega,by omega⟩,_,by rw[Int.toNat_natCast];exact av,unpin_no G0 hy hno ⟨⟨none,0,0⟩,rfl,λ_=>fin,λq=>absurd rfl q⟩⟩
 ·exact hQ h z N k (λ_ _ _ _ _ _=>rfl) B (by omega) (by omega) X.mid
end
end Go.Eng.YtbjnlacacapjiaaGreatDoor
end
section
set_option maxHeartbeats 1000000
namespace Go.Eng.YtbjnlacacapjiaaGreatDoor
open Go.Eng
def PS(h:Hp)(z:Lb)(a b c pb n k:Nat):Prop:=∃ sp sd T D pins ptrs,PairX h z a b c pb sp sd n k (T.map (·.1)) (D.map (·.1)) T D pins ptrs
section
variable{gb:Hp}{h h':Hp}{z z':Lb}{a b c a' b' c' pb xb n n' k k' N kb:Nat}{Q:Value->Hp->Prop}
theorem PS.fx(X:PS h z a b c pb n k)(ha:on h' z' a=on h z a)(hb:on h' z' b=on h z b)(hc:on h' z' c=on h z c):PS h' z' a b c pb n k:=by
 obtain⟨sp,sd,T,D,pins,ptrs,X⟩:=X
 exact⟨sp,sd,T,D,pins,ptrs,X.fx ha hb hc⟩
theorem PS.up(X:PS h z a b c pb n k)(hk:k<=k')(h4:k'<=400):PS h z a b c pb n k':=by
 obtain⟨sp,sd,T,D,pins,ptrs,X⟩:=X
 exact⟨sp,sd,T,D,pins,ptrs,X.P,X.G,X.e,X.Z.mono hk h4,X.L⟩
theorem now_p(X:PS h z a b c pb n k)(hac:a≠c)(hbc:b≠c)(hQ:∀ h' z',(∀ i,i≠c->on h' z' i=on h z i)->PS h' z' a b c pb n k->Q (.bool true) h'):F9.T (some ⟨pb,0,none⟩) h Q:=by
 obtain⟨sp,sd,T,D,pins,ptrs,X⟩:=X
 have hl:=X.len
 have X':=X
 rw[<- take_of_length_le (l:=T.map (·.1)) (i:=T.length) (by rw[length_map];omega),<- take_of_length_le (l:=D.map (·.1)) (i:=T.length) (by rw[length_map];omega)] at X'
 exact now_s X' (Nat.le_refl _) (Nat.le_succ _) hac hbc λh' z' f Y=>hQ h' z' f ⟨sp,sd,T,D,pins,ptrs,Y⟩
theorem now_m{q:Nat}(X:Mid h z a b c pb n k q)(hac:a≠c)(hbc:b≠c)(hQ:∀ h' z',(∀ i,i≠c->on h' z' i=on h z i)->PS h' z' a b c pb n k->Q (.bool true) h'):F9.T (some ⟨pb,0,none⟩) h Q:=by
 obtain⟨sp,sd,T,D,pins,ptrs,X,q1,q2⟩:=X
 exact now_s X q1 q2 hac hbc λh' z' f Y=>hQ h' z' f ⟨sp,sd,T,D,pins,ptrs,Y⟩
theorem Mid.up{q:Nat}(X:Mid h z a b c pb n k q)(hk:k<=k')(h4:k'<=400):Mid h z a b c pb n k' q:=by
 obtain⟨sp,sd,T,D,pins,ptrs,X,y⟩:=X
 exact⟨sp,sd,T,D,pins,ptrs,⟨X.P,X.G,X.e,X.Z.mono hk h4,X.L⟩,y⟩
structure Ls(a b c:Nat):Prop where
 ab:a≠b
 ac:a≠c
 bc:b≠c
 a:2<a
 b:2<b
 c:2<c
theorem other{sp sd:Nat}{T D:List (Nat×Lv)}{pins:List Nat}{ptrs:List ByteArray}{A B:List Nat}(X:PairX h z a b c pb sp sd n k A B T D pins ptrs)(Y:PS h z a' b' c' xb n' k')(haa:a≠a'):∃ c' sp' sd' A' B',PL emp (on h z c') xb sp' sd' A' B'/\0<A'.length/\A'.length<=1000000/\∀ x∈A',(∃ v,h x=some (.cells ⟨[v]⟩ 146 (0,0)))/\x∉T.map (·.1):=by
 obtain⟨sp',sd',T',D',pins',ptrs',Y⟩:=Y
 obtain⟨xl,hxl⟩:=Y.P.ne
 have hl:=Y.Z.l
 have hk:=Y.Z.kk
 refine⟨c',sp',sd',_,_,Y.L,by rw[length_map];exact List.length_pos_of_mem (mem_of_getLast? hxl),by rw[length_map];omega,λx hx=>?_⟩
 obtain⟨v,hv,rfl⟩:=List.mem_map.1 hx
 obtain⟨y,hy⟩:=(Y.P.ver hv).solid
 obtain⟨e1,e2⟩:=on_s hy
 refine⟨⟨y,e2⟩,λhm=>?_⟩
 obtain⟨u,hu,e⟩:=List.mem_map.1 hm
 obtain⟨y2,hy2⟩:=(X.P.ver hu).solid
 rw[e] at hy2
 obtain⟨e3,_⟩:=on_s hy2
 exact haa (by rw[<- e3,e1])
theorem play_now{e:Edit}{n0 n1 n2 n3 n4 n5 n6:Int}{s s1:ByteArray}{l l1 l2:Sl}{bl:Bool}{d:Nat}{R:Value->Hp->Prop}
  (X:PS h z a b c pb n k) (Y:n0=6->∃ a' b' c' n' k',PS h z a' b' c' xb n' k'/\a≠a') (ls:Ls a b c) (B:BkS gb h z N kb (λ_=>none)) (hN:N+3<=500000) (hk:k+1<=400) (E:EdAt (on h z 0) e l l1 l2) (zf:e.fits) (ho:e.out.length<=8192) (hi:e.inn.length<=8192) (hp:e.ptr.length<=8192) (zs:s.size<=9223372036854775807) (zs1:s1.size<=9223372036854775807)
  (hd:(if n0=4\/n0=5 then 0 else 1)<=d) (hd4:k+d<=400)
  (hQ:∀ h' z' N',(∀ i,i≠1->i≠2->i≠a->i≠b->i≠c->on h' z' i=on h z i)->BkS gb h' z' N' kb (λ_=>none)->N'<=N+3->PS h' z' a b c pb n (k+d)->R (.bool true) h'):F8.TF (some ⟨pb,0,none⟩) (some ⟨kb,0,none⟩) (some ⟨xb,0,none⟩) n0 n1 n2 s s1 n3 n4 n5 l l1 l2 bl n6 h λr h1=>retB r (F9.T (some ⟨pb,0,none⟩) h1 R) (Q (.bool false) h1):=by
 obtain⟨sp,sd,T,D,pins,ptrs,X⟩:=X
 refine plays_s X ls.ab ls.ac ls.bc ls.a ls.b ls.c B hN hk E zf ho hi hp zs zs1 (λh6=>?_) λh1 z1 N1 k1 f1 B1 hN1 hk1 M1=>⟨true,rfl,λ_=>?_,λq=>Bool.noConfusion q⟩
 ·obtain⟨a',b',c',n',k',Y,ne⟩:=Y h6
  exact other X Y ne
 have hc:=ls.c
 refine now_m (M1.up (k':=k+d) (by omega) hd4) ls.ac ls.bc λh2 z2 f2 P2=>?_
 exact hQ h2 z2 N1 (λi i1 i2 ia ib ic=>by rw[f2 i ic,f1 i i1 i2 ia ib ic]) (B1.eq (f2 1 (by omega))) hN1 P2
end
end Go.Eng.YtbjnlacacapjiaaGreatDoor
end
section
set_option maxHeartbeats 4000000
namespace Go.Eng.YtbjnlacacapjiaaGreatDoor
open Go.Eng
def kc0:List Value:=[.slice none 0 0,.slice none 0 0,.slice none 0 0,.slice none 0 0,.slice none 0 0,.slice none 0 0,.slice none 0 0,.slice none 0 0,.int .i64 0]
def bk0:List Value:=[.bool false,.bool false,.int .i64 0,.int .i64 0]++(List.range 19).flatMap λ_=>kc0
theorem bk0_at{c f:Nat}(hc:c<19)(hf:f<9):bk0[4+9*c+f]?=kc0[f]?:=by
 unfold bk0
 rw[List.getElem?_append_right (by simp;omega),show 4+9*c+f-([.bool false,.bool false,.int .i64 0,.int .i64 0]:List Value).length=c*9+f by simp;omega]
 rw[flatG (λ_=>kc0) 9 (λ_=>rfl) (List.range 19) c f (by rw[List.length_range];exact hc) hf]
theorem book_new{h:Hp}{b:Nat}(hb:h b=none):Bk kinds 0 (λ_=>True) b 175 45 0 h (λ_=>none) (h.new b (.cells ⟨bk0⟩ 45 (0,0))):=by
 refine Bk.start (cs:=bk0) (h':=h) hb rfl rfl rfl rfl rfl (λc hc f hf=>?_) (λc hc=>?_) (λk hk=>?_) kinds_d
 ·rw[bk0_at hc (by omega)]
  match f,hf with
  |0,_=>rfl
  |1,_=>rfl
  |2,_=>rfl
  |3,_=>rfl
  |4,_=>rfl
  |5,_=>rfl
  |6,_=>rfl
  |7,_=>rfl
  |f+8,h=>omega
 ·rw[bk0_at hc (by omega)];rfl
 ·simp only[kinds,mem_cons,List.not_mem_nil,or_false] at hk
  rcases hk with rfl|rfl|rfl<;>decide
def z0:Lb:=λb=>if b=1 then 1 else 0
section
variable{h h':Hp}{z z':Lb}{a b c pb sp sd n k N kb xb:Nat}{Q:Value->Hp->Prop}
theorem book_start(T0:TabP h)(hb:h b=none):BkS (on h z0 1) (h.new b (.cells ⟨bk0⟩ 45 (0,0))) (lab h z0 1) 0 b (λ_=>none):=by
 refine⟨on h z0 1,Keep.refl _,λi hi=>?_,?_⟩
 ·obtain⟨v,hv⟩:=T0 i hi
  refine⟨v,?_⟩
  unfold Hp.at at hv ⊢
  rw[show on h z0 1 1=h 1 from on_i (z:=z0) (i:=1) rfl]
  exact hv
 ·have hn:on h z0 1 b=none:=by unfold on;split<;>first|exact hb|rfl
  have e:on (h.new b (.cells ⟨bk0⟩ 45 (0,0))) (lab h z0 1) 1=(on h z0 1).new b (.cells ⟨bk0⟩ 45 (0,0)):=by
   funext k
   by_cases hk:k=b
   ·subst hk
    rw[on_i (lab_n hb),new_at,new_at]
   ·rw[new_ne _ _ hk]
    cases hx:h k with
    |none=>
     rw[on_i (lab_n hx),new_ne _ _ hk,hx]
     unfold on
     split<;>first|exact hx.symm|rfl
    |some x=>
     by_cases hz:z0 k=1
     ·rw[on_i (by rw[lab_s hx];exact hz),on_i hz,new_ne _ _ hk]
     ·rw[on_n (by rw[lab_s hx];exact hz),on_n hz]
  rw[e]
  exact book_new hn
theorem row_rest{A:Option Addr}{m:Nat}{vs:List Value}(T1:∀ i v,h.at 1 i=some v->∃ x:Int,v=.int .u64 x)(hr:h.row A m vs)(hv:∀ x:Int,vs[0]?≠some (.int .u64 x)):(on h z0 0).row A m vs:=by
 refine⟨hr.1,?_⟩
 rcases Nat.eq_zero_or_pos m with h0|h0
 ·exact .inl h0
 rcases hr.2 with h1|⟨b,o,ha,hat⟩
 ·exact .inl h1
 have hb:b≠1:=by
  rintro rfl
  have h1:=hat 0 h0
  rw[getElem?_eq_getElem (by rw[hr.1];exact h0)] at h1
  obtain⟨x,hx⟩:=T1 _ _ h1
  exact hv x (by rw[getElem?_eq_getElem (by rw[hr.1];exact h0),hx])
 refine .inr ⟨b,o,ha,λj hj=>?_⟩
 rw[<- hat j hj]
 unfold Hp.at
 rw[on_i (show z0 b=0 by unfold z0;rw[if_neg hb])]
theorem ed_rest{e:Edit}{l l1 l2:Sl}(T1:∀ i v,h.at 1 i=some v->∃ x:Int,v=.int .u64 x)(E:EdAt h e l l1 l2):EdAt (on h z0 0) e l l1 l2:=by
 refine⟨row_rest T1 E.out λx hx=>?_,row_rest T1 E.inn λx hx=>?_,row_rest T1 E.ptr λx hx=>?_⟩
 ·cases ho:e.out with
  |nil=>rw[ho] at hx;simp[outV] at hx
  |cons p o=>rw[ho] at hx;simp[outV,Place.cells] at hx
 ·cases ho:e.inn with
  |nil=>rw[ho] at hx;simp[inV] at hx
  |cons p o=>rw[ho] at hx;simp[inV,Placed.cells] at hx
 ·cases ho:e.ptr with
  |nil=>rw[ho] at hx;simp[ptrV] at hx
  |cons p o=>rw[ho] at hx;simp[ptrV] at hx
theorem op_rest{l:Sl}{ops:List Opr}(T1:∀ i v,h.at 1 i=some v->∃ x:Int,v=.int .u64 x)(hr:h.row l.a (l.n*12) (opV ops)):(on h z0 0).row l.a (l.n*12) (opV ops):=by
 refine row_rest T1 hr λx hx=>?_
 cases ops with
 |nil=>simp[opV] at hx
 |cons p o=>simp[opV,Opr.cells] at hx
theorem PairS.ps{T D:List (Nat×Lv)}{pins:List Nat}{ptrs:List ByteArray}(X:PairS h z a b c pb n k T D pins ptrs):PS h z a b c pb n k:=by
 obtain⟨sp,sd,X⟩:=X
 exact⟨sp,sd,T,D,pins,ptrs,X⟩
end
end Go.Eng.YtbjnlacacapjiaaGreatDoor
end
section
open Go.Proofs
namespace Go.Eng.YtbjnlacacapjiaaGreatDoor
open Go.ChangeShapes Go.WideShapes Go.RowKit
def wh(W:World):Hp:=λb=>W.heap[b]?
theorem own_wh(W:World):Own (λ_=>none) (wh W) W:=⟨λ_ _ h=>h,λ_ _ h=>(by cases h),λ_=>.inr rfl⟩
theorem below_of{W W':World}{h':Hp}(hw:Wr W W')(ho:Own (λ_=>none) h' W')(K:Keep (wh W) h'):Below W.heap.size W W':=by
 refine⟨hw.os,hw.tape,hw.output,hw.size,λk hk=>?_⟩
 have h1:wh W k=some W.heap[k]:=by unfold wh;exact Array.getElem?_eq_getElem hk
 have h2:=ho.hh k _ (K k _ h1)
 rw[h2,Array.getElem?_eq_getElem hk]
theorem cell_at{W:World}{b o:Nat}{v:Value}(h:W.cell? ⟨b,o,none⟩=some v):(wh W).at b o=some v:=by
 unfold World.cell? at h
 unfold Hp.at wh
 cases hb:W.heap[b]? with
 |none=>rw[hb] at h;cases h
 |some x=>
  rw[hb] at h
  cases x with
  |cells c t f=>simpa using h
  |_=>cases h
theorem spot_none{W:World}{a:Addr}{v:Value}(h:W.cell? (a.add 0)=some v):a=⟨a.block,a.off,none⟩:=by
 obtain⟨b,o,p⟩:=a
 cases p with
 |none=>rfl
 |some p=>
  exfalso
  unfold World.cell? at h
  simp only[Addr.add,if_pos] at h
  cases hb:W.heap[b]? with
  |none=>rw[hb] at h;cases h
  |some x=>
   rw[hb] at h
   cases x with
   |cells c t f=>simp at h
   |_=>cases h
theorem row_of_cells{W:World}{a:Addr}{n:Nat}{vs:List Value}(hl:vs.length=n)(h:∀ i,(hi:i<n)->W.cell? (a.add i)=vs[i]?):(wh W).row (some a) n vs:=by
 refine⟨hl,?_⟩
 by_cases h0:n=0
 ·exact .inl h0
 right
 have hz:=h 0 (by omega)
 rw[getElem?_eq_getElem (by omega)] at hz
 have ha:=spot_none hz
 refine⟨a.block,a.off,by rw[<- ha],λj hj=>?_⟩
 have hj':=h j hj
 rw[getElem?_eq_getElem (by omega)] at hj' ⊢
 rw[ha,addr_add] at hj'
 exact cell_at hj'
theorem add_add'(a:Addr)(m n:Nat):(a.add m).add n=a.add (m+n):=by
 unfold Addr.add
 by_cases h1:m=0
 ·subst h1;simp
 ·by_cases h2:n=0
  ·subst h2;simp[h1]
  ·simp[h1,h2,Nat.add_assoc]
theorem wf_i64{n:Int}(h:(Lit.int .i64 n).wf=true):iI n:=by
 simp[Lit.wf,IntKind.min,IntKind.max,IntKind.signed,IntKind.bits] at h
 exact⟨by omega,by omega⟩
theorem weights_mem_all{H:Type}{P:Program}{e:TypeId}:∀ {E:List (DataW H)} {d:DataW H},d∈E->∀ n∈d.weights P e,n∈DataW.weightsAll P e E
 |x::E,d,hd,n,hn=>by
  simp only[DataW.weightsAll,List.mem_append]
  rcases mem_cons.1 hd with rfl|hd
  ·exact .inl hn
  ·exact .inr (weights_mem_all hd n hn)
def WB{H:Type}(P:Program)(t:TypeId)(d:DataW H):Prop:=∀ n∈d.weights P t,n<=reachBytes
theorem reach_le{n:Nat}(h:n<=reachBytes):n<=140737488355328:=by have:=reachBytes_lt;omega
section
variable{H:Type}{enc:TypeId×Value->H}{P:Program}{W:World}{base:Nat}{held:Bool}
theorem slice_rowsW{α:Type}{t e:TypeId}{fuel:Nat}{s:Sl}{y:DataW H×List MemPlace}(sz:Nat)(f:α->List Value)(ok:α->Prop)(hsz:0<sz)(ht:P.underlying t=some (.slice e))(hc:P.cellsOf e=sz)(hf:∀ x,(f x).length=sz)
  (each:∀ (fuel:Nat) (cs:List Value) (z:DataW H×List MemPlace),cs.length=sz->DataW.trod enc P W base (λ_=>true) held fuel e cs=some z->WB P e z.1->∃ a,cs=f a/\ok a)
  (h:DataW.trod enc P W base (λ_=>true) held fuel t [.slice s.a s.n s.c]=some y) (hw:WB P t y.1):∃ l:List α,(wh W).row s.a (s.n*sz) (l.flatMap f)/\s.n<=s.c/\(s.a=none->s.n=0)/\l.length=s.n/\(s.n*P.bytesOf e<=reachBytes)/\∀ a∈l,ok a:=by
 rcases DataW.trod_slice ht h with⟨hcs,_⟩|⟨x,len,cap,elems,rest,n,_,hcs,hyy,hb,hl,hm,hlen,hel,_,_⟩
 ·simp only[List.cons.injEq,Value.slice.injEq,and_true] at hcs
  obtain⟨h1,h2,h3⟩:=hcs
  exact⟨[],by rw[h1,h2];exact⟨by simp,.inl (by simp)⟩,by omega,λ_=>h2,by rw[h2];rfl,by rw[h2];omega,λa ha=>(by cases ha)⟩
 ·simp only[List.cons.injEq,Value.slice.injEq,and_true] at hcs
  obtain⟨h1,h2,h3⟩:=hcs
  have hwl:∀ n∈(DataW.slice (elems.map (·.1)) (rest.map (·.1))).weights P t,n<=reachBytes:=by rw[hyy] at hw;exact hw
  have hws:(DataW.slice (elems.map (·.1)) (rest.map (·.1))).weights P t=((elems.map (·.1)).length+(rest.map (·.1)).length)*P.bytesOf e::(DataW.weightsAll P e (elems.map (·.1))++DataW.weightsAll P e (rest.map (·.1))):=by simp[DataW.weights,ht]
  have ea:∀ i:Fin len,∃ a:α,(∀ j,j<sz->W.cell? (x.add (i.1*sz+j))=(f a)[j]?)/\ok a:=by
   rintro⟨i,hi⟩
   have q:=hel i hi
   rw[hc,getElem?_eq_getElem (by omega),Option.bind_eq_some_iff] at q
   obtain⟨cs',hcs',hy⟩:=q
   obtain⟨_,hcl,hcell⟩:=World.cells?_some hcs'
   obtain⟨a,rfl,hok⟩:=each _ _ _ hcl hy (λm hm=>hwl m (by
    rw[hws]
    refine List.mem_cons_of_mem _ (List.mem_append_left _ (weights_mem_all (List.mem_map_of_mem (List.getElem_mem (l:=elems) (n:=i) (by omega))) m hm))))
   refine⟨a,λj hj=>?_,hok⟩
   rw[<- hcell j hj,add_add']
  obtain⟨g,hg⟩:=Classical.axiomOfChoice ea
  refine⟨List.ofFn g,?_,by omega,λhn=>(by rw[h1] at hn;cases hn),by rw[List.length_ofFn];omega,?_,λa ha=>?_⟩
  ·rw[h1,h2]
   have hll:((List.ofFn g).flatMap f).length=len*sz:=by rw[flat_length f sz hf,List.length_ofFn]
   refine row_of_cells hll λk hk=>?_
   have hi:k / sz<len:=Nat.div_lt_of_lt_mul (by rw[Nat.mul_comm];exact hk)
   have hj:k % sz<sz:=Nat.mod_lt _ hsz
   have hkk:k=k / sz*sz+k % sz:=by rw[Nat.mul_comm];exact(Nat.div_add_mod k sz).symm
   have q:=(hg ⟨k / sz,hi⟩).1 (k % sz) hj
   have q2:=flat_get f sz hf (List.ofFn g) (k / sz) (k % sz) (by rw[List.length_ofFn];exact hi) hj
   simp only at q
   rw[<- hkk] at q q2
   rw[q,q2]
   simp
  ·have:=hwl _ (by rw[hws];exact List.mem_cons_self)
   rw[length_map,length_map] at this
   exact Nat.le_trans (Nat.mul_le_mul_right _ (by omega)) this
  ·obtain⟨i,rfl⟩:=(List.mem_ofFn ..).1 ha
   exact(hg i).2
theorem some_at{xs:List (DataW H×List MemPlace)}{n i:Nat}(h:xs.length=n)(hi:i<n):∃ y,xs[i]?=some y:=⟨_,getElem?_eq_getElem (by omega)⟩
theorem is_slice{t e:TypeId}{fuel:Nat}{c:Value}{y:DataW H×List MemPlace}(ht:P.underlying t=some (.slice e))(h:DataW.trod enc P W base (λ_=>true) held fuel t [c]=some y):∃ s:Sl,c=.slice s.a s.n s.c:=by
 rcases DataW.trod_slice ht h with⟨hcs,_⟩|⟨x,len,cap,elems,rest,n,_,hcs,_⟩
 ·exact⟨⟨none,0,0⟩,by simpa using hcs⟩
 ·exact⟨⟨some x,len,cap⟩,by simpa using hcs⟩
theorem part_wb{t:TypeId}{fs:Array Field}{xs:List (DataW H×List MemPlace)}{i:Nat}{f:Field}{y:DataW H×List MemPlace}(ht:P.underlying t=some (.struct fs))(hw:WB P t (.agg (xs.map (·.1))))(hf:fs[i]?=some f)(hy:xs[i]?=some y):WB P f.type y.1:=λn hn=>hw n (by
 have e:(DataW.agg (xs.map (·.1))).weights P t=DataW.weightsEach P (fs.toList.map (·.type)) (xs.map (·.1)):=by simp[DataW.weights,ht]
 rw[e]
 exact DataW.weights_mem_each (j:=i) (t:=f.type) (d:=y.1) (by rw[getElem?_map,Array.getElem?_toList,hf];rfl) (by rw[getElem?_map,hy];rfl) n hn)
end
section
variable{H:Type}{enc:TypeId×Value->H}{W:World}{base:Nat}{held:Bool}
theorem flat_one{α:Type}(g:α->Value):∀ l:List α,l.flatMap (λx=>[g x])=l.map g
 |[]=>rfl
 |a::l=>by rw[List.flatMap_cons,flat_one g l];rfl
theorem c3:Tryz.prog.cellsOf 3=1:=by kernel_rfl
theorem c4:Tryz.prog.cellsOf 4=1:=by kernel_rfl
theorem c9:Tryz.prog.cellsOf 9=1:=by kernel_rfl
theorem c33:Tryz.prog.cellsOf 48=1:=by kernel_rfl
theorem c34:Tryz.prog.cellsOf 49=1:=by kernel_rfl
theorem c35:Tryz.prog.cellsOf 50=1:=by kernel_rfl
theorem c36:Tryz.prog.cellsOf 51=1:=by kernel_rfl
theorem c47:Tryz.prog.cellsOf 63=6:=by kernel_rfl
theorem c49:Tryz.prog.cellsOf 65=7:=by kernel_rfl
theorem c82:Tryz.prog.cellsOf 116=2:=by kernel_rfl
theorem c38:Tryz.prog.cellsOf 53=6:=by kernel_rfl
theorem c40:Tryz.prog.cellsOf 55=12:=by kernel_rfl
theorem b9:Tryz.prog.bytesOf 9=16:=by kernel_rfl
theorem b49:Tryz.prog.bytesOf 65=72:=by kernel_rfl
theorem b82:Tryz.prog.bytesOf 116=16:=by kernel_rfl
theorem wf_u64{n:Int}(h:(Lit.int .u64 n).wf=true):okU n:=by
 simp[Lit.wf,IntKind.min,IntKind.max,IntKind.signed,IntKind.bits] at h
 exact⟨by omega,by omega⟩
theorem int_cell{fuel:Nat}{c:Value}{y:DataW H×List MemPlace}(h:DataW.trod enc Tryz.prog W base (λ_=>true) held fuel 3 [c]=some y):∃ n,c=.int .i64 n/\iI n:=by
 obtain⟨n,hn,_,hw⟩:=DataW.trod_int Tryz.underlying3 h
 exact⟨n,by simpa using hn,wf_i64 hw⟩
theorem num_cell{fuel:Nat}{c:Value}{y:DataW H×List MemPlace}(h:DataW.trod enc Tryz.prog W base (λ_=>true) held fuel 48 [c]=some y):∃ n,c=.int .u64 n/\okU n:=by
 obtain⟨n,hn,_,hw⟩:=DataW.trod_int Tryz.underlying48 h
 exact⟨n,by simpa using hn,wf_u64 hw⟩
theorem str_cellW{fuel:Nat}{c:Value}{y:DataW H×List MemPlace}(h:DataW.trod enc Tryz.prog W base (λ_=>true) held fuel 9 [c]=some y)(hw:WB Tryz.prog 9 y.1):∃ s:ByteArray,c=.string s/\s.size<=140737488355328:=by
 obtain⟨s,hn,rfl,_⟩:=DataW.trod_string Tryz.underlying9 h
 refine⟨s,by simpa using hn,reach_le ?_⟩
 have:=hw s.data.toList.length (by simp[DataW.weights])
 simpa using this
theorem list2:∀ {cs:List Value},cs.length=2->∃ a0 a1,cs=[a0,a1]
 |[a0,a1],_=>⟨_,_,rfl⟩
theorem list6:∀ {cs:List Value},cs.length=6->∃ a0 a1 a2 a3 a4 a5,cs=[a0,a1,a2,a3,a4,a5]
 |[a0,a1,a2,a3,a4,a5],_=>⟨_,_,_,_,_,_,rfl⟩
theorem list7:∀ {cs:List Value},cs.length=7->∃ a0 a1 a2 a3 a4 a5 a6,cs=[a0,a1,a2,a3,a4,a5,a6]
 |[a0,a1,a2,a3,a4,a5,a6],_=>⟨_,_,_,_,_,_,_,rfl⟩
theorem list12:∀ {cs:List Value},cs.length=12->∃ a0 a1 a2 a3 a4 a5 a6 a7 a8 a9 a10 a11,cs=[a0,a1,a2,a3,a4,a5,a6,a7,a8,a9,a10,a11]
 |[a0,a1,a2,a3,a4,a5,a6,a7,a8,a9,a10,a11],_=>⟨_,_,_,_,_,_,_,_,_,_,_,_,rfl⟩
theorem bool_cell{fuel:Nat}{c:Value}{y:DataW H×List MemPlace}(h:DataW.trod enc Tryz.prog W base (λ_=>true) held fuel 4 [c]=some y):∃ b,c=.bool b:=by
 obtain⟨b,hn,_⟩:=DataW.trod_bool Tryz.underlying4 h
 exact⟨b,by simpa using hn⟩
theorem place_each(fuel:Nat)(cs:List Value)(z:DataW H×List MemPlace)(hl:cs.length=2)(h:DataW.trod enc Tryz.prog W base (λ_=>true) held fuel 116 cs=some z)(hw:WB Tryz.prog 116 z.1):∃ p:Place,cs=p.cells/\True:=by
 obtain⟨xs,n,_,rfl,_,hxs,hf⟩:=DataW.trod_struct Tryz.underlying116 h
 obtain⟨a0,a1,rfl⟩:=list2 hl
 obtain⟨y0,h0⟩:=some_at hxs (i:=0) (by decide)
 have f0:DataW.trod enc Tryz.prog W base (λ_=>true) held n 3 (([a0,a1].drop 0).take (Tryz.prog.cellsOf 3))=xs[0]?:=hf 0 _ rfl
 rw[c3,h0] at f0
 replace f0:DataW.trod enc Tryz.prog W base (λ_=>true) held n 3 [a0]=some y0:=f0
 have w0:WB Tryz.prog 3 y0.1:=part_wb Tryz.underlying116 hw (i:=0) rfl h0
 obtain⟨y1,h1⟩:=some_at hxs (i:=1) (by decide)
 have f1:DataW.trod enc Tryz.prog W base (λ_=>true) held n 48 (([a0,a1].drop 1).take (Tryz.prog.cellsOf 48))=xs[1]?:=hf 1 _ rfl
 rw[c33,h1] at f1
 replace f1:DataW.trod enc Tryz.prog W base (λ_=>true) held n 48 [a1]=some y1:=f1
 have w1:WB Tryz.prog 48 y1.1:=part_wb Tryz.underlying116 hw (i:=1) rfl h1
 obtain⟨n0,rfl,_⟩:=int_cell f0
 obtain⟨n1,rfl,_⟩:=num_cell f1
 exact⟨⟨n0,n1⟩,rfl,trivial⟩
theorem table_each(fuel:Nat)(cs:List Value)(z:DataW H×List MemPlace)(hl:cs.length=6)(h:DataW.trod enc Tryz.prog W base (λ_=>true) held fuel 63 cs=some z)(hw:WB Tryz.prog 63 z.1):∃ t:Tab,cs=t.cells/\(t.least.size<=140737488355328/\t.greatest.size<=140737488355328):=by
 obtain⟨xs,n,_,rfl,_,hxs,hf⟩:=DataW.trod_struct Tryz.underlying63 h
 obtain⟨a0,a1,a2,a3,a4,a5,rfl⟩:=list6 hl
 obtain⟨y0,h0⟩:=some_at hxs (i:=0) (by decide)
 have f0:DataW.trod enc Tryz.prog W base (λ_=>true) held n 48 (([a0,a1,a2,a3,a4,a5].drop 0).take (Tryz.prog.cellsOf 48))=xs[0]?:=hf 0 _ rfl
 rw[c33,h0] at f0
 replace f0:DataW.trod enc Tryz.prog W base (λ_=>true) held n 48 [a0]=some y0:=f0
 have w0:WB Tryz.prog 48 y0.1:=part_wb Tryz.underlying63 hw (i:=0) rfl h0
 obtain⟨y1,h1⟩:=some_at hxs (i:=1) (by decide)
 have f1:DataW.trod enc Tryz.prog W base (λ_=>true) held n 3 (([a0,a1,a2,a3,a4,a5].drop 1).take (Tryz.prog.cellsOf 3))=xs[1]?:=hf 1 _ rfl
 rw[c3,h1] at f1
 replace f1:DataW.trod enc Tryz.prog W base (λ_=>true) held n 3 [a1]=some y1:=f1
 have w1:WB Tryz.prog 3 y1.1:=part_wb Tryz.underlying63 hw (i:=1) rfl h1
 obtain⟨y2,h2⟩:=some_at hxs (i:=2) (by decide)
 have f2:DataW.trod enc Tryz.prog W base (λ_=>true) held n 3 (([a0,a1,a2,a3,a4,a5].drop 2).take (Tryz.prog.cellsOf 3))=xs[2]?:=hf 2 _ rfl
 rw[c3,h2] at f2
 replace f2:DataW.trod enc Tryz.prog W base (λ_=>true) held n 3 [a2]=some y2:=f2
 have w2:WB Tryz.prog 3 y2.1:=part_wb Tryz.underlying63 hw (i:=2) rfl h2
 obtain⟨y3,h3⟩:=some_at hxs (i:=3) (by decide)
 have f3:DataW.trod enc Tryz.prog W base (λ_=>true) held n 3 (([a0,a1,a2,a3,a4,a5].drop 3).take (Tryz.prog.cellsOf 3))=xs[3]?:=hf 3 _ rfl
 rw[c3,h3] at f3
 replace f3:DataW.trod enc Tryz.prog W base (λ_=>true) held n 3 [a3]=some y3:=f3
 have w3:WB Tryz.prog 3 y3.1:=part_wb Tryz.underlying63 hw (i:=3) rfl h3
 obtain⟨y4,h4⟩:=some_at hxs (i:=4) (by decide)
 have f4:DataW.trod enc Tryz.prog W base (λ_=>true) held n 9 (([a0,a1,a2,a3,a4,a5].drop 4).take (Tryz.prog.cellsOf 9))=xs[4]?:=hf 4 _ rfl
 rw[c9,h4] at f4
 replace f4:DataW.trod enc Tryz.prog W base (λ_=>true) held n 9 [a4]=some y4:=f4
 have w4:WB Tryz.prog 9 y4.1:=part_wb Tryz.underlying63 hw (i:=4) rfl h4
 obtain⟨y5,h5⟩:=some_at hxs (i:=5) (by decide)
 have f5:DataW.trod enc Tryz.prog W base (λ_=>true) held n 9 (([a0,a1,a2,a3,a4,a5].drop 5).take (Tryz.prog.cellsOf 9))=xs[5]?:=hf 5 _ rfl
 rw[c9,h5] at f5
 replace f5:DataW.trod enc Tryz.prog W base (λ_=>true) held n 9 [a5]=some y5:=f5
 have w5:WB Tryz.prog 9 y5.1:=part_wb Tryz.underlying63 hw (i:=5) rfl h5
 obtain⟨n0,rfl,_⟩:=num_cell f0
 obtain⟨n1,rfl,_⟩:=int_cell f1
 obtain⟨n2,rfl,_⟩:=int_cell f2
 obtain⟨n3,rfl,_⟩:=int_cell f3
 obtain⟨s4,rfl,g4⟩:=str_cellW f4 w4
 obtain⟨s5,rfl,g5⟩:=str_cellW f5 w5
 exact⟨⟨n0,n1,n2,n3,s4,s5⟩,rfl,g4,g5⟩
theorem placed_each(fuel:Nat)(cs:List Value)(z:DataW H×List MemPlace)(hl:cs.length=7)(h:DataW.trod enc Tryz.prog W base (λ_=>true) held fuel 65 cs=some z)(hw:WB Tryz.prog 65 z.1):∃ p:Placed,cs=p.cells/\(p.least.size<=140737488355328/\p.greatest.size<=140737488355328):=by
 obtain⟨xs,n,_,rfl,_,hxs,hf⟩:=DataW.trod_struct Tryz.underlying65 h
 obtain⟨a0,a1,a2,a3,a4,a5,a6,rfl⟩:=list7 hl
 obtain⟨y0,h0⟩:=some_at hxs (i:=0) (by decide)
 have f0:DataW.trod enc Tryz.prog W base (λ_=>true) held n 3 (([a0,a1,a2,a3,a4,a5,a6].drop 0).take (Tryz.prog.cellsOf 3))=xs[0]?:=hf 0 _ rfl
 rw[c3,h0] at f0
 replace f0:DataW.trod enc Tryz.prog W base (λ_=>true) held n 3 [a0]=some y0:=f0
 have w0:WB Tryz.prog 3 y0.1:=part_wb Tryz.underlying65 hw (i:=0) rfl h0
 obtain⟨y1,h1⟩:=some_at hxs (i:=1) (by decide)
 have f1:DataW.trod enc Tryz.prog W base (λ_=>true) held n 63 (([a0,a1,a2,a3,a4,a5,a6].drop 1).take (Tryz.prog.cellsOf 63))=xs[1]?:=hf 1 _ rfl
 rw[c47,h1] at f1
 replace f1:DataW.trod enc Tryz.prog W base (λ_=>true) held n 63 [a1,a2,a3,a4,a5,a6]=some y1:=f1
 have w1:WB Tryz.prog 63 y1.1:=part_wb Tryz.underlying65 hw (i:=1) rfl h1
 obtain⟨n0,rfl,_⟩:=int_cell f0
 obtain⟨t,e,g⟩:=table_each n _ _ rfl f1 w1
 simp only[Tab.cells,List.cons.injEq] at e
 obtain⟨rfl,rfl,rfl,rfl,rfl,rfl,_⟩:=e
 exact⟨⟨n0,t.num,t.weight,t.bytes,t.entries,t.least,t.greatest⟩,rfl,g⟩
theorem places_cell{fuel:Nat}{c:Value}{y:DataW H×List MemPlace}(h:DataW.trod enc Tryz.prog W base (λ_=>true) held fuel 49 [c]=some y)(hw:WB Tryz.prog 49 y.1):∃ (s:Sl) (L:List Place),c=.slice s.a s.n s.c/\(wh W).row s.a (s.n*2) (outV L)/\L.length<=140737488355328:=by
 obtain⟨s,rfl⟩:=is_slice Tryz.underlying49 h
 obtain⟨L,r,_,_,hl,hb,k⟩:=slice_rowsW (s:=s) 2 Place.cells (λ_=>True) (by decide) Tryz.underlying49 c82 (λ_=>rfl) place_each h hw
 rw[b82] at hb
 exact⟨s,L,rfl,r,by have:=reach_le hb;omega⟩
theorem placeds_cell{fuel:Nat}{c:Value}{y:DataW H×List MemPlace}(h:DataW.trod enc Tryz.prog W base (λ_=>true) held fuel 50 [c]=some y)(hw:WB Tryz.prog 50 y.1):∃ (s:Sl) (L:List Placed),c=.slice s.a s.n s.c/\(wh W).row s.a (s.n*7) (inV L)/\L.length<=140737488355328/\∀ p∈L,p.least.size<=140737488355328/\p.greatest.size<=140737488355328:=by
 obtain⟨s,rfl⟩:=is_slice Tryz.underlying50 h
 obtain⟨L,r,_,_,hl,hb,k⟩:=slice_rowsW (s:=s) 7 Placed.cells (λp=>p.least.size<=140737488355328/\p.greatest.size<=140737488355328) (by decide) Tryz.underlying50 c49 (λ_=>rfl) placed_each h hw
 rw[b49] at hb
 exact⟨s,L,rfl,r,by have:=reach_le hb;omega,k⟩
theorem texts_cell{fuel:Nat}{c:Value}{y:DataW H×List MemPlace}(h:DataW.trod enc Tryz.prog W base (λ_=>true) held fuel 51 [c]=some y)(hw:WB Tryz.prog 51 y.1):∃ (s:Sl) (L:List ByteArray),c=.slice s.a s.n s.c/\(wh W).row s.a s.n (ptrV L)/\L.length<=140737488355328/\∀ s∈L,s.size<=140737488355328:=by
 obtain⟨s,rfl⟩:=is_slice Tryz.underlying51 h
 obtain⟨L,r,_,_,hl,hb,k⟩:=slice_rowsW (s:=s) 1 (λs:ByteArray=>[Value.string s]) (λs=>s.size<=140737488355328) (by decide) Tryz.underlying51 c9 (λ_=>rfl) (λfuel cs z hl h hw=>by
  rcases cs with _|⟨a,_|⟨a1,cs⟩⟩
  ·cases hl
  ·obtain⟨s,rfl,hs⟩:=str_cellW h hw
   exact⟨s,rfl,hs⟩
  ·simp at hl) h hw
 rw[b9] at hb
 rw[flat_one,Nat.mul_one] at r
 exact⟨s,L,rfl,r,by have:=reach_le hb;omega,k⟩
theorem edit_each(fuel:Nat)(cs:List Value)(z:DataW H×List MemPlace)(hl:cs.length=6)(h:DataW.trod enc Tryz.prog W base (λ_=>true) held fuel 53 cs=some z)(hw:WB Tryz.prog 53 z.1):∃ (e:Edit) (lo li lp:Sl),cs=[.int .u64 e.log,.int .u64 e.next,.int .u64 e.seq,.slice lo.a lo.n lo.c,.slice li.a li.n li.c,.slice lp.a lp.n lp.c]/\EdAt (wh W) e lo li lp/\e.fits/\e.out.length<=140737488355328/\e.inn.length<=140737488355328/\e.ptr.length<=140737488355328:=by
 obtain⟨xs,n,_,rfl,_,hxs,hf⟩:=DataW.trod_struct Tryz.underlying53 h
 obtain⟨a0,a1,a2,a3,a4,a5,rfl⟩:=list6 hl
 obtain⟨y0,h0⟩:=some_at hxs (i:=0) (by decide)
 have f0:DataW.trod enc Tryz.prog W base (λ_=>true) held n 48 (([a0,a1,a2,a3,a4,a5].drop 0).take (Tryz.prog.cellsOf 48))=xs[0]?:=hf 0 _ rfl
 rw[c33,h0] at f0
 replace f0:DataW.trod enc Tryz.prog W base (λ_=>true) held n 48 [a0]=some y0:=f0
 have w0:WB Tryz.prog 48 y0.1:=part_wb Tryz.underlying53 hw (i:=0) rfl h0
 obtain⟨y1,h1⟩:=some_at hxs (i:=1) (by decide)
 have f1:DataW.trod enc Tryz.prog W base (λ_=>true) held n 48 (([a0,a1,a2,a3,a4,a5].drop 1).take (Tryz.prog.cellsOf 48))=xs[1]?:=hf 1 _ rfl
 rw[c33,h1] at f1
 replace f1:DataW.trod enc Tryz.prog W base (λ_=>true) held n 48 [a1]=some y1:=f1
 have w1:WB Tryz.prog 48 y1.1:=part_wb Tryz.underlying53 hw (i:=1) rfl h1
 obtain⟨y2,h2⟩:=some_at hxs (i:=2) (by decide)
 have f2:DataW.trod enc Tryz.prog W base (λ_=>true) held n 48 (([a0,a1,a2,a3,a4,a5].drop 2).take (Tryz.prog.cellsOf 48))=xs[2]?:=hf 2 _ rfl
 rw[c33,h2] at f2
 replace f2:DataW.trod enc Tryz.prog W base (λ_=>true) held n 48 [a2]=some y2:=f2
 have w2:WB Tryz.prog 48 y2.1:=part_wb Tryz.underlying53 hw (i:=2) rfl h2
 obtain⟨y3,h3⟩:=some_at hxs (i:=3) (by decide)
 have f3:DataW.trod enc Tryz.prog W base (λ_=>true) held n 49 (([a0,a1,a2,a3,a4,a5].drop 3).take (Tryz.prog.cellsOf 49))=xs[3]?:=hf 3 _ rfl
 rw[c34,h3] at f3
 replace f3:DataW.trod enc Tryz.prog W base (λ_=>true) held n 49 [a3]=some y3:=f3
 have w3:WB Tryz.prog 49 y3.1:=part_wb Tryz.underlying53 hw (i:=3) rfl h3
 obtain⟨y4,h4⟩:=some_at hxs (i:=4) (by decide)
 have f4:DataW.trod enc Tryz.prog W base (λ_=>true) held n 50 (([a0,a1,a2,a3,a4,a5].drop 4).take (Tryz.prog.cellsOf 50))=xs[4]?:=hf 4 _ rfl
 rw[c35,h4] at f4
 replace f4:DataW.trod enc Tryz.prog W base (λ_=>true) held n 50 [a4]=some y4:=f4
 have w4:WB Tryz.prog 50 y4.1:=part_wb Tryz.underlying53 hw (i:=4) rfl h4
 obtain⟨y5,h5⟩:=some_at hxs (i:=5) (by decide)
 have f5:DataW.trod enc Tryz.prog W base (λ_=>true) held n 51 (([a0,a1,a2,a3,a4,a5].drop 5).take (Tryz.prog.cellsOf 51))=xs[5]?:=hf 5 _ rfl
 rw[c36,h5] at f5
 replace f5:DataW.trod enc Tryz.prog W base (λ_=>true) held n 51 [a5]=some y5:=f5
 have w5:WB Tryz.prog 51 y5.1:=part_wb Tryz.underlying53 hw (i:=5) rfl h5
 obtain⟨n0,rfl,_⟩:=num_cell f0
 obtain⟨n1,rfl,_⟩:=num_cell f1
 obtain⟨n2,rfl,_⟩:=num_cell f2
 obtain⟨lo,Lo,rfl,ro,zo⟩:=places_cell f3 w3
 obtain⟨li,Li,rfl,ri,zi,ki⟩:=placeds_cell f4 w4
 obtain⟨lp,Lp,rfl,rp,zp,kp⟩:=texts_cell f5 w5
 exact⟨⟨n0,n1,n2,Lo,Li,Lp⟩,lo,li,lp,rfl,⟨ro,ri,rp⟩,⟨λp hp=>⟨Nat.le_trans (ki p hp).1 (by decide),Nat.le_trans (ki p hp).2 (by decide)⟩,λs hs=>Nat.le_trans (kp s hs) (by decide)⟩,zo,zi,zp⟩
theorem op_each(fuel:Nat)(cs:List Value)(z:DataW H×List MemPlace)(hl:cs.length=12)(h:DataW.trod enc Tryz.prog W base (λ_=>true) held fuel 55 cs=some z)(hw:WB Tryz.prog 55 z.1):∃ x:Opr,cs=x.cells/\OpOk (wh W) x:=by
 obtain⟨xs,n,_,rfl,_,hxs,hf⟩:=DataW.trod_struct Tryz.underlying55 h
 obtain⟨a0,a1,a2,a3,a4,a5,a6,a7,a8,a9,a10,a11,rfl⟩:=list12 hl
 obtain⟨y0,h0⟩:=some_at hxs (i:=0) (by decide)
 have f0:DataW.trod enc Tryz.prog W base (λ_=>true) held n 3 (([a0,a1,a2,a3,a4,a5,a6,a7,a8,a9,a10,a11].drop 0).take (Tryz.prog.cellsOf 3))=xs[0]?:=hf 0 _ rfl
 rw[c3,h0] at f0
 replace f0:DataW.trod enc Tryz.prog W base (λ_=>true) held n 3 [a0]=some y0:=f0
 have w0:WB Tryz.prog 3 y0.1:=part_wb Tryz.underlying55 hw (i:=0) rfl h0
 obtain⟨y1,h1⟩:=some_at hxs (i:=1) (by decide)
 have f1:DataW.trod enc Tryz.prog W base (λ_=>true) held n 3 (([a0,a1,a2,a3,a4,a5,a6,a7,a8,a9,a10,a11].drop 1).take (Tryz.prog.cellsOf 3))=xs[1]?:=hf 1 _ rfl
 rw[c3,h1] at f1
 replace f1:DataW.trod enc Tryz.prog W base (λ_=>true) held n 3 [a1]=some y1:=f1
 have w1:WB Tryz.prog 3 y1.1:=part_wb Tryz.underlying55 hw (i:=1) rfl h1
 obtain⟨y2,h2⟩:=some_at hxs (i:=2) (by decide)
 have f2:DataW.trod enc Tryz.prog W base (λ_=>true) held n 3 (([a0,a1,a2,a3,a4,a5,a6,a7,a8,a9,a10,a11].drop 2).take (Tryz.prog.cellsOf 3))=xs[2]?:=hf 2 _ rfl
 rw[c3,h2] at f2
 replace f2:DataW.trod enc Tryz.prog W base (λ_=>true) held n 3 [a2]=some y2:=f2
 have w2:WB Tryz.prog 3 y2.1:=part_wb Tryz.underlying55 hw (i:=2) rfl h2
 obtain⟨y3,h3⟩:=some_at hxs (i:=3) (by decide)
 have f3:DataW.trod enc Tryz.prog W base (λ_=>true) held n 9 (([a0,a1,a2,a3,a4,a5,a6,a7,a8,a9,a10,a11].drop 3).take (Tryz.prog.cellsOf 9))=xs[3]?:=hf 3 _ rfl
 rw[c9,h3] at f3
 replace f3:DataW.trod enc Tryz.prog W base (λ_=>true) held n 9 [a3]=some y3:=f3
 have w3:WB Tryz.prog 9 y3.1:=part_wb Tryz.underlying55 hw (i:=3) rfl h3
 obtain⟨y4,h4⟩:=some_at hxs (i:=4) (by decide)
 have f4:DataW.trod enc Tryz.prog W base (λ_=>true) held n 9 (([a0,a1,a2,a3,a4,a5,a6,a7,a8,a9,a10,a11].drop 4).take (Tryz.prog.cellsOf 9))=xs[4]?:=hf 4 _ rfl
 rw[c9,h4] at f4
 replace f4:DataW.trod enc Tryz.prog W base (λ_=>true) held n 9 [a4]=some y4:=f4
 have w4:WB Tryz.prog 9 y4.1:=part_wb Tryz.underlying55 hw (i:=4) rfl h4
 obtain⟨y5,h5⟩:=some_at hxs (i:=5) (by decide)
 have f5:DataW.trod enc Tryz.prog W base (λ_=>true) held n 53 (([a0,a1,a2,a3,a4,a5,a6,a7,a8,a9,a10,a11].drop 5).take (Tryz.prog.cellsOf 53))=xs[5]?:=hf 5 _ rfl
 rw[c38,h5] at f5
 replace f5:DataW.trod enc Tryz.prog W base (λ_=>true) held n 53 [a5,a6,a7,a8,a9,a10]=some y5:=f5
 have w5:WB Tryz.prog 53 y5.1:=part_wb Tryz.underlying55 hw (i:=5) rfl h5
 obtain⟨y6,h6⟩:=some_at hxs (i:=6) (by decide)
 have f6:DataW.trod enc Tryz.prog W base (λ_=>true) held n 4 (([a0,a1,a2,a3,a4,a5,a6,a7,a8,a9,a10,a11].drop 11).take (Tryz.prog.cellsOf 4))=xs[6]?:=hf 6 _ rfl
 rw[c4,h6] at f6
 replace f6:DataW.trod enc Tryz.prog W base (λ_=>true) held n 4 [a11]=some y6:=f6
 have w6:WB Tryz.prog 4 y6.1:=part_wb Tryz.underlying55 hw (i:=6) rfl h6
 obtain⟨n0,rfl,_⟩:=int_cell f0
 obtain⟨n1,rfl,g1⟩:=int_cell f1
 obtain⟨n2,rfl,_⟩:=int_cell f2
 obtain⟨s3,rfl,g3⟩:=str_cellW f3 w3
 obtain⟨s4,rfl,g4⟩:=str_cellW f4 w4
 obtain⟨e,lo,li,lp,ec,ea,ef,eo,ei,ep⟩:=edit_each n _ _ rfl f5 w5
 simp only[List.cons.injEq] at ec
 obtain⟨rfl,rfl,rfl,rfl,rfl,rfl,_⟩:=ec
 obtain⟨b,rfl⟩:=bool_cell f6
 have q:-9223372036854775808<=n1/\n1<=9223372036854775807:=by unfold iI at g1;omega
 exact⟨⟨n0,n1,n2,s3,s4,e,lo,li,lp,b⟩,rfl,ea,ef,eo,ei,ep,q,Nat.le_trans g3 (by decide),Nat.le_trans g4 (by decide)⟩
theorem open_ops{fuel:Nat}{a:Option Addr}{len cap:Nat}{y:DataW H×List MemPlace}(h:DataW.trod enc Tryz.prog W base (λ_=>true) held fuel 22 [.slice a len cap]=some y)(hw:WB Tryz.prog 22 y.1):∃ L:List Opr,(wh W).row a (len*12) (opV L)/\∀ x∈L,OpOk (wh W) x:=by
 obtain⟨L,r,_,_,hl,hb,k⟩:=slice_rowsW (s:=⟨a,len,cap⟩) 12 Opr.cells (OpOk (wh W)) (by decide) Tryz.underlying22 c40 (λ_=>rfl) op_each h hw
 exact⟨L,r,k⟩
theorem wb_arg{ts:List TypeId}{ds:List (DataW H)}(h:(DataW.weightsEach Tryz.prog ts ds).all (·<=reachBytes)=true){j:Nat}{t:TypeId}{d:DataW H}(ht:ts[j]?=some t)(hd:ds[j]?=some d):WB Tryz.prog t d:=λn hn=>by
 have:=List.all_eq_true.1 h _ (DataW.weights_mem_each ht hd n hn)
 simpa using this
end
end Go.Eng.YtbjnlacacapjiaaGreatDoor
end
section
open Go.Proofs Go.Proofs.YtbjnlacacapjiaaGreatDoor
namespace Go.Eng.YtbjnlacacapjiaaGreatDoor
open Go.ChangeShapes Go.WideShapes Go.RowKit
theorem gPow : Tryz.prog.globalNamed "internal/strconv.uint64pow10" = some 1 := by kernel_rfl
theorem tPow:(Tryz.prog.globals[1]?).map (·.type)=some 262:=by kernel_rfl
theorem cPow:Tryz.prog.cellsOf 262=20:=by kernel_rfl
theorem c48':Tryz.prog.cellsOf 48=1:=by kernel_rfl
theorem u262:Tryz.prog.underlying 262=some (.array 20 48):=by kernel_rfl
theorem tabs_of_laid {W : World} (h : laidMetH Tryz.prog [("math/bits.deBruijn32tab", Rows.laid_math_bits_deBruijn32tab), ("math/bits.deBruijn64tab", Rows.laid_math_bits_deBruijn64tab), ("internal/strconv.uint64pow10", Rows.laid_internal_strconv_uint64pow10)] W) : TabP (wh W) ∧ ∀ i v, (wh W).at 1 i = some v → ∃ x : Int, v = .int .u64 x := by
 rw[MakeChecks.laidMetH_plain _ _ _ (by kernel_rfl)] at h
 obtain⟨ps,⟨_,_,_,_,_,_,_,_,_,_,⟨_,_,_,_,_,_,_,_,_,_,⟨g0,t0,cs0,f0,p0,q0,hg0,ht0,hv0,hd0,_,_⟩,_⟩,_⟩,_⟩:=h
 obtain rfl:=Option.some.inj (gPow.symm.trans hg0)
 obtain rfl:=Option.some.inj (tPow.symm.trans ht0)
 obtain⟨xs,m,_,hx,hlen,hn,hel⟩:=DataW.trod_array u262 hd0
 rw[cPow] at hlen
 have key:∀ i,i<20->∃ x:Int,cs0[i]?=some (.int .u64 x):=λi hi=>by
  have h1:=hel i hi
  rw[c48',Nat.mul_one,getElem?_eq_getElem (by omega)] at h1
  have hil:i<cs0.toList.length:=by omega
  have e1:(cs0.toList.drop i).take 1=[cs0.toList[i]]:=by
   rw[List.drop_eq_getElem_cons hil];rfl
  rw[e1] at h1
  obtain⟨n,e2,e3,_⟩:=DataW.trod_int Tryz.underlying48 h1
  refine⟨n,?_⟩
  rw[<- Array.getElem?_toList,getElem?_eq_getElem hil]
  simp only[List.cons.injEq,and_true] at e2
  rw[e2]
 have at_:∀ i,(wh W).at 1 i=cs0[i]?:=λi=>by
  have hv:=hv0
  simp only[World.var?,hg0,Option.bind_some] at hv
  unfold Hp.at wh
  split at hv
  ·next cs t f hb=>rw[hb];cases hv;rfl
  ·cases hv
 have hsz:cs0.size=20:=by rw[<- Array.length_toList];omega
 refine⟨λi hi=>?_,λi v hv=>?_⟩
 ·obtain⟨x,hx⟩:=key i hi
  exact⟨x,by rw[Nat.zero_add,at_,hx]⟩
 ·rw[at_] at hv
  have hi:i<cs0.size:=(Array.getElem?_eq_some_iff.1 hv).1
  obtain⟨x,hx⟩:=key i (by omega)
  rw[hx] at hv
  exact⟨x,(Option.some.inj hv).symm⟩
end Go.Eng.YtbjnlacacapjiaaGreatDoor
end
section
set_option maxHeartbeats 4000000
namespace Go.Eng.YtbjnlacacapjiaaGreatDoor
open Go.Eng
def ManyZ(h0 h:Hp)(z:Lb)(kb N K:Nat)(P:List Nat)(l1:Sl):Prop:=Keep (on h0 z0 0) (on h z 0)/\BkS (on h0 z0 1) h z N kb (λ_=>none)/\(∀ (i p:Nat),P[i]?=some p->PS h z (3+3*i) (4+3*i) (5+3*i) p 3 K)/\Buf (on h z 100) l1 1 46 (P.map pk)
theorem lsP(i:Nat):Ls (3+3*i) (4+3*i) (5+3*i):=⟨by omega,by omega,by omega,by omega,by omega,by omega⟩
section
variable{h0 h h':Hp}{z z':Lb}{kb N N' K K':Nat}{P:List Nat}{l1:Sl}{Q:Value->Hp->Prop}
theorem ManyZ.fx(M:ManyZ h0 h z kb N K P l1)(f:∀ i,i≠1->i≠2->on h' z' i=on h z i)(B:BkS (on h0 z0 1) h' z' N' kb (λ_=>none)):ManyZ h0 h' z' kb N' K P l1:=by
 obtain⟨a,b,c,d⟩:=M
 exact⟨by rw[f 0 (by decide) (by decide)];exact a,B,λi p hp=>(c i p hp).fx (f _ (by omega) (by omega)) (f _ (by omega) (by omega)) (f _ (by omega) (by omega)),by rw[f 100 (by decide) (by decide)];exact d⟩
theorem ManyZ.rd(M:ManyZ h0 h z kb N K P l1){i p:Nat}(hp:P[i]?=some p):l1.n=P.length/\i<P.length/\∃ b,l1.a=some ⟨b,0,none⟩/\h.at b (0+i)=some (pk p):=by
 have B:=M.2.2.2
 have hn:l1.n=P.length:=by have:=B.len;simp only[length_map,Nat.mul_one] at this;omega
 have hi:i<P.length:=(List.getElem?_eq_some_iff.1 hp).1
 obtain⟨b,hb,hat⟩:=buf_at (B.keep on_k) (k:=i) (by rw[length_map];exact hi)
 exact⟨hn,hi,b,hb,by rw[hat,getElem?_map,hp];rfl⟩
theorem ManyZ.keep_all(M:ManyZ h0 h z kb N K P l1):Keep h0 h:=λk x e=>by
 by_cases hk:k=1
 ·obtain⟨g0,K0,_,B⟩:=M.2.1
  have:=(K0.trans B.keep) k x (by rw[on_i (show z0 k=1 by unfold z0;rw[if_pos hk])];exact e)
  exact(on_s this).2
 ·have:=M.1 k x (by rw[on_i (show z0 k=0 by unfold z0;rw[if_neg hk])];exact e)
  exact(on_s this).2
theorem ManyZ.turn(M:ManyZ h0 h z kb N K P l1){j p:Nat}(hj:P[j]?=some p)(hjl:j<30)(f:∀ i,i≠1->i≠2->i≠3+3*j->i≠4+3*j->i≠5+3*j->on h' z' i=on h z i)(B:BkS (on h0 z0 1) h' z' N' kb (λ_=>none))(X:PS h' z' (3+3*j) (4+3*j) (5+3*j) p 3 K')(hK:K<=K')(h4:K'<=400):ManyZ h0 h' z' kb N' K' P l1:=by
 obtain⟨a,b,c,d⟩:=M
 refine⟨by rw[f 0 (by omega) (by omega) (by omega) (by omega) (by omega)];exact a,B,λi q hq=>?_,by rw[f 100 (by omega) (by omega) (by omega) (by omega) (by omega)];exact d⟩
 by_cases e:i=j
 ·subst e
  rw[hj] at hq
  cases hq
  exact X
 ·exact((c i q hq).fx (f _ (by omega) (by omega) (by omega) (by omega) (by omega)) (f _ (by omega) (by omega) (by omega) (by omega) (by omega)) (f _ (by omega) (by omega) (by omega) (by omega) (by omega))).up hK h4
theorem all_p2{a b c pb n k N:Nat}{gb:Hp}{mark:Int}(X:PS h z a b c pb n k)(l:Ls a b c)(B:BkS gb h z N kb (λ_=>none))(hN:N+8421<=500000)
  (hQ:∀ h' z' N',(∀ i,i≠1->on h' z' i=on h z i)->BkS gb h' z' N' kb (λ_=>none)->N'<=N+8421->Q (.bool true) h'):F11.TF (some ⟨pb,0,none⟩) (some ⟨kb,0,none⟩) mark h Q:=by
 obtain⟨sp,sd,T,D,pins,ptrs,X⟩:=X
 have hl:=X.Z.l
 have hk:=X.Z.kk
 exact all_s ⟨sp,sd,X⟩ (by have:=l.a;omega) (by have:=l.b;omega) (by have:=l.c;omega) B (by omega) λh' z' f B'=>hQ h' z' _ f B' (by omega)
def ownP(n:Int):Placed:=⟨Int.tmod n 3,wrap .u64 (wrap .i64 (1000+n)),n,0,0,ByteArray.mk #[107],ByteArray.mk #[109]⟩
def ownE(n:Int):Edit:=⟨0,0,0,[],[ownP n],[ByteArray.mk #[],ByteArray.mk #[112],ByteArray.mk #[]]⟩
theorem ownE_fits(n:Int):(ownE n).fits:=by
 refine⟨λq hq=>?_,λs hs=>?_⟩
 ·rw[show(ownE n).inn=[ownP n] from rfl,List.mem_singleton] at hq
  subst hq
  exact⟨by show(ByteArray.mk #[107]).size<=_;decide,by show(ByteArray.mk #[109]).size<=_;decide⟩
 ·simp only[ownE,mem_cons,List.not_mem_nil,or_false] at hs
  rcases hs with rfl|rfl|rfl<;>decide
theorem many_law{ops:List Opr}{l:Sl}{n:Int}(T0:TabP h)(T1:∀ i v,h.at 1 i=some v->∃ x:Int,v=.int .u64 x)(hr:h.row l.a (l.n*12) (opV ops))(ho:∀ x∈ops,OpOk h x)(hQ:∀ h',Keep h h'->Q (.bool true) h'):F4.TF n l h Q:=by
 have hln:l.n=ops.length:=by have:=hr.1;rw[opV_len] at this;omega
 unfold F4.TF F4.G
 refine⟨λ_=>hQ h (Keep.refl h),λhn0=>⟨λ_=>hQ h (Keep.refl h),λhn18=>⟨λ_=>hQ h (Keep.refl h),λh300=>?_⟩⟩⟩
 obtain⟨m,rfl⟩:=Int.eq_ofNat_of_zero_le (show 0<=n by omega)
 have wn:wrap .i64 ((m:Int)+2)=((m+2:Nat):Int):=by rw[wrap_i64 (by omega) (by omega)];omega
 rw[wn]
 have h300':ops.length<=300:=by omega
 intro kb hkb
 have K0:=Keep.new hkb (.cells ⟨bk0⟩ 45 (0,0))
 have B1:=book_start T0 hkb
 have f1:∀ i,i≠1->on (h.new kb (.cells ⟨bk0⟩ 45 (0,0))) (lab h z0 1) i=on h z0 i:=λi hi=>keep_lab K0 hi
 have M1:ManyZ h (h.new kb (.cells ⟨bk0⟩ 45 (0,0))) (lab h z0 1) kb 0 1 [] ⟨none,0,0⟩:=⟨by rw[f1 0 (by decide)];exact Keep.refl _,B1,λi p hp=>by simp at hp,Buf.nil _ _ _⟩
 refine⟨λl1 i h2=>∃ P z2 N2,i=(P.length:Int)/\P.length<=m+2/\ManyZ h h2 z2 kb N2 1 P l1/\N2<=3*P.length,λ_ i _=>m+2-i.toNat,⟨[],_,0,rfl,by simp,M1,by simp⟩,?_⟩
 clear M1 f1 B1 K0
 rintro l1 i h2 ⟨P,z2,N2,rfl,hPm,M2,hN2⟩
 refine⟨λhlt=>?_,λhge=>?_⟩
 ·have hPl:P.length<m+2:=by omega
  have ls:=lsP P.length
  refine begin_s (z:=z2) (k:=3) (by decide) ls.ab ls.ac ls.bc λh3 z3 p vb wb f3 X3=>⟨_,rfl,by decide,λb1 hb1 b2 hb2=>⟨ok_nil _ _,λq=>(by cases q),λ_=>?_⟩⟩
  have Ka:=Keep.new hb1 (.cells ⟨[.int .i64 (Int.tmod (P.length:Int) 3),.int .u64 (wrap .u64 (wrap .i64 (1000+(P.length:Int)))),.int .i64 (P.length:Int),.int .i64 0,.int .i64 0,.string (ByteArray.mk #[107]),.string (ByteArray.mk #[109])]⟩ 65 (0,0))
  have ra:=new_at h3 b1 (.cells ⟨[.int .i64 (Int.tmod (P.length:Int) 3),.int .u64 (wrap .u64 (wrap .i64 (1000+(P.length:Int)))),.int .i64 (P.length:Int),.int .i64 0,.int .i64 0,.string (ByteArray.mk #[107]),.string (ByteArray.mk #[109])]⟩ 65 (0,0))
  generalize h3.new b1 (.cells ⟨[.int .i64 (Int.tmod (P.length:Int) 3),.int .u64 (wrap .u64 (wrap .i64 (1000+(P.length:Int)))),.int .i64 (P.length:Int),.int .i64 0,.int .i64 0,.string (ByteArray.mk #[107]),.string (ByteArray.mk #[109])]⟩ 65 (0,0))=h4 at Ka ra hb2 ⊢
  have Kb:=Keep.new hb2 (.cells ⟨[.string ⟨#[]⟩,.string (ByteArray.mk #[112]),.string ⟨#[]⟩]⟩ 9 (0,0))
  have rb:=new_at h4 b2 (.cells ⟨[.string ⟨#[]⟩,.string (ByteArray.mk #[112]),.string ⟨#[]⟩]⟩ 9 (0,0))
  generalize h4.new b2 (.cells ⟨[.string ⟨#[]⟩,.string (ByteArray.mk #[112]),.string ⟨#[]⟩]⟩ 9 (0,0))=h5 at Kb rb ⊢
  have Kc:=Ka.trans Kb
  have ra':=Kb _ _ ra
  have f5:∀ i,i≠0->on h5 (lab h3 z3 0) i=on h3 z3 i:=λi hi=>keep_lab Kc hi
  have k5:Keep (on h3 z3 0) (on h5 (lab h3 z3 0) 0):=keep_on (off_k.trans Kc) (on_k.trans Kc)
  have hb2':h3 b2=none:=Ka.dom _ hb2
  have ra5:on h5 (lab h3 z3 0) 0 b1=_:=(on_i (lab_n hb1)).trans ra'
  have rb5:on h5 (lab h3 z3 0) 0 b2=_:=(on_i (lab_n hb2')).trans rb
  generalize lab h3 z3 0=z5 at f5 k5 ra5 rb5
  have E5:EdAt (on h5 z5 0) (ownE (P.length:Int)) ⟨none,0,0⟩ ⟨some ⟨b1,0,none⟩,1,1⟩ ⟨some ⟨b2,0,none⟩,3,3⟩:=⟨nil_row _,cell_row ra5,cell_row rb5⟩
  have X5:=X3.ps.fx (f5 _ (by omega)) (f5 _ (by omega)) (f5 _ (by omega))
  have B5:BkS (on h z0 1) h5 z5 N2 kb (λ_=>none):=M2.2.1.eq (by rw[f5 1 (by decide),f3 1 (by omega) (by omega) (by omega)])
  refine play_now (d:=1) X5 (λq=>absurd q (by decide)) ls B5 (by omega) (by decide) E5 (ownE_fits _) (by simp[ownE]) (by simp[ownE]) (by simp[ownE]) (by decide) (by decide) (by decide) (by decide) λh7 z7 N7 f7 B7 hN7 X7=>⟨true,rfl,λ_=>?_,λq=>Bool.noConfusion q⟩
  have ff:∀ i,i≠0->i≠1->i≠2->i≠3+3*P.length->i≠4+3*P.length->i≠5+3*P.length->on h7 z7 i=on h2 z2 i:=λi i0 i1 i2 ia ib ic=>by rw[f7 i i1 i2 ia ib ic,f5 i i0,f3 i ia ib ic]
  have k7:Keep (on h z0 0) (on h7 z7 0):=by
   rw[f7 0 (by omega) (by omega) (by omega) (by omega) (by omega)]
   rw[f3 0 (by omega) (by omega) (by omega)] at k5
   exact M2.1.trans k5
  have L7:Buf (on h7 z7 100) l1 1 46 (P.map pk):=by rw[ff 100 (by omega) (by omega) (by omega) (by omega) (by omega) (by omega)];exact M2.2.2.2
  have NL:NewB (off h7 z7 100) l1:=by
   rcases L7.own with⟨ha,_⟩|⟨b,c,f,ha,hb,_⟩
   ·exact .inl ha
   ·exact .inr ⟨b,ha,off_i (on_s hb).1⟩
  have hl1:l1.n=P.length:=by have:=L7.len;simp only[length_map,Nat.mul_one] at this;omega
  refine append_buf (L7.keep on_k) rfl rfl (by omega) λl2 h8 B8 _ U8=>?_
  have K8:=keepB off_k NL U8
  have N8:=newB off_k NL U8
  have f8:∀ i,i≠100->on h8 (lab h7 z7 100) i=on h7 z7 i:=λi hi=>on_lab K8 hi
  have B8':=buf_on B8 N8
  generalize lab h7 z7 100=z8 at f8 B8'
  rw[nx_i hPl (by omega)]
  refine⟨⟨P++[p],z8,N7,by simp,by simp;omega,⟨by rw[f8 0 (by decide)];exact k7,B7.eq (f8 1 (by decide)),λi q hq=>?_,by rw[map_append];exact B8'⟩,by simp;omega⟩,by dsimp only;omega⟩
  by_cases hi:i<P.length
  ·rw[List.getElem?_append_left hi] at hq
   exact(M2.2.2.1 i q hq).fx (by rw[f8 _ (by omega),ff _ (by omega) (by omega) (by omega) (by omega) (by omega) (by omega)]) (by rw[f8 _ (by omega),ff _ (by omega) (by omega) (by omega) (by omega) (by omega) (by omega)]) (by rw[f8 _ (by omega),ff _ (by omega) (by omega) (by omega) (by omega) (by omega) (by omega)])
  ·have hil:=(List.getElem?_eq_some_iff.1 hq).1
   rw[length_append,List.length_singleton] at hil
   have:i=P.length:=by omega
   subst this
   rw[List.getElem?_append_right (Nat.le_refl _),Nat.sub_self] at hq
   cases hq
   exact X7.fx (f8 _ (by omega)) (f8 _ (by omega)) (f8 _ (by omega))
 have hPl:P.length=m+2:=by omega
 refine⟨λi h9=>∃ A R z9 N9,ops=A++R/\i=(A.length:Int)/\ManyZ h h9 z9 kb N9 (1+A.length) P l1/\N9<=3*P.length+3*A.length,λi _=>ops.length-i.toNat,⟨[],ops,z2,N2,rfl,rfl,M2,by simpa using hN2⟩,?_⟩
 rintro i h9 ⟨A,R,z9,N9,eA,rfl,M9,hN9⟩
 have el:=congrArg List.length eA
 rw[length_append] at el
 refine⟨λhlt=>?_,λhge=>?_⟩
 ·rcases R with _|⟨x,R⟩
  ·exact absurd hlt (by simp at el;omega)
  rw[length_cons] at el
  have O:=ho x (by rw[eA];simp)
  have rowAt:∀ {h1:Hp} {z1:Lb},Keep (on h z0 0) (on h1 z1 0)->h1.row l.a (l.n*12) (opV (A++x::R)):=λk=>by
   have:=on_k.row (k.row (op_rest T1 hr))
   rw[eA] at this
   exact this
  obtain⟨b3,o,ha,hi,hc⟩:=op_rd (rowAt M9.1)
  refine⟨b3,o,ha,hi,x.e.log,hc 5 (by decide),x.e.next,hc 6 (by decide),x.e.seq,hc 7 (by decide),x.lo,hc 8 (by decide),x.li,hc 9 (by decide),x.lp,hc 10 (by decide),?_⟩
  have E9:=((ed_rest T1 O.e).keep M9.1).keep on_k
  refine small_s E9 O.z O.o O.i O.p λh10 r10 K10 hs10=>⟨r10,rfl,λhr10=>?_,λhr10=>?_⟩
  ·obtain⟨s1,s2,s3⟩:=hs10 hr10
   have f10:∀ i,i≠2->on h10 (lab h9 z9 2) i=on h9 z9 i:=λi hi=>keep_lab K10 hi
   have M10:=M9.fx (z':=lab h9 z9 2) (λi _ h2=>f10 i h2) (M9.2.1.eq (f10 1 (by decide)))
   generalize lab h9 z9 2=z10 at f10 M10
   have hA:A.length<300:=by omega
   obtain⟨at_,hat⟩:∃ at_,at_=(7*A.length) % (m+2):=⟨_,rfl⟩
   obtain⟨xt,hxt⟩:∃ xt,xt=(at_+1) % (m+2):=⟨_,rfl⟩
   have at_lt:at_<m+2:=by rw[hat];exact Nat.mod_lt _ (by omega)
   have xt_lt:xt<m+2:=by rw[hxt];exact Nat.mod_lt _ (by omega)
   have ne:at_≠xt:=by
    rw[hxt]
    by_cases h1:at_+1<m+2
    ·rw[Nat.mod_eq_of_lt h1];omega
    ·rw[show at_+1=m+2 by omega,Nat.mod_self];omega
   have ia:Int.tmod (wrap .i64 (7*(A.length:Int))) ((m+2:Nat):Int)=(at_:Int):=by
    rw[wrap_i64 (by omega) (by omega),Int.tmod_eq_emod_of_nonneg (by omega),hat,Int.natCast_emod,show((7*A.length:Nat):Int)=7*(A.length:Int) by omega]
   have ib:Int.tmod (wrap .i64 ((at_:Int)+1)) ((m+2:Nat):Int)=(xt:Int):=by
    rw[wrap_i64 (by omega) (by omega),Int.tmod_eq_emod_of_nonneg (by omega),hxt,Int.natCast_emod,show((at_+1:Nat):Int)=(at_:Int)+1 by omega]
   rw[ia,ib]
   obtain⟨p,hp⟩:∃ p,P[at_]?=some p:=⟨_,getElem?_eq_getElem (by omega)⟩
   obtain⟨px,hpx⟩:∃ p,P[xt]?=some p:=⟨_,getElem?_eq_getElem (by omega)⟩
   obtain⟨hl1,_,b4,hb4,a4⟩:=M10.rd hp
   obtain⟨_,_,b5,hb5,a5⟩:=M10.rd hpx
   obtain⟨b6,o6,ha6,hi6,hc6⟩:=op_rd (rowAt M10.1)
   refine⟨by omega,b4,0,hb4,⟨by omega,by omega⟩,_,by rw[Int.toNat_natCast];exact a4,by omega,b5,0,hb5,⟨by omega,by omega⟩,_,by rw[Int.toNat_natCast];exact a5,?_⟩
   refine⟨b6,o6,ha6,hi6,x.kind,hc6 0 (by decide),x.n,hc6 1 (by decide),x.level,hc6 2 (by decide),x.fr,hc6 3 (by decide),x.to,hc6 4 (by decide),x.e.log,hc6 5 (by decide),x.e.next,hc6 6 (by decide),x.e.seq,hc6 7 (by decide),x.lo,hc6 8 (by decide),x.li,hc6 9 (by decide),x.lp,hc6 10 (by decide),x.second,?_⟩
   have hx11:h10.at b6 (o6+(A.length:Int).toNat*12+11)=some (.bool x.second):=hc6 11 (by decide)
   have E10:EdAt (on h10 z10 0) x.e x.lo x.li x.lp:=(ed_rest T1 O.e).keep M10.1
   have X10:=M10.2.2.1 _ _ hp
   have Y10:=M10.2.2.1 _ _ hpx
   have next:wrap .i64 ((A.length:Int)+1)=((A.length+1:Nat):Int):=nx_i (n:=300) (by omega) (by omega)
   have lenA:(A++[x]).length=A.length+1:=by simp
   have go:∀ bl,F8.TF (some ⟨p,0,none⟩) (some ⟨kb,0,none⟩) (some ⟨px,0,none⟩) x.kind x.n x.level x.fr x.to x.e.log x.e.next x.e.seq x.lo x.li x.lp bl (wrap .i64 (10*(A.length:Int))) h10 λr4 h11=>retB r4 (F9.T (some ⟨p,0,none⟩) h11 λr5 h12=>retB r5 ((∃ A_1 R_1 z9 N9,ops=A_1++R_1/\wrap .i64 ((A.length:Int)+1)=(A_1.length:Int)/\ManyZ h h12 z9 kb N9 (1+A_1.length) P l1/\N9<=3*P.length+3*A_1.length)/\ops.length-(wrap .i64 ((A.length:Int)+1)).toNat<ops.length-((A.length:Int)).toNat) (Q (.bool false) h12)) (Q (.bool false) h11):=λbl=>by
    refine play_now (d:=1) X10 (λ_=>⟨_,_,_,_,_,Y10,by omega⟩) (lsP at_) M10.2.1 (by omega) (by omega) E10 O.z s1 s2 s3 O.f O.t (by split<;>omega) (by omega) λh12 z12 N12 f12 B12 hN12 X12=>⟨true,rfl,λ_=>?_,λq=>Bool.noConfusion q⟩
    rw[next]
    exact⟨⟨A++[x],R,z12,N12,by rw[eA];simp,by rw[lenA],by rw[lenA];exact M10.turn hp (by omega) f12 B12 (K':=1+(A.length+1)) X12 (by omega) (by omega),by rw[lenA];omega⟩,by omega⟩
   cases hsec:x.second with
   |true=>
    rw[hsec] at hx11
    exact⟨λ_=>⟨hx11,go true⟩,λq=>Bool.noConfusion q⟩
   |false=>
    rw[hsec] at hx11
    exact⟨λq=>Bool.noConfusion q,λ_=>⟨hx11,go false⟩⟩
  ·have f10:∀ i,i≠2->on h10 (lab h9 z9 2) i=on h9 z9 i:=λi hi=>keep_lab K10 hi
   exact hQ h10 (M9.fx (z':=lab h9 z9 2) (λi _ h2=>f10 i h2) (M9.2.1.eq (f10 1 (by decide)))).keep_all
 have hR:R=[]:=List.eq_nil_of_length_eq_zero (by omega)
 subst hR
 rw[List.append_nil] at eA
 subst eA
 refine⟨λi h15=>∃ (j:Nat) (z15:Lb) (N15:Nat),i=(j:Int)/\j<=P.length/\ManyZ h h15 z15 kb N15 (1+ops.length) P l1/\N15<=3*P.length+3*ops.length+8421*j,λi _=>P.length-i.toNat,⟨0,z9,N9,rfl,Nat.zero_le _,M9,by omega⟩,?_⟩
 rintro i h15 ⟨j,z15,N15,rfl,hj,M15,hN15⟩
 have hl1:l1.n=P.length:=by have:=M15.2.2.2.len;simp only[length_map,Nat.mul_one] at this;omega
 refine⟨λhlt=>?_,λhge=>?_⟩
 ·have hjP:j<P.length:=by omega
  obtain⟨p,hp⟩:∃ p,P[j]?=some p:=⟨_,getElem?_eq_getElem hjP⟩
  obtain⟨_,_,b8,hb8,a8⟩:=M15.rd hp
  refine⟨b8,0,hb8,⟨by omega,by omega⟩,_,by rw[Int.toNat_natCast];exact a8,?_⟩
  have ls:=lsP j
  refine now_p (M15.2.2.1 _ _ hp) ls.ac ls.bc λh16 z16 f16 X16=>⟨true,rfl,λ_=>?_,λq=>Bool.noConfusion q⟩
  have M16:=M15.turn hp (by omega) (λi _ _ _ _ ic=>f16 i ic) (M15.2.1.eq (f16 1 (by omega))) X16 (Nat.le_refl _) (by omega)
  obtain⟨_,_,b9,hb9,a9⟩:=M16.rd hp
  refine⟨b9,0,hb9,⟨by omega,by omega⟩,_,by rw[Int.toNat_natCast];exact a9,?_⟩
  refine all_p2 (M16.2.2.1 _ _ hp) ls M16.2.1 (by omega) λh17 z17 N17 f17 B17 hN17=>⟨true,rfl,λ_=>?_,λq=>Bool.noConfusion q⟩
  rw[nx_i hjP (by omega)]
  exact⟨⟨j+1,z17,N17,rfl,hjP,M16.fx (λi i1 _=>f17 i i1) B17,by omega⟩,by dsimp only;omega⟩
 ·refine holdS M15.2.1 (by omega) λh18 z18 f18 B18=>⟨true,rfl,λ_=>?_,λq=>Bool.noConfusion q⟩
  exact hQ h18 (M15.fx (λi i1 _=>f18 i i1) B18).keep_all
end
end Go.Eng.YtbjnlacacapjiaaGreatDoor
end
section
namespace Go.Proofs.YtbjnlacacapjiaaGreatDoor.versionMany
open Go.ChangeShapes Go.WideShapes Go.ChangeAt Go.RowKit Go.Eng Go.Eng.YtbjnlacacapjiaaGreatDoor
theorem own:ownKnob Tryz.prog.godebug=none:=by kernel_rfl
theorem laidOut:laidOutB Tryz.prog=true:=by kernel_rfl
theorem door_met (os : Os) (args : Array Value) : laidMetH Tryz.prog [("math/bits.deBruijn32tab", Rows.laid_math_bits_deBruijn32tab), ("math/bits.deBruijn64tab", Rows.laid_math_bits_deBruijn64tab), ("internal/strconv.uint64pow10", Rows.laid_internal_strconv_uint64pow10)] ((World.doorLaid Tryz.prog 24 os).forCall (fun _ _ => 0) ⟨#[], args, []⟩).memory :=
 laidMetH_of_parts3 (fuel:=8) (laidMet_of_run' 8 (by kernel_rfl) (by kernel_rfl)) (by kernel_rfl) (by kernel_rfl)
theorem walk{a0:Int}{a1:Option Addr}{len1 cap1:Nat}{L:List Opr}{W:World}(TP:TabP (wh W)/\∀ i v,(wh W).at 1 i=some v->∃ x:Int,v=.int .u64 x)(R:(wh W).row a1 (len1*12) (opV L))(O:∀ x∈L,OpOk (wh W) x) :
  Calls Tryz.prog 4 #[.int .i64 a0,.slice a1 len1 cap1] W λe W'=>e=.returned (.bool true)/\Below W.heap.size W W':=by
 have hT:F4.TF a0 ⟨a1,len1,cap1⟩ (wh W) (λv h'=>v=.bool true/\Keep (wh W) h'):=many_law TP.1 TP.2 R O λh' K=>⟨rfl,K⟩
 have hV:F4.W F4.TF [.int .i64 a0,.slice a1 len1 cap1] (wh W) (λv h'=>v=.bool true/\Keep (wh W) h'):=hT
 refine(F4.okF.2 _ (wh W) _ hV (λ_=>none) W (own_wh W)).mono λe W' ⟨v,h',he,ho,hw,hv,K⟩=>?_
 subst hv
 exact⟨he,below_of hw ho K⟩
set_option maxRecDepth 100000 in
set_option maxHeartbeats 1000000 in
theorem lifted(os:Os)(started:os.Started)(H:Type)(enc:TypeId×Value->H) :
  ReturnsInHanded {} Tryz.checked os 4 .any (fun w args => (Rows.versionManySpec.pre enc Tryz.prog Tryz.f4 [] false w args ∧ laidMetH Tryz.prog [("math/bits.deBruijn32tab", Rows.laid_math_bits_deBruijn32tab), ("math/bits.deBruijn64tab", Rows.laid_math_bits_deBruijn64tab), ("internal/strconv.uint64pow10", Rows.laid_internal_strconv_uint64pow10)] w) ∧ sizedMet enc Tryz.prog Tryz.f4 (OpenSpec.ofChange Rows.versionManySpec) false w args)
   (Rows.versionManySpec.post enc Tryz.prog Tryz.f4 false true false false):=by
 refine returnsInHanded_of_change_and (C := Tryz.checked) (X := (fun w _ => laidMetH Tryz.prog [("math/bits.deBruijn32tab", Rows.laid_math_bits_deBruijn32tab), ("math/bits.deBruijn64tab", Rows.laid_math_bits_deBruijn64tab), ("internal/strconv.uint64pow10", Rows.laid_internal_strconv_uint64pow10)] w)) (fun _ _ _ hh h => h.of_heap hh) own started (by kernel_rfl) Tryz.func4
  (ChangeSpec.witness_shaped (enc := enc) (C := Tryz.checked) (os := os) (X := (fun w _ => laidMetH Tryz.prog [("math/bits.deBruijn32tab", Rows.laid_math_bits_deBruijn32tab), ("math/bits.deBruijn64tab", Rows.laid_math_bits_deBruijn64tab), ("internal/strconv.uint64pow10", Rows.laid_internal_strconv_uint64pow10)] w)) false (World.doorLaid Tryz.prog 24 os) #[.int .i64 0, .slice none 0 0] 8 rfl (World.shaped_of_RefB (by kernel_rfl) (by kernel_rfl)) (by kernel_rfl) (by kernel_rfl) (by kernel_rfl) (door_met os _)) ?_
 intro W base args ds gs before hval0 hW _ hsz0 hL _
 have hval:∀ (j:Nat) t v,Tryz.f4.params[j]?=some t->args[j]?=some v->Value.okWide Tryz.prog W .any base t v:=hval0
 have hsz:(DataW.weightsEach Tryz.prog (Tryz.f4.params.toList++Rows.versionManySpec.plain.varTypes Tryz.prog) (ds++gs)).all (·<=reachBytes)=true:=hsz0
 have hW':=hW
 obtain⟨p,q,hA0,hV,rfl,hfz,hnd⟩:=hW
 have hA:DataW.TrodAll enc Tryz.prog W 0 (λ_=>true) true Tryz.f4.params.toList args.toList ds p:=hA0
 rw[Tryz.params4] at hA hval
 obtain⟨v0,vs0,d0,ds0,p0,q0,hargs,rfl,rfl,h0,r0⟩:=trodAll_cons hA
 obtain⟨v1,vs1,d1,ds1,p1,q1,rfl,rfl,rfl,h1,r1⟩:=trodAll_cons r0
 obtain⟨rfl,rfl,rfl⟩:=trodAll_nil r1
 obtain rfl:args=#[v0,v1]:=by cases args;simp_all
 obtain⟨rfl,rfl⟩:=trodVars_none hV
 obtain⟨a0,rfl,rfl,rfl,w0⟩:=open_int Tryz.underlying3 (hval 0 3 v0 rfl rfl) h0
 obtain⟨a1,len1,cap1,rfl⟩:=okWide_slice Tryz.underlying22 (hval 1 22 v1 rfl rfl)
 have k1:=h1
 have lt1:∀ x∈p1,x.block<W.heap.size:=by obtain⟨m,hm⟩:=k1;exact DataW.trod_lt m _ _ _ hm
 have wb1:WB Tryz.prog 22 d1:=wb_arg (j:=1) hsz rfl rfl
 obtain⟨L,R,O⟩:=(by obtain⟨m,hm⟩:=k1;exact open_ops hm wb1:∃ L:List Opr,(wh W).row a1 (len1*12) (opV L)/\∀ x∈L,OpOk (wh W) x)
 clear hA0 hval0 hsz0
 refine(walk (tabs_of_laid hL) R O).mono λe W' ⟨he,bel⟩=>?_
 subst he
 exact⟨_,rfl,_,_,_,[],_,[],hW',trodAll_mk1 (shut_bool Tryz.underlying4 _),(trodAll_cons_mk (shut_int Tryz.underlying3 w0) (trodAll_cons_mk (Below.trod laidOut (by kernel_rfl) (of_decide_eq_true (by kernel_rfl)) k1 bel lt1) (trodAll_mk0))),rfl,bel.frame _,λh=>by cases h⟩
theorem over:Rows.VersionManySaid:=
 OpenClaim.holds_of_wide 4 Tryz.f4 rfl rfl rfl rfl rfl rfl rfl ⟨rfl,rfl,rfl,rfl,rfl⟩ rfl rfl rfl rfl rfl (by kernel_rfl) Tryz.func4 (by kernel_rfl)
  (of_decide_eq_true (by kernel_rfl)) (by unfold Func.isWrapper;first|(rw[if_pos (by decide +kernel)];kernel_rfl)|(rw[if_neg (by decide +kernel)];exact⟨rfl,rfl⟩))
  (λos started H enc _=>lifted os started H enc)
theorem proved:Rows.VersionManyCardSaid:=
 Claim7.holds_tied_plain_at .later [] [.data, .data, .data] true (true, "af3ffa9ca3836100681ca83e042dd22a5c27bab9e6b27c821f33dae9a1081175") false
  over (λ_ h=>by cases h) (by kernel_rfl) (λ_ h=>by cases h) versionMany_row_tie rfl ⟨rfl,rfl⟩ (by kernel_rfl) rfl
  (λf fn hf hfn=>by
   obtain rfl : f = 4 := Option.some.inj ((show Tryz.prog.funcNamed "scree/screelaw13.VersionMany" = some 4 by kernel_rfl).symm.trans hf) |>.symm
   obtain rfl:fn=Tryz.f4:=(Option.some.inj (Tryz.func4.symm.trans hfn)).symm
   exact⟨by kernel_rfl,λj t ht=>by
    rw[Tryz.params4] at ht
    have hm:t∈[3,22]:=by simpa using Array.mem_of_getElem? ht
    have hall:([3,22].all λu=>!Tryz.prog.wantsStandIn u)=true:=by kernel_rfl
    exact(show Tryz.prog.wantsStandIn t=false by simpa using List.all_eq_true.1 hall t hm)⟩)
  (by kernel_rfl)
#print axioms proved
end Go.Proofs.YtbjnlacacapjiaaGreatDoor.versionMany
end
