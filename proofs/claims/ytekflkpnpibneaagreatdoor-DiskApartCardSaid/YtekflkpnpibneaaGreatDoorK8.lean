
/-
  Proved: the law DiskApart answers true, whatever it is handed, and what it was handed reads behind the call as it read before. The card ties what the package tables hold at the start to the program's text; no other condition.
-/
import Derived.Test.YtekflkpnpibneaaGreatDoorK7
import Derived.Test.YtekflkpnpibneaaGreatDoorK4
import Derived.Test.YtekflkpnpibneaaGreatDoorK5
import Derived.Test.YtekflkpnpibneaaGreatDoorRows
import Derived.Test.YtekflkpnpibneaaGreatDoorCards
import Derived.Test.YtekflkpnpibneaaGreatDoorTie
import Derived.WalkKit
import Derived.ProofKit
import Derived.OpenShut
import Derived.ShutString
import Derived.ChangeOld
import Derived.Below
import Derived.SizedLaws
import Derived.LaidMore
import Derived.Stop.Joined
import Derived.SevenTiedAt
set_option linter.unusedSimpArgs false
set_option linter.unusedVariables false
set_option maxRecDepth 100000
open Go.IntKind (wrap)
open List (length_append length_map mem_of_getElem? getElem?_eq_getElem getElem?_map map_append mem_map_of_mem mem_append_left length_nil mem_cons mem_append mem_singleton append_nil nodup_append)
section
namespace Go.Eng
structure KI where
 c:Nat
 tL:Nat
 sz:Nat
 t:Nat
 bytes:Nat
 KD:(Nat->Sl->Prop)->Nat->Value->Prop
theorem kA3(c f:Nat):(kA c f).1≠3:=show(1:Nat)≠3 by decide
theorem kL3(c f:Nat):(kL c f).1≠3:=show(2:Nat)≠3 by decide
theorem kO3(c f:Nat):(kO c f).1≠3:=show(4:Nat)≠3 by decide
theorem Cols.mkd{KD KD':Nat->Value->Prop}{sz:Nat}{vs:List Value}(C:Cols KD sz vs)(h:∀ c v,KD c v->KD' c v):Cols KD' sz vs:=λi v e=>h _ v (C i v e)
theorem WOk.mkd{g:Hp}{m:Mem}{KD KD':Nat->Value->Prop}{c sz t bytes:Nat}{w:WL}(W:WOk g m KD c sz t bytes w)(h:∀ c v,KD c v->KD' c v):WOk g m KD' c sz t bytes w:=⟨W.1,W.2.1.mkd h,W.2.2⟩
theorem KE.mkd{g:Hp}{m:Mem}{KD KD':Nat->Value->Prop}{cs:List Value}{c s tL sz t bytes:Nat}{kept:List WL}{fr:List FR}{outs:List (Sl×Sl)}(E:KE g m cs KD c s tL sz t bytes kept fr outs)(h:∀ c v,KD c v->KD' c v):KE g m cs KD' c s tL sz t bytes kept fr outs:=
 ⟨E.a0,E.a1,E.a2,E.a3,E.a4,E.a5,E.a6,E.a7,λf hf=>⟨(E.f f hf).1,(E.f f hf).2.1.mkd h,(E.f f hf).2.2⟩,λp hp=>(E.o p hp).imp (λ⟨vs,a,b⟩=>⟨vs,a.mkd h,b⟩) id⟩
def KX(D:Nat->Sl->Prop)(g:Hp)(m:Mem)(cs:List Value)(k:KI)(N:Nat)(z:Prop):Prop:=∃ (kept:List WL) (fr:List FR) (outs:List (Sl×Sl)),KE g m cs (k.KD D) k.c (4+9*k.c) k.tL k.sz k.t k.bytes kept fr outs/\(∀ w∈kept,WOk g m (k.KD D) k.c k.sz k.t k.bytes w)/\(kept.map (·.id)++fr.map (·.id)).Nodup/\NoO m k.c/\2*kept.length+fr.length+outs.length<=2*N/\(∀ i,i∈kept.map (·.id)++fr.map (·.id)->i<N)/\(∀ i,N<=i->m (kL k.c i)=none)/\(∃ n:Int,cs[4+9*k.c+8]?=some (.int .i64 n))/\(z->fr=[])/\∀ p,D k.c p->(∃ w∈kept,w.s=p)\/∃ o∈outs,o.1=p
theorem KX.cong{D D':Nat->Sl->Prop}{g g':Hp}{m m':Mem}{cs cs':List Value}{k:KI}{N N':Nat}{z z':Prop}(X:KX D g m cs k N z)(hD:∀ p,D' k.c p->D k.c p)(hM:∀ c v,k.KD D c v->k.KD D' c v)(K:Keep g g')(hN:N<=N')(hz:z'->z)(hA:∀ f,m' (kA k.c f)=m (kA k.c f))(hL:∀ f,m' (kL k.c f)=m (kL k.c f))(hO:∀ f,m' (kO k.c f)=m (kO k.c f))(hc:∀ f,f<9->cs'[4+9*k.c+f]?=cs[4+9*k.c+f]?):KX D' g' m' cs' k N' z':=by
 obtain⟨kept,fr,outs,E,W,nd,ko,x1,x2,x3,x4,x5,x6⟩:=X
 exact⟨kept,fr,outs,(E.cong K hA (λf _=>hL _) (λf hf=>hc f (by omega))).mkd hM,λw hw=>((W w hw).keep K (hL _)).mkd hM,nd,⟨by rw[hO];exact ko.1,by rw[hO];exact ko.2.1,by rw[hO];exact ko.2.2.1,by rw[hO];exact ko.2.2.2⟩,by omega,λi hi=>Nat.lt_of_lt_of_le (x2 i hi) hN,λi hi=>by rw[hL];exact x3 i (by omega),by rw[hc 8 (by decide)];exact x4,λh=>x5 (hz h),λp hp=>x6 p (hD p hp)⟩
structure BkM(ks:List KI)(D:Nat->Sl->Prop)(N:Nat)(Z:Nat->Prop)(pb R tB:Nat)(d:Int)(g:Hp)(u:Mem)(h:Hp)(m:Mem)(cs:List Value):Prop where
 O:Mine g h m
 hb:m kB=some (bkF pb R tB cs)
 kt:m kT=none
 c0:cs[0]?=some (.bool false)
 c1:cs[1]?=some (.bool false)
 c2:∃ turn:Int,cs[2]?=some (.int .i64 turn)
 c3:cs[3]?=some (.int .i64 d)
 nn:∀ c,c<19->(∀ k∈ks,k.c≠c)->NoK cs (4+9*c)
 kk:∀ k∈ks,KX D g m cs k N (Z k.c)
 dk:∀ k∈ks,∀ k'∈ks,k.c=k'.c->k=k'
 uu:∀ j:Key,j.1=3->m j=u j
theorem BkM.step{ks:List KI}{D D':Nat->Sl->Prop}{N N':Nat}{Z Z':Nat->Prop}{pb R tB:Nat}{d d':Int}{g g':Hp}{u u':Mem}{h h':Hp}{m m':Mem}{cs cs':List Value}{k:KI}(B:BkM ks D N Z pb R tB d g u h m cs)(hD:∀ c,c≠k.c->∀ p,D' c p->D c p)(hM:∀ k∈ks,∀ c v,k.KD D c v->k.KD D' c v)(hk:k∈ks)(Kg:Keep g g')(O':Mine g' h' m')(hb':m' kB=some (bkF pb R tB cs'))(kt':m' kT=none)(X:KX D' g' m' cs' k N' (Z' k.c))(hN:N<=N')(hZ:∀ c,c≠k.c->Z' c->Z c)
  (hm:∀ j:Key,j≠kB->j.1≠3->(∀ f,j≠kA k.c f)->(∀ f,j≠kO k.c f)->(∀ i,j≠kL k.c i)->m' j=m j) (hu:∀ j:Key,j.1=3->m' j=u' j) (hc:∀ i,i≠3->(∀ f,f<9->i≠4+9*k.c+f)->cs'[i]?=cs[i]?) (c3':cs'[3]?=some (.int .i64 d')):BkM ks D' N' Z' pb R tB d' g' u' h' m' cs':=by
 refine⟨O',hb',kt',by rw[hc _ (by decide) (λf _=>by omega)];exact B.c0,by rw[hc _ (by decide) (λf _=>by omega)];exact B.c1,by rw[hc _ (by decide) (λf _=>by omega)];exact B.c2,c3',λc h19 hcc f hf=>?_,λk' hk'=>?_,B.dk,hu⟩
 ·have:k.c≠c:=hcc k hk
  rw[hc _ (by omega) (λf' _=>by omega)]
  exact B.nn c h19 hcc f hf
 ·by_cases e:k'.c=k.c
  ·rw[B.dk k' hk' k hk e];exact X
  ·exact(B.kk k' hk').cong (hD _ e) (hM k' hk') Kg hN (hZ _ e) (λf=>hm _ (kA_kB _ _) (kA3 _ _) (λf' q=>e (by unfold kA at q;simp only[Prod.mk.injEq] at q;exact q.2.1)) (λf' q=>by cases q) (λf' q=>by cases q)) (λf=>hm _ (kL_kB _ _) (kL3 _ _) (λf' q=>by cases q) (λf' q=>by cases q) (λf' q=>e (by unfold kL at q;simp only[Prod.mk.injEq] at q;exact q.2.1))) (λf=>hm _ (kO_kB _ _) (kO3 _ _) (λf' q=>by cases q) (λf' q=>e (by unfold kO at q;simp only[Prod.mk.injEq] at q;exact q.2.1)) (λf' q=>by cases q)) (λf hf=>hc _ (by omega) (λf' _=>by omega))
def Bk(ks:List KI)(D:Nat->Sl->Prop)(N:Nat)(Z:Nat->Prop)(pb R tB:Nat)(d:Int)(g0:Hp)(u:Mem)(h:Hp):Prop:=∃ g m cs,Keep g0 g/\BkM ks D N Z pb R tB d g u h m cs
section
variable{ks:List KI}{DS:Nat->Sl->Prop}{N:Nat}{Z:Nat->Prop}{pb R tB:Nat}{d:Int}{g0:Hp}{u:Mem}{h:Hp}{k:KI}{Q:Value->Hp->Prop}{zs:List Value}
theorem Bk.mono{Z':Nat->Prop}(B:Bk ks DS N Z pb R tB d g0 u h)(hZ:∀ k∈ks,Z' k.c->Z k.c):Bk ks DS N Z' pb R tB d g0 u h:=by
 obtain⟨g,m,cs,K,M⟩:=B
 exact⟨g,m,cs,K,M.O,M.hb,M.kt,M.c0,M.c1,M.c2,M.c3,M.nn,λk hk=>(M.kk k hk).cong (λ_ h=>h) (λ_ _ h=>h) (Keep.refl g) (Nat.le_refl _) (hZ k hk) (λ_=>rfl) (λ_=>rfl) (λ_=>rfl) (λ_ _=>rfl),M.dk,M.uu⟩
theorem Bk.keepH{h':Hp}(B:Bk ks DS N Z pb R tB d g0 u h)(K':Keep h h'):Bk ks DS N Z pb R tB d g0 u h':=by
 obtain⟨g,m,cs,K,M⟩:=B
 exact⟨g,m,cs,K,M.O.keepH K',M.hb,M.kt,M.c0,M.c1,M.c2,M.c3,M.nn,M.kk,M.dk,M.uu⟩
def addD(D:Nat->Sl->Prop)(c:Nat)(l:Sl):Nat->Sl->Prop:=λc' p=>D c' p\/(c'=c/\p=l)
def kU(a b:Nat):Key:=(3,a,b)
theorem Bk.own{h':Hp}{a b:Nat}{s:Sl}{sz t:Nat}{vs:List Value}(B:Bk ks DS N Z pb R tB d g0 u h)(hu:u (kU a b)=none)(K':Keep h h')(hN:NewB h s)(hB:Buf h' s sz t vs):Bk ks DS N Z pb R tB d g0 (u.put (kU a b) ⟨s,sz,t,vs⟩) h':=by
 obtain⟨g,m,cs,K,M⟩:=B
 have ne:∀ j:Key,j.1≠3->(m.put (kU a b) ⟨s,sz,t,vs⟩) j=m j:=λj hj=>put_ne _ _ (λq=>hj (by rw[q];rfl))
 refine⟨g,m.put (kU a b) ⟨s,sz,t,vs⟩,cs,K,M.O.add (by rw[M.uu _ rfl];exact hu) K' hN hB,by rw[ne _ (by decide)];exact M.hb,by rw[ne _ (by decide)];exact M.kt,M.c0,M.c1,M.c2,M.c3,M.nn,λk hk=>(M.kk k hk).cong (λ_ h=>h) (λ_ _ h=>h) (Keep.refl g) (Nat.le_refl _) id (λ_=>ne _ (kA3 _ _)) (λ_=>ne _ (kL3 _ _)) (λ_=>ne _ (kO3 _ _)) (λ_ _=>rfl),M.dk,λj hj=>?_⟩
 by_cases e:j=kU a b
 ·rw[e,put_self,put_self]
 ·rw[put_ne _ _ e,put_ne _ _ e];exact M.uu j hj
theorem Bk.buf{a b:Nat}{x:Bf}(B:Bk ks DS N Z pb R tB d g0 u h)(hu:u (kU a b)=some x):Buf h x.s x.sz x.t x.vs:=by
 obtain⟨g,m,cs,K,M⟩:=B
 exact M.O.buf (kU a b) x (by rw[M.uu _ rfl];exact hu)
theorem Bk.nilMark{c:Nat}{s:Nat}(es:s=4+9*c)(B:Bk ks DS N Z pb R tB d g0 u h)(hc:c<19)(hk:∀ k∈ks,k.c≠c)(hQ:Q (.tuple ⟨[]⟩) h):nilMarkT pb s h Q:=by
 subst es
 obtain⟨g,m,cs,K,M⟩:=B
 exact nil_mark M.O M.hb (M.nn c hc hk) hQ
theorem Bk.nilGrow{c:Nat}{s:Nat}(es:s=4+9*c)(B:Bk ks DS N Z pb R tB d g0 u h)(hc:c<19)(hk:∀ k∈ks,k.c≠c)(hQ:∀ h',Bk ks DS N Z pb R tB d g0 u h'->Q (.tuple ⟨[]⟩) h'):nilGrowT pb s h Q:=by
 subst es
 obtain⟨g,m,cs,K,M⟩:=B
 exact nil_grow M.O M.hb (M.nn c hc hk) λh' O'=>hQ h' ⟨g,m,cs,K,O',M.hb,M.kt,M.c0,M.c1,M.c2,M.c3,M.nn,M.kk,M.dk,M.uu⟩
theorem Bk.nilKeep{c:Nat}{s:Nat}(es:s=4+9*c)(B:Bk ks DS N Z pb R tB d g0 u h)(hc:c<19)(hk:∀ k∈ks,k.c≠c)(hQ:Q (.bool true) h):nilKeepT pb s h Q:=by
 subst es
 obtain⟨g,m,cs,K,M⟩:=B
 exact nil_keep M.O M.hb (M.nn c hc hk) hQ
def RYk(ks:List KI)(D:Nat->Sl->Prop)(c:Nat)(h:Hp):Prop:=∀ k∈ks,k.c≠c->∀ p,D k.c p->p.n<=140737488355328/\∃ vs,Cols (k.KD D) k.sz vs/\h.row p.a (p.n*k.sz) vs
theorem KX.rd{g g' h':Hp}{m m':Mem}{cs:List Value}{z:Prop}(X:KX DS g m cs k N z)(K:Keep g g')(O:Mine g' h' m')(hL:∀ i,m' (kL k.c i)=m (kL k.c i))(hby:0<k.bytes){p:Sl}(hp:DS k.c p):p.n<=140737488355328/\∃ vs,Cols (k.KD DS) k.sz vs/\h'.row p.a (p.n*k.sz) vs:=by
 obtain⟨kept,fr,outs,E,W,nd,ko,x1,x2,x3,x4,x5,x6⟩:=X
 have le:∀ n:Nat,(n+150)*k.bytes<=140737488355328->n<=140737488355328:=λn hn=>Nat.le_trans (Nat.le_add_right _ 150) (Nat.le_trans (Nat.le_mul_of_pos_right _ hby) hn)
 rcases x6 p hp with⟨w,hw,rfl⟩|⟨o,ho,rfl⟩
 ·obtain⟨a1,a2,a3,_⟩:=W w hw
  exact⟨le _ a3,_,a2,(O.buf (kL k.c w.id) _ (by rw[hL];exact a1)).row⟩
 ·rcases E.o o ho with⟨vs,a,b,_,_,e⟩|⟨f,hf,rfl⟩
  ·exact⟨e,vs,a,O.keep.row (K.row b)⟩
  ·obtain⟨a1,a2,a3,_⟩:=E.f f hf
   exact⟨le _ a3,_,a2,(O.buf (kL k.c f.id) _ (by rw[hL];exact a1)).row⟩
theorem Bk.mark{s:Nat}(es:s=4+9*k.c){S:Sl->Sl->Hp->(Value->Hp->Prop)->Prop}{OF:Int->Nat}{WR:Int->Int->Hp->(List Value->Hp->Prop)->Prop}(hk:k∈ks)(B:Bk ks DS N Z pb R tB d g0 u h)(hN:N<=10000000000)(hS:∀ l l' (h:Hp) vs K,Cols (k.KD DS) k.sz vs->h.row l.a (l.n*k.sz) vs->h.row l'.a (l'.n*k.sz) vs->l.n=l'.n->l.n<=140737488355328->RYk ks DS k.c h->K (.bool true) h->S l l' h K)
  (hsz:0<k.sz) (hOF:∀ i:Nat,OF (i:Int)=i*k.sz) (hWR:∀ a i h' K,Keep g0 h'->(∀ h'' us,Keep h' h''->us.length=k.sz->Cols (k.KD DS) k.sz us->K us h'')->WR a i h' K) (hKD:∀ c v,(k.KD DS) c v->Value.oneCell' v=true) (hz:zs.length=k.sz) (hby:∀ k∈ks,0<k.bytes) (hQ:∀ h',Bk ks DS N (λ_=>False) pb R tB d g0 u h'->Q (.tuple ⟨[]⟩) h'):markT pb s k.tL k.t k.sz k.bytes zs OF WR S h Q:=by
 subst es
 obtain⟨g,m,cs,K,M⟩:=B
 obtain⟨kept,fr,outs,E,W,nd,ko,x1,x2,x3,x4,x5,x6⟩:=M.kk k hk
 obtain⟨turn,c2⟩:=M.c2
 refine mark_k (RY:=RYk ks DS k.c) hS hsz hOF (λa i h' K' k=>hWR a i h' K' (K.trans k)) hKD hz (by omega) (hby k hk) M.O M.hb M.kt ko M.c0 M.c1 c2 E W nd (by omega) (by omega) (by omega) (λh' g' m' Kg O' hm k' hk' hne p hp=>(M.kk k' hk').rd Kg O' (λi=>hm _ (kL_kB _ _) (λ_=>kL_kA _ _ _ _) (λ_=>Ne.symm (kO_kL _ _ _ _)) (λw _ q=>hne (by unfold kL at q;simp only[Prod.mk.injEq] at q;exact q.2.1))) (hby k' hk') hp) λh' g' m' cs' kept' fr' outs' Kg O' hb' kt' ko' E' W' nd' hid hl ho hw1 hw2 hm hc=>hQ h' ⟨g',m',cs',K.trans Kg,M.step (λ_ _ _ h=>h) (λ_ _ _ _ h=>h) hk Kg O' hb' kt' ⟨kept',fr',outs',E',W',nd',ko',by omega,λi hi=>?_,λi hi=>?_,?_,λq=>q.elim,λp hp=>?_⟩ (Nat.le_refl _) (λ_ _ q=>q.elim) (λj h1 _ h2 h3 h4=>hm j h1 h2 h3 (λw _=>h4 _)) (λj hj=>?_) (λi h3 hi=>hc i λf hf=>hi f (by omega)) ?_⟩
 ·have:=hid i hi
  exact x2 i this
 ·rw[hm _ (kL_kB _ _) (λ_=>kL_kA _ _ _ _) (λ_=>Ne.symm (kO_kL _ _ _ _)) (λw hw q=>?_)]
  ·exact x3 i hi
  ·have q2:i=w.id:=by unfold kL at q;simpa using q
   have:=x2 w.id (mem_append_left _ (mem_map_of_mem (f:=λx:WL=>x.id) hw))
   omega
 ·rw[hc _ (λf hf=>by omega)];exact x4
 ·rcases x6 p hp with⟨w,hw,rfl⟩|⟨o,ho,rfl⟩
  ·exact(hw1 w hw).imp (λq=>⟨w,q,rfl⟩) id
  ·exact .inr ⟨o,hw2 o ho,rfl⟩
 ·rw[hm j (λq=>by rw[q] at hj;cases hj) (λf q=>by rw[q] at hj;cases hj) (λf q=>by rw[q] at hj;cases hj) (λw _ q=>by rw[q] at hj;cases hj)]
  exact M.uu j hj
 ·rw[hc _ (λf hf=>by omega)];exact M.c3
theorem Bk.grow{s M:Nat}(hM:M<=150)(es:s=4+9*k.c){WR:Int->Int->Hp->(List Value->Hp->Prop)->Prop}(hk:k∈ks)(B:Bk ks DS N Z pb R tB d g0 u h)(hN:N<=10000000000)(hWR:∀ a i h' K,Keep g0 h'->(∀ h'' us,Keep h' h''->us.length=k.sz->Cols (k.KD DS) k.sz us->K us h'')->WR a i h' K)(hKD:∀ c v,(k.KD DS) c v->Value.oneCell' v=true)(hby:0<k.bytes)(hz:zs.length=k.sz)(hQ:∀ h',Bk ks DS N (λc=>Z c\/c=k.c) pb R tB d g0 u h'->Q (.tuple ⟨[]⟩) h'):growT pb s k.tL k.t k.sz k.bytes M zs WR h Q:=by
 subst es
 obtain⟨g,m,cs,K,X⟩:=B
 obtain⟨kept,fr,outs,E,W,nd,ko,x1,x2,x3,x4,x5,x6⟩:=X.kk k hk
 obtain⟨A4,m4,e4⟩:=E.a4
 obtain⟨A7,m7,e7⟩:=E.a7
 have ndf:(fr.map (·.id)).Nodup:=(nodup_append.1 nd).2.1
 have G:GrS g m cs (k.KD DS) pb R tB k.c (4+9*k.c) k.tL k.sz k.t k.bytes A4 A7 fr fr outs:=⟨X.hb,X.kt,E.a0,E.a1,⟨m4,e4⟩,⟨m7,e7⟩,E.f,ndf,E.o⟩
 refine grow_k hM X.O G (λa i h' K' k=>hWR a i h' K' (K.trans k)) hKD hby hz (by omega) (by omega) λh' g' m' cs' outs' Kg O' hb' kt' a0 a1 z4 z7 ho hio hl hm hc=>?_
 have O2:=(((O'.del (kA k.c 4)).nil (k:=kA k.c 4) (del_self _ _) 1 k.tL).del (kA k.c 7)).nil (k:=kA k.c 7) (del_self _ _) 1 3
 have ne:∀ j,j≠kA k.c 4->j≠kA k.c 7->(((((m'.del (kA k.c 4)).put (kA k.c 4) ⟨⟨none,0,0⟩,1,k.tL,[]⟩).del (kA k.c 7)).put (kA k.c 7) ⟨⟨none,0,0⟩,1,3,[]⟩)) j=m' j:=λj h4 h7=>by rw[put_ne _ _ h7,del_ne _ h7,put_ne _ _ h4,del_ne _ h4]
 have v4:(((((m'.del (kA k.c 4)).put (kA k.c 4) ⟨⟨none,0,0⟩,1,k.tL,[]⟩).del (kA k.c 7)).put (kA k.c 7) ⟨⟨none,0,0⟩,1,3,[]⟩)) (kA k.c 4)=some ⟨⟨none,0,0⟩,1,k.tL,[]⟩:=by rw[put_ne _ _ (kA_ne (by decide)),del_ne _ (kA_ne (by decide)),put_self]
 have v7:=put_self (((m'.del (kA k.c 4)).put (kA k.c 4) ⟨⟨none,0,0⟩,1,k.tL,[]⟩).del (kA k.c 7)) (kA k.c 7) ⟨⟨none,0,0⟩,1,3,[]⟩
 generalize ((((m'.del (kA k.c 4)).put (kA k.c 4) ⟨⟨none,0,0⟩,1,k.tL,[]⟩).del (kA k.c 7)).put (kA k.c 7) ⟨⟨none,0,0⟩,1,3,[]⟩)=m2 at O2 ne v4 v7
 have oth:∀ f,f≠0->f≠1->f≠4->f≠7->m2 (kA k.c f)=m (kA k.c f):=λf h0 h1 h4 h7=>by rw[ne _ (kA_ne h4) (kA_ne h7),hm _ (kA_kB _ _) (kA_ne h0) (kA_ne h1) (λf _=>Ne.symm (kL_kA _ _ _ _))]
 have oL:∀ i,(∀ f∈fr,f.id≠i)->m2 (kL k.c i)=m (kL k.c i):=λi hi=>by rw[ne _ (kL_kA _ _ _ _) (kL_kA _ _ _ _),hm _ (kL_kB _ _) (kL_kA _ _ _ _) (kL_kA _ _ _ _) (λf hf q=>hi f hf (by unfold kL at q;simp only[Prod.mk.injEq] at q;exact q.2.2.symm))]
 have ap:∀ w∈kept,∀ f∈fr,f.id≠w.id:=λw hw f hf q=>(nodup_append.1 nd).2.2 _ (mem_map_of_mem (f:=λx:WL=>x.id) hw) _ (mem_map_of_mem (f:=λx:FR=>x.id) hf) q.symm
 have oO:∀ i,m2 (kO k.c i)=m (kO k.c i):=λi=>by rw[ne _ (kO_kA _ _ _ _) (kO_kA _ _ _ _),hm _ (kO_kB _ _) (kO_kA _ _ _ _) (kO_kA _ _ _ _) (λf _=>kO_kL _ _ _ _)]
 have cc:∀ f,f≠0->f≠1->f≠4->f≠7->cs'[4+9*k.c+f]?=cs[4+9*k.c+f]?:=λf h0 h1 h4 h7=>hc _ (by omega) (by omega) (by omega) (by omega)
 refine hQ h' ⟨g',m2,cs',K.trans Kg,X.step (λ_ _ _ h=>h) (λ_ _ _ _ h=>h) hk Kg O2 ?_ ?_ ⟨kept,[],outs',⟨?_,?_,?_,?_,?_,?_,?_,?_,λf hf=>(by cases hf),λp hp=>.inl (ho p hp)⟩,λw hw=>(W w hw).keep Kg (oL _ (ap w hw)),?_,⟨by rw[oO];exact ko.1,by rw[oO];exact ko.2.1,by rw[oO];exact ko.2.2.1,by rw[oO];exact ko.2.2.2⟩,by rw[length_nil];omega,λi hi=>x2 i ?_,λi hi=>?_,?_,λ_=>rfl,λp hp=>(x6 p hp).imp id λ⟨o,ho,e⟩=>⟨o,hio o ho,e⟩⟩ (Nat.le_refl _) (λc hcc q=>q.resolve_right hcc) (λj h1 h3 h2 h5 h4=>?_) (λj hj=>?_) (λi h3 hi=>hc i (hi 0 (by decide)) (hi 1 (by decide)) (hi 4 (by decide)) (hi 7 (by decide))) ?_⟩
 ·rw[ne _ (Ne.symm (kA_kB _ _)) (Ne.symm (kA_kB _ _))];exact hb'
 ·rw[ne _ (λq=>by cases q) (λq=>by cases q)];exact kt'
 ·rw[ne _ (kA_ne (by decide)) (kA_ne (by decide))];exact a0
 ·rw[ne _ (kA_ne (by decide)) (kA_ne (by decide))];exact a1
 ·rw[oth _ (by decide) (by decide) (by decide) (by decide),cc _ (by decide) (by decide) (by decide) (by decide)];exact E.a2
 ·rw[oth _ (by decide) (by decide) (by decide) (by decide),cc _ (by decide) (by decide) (by decide) (by decide)];exact E.a3
 ·exact⟨_,v4,z4⟩
 ·rw[oth _ (by decide) (by decide) (by decide) (by decide),cc _ (by decide) (by decide) (by decide) (by decide)];exact E.a5
 ·rw[oth _ (by decide) (by decide) (by decide) (by decide),cc _ (by decide) (by decide) (by decide) (by decide)];exact E.a6
 ·exact⟨_,v7,z7⟩
 ·rw[List.map_nil,append_nil];exact(nodup_append.1 nd).1
 ·rw[List.map_nil,append_nil] at hi;exact mem_append_left _ hi
 ·rw[oL _ (λf hf q=>?_)]
  ·exact x3 i hi
  ·have:=x2 f.id (List.mem_append_right _ (mem_map_of_mem (f:=λx:FR=>x.id) hf))
   omega
 ·rw[cc _ (by decide) (by decide) (by decide) (by decide)];exact x4
 ·rw[ne _ (h2 _) (h2 _),hm _ h1 (h2 _) (h2 _) (λf _=>h4 _)]
 ·rw[ne _ (λq=>by rw[q] at hj;cases hj) (λq=>by rw[q] at hj;cases hj),hm _ (λq=>by rw[q] at hj;cases hj) (λq=>by rw[q] at hj;cases hj) (λq=>by rw[q] at hj;cases hj) (λf _ q=>by rw[q] at hj;cases hj)]
  exact X.uu j hj
 ·rw[hc _ (by omega) (by omega) (by omega) (by omega)];exact X.c3
theorem Bk.hold{s:Nat}(es:s=4+9*k.c)(hby:∀ k∈ks,0<k.bytes){S:Sl->Sl->Hp->(Value->Hp->Prop)->Prop}(hk:k∈ks)(hS:∀ l l' (h:Hp) vs K,Cols (k.KD DS) k.sz vs->h.row l.a (l.n*k.sz) vs->h.row l'.a (l'.n*k.sz) vs->l.n=l'.n->l.n<=140737488355328->RYk ks DS k.c h->K (.bool true) h->S l l' h K)(B:Bk ks DS N Z pb R tB d g0 u h)(hN:N<=10000000000)(hZ:Z k.c)(hQ:Q (.bool true) h):holdT pb s S h Q:=by
 subst es
 obtain⟨g,m,cs,K,M⟩:=B
 obtain⟨kept,fr,outs,E,W,nd,ko,x1,x2,x3,x4,x5,x6⟩:=M.kk k hk
 have:=x5 hZ
 subst this
 obtain⟨A0,p0,q0⟩:=E.a0
 obtain⟨A1,p1,q1⟩:=E.a1
 obtain⟨A2,p2,q2⟩:=E.a2
 obtain⟨A3,p3,q3⟩:=E.a3
 refine hold_k (RY:=RYk ks DS k.c) (λk' hk' hne p hp=>(M.kk k' hk').rd (Keep.refl g) M.O (λ_=>rfl) (hby k' hk') hp) (KD:=(k.KD DS)) (c:=k.c) (ws:=kept) (outs:=outs) hS M.O M.hb (by rw[List.map_map];exact p0) q0 (by rw[List.map_map];exact p1) q1 (by rw[List.map_map];exact p2) q2 (by rw[List.map_map];exact p3) q3 (λp hp=>?_) (λw hw=>?_) (by omega) (by omega) hQ
 ·rcases E.o p hp with h|⟨f,hf,_⟩
  ·exact h
  ·cases hf
 ·obtain⟨a1,a2,a3,a4,a5⟩:=W w hw
  exact⟨a2,(M.O.buf _ _ a1).row,a4,a5,Nat.le_trans (Nat.le_add_right _ 150) (Nat.le_trans (Nat.le_mul_of_pos_right _ (hby k hk)) a3)⟩
theorem Bk.addB{d':Int}{s:Nat}(es:s=4+9*k.c){a b:Nat}{l:Sl}{vs:List Value}{mark:Int}{U:Int->Hp->(Value->Hp->Prop)->Prop}{D:Hp->(Value->Hp->Prop)->Prop}(hk:k∈ks)(B:Bk ks DS N Z pb R tB d g0 u h)(hN:N<=10000000000)(hu:u (kU a b)=some ⟨l,k.sz,k.t,vs⟩)(hv:Cols (k.KD DS) k.sz vs)(hKD:∀ c v,(k.KD DS) c v->Value.oneCell' v=true)(hz:zs.length=k.sz)(hn:(l.n+150)*k.bytes<=140737488355328)(hM:∀ k'∈ks,∀ c v,k'.KD DS c v->k'.KD (addD DS k.c l) c v)
  (hU:∀ (turn n:Int) h9 K,h9.at pb (0+0)=some (.bool false)->h9.at pb (0+2)=some (.int .i64 turn)->(∀ d,K (.int .i64 d) h9)->U n h9 K)
  (hD:∀ h' Q,Bk ks (addD DS k.c l) (N+1) Z pb R tB d g0 (u.del (kU a b)) h'->(∀ h'',Bk ks (addD DS k.c l) (N+1) Z pb R tB d' g0 (u.del (kU a b)) h''->Q (.tuple ⟨[]⟩) h'')->D h' Q)
  (hQ:∀ h',Bk ks (addD DS k.c l) (N+1) Z pb R tB d' g0 (u.del (kU a b)) h'->Q (.tuple ⟨[]⟩) h'):addB pb s k.tL k.t k.sz k.bytes zs l mark U D h Q:=by
 subst es
 obtain⟨g,m,cs,K,M⟩:=B
 obtain⟨kept,fr,outs,E,W,nd,ko,x1,x2,x3,⟨seen,x4⟩,x5,x6⟩:=M.kk k hk
 obtain⟨turn,c2⟩:=M.c2
 obtain⟨A2,m2,e2⟩:=E.a2
 obtain⟨A3,m3,e3⟩:=E.a3
 obtain⟨A5,m5,e5⟩:=E.a5
 obtain⟨A6,m6,e6⟩:=E.a6
 have hv':=hv.mkd (hM k hk)
 have E':=E.mkd (hM k hk)
 have W':∀ w∈kept,_:=λw hw=>(W w hw).mkd (hM k hk)
 have O1:=M.O.move (k:=kU a b) (k':=kL k.c N) (by rw[M.uu _ rfl];exact hu) (x3 N (Nat.le_refl _))
 have ne:∀ j:Key,j.1≠3->j≠kL k.c N->((m.del (kU a b)).put (kL k.c N) ⟨l,k.sz,k.t,vs⟩) j=m j:=λj h1 h2=>by rw[put_ne _ _ h2,del_ne _ (λq=>h1 (by rw[q];rfl))]
 have lt:∀ i,i∈kept.map (·.id)++fr.map (·.id)->i≠N:=λi hi=>by have:=x2 i hi;omega
 have un:∀ j:Key,j.1=3->((m.del (kU a b)).put (kL k.c N) ⟨l,k.sz,k.t,vs⟩) j=(u.del (kU a b)) j:=λj hj=>by
  rw[put_ne _ _ (λq=>by rw[q] at hj;cases hj)]
  by_cases e:j=kU a b
  ·rw[e,del_self,del_self]
  ·rw[del_ne _ e,del_ne _ e];exact M.uu j hj
 have hl:=put_self (m.del (kU a b)) (kL k.c N) ⟨l,k.sz,k.t,vs⟩
 generalize (m.del (kU a b)).put (kL k.c N) ⟨l,k.sz,k.t,vs⟩=m1 at O1 ne un hl
 have hn':l.n*k.bytes<=140737488355328:=Nat.le_trans (Nat.mul_le_mul_right _ (by omega)) hn
 refine add_k (c:=k.c) (id:=N) (turn:=turn) (hU turn) O1 (by rw[ne _ (by decide) (Ne.symm (kL_kB _ _))];exact M.hb) (by rw[ne _ (by decide) (λq=>by cases q)];exact M.kt) (by omega) M.c0 c2 x4 (by rw[ne _ (kA3 _ _) (Ne.symm (kL_kA _ _ _ _))];exact m2) e2 (by rw[ne _ (kA3 _ _) (Ne.symm (kL_kA _ _ _ _))];exact m3) e3 (by rw[ne _ (kA3 _ _) (Ne.symm (kL_kA _ _ _ _))];exact m5) e5 (by rw[ne _ (kA3 _ _) (Ne.symm (kL_kA _ _ _ _))];exact m6) e6 (by rw[length_map];omega) (by rw[length_map];omega) (by rw[length_map];omega) (by rw[length_map];omega) hl (hv.one hKD) hz hn' λh' g' m' cs' nt due Kg O' hb' X rnt hnt=>hD h' _ ?_ λh'' B''=>hQ h'' B''
 have XA:∀ f,f≠2->f≠3->f≠5->f≠6->m' (kA k.c f)=m (kA k.c f):=λf h2 h3 h5 h6=>by rw[X.mem _ (kA_kB _ _) (kA_ne h2) (kA_ne h3) (kA_ne h5) (kA_ne h6),ne _ (kA3 _ _) (Ne.symm (kL_kA _ _ _ _))]
 have XL:∀ i,i≠N->m' (kL k.c i)=m (kL k.c i):=λi hi=>by rw[X.mem _ (kL_kB _ _) (kL_kA _ _ _ _) (kL_kA _ _ _ _) (kL_kA _ _ _ _) (kL_kA _ _ _ _),ne _ (kL3 _ _) (λq=>hi (by unfold kL at q;simpa using q))]
 have XO:∀ i,m' (kO k.c i)=m (kO k.c i):=λi=>by rw[X.mem _ (kO_kB _ _) (kO_kA _ _ _ _) (kO_kA _ _ _ _) (kO_kA _ _ _ _) (kO_kA _ _ _ _),ne _ (kO3 _ _) (kO_kL _ _ _ _)]
 have cc:∀ f,f≠2->f≠3->f≠5->f≠6->f≠8->cs'[4+9*k.c+f]?=cs[4+9*k.c+f]?:=λf h2 h3 h5 h6 h8=>X.rest _ (by omega) (by omega) (by omega) (by omega) (by omega)
 refine⟨g',m',cs',K.trans Kg,M.step (λc hc p hp=>hp.elim id λq=>absurd q.1 hc) hM hk Kg O' hb' ?_ ⟨kept++[⟨N,l,nt,vs,mark,due⟩],fr,outs,⟨?_,?_,by rw[map_append];exact X.a2,by rw[map_append];exact X.a3,?_,by rw[map_append];exact X.a5,by rw[map_append];exact X.a6,?_,λf hf=>(E'.f f hf).keep Kg (XL _ (lt _ (List.mem_append_right _ (mem_map_of_mem (f:=λx:FR=>x.id) hf)))),λp hp=>(E'.o p hp).imp (Fz.keep Kg) id⟩,λw hw=>?_,?_,⟨by rw[XO];exact ko.1,by rw[XO];exact ko.2.1,by rw[XO];exact ko.2.2.1,by rw[XO];exact ko.2.2.2⟩,by rw[length_append,List.length_singleton];omega,λi hi=>?_,λi hi=>by rw[XL _ (by omega)];exact x3 i (by omega),⟨_,X.seen⟩,x5,λp hp=>?_⟩ (by omega) (λc _ q=>q) (λj h1 h3 h2 h5 h4=>?_) (λj hj=>?_) (λi h3 hi=>X.rest i (hi 2 (by decide)) (hi 3 (by decide)) (hi 5 (by decide)) (hi 6 (by decide)) (hi 8 (by decide))) (by rw[X.rest _ (by omega) (by omega) (by omega) (by omega) (by omega)];exact M.c3)⟩
 ·rw[X.mem _ (λq=>by cases q) (λq=>by cases q) (λq=>by cases q) (λq=>by cases q) (λq=>by cases q),ne _ (by decide) (λq=>by cases q)];exact M.kt
 ·rw[XA _ (by decide) (by decide) (by decide) (by decide),cc _ (by decide) (by decide) (by decide) (by decide) (by decide)];exact E.a0
 ·rw[XA _ (by decide) (by decide) (by decide) (by decide),cc _ (by decide) (by decide) (by decide) (by decide) (by decide)];exact E.a1
 ·rw[XA _ (by decide) (by decide) (by decide) (by decide),cc _ (by decide) (by decide) (by decide) (by decide) (by decide)];exact E.a4
 ·rw[XA _ (by decide) (by decide) (by decide) (by decide),cc _ (by decide) (by decide) (by decide) (by decide) (by decide)];exact E.a7
 ·rcases mem_append.1 hw with hw|hw
  ·exact(W' w hw).keep Kg (XL _ (lt _ (mem_append_left _ (mem_map_of_mem (f:=λx:WL=>x.id) hw))))
  ·rw[mem_singleton] at hw
   subst hw
   exact⟨by rw[X.mem _ (kL_kB _ _) (kL_kA _ _ _ _) (kL_kA _ _ _ _) (kL_kA _ _ _ _) (kL_kA _ _ _ _)];exact hl,hv',hn,rnt,hnt.symm⟩
 ·rw[map_append,show kept.map (·.id)++List.map (·.id) [(⟨N,l,nt,vs,mark,due⟩:WL)]++fr.map (·.id)=kept.map (·.id)++N::fr.map (·.id) by simp]
  exact(List.perm_middle.nodup_iff).2 (List.nodup_cons.2 ⟨λq=>lt N q rfl,nd⟩)
 ·simp only[map_append,mem_append,List.map_cons,List.map_nil,mem_singleton] at hi x2
  rcases hi with(hi|hi)|hi
  ·have:=x2 i (.inl hi);omega
  ·omega
  ·have:=x2 i (.inr hi);omega
 ·rcases hp with hp|⟨_,rfl⟩
  ·exact(x6 p hp).imp (λ⟨w,hw,e⟩=>⟨w,mem_append_left _ hw,e⟩) id
  ·exact .inl ⟨_,List.mem_append_right _ (mem_singleton.2 rfl),rfl⟩
 ·rw[X.mem _ h1 (h2 _) (h2 _) (h2 _) (h2 _),ne _ h3 (h4 _)]
 ·rw[X.mem _ (λq=>by rw[q] at hj;cases hj) (λq=>by rw[q] at hj;cases hj) (λq=>by rw[q] at hj;cases hj) (λq=>by rw[q] at hj;cases hj) (λq=>by rw[q] at hj;cases hj)]
  exact un j hj
@[reducible] def doneT(pb:Nat)(A B:Hp->(Value->Hp->Prop)->Prop)(h:Hp)(Q:Value->Hp->Prop):Prop:=
 dr (some ⟨pb,0,none⟩) λb o=>ldI .i64 h b (o+3) λn=>dr (some ⟨pb,0,none⟩) λb1 o1=>st h b1 (o1+3) 1 [.int .i64 (wrap .i64 (n-1))] λh1=>dr (some ⟨pb,0,none⟩) λb2 o2=>ldI .i64 h1 b2 (o2+3) λn1=>par ((0:Int)<n1) (Q (.tuple ⟨[]⟩) h1) (A h1 λr h2=>B h2 λr1 h3=>dr (some ⟨pb,0,none⟩) λb3 o3=>ldI .i64 h3 b3 (o3+2) λn2=>dr (some ⟨pb,0,none⟩) λb4 o4=>st h3 b4 (o4+2) 1 [.int .i64 (wrap .i64 (n2+1))] λh4=>Q (.tuple ⟨[]⟩) h4)
theorem Bk.setC{i:Nat}{x v:Value}{d':Int}{g:Hp}{m:Mem}{cs:List Value}(M:BkM ks DS N Z pb R tB d g u h m cs)(hx:cs[i]?=some x)(hi:i=2\/i=3)(h2:i=2->d'=d/\∃ n:Int,v=.int .i64 n)(h3:i=3->v=.int .i64 d'):h.canW pb (0+i) 1/\BkM ks DS N Z pb R tB d' g u (h.wr pb (0+i) [v]) (m.put kB (bkF pb R tB (cs.set i v))) (cs.set i v):=by
 obtain⟨w,O⟩:=M.O.setCell M.hb hx v
 have ne:∀ j,j≠kB->(m.put kB (bkF pb R tB (cs.set i v))) j=m j:=λj hj=>put_ne _ _ hj
 have self:(cs.set i v)[i]?=some v:=List.getElem?_set_self (List.getElem?_eq_some_iff.1 hx).1
 have oth:∀ j,j≠i->(cs.set i v)[j]?=cs[j]?:=λj hj=>List.getElem?_set_ne (Ne.symm hj)
 refine⟨w,O,put_self _ _ _,by rw[ne _ (λq=>by cases q)];exact M.kt,by rw[oth _ (by omega)];exact M.c0,by rw[oth _ (by omega)];exact M.c1,?_,?_,λc h19 hc f hf=>by rw[oth _ (by omega)];exact M.nn c h19 hc f hf,λk hk=>(M.kk k hk).cong (λ_ h=>h) (λ_ _ h=>h) (Keep.refl g) (Nat.le_refl _) id (λ_=>ne _ (kA_kB _ _)) (λ_=>ne _ (kL_kB _ _)) (λ_=>ne _ (kO_kB _ _)) (λf _=>oth _ (by omega)),M.dk,λj hj=>by rw[ne _ (λq=>by rw[q] at hj;cases hj)];exact M.uu j hj⟩
 ·rcases hi with hi|hi
  ·obtain⟨_,n,hn⟩:=h2 hi
   subst hi
   exact⟨n,by rw[self,hn]⟩
  ·rw[oth _ (by omega)];exact M.c2
 ·rcases hi with hi|hi
  ·rw[oth _ (by omega),(h2 hi).1];exact M.c3
  ·have:=h3 hi
   subst hi
   rw[self,this]
theorem Bk.deep{K:Hp->Prop}(B:Bk ks DS N Z pb R tB d g0 u h)(hK:∀ h',Bk ks DS N Z pb R tB (wrap .i64 (d+1)) g0 u h'->K h'):dr (some ⟨pb,0,none⟩) λb o=>ldI .i64 h b (o+3) λn1=>dr (some ⟨pb,0,none⟩) λb1 o1=>st h b1 (o1+3) 1 [.int .i64 (wrap .i64 (n1+1))] λh1=>K h1:=by
 obtain⟨g,m,cs,K,M⟩:=B
 obtain⟨w,M1⟩:=Bk.setC (v:=.int .i64 (wrap .i64 (d+1))) (d':=wrap .i64 (d+1)) M M.c3 (.inr rfl) (λq=>by omega) (λ_=>rfl)
 exact⟨pb,0,rfl,d,M.O.cell M.hb M.c3,pb,0,rfl,w,hK _ ⟨g,_,_,K,M1⟩⟩
theorem Bk.done{d1:Int}{A B:Hp->(Value->Hp->Prop)->Prop}(B0:Bk ks DS N Z pb R tB d1 g0 u h)(hd:wrap .i64 (d1-1)=d)(hZ:¬ (0<d)->∀ k∈ks,Z k.c)
  (hA:∀ h Q,Bk ks DS N Z pb R tB d g0 u h->(∀ h',Bk ks DS N (λ_=>False) pb R tB d g0 u h'->Q (.tuple ⟨[]⟩) h')->A h Q) (hB:∀ h Q,Bk ks DS N (λ_=>False) pb R tB d g0 u h->(∀ h',Bk ks DS N (λc=>∃ k∈ks,k.c=c) pb R tB d g0 u h'->Q (.tuple ⟨[]⟩) h')->B h Q)
  (hQ:∀ h',Bk ks DS N Z pb R tB d g0 u h'->Q (.tuple ⟨[]⟩) h'):doneT pb A B h Q:=by
 obtain⟨g,m,cs,K,M⟩:=B0
 obtain⟨w,M1⟩:=Bk.setC (v:=.int .i64 (wrap .i64 (d1-1))) (d':=d) M M.c3 (.inr rfl) (λq=>by omega) (λ_=>by rw[hd])
 refine⟨pb,0,rfl,d1,M.O.cell M.hb M.c3,pb,0,rfl,w,pb,0,rfl,d,M1.O.cell M1.hb M1.c3,λh0=>hQ _ ⟨g,_,_,K,M1⟩,λh0=>?_⟩
 refine hA _ _ ⟨g,_,_,K,M1⟩ λh2 B2=>hB _ _ B2 λh3 B3=>?_
 obtain⟨g3,m3,cs3,K3,M3⟩:=B3
 obtain⟨turn,c2⟩:=M3.c2
 obtain⟨w4,M4⟩:=Bk.setC (v:=.int .i64 (wrap .i64 (turn+1))) (d':=d) M3 c2 (.inl rfl) (λ_=>⟨rfl,_,rfl⟩) (λq=>by omega)
 refine⟨pb,0,rfl,turn,M3.O.cell M3.hb c2,pb,0,rfl,w4,hQ _ ?_⟩
 exact Bk.mono ⟨g3,_,_,K3,M4⟩ λk hk _=>⟨k,hk,rfl⟩
theorem Bk.start{cs:List Value}{h':Hp}(hb:h pb=none)(hR:cs.length=R)(c0:cs[0]?=some (.bool false))(c1:cs[1]?=some (.bool false))(c2:cs[2]?=some (.int .i64 0))(c3:cs[3]?=some (.int .i64 0))(nn:∀ c,c<19->NoK cs (4+9*c))(ns:∀ c,c<19->cs[4+9*c+8]?=some (.int .i64 0))(hks:∀ k∈ks,k.c<19)(dk:∀ k∈ks,∀ k'∈ks,k.c=k'.c->k=k') :
  Bk ks (λ_ _=>False) 0 (λ_=>True) pb R tB 0 h (λ_=>none) (h.new pb (.cells ⟨cs⟩ tB (0,0))):=by
 have K0:=Keep.new hb (.cells ⟨cs⟩ tB (0,0))
 have B0:=buf_new (h:=h) (b:=pb) (t:=tB) (sz:=R) (n:=1) cs (by rw[hR,Nat.one_mul])
 have O0:=(Mine.start h).add (k:=kB) rfl K0 (.inr ⟨pb,rfl,hb⟩) B0
 have Oe:=λ(m:Mem)=>O0.sub (m':=m)
 refine⟨h,λj=>if j=kB then some (bkF pb R tB cs) else if j.1=1/\j.2.2<8 then(ks.find? λk=>k.c=j.2.1).map λk=>⟨⟨none,0,0⟩,1,if j.2.2<5 then k.tL else 3,[]⟩ else none,cs,Keep.refl h,?_⟩
 have fnd:∀ k∈ks,ks.find? (λx=>x.c=k.c)=some k:=λk hk=>by
  cases e:ks.find? (λx=>decide (x.c=k.c)) with
  |none=>
   have h1:=List.find?_eq_none.1 e k hk
   simp at h1
  |some x=>
   have h1:=List.find?_some e
   have h2:=List.mem_of_find?_eq_some e
   rw[dk x h2 k hk (by simpa using h1)]
 have look:∀ (j:Key) (x:Bf),(if j=kB then some (bkF pb R tB cs) else if j.1=1/\j.2.2<8 then(ks.find? λk=>k.c=j.2.1).map λk=>(⟨⟨none,0,0⟩,1,if j.2.2<5 then k.tL else 3,[]⟩:Bf) else none)=some x->(j=kB/\x=bkF pb R tB cs)\/(j≠kB/\∃ t,x=⟨⟨none,0,0⟩,1,t,[]⟩):=λj x e=>by
  by_cases hj:j=kB
  ·rw[if_pos hj] at e;exact .inl ⟨hj,(Option.some.inj e).symm⟩
  ·rw[if_neg hj] at e
   by_cases h1:j.1=1/\j.2.2<8
   ·rw[if_pos h1] at e
    obtain⟨k,_,ek⟩:=Option.map_eq_some_iff.1 e
    exact .inr ⟨hj,_,ek.symm⟩
   ·rw[if_neg h1] at e;cases e
 refine⟨⟨K0,λj x e=>?_,λj x e=>?_,λj j' x x' hne e e'=>?_⟩,if_pos rfl,rfl,c0,c1,⟨0,c2⟩,c3,λc h19 _=>nn c h19,λk hk=>?_,dk,λj hj=>?_⟩
 ·rcases look j x e with⟨rfl,rfl⟩|⟨_,t,rfl⟩
  ·exact B0
  ·exact Buf.nil _ _ _
 ·rcases look j x e with⟨rfl,rfl⟩|⟨_,t,rfl⟩
  ·exact .inr ⟨pb,rfl,hb⟩
  ·exact .inl rfl
 ·rcases look j x e with⟨rfl,rfl⟩|⟨hj,t,rfl⟩
  ·rcases look j' x' e' with⟨rfl,rfl⟩|⟨_,t,rfl⟩
   ·exact absurd rfl hne
   ·exact λb o o' _ q=>by cases q
  ·exact λb o o' q=>by cases q
 ·have kf:∀ f,f<8->(if kA k.c f=kB then some (bkF pb R tB cs) else if (kA k.c f).1=1/\(kA k.c f).2.2<8 then(ks.find? λx=>x.c=(kA k.c f).2.1).map λx=>(⟨⟨none,0,0⟩,1,if (kA k.c f).2.2<5 then x.tL else 3,[]⟩:Bf) else none)=some ⟨⟨none,0,0⟩,1,if f<5 then k.tL else 3,[]⟩:=λf hf=>by
   rw[if_neg (kA_kB _ _),if_pos ⟨rfl,hf⟩]
   show(ks.find? λx=>x.c=k.c).map _=_
   rw[fnd k hk]
   rfl
  have nk:=nn k.c (hks k hk)
  refine⟨[],[],[],⟨⟨_,kf 0 (by decide),nk 0 (by decide)⟩,⟨_,kf 1 (by decide),nk 1 (by decide)⟩,⟨_,kf 2 (by decide),nk 2 (by decide)⟩,⟨_,kf 3 (by decide),nk 3 (by decide)⟩,⟨_,kf 4 (by decide),nk 4 (by decide)⟩,⟨_,kf 5 (by decide),nk 5 (by decide)⟩,⟨_,kf 6 (by decide),nk 6 (by decide)⟩,⟨_,kf 7 (by decide),nk 7 (by decide)⟩,λf hf=>(by cases hf),λp hp=>(by cases hp)⟩,λw hw=>(by cases hw),List.nodup_nil,⟨rfl,rfl,rfl,rfl⟩,Nat.le_refl _,λi hi=>(by cases hi),λi _=>rfl,⟨0,ns k.c (hks k hk)⟩,λ_=>rfl,λp hp=>hp.elim⟩
 ·rw[if_neg (λq=>by rw[q] at hj;cases hj),if_neg (λq=>by rw[hj] at q;cases q.1)]
end
end Go.Eng
end
section
namespace Go.Eng
def Mem.or(m n:Mem):Mem:=λk=>match m k with|some x=>some x|none=>n k
theorem or_l{m n:Mem}{k:Key}{x:Bf}(h:m k=some x):m.or n k=some x:=by unfold Mem.or;rw[h]
theorem or_r{m n:Mem}{k:Key}(h:m k=none):m.or n k=n k:=by unfold Mem.or;rw[h]
theorem Mine.many{g h h':Hp}{m n:Mem}(O:Mine g h m)(K:Keep h h')(B:∀ k x,n k=some x->Buf h' x.s x.sz x.t x.vs/\NewB h x.s)(off:∀ k k' x x',k≠k'->n k=some x->n k'=some x'->Off x.s x'.s):Mine g h' (m.or n):=by
 have cs:∀ k x,m.or n k=some x->m k=some x\/n k=some x:=λk x e=>by
  cases hm:m k with
  |some y=>rw[or_l hm] at e;exact .inl e
  |none=>rw[or_r hm] at e;exact .inr e
 refine⟨O.keep.trans K,λk x e=>?_,λk x e=>?_,λk k' x x' hne e e'=>?_⟩
 ·rcases cs k x e with e|e
  ·exact(O.buf k x e).keep K
  ·exact(B k x e).1
 ·rcases cs k x e with e|e
  ·exact O.new k x e
  ·exact(B k x e).2.mono O.keep.dom
 ·rcases cs k x e with e|e<;>rcases cs k' x' e' with e'|e'
  ·exact O.off k k' x x' hne e e'
  ·exact((B k' x' e').2.off (O.buf k x e)).1
  ·exact((B k x e).2.off (O.buf k' x' e')).2
  ·exact off k k' x x' hne e e'
section
variable{ks:List KI}{DS:Nat->Sl->Prop}{N:Nat}{Z:Nat->Prop}{pb R tB:Nat}{d:Int}{g0:Hp}{u n:Mem}{h h':Hp}
theorem Bk.many(B:Bk ks DS N Z pb R tB d g0 u h)(K':Keep h h')(hk:∀ k x,n k=some x->k.1=3)(hB:∀ k x,n k=some x->Buf h' x.s x.sz x.t x.vs/\NewB h x.s)(off:∀ k k' x x',k≠k'->n k=some x->n k'=some x'->Off x.s x'.s):Bk ks DS N Z pb R tB d g0 (u.or n) h':=by
 obtain⟨g,m,cs,K,M⟩:=B
 have ne:∀ j:Key,j.1≠3->(m.or n) j=m j:=λj hj=>by
  cases hm:m j with
  |some x=>exact or_l hm
  |none=>
   rw[or_r hm]
   cases hn:n j with
   |some x=>exact absurd (hk j x hn) hj
   |none=>rfl
 refine⟨g,m.or n,cs,K,M.O.many K' hB off,by rw[ne _ (by decide)];exact M.hb,by rw[ne _ (by decide)];exact M.kt,M.c0,M.c1,M.c2,M.c3,M.nn,λk hk=>(M.kk k hk).cong (λ_ h=>h) (λ_ _ h=>h) (Keep.refl g) (Nat.le_refl _) id (λ_=>ne _ (kA3 _ _)) (λ_=>ne _ (kL3 _ _)) (λ_=>ne _ (kO3 _ _)) (λ_ _=>rfl),M.dk,λj hj=>?_⟩
 unfold Mem.or
 rw[M.uu j hj]
theorem Bk.clear(B:Bk ks DS N Z pb R tB d g0 u h):Bk ks DS N Z pb R tB d g0 (λ_=>none) h:=by
 obtain⟨g,m,cs,K,M⟩:=B
 have ne:∀ j:Key,j.1≠3->(if j.1=3 then none else m j)=m j:=λj hj=>if_neg hj
 refine⟨g,λj=>if j.1=3 then none else m j,cs,K,M.O.sub λj x e=>?_,by rw[ne _ (by decide)];exact M.hb,by rw[ne _ (by decide)];exact M.kt,M.c0,M.c1,M.c2,M.c3,M.nn,λk hk=>(M.kk k hk).cong (λ_ h=>h) (λ_ _ h=>h) (Keep.refl g) (Nat.le_refl _) id (λ_=>ne _ (kA3 _ _)) (λ_=>ne _ (kL3 _ _)) (λ_=>ne _ (kO3 _ _)) (λ_ _=>rfl),M.dk,λj hj=>if_pos hj⟩
 by_cases hj:j.1=3
 ·rw[if_pos hj] at e;cases e
 ·rw[if_neg hj] at e;exact e
end
end Go.Eng
end
section
namespace Go.Eng.YtekflkpnpibneaaGreatDoor
open Go.Eng
def kdB(_:Nat->Sl->Prop)(_:Nat)(v:Value):Prop:=∃ n:Int,v=.int .u8 n
def kdF(D:Nat->Sl->Prop)(c:Nat)(v:Value):Prop:=match c with
 |0=>∃ s:ByteArray,v=.string s
 |1=>v=.slice none 0 0\/∃ p,D 0 p/\v=slv p
 |_=>∃ n:Int,v=.int .i64 n
section
variable{D:Nat->Sl->Prop}
theorem kdB_one:∀ c v,kdB D c v->Value.oneCell' v=true:=λ_ _ ⟨_,e⟩=>by rw[e];rfl
theorem kdF_one:∀ c v,kdF D c v->Value.oneCell' v=true:=λc v h=>by
 unfold kdF at h
 split at h
 ·obtain⟨_,e⟩:=h;rw[e];rfl
 ·rcases h with e|⟨_,_,e⟩<;>(rw[e];rfl)
 ·obtain⟨_,e⟩:=h;rw[e];rfl
theorem kdB_up{c0:Nat}{l:Sl}:∀ c v,kdB D c v->kdB (addD D c0 l) c v:=λ_ _ h=>h
theorem kdF_up{c0:Nat}{l:Sl}:∀ c v,kdF D c v->kdF (addD D c0 l) c v:=λc v h=>by
 unfold kdF at h ⊢
 split at h
 ·exact h
 ·exact h.imp id λ⟨p,a,b⟩=>⟨p,.inl a,b⟩
 ·exact h
end
theorem cols1{P:Value->Prop}{vs:List Value}(h:∀ v∈vs,P v):Cols (λ_=>P) 1 vs:=λi v e=>h v (mem_of_getElem? e)
def kBytes:KI:=⟨0,53,1,5,1,kdB⟩
def kFiles:KI:=⟨15,22,3,55,48,kdF⟩
abbrev kinds:List KI:=[kBytes,kFiles]
theorem kinds_d:∀ k∈kinds,∀ k'∈kinds,k.c=k'.c->k=k':=by
 intro k hk k' hk' e
 simp only[kinds,mem_cons,List.not_mem_nil,or_false] at hk hk'
 rcases hk with rfl|rfl<;>rcases hk' with rfl|rfl<;>first|rfl|(exact absurd e (by decide))
theorem kinds_ne{c:Nat}(h:(kinds.all λk=>k.c != c)=true):∀ k∈kinds,k.c≠c:=λk hk=>by
 have:=List.all_eq_true.1 h k hk
 simpa using this
theorem kinds_by:∀ k∈kinds,0<k.bytes:=by
 intro k hk
 simp only[kinds,mem_cons,List.not_mem_nil,or_false] at hk
 rcases hk with rfl|rfl<;>decide
theorem kinds_up{DS:Nat->Sl->Prop}{c0:Nat}{l:Sl}:∀ k∈kinds,∀ c v,k.KD DS c v->k.KD (addD DS c0 l) c v:=by
 intro k hk
 simp only[kinds,mem_cons,List.not_mem_nil,or_false] at hk
 rcases hk with rfl|rfl
 ·exact kdB_up (D:=DS) (c0:=c0) (l:=l)
 ·exact kdF_up (D:=DS) (c0:=c0) (l:=l)
theorem col_rd{KD:Nat->Value->Prop}{sz n:Nat}{vs:List Value}(C:Cols KD sz vs)(hl:vs.length=n*sz){i c:Nat}(hi:i<n)(hc:c<sz):∃ v,vs[i*sz+c]?=some v/\KD c v:=by
 have hlt:i*sz+c<vs.length:=by
  rw[hl]
  have:(i+1)*sz<=n*sz:=Nat.mul_le_mul_right _ hi
  rw[Nat.add_mul] at this
  omega
 refine⟨vs[i*sz+c],getElem?_eq_getElem hlt,?_⟩
 have:=C (i*sz+c) _ (getElem?_eq_getElem hlt)
 have e:(i*sz+c) % sz=c:=by rw[Nat.mul_comm,Nat.mul_add_mod,Nat.mod_eq_of_lt hc]
 rw[e] at this
 exact this
section
variable{DS:Nat->Sl->Prop}
theorem cols_b(x:Int):Cols (kdB DS) 1 [.int .u8 x]:=cols1 (P:=λv=>∃ n:Int,v=.int .u8 n) λv hv=>⟨x,mem_singleton.1 hv⟩
theorem cols_bl(v:List UInt8):Cols (kdB DS) 1 (bl v):=cols1 (P:=λv=>∃ n:Int,v=.int .u8 n) λw hv=>by
 obtain⟨x,_,e⟩:=List.mem_map.1 hv
 exact⟨_,e.symm⟩
theorem cols_f{a b c:Value}(h0:kdF DS 0 a)(h1:kdF DS 1 b)(h2:kdF DS 2 c):Cols (kdF DS) 3 [a,b,c]:=λi v e=>by
 match i,e with
 |0,e=>cases e;exact h0
 |1,e=>cases e;exact h1
 |2,e=>cases e;exact h2
 |i+3,e=>simp at e
theorem cols_m(x:Int):Cols (kdF DS) 3 [.string ⟨#[]⟩,.slice none 0 0,.int .i64 x]:=cols_f ⟨_,rfl⟩ (.inl rfl) ⟨_,rfl⟩
theorem cols_fV:∀ L:List (Sl×FileR),(∀ x∈L,DS 0 x.1)->Cols (kdF DS) 3 (fV L)
 |[],_=>Cols.nil _ _
 |x::L,h=>(cols_f (DS:=DS) ⟨x.2.nm,rfl⟩ (.inr ⟨x.1,h x List.mem_cons_self,rfl⟩) ⟨_,rfl⟩:Cols (kdF DS) 3 (fcell x)).app (n:=1) (cols_fV L λy hy=>h y (List.mem_cons_of_mem _ hy)) rfl
theorem same_b{l l':Sl}{h:Hp}{vs:List Value}{K:Value->Hp->Prop}(C:Cols (kdB DS) 1 vs)(R:h.row l.a (l.n*1) vs)(R':h.row l'.a (l'.n*1) vs)(e:l.n=l'.n)(hb:l.n<=140737488355328)(hK:K (.bool true) h):F111.T l l' h K:=by
 unfold F111.T
 refine⟨λ_=>⟨λn h1=>∃ i:Nat,n=(i:Int)/\i<=l.n/\h1=h,λn _=>l.n-n.toNat,⟨0,rfl,Nat.zero_le _,rfl⟩,?_⟩,λq=>absurd (by rw[e]) q⟩
 rintro n h1 ⟨i,rfl,hi,rfl⟩
 refine⟨λhlt=>?_,λ_=>hK⟩
 have hi':i<l.n:=by omega
 obtain⟨b,o,ha,hat⟩:=R.2.resolve_left (by omega)
 obtain⟨b',o',ha',hat'⟩:=R'.2.resolve_left (by omega)
 obtain⟨v0,e0,x0,rfl⟩:=col_rd C R.1 hi' (show 0<1 by decide)
 rw[Nat.mul_one,Nat.add_zero] at e0
 refine⟨b,o,ha,⟨by omega,by omega⟩,x0,by rw[Int.toNat_natCast,hat _ (by omega)];exact e0,b',o',ha',⟨by omega,by omega⟩,x0,by rw[Int.toNat_natCast,hat' _ (by omega)];exact e0,λ_=>?_,λq=>absurd rfl q⟩
 rw[nx_i hi' (by omega)]
 exact⟨⟨i+1,rfl,hi',rfl⟩,by dsimp only;omega⟩
theorem same_f{l l':Sl}{h:Hp}{vs:List Value}{K:Value->Hp->Prop}(C:Cols (kdF DS) 3 vs)(R:h.row l.a (l.n*3) vs)(R':h.row l'.a (l'.n*3) vs)(e:l.n=l'.n)(hb:l.n<=140737488355328)(Y:RYk kinds DS 15 h)(hK:K (.bool true) h):F126.T l l' h K:=by
 unfold F126.T F126.G
 refine⟨λ_=>⟨λn h1=>∃ i:Nat,n=(i:Int)/\i<=l.n/\h1=h,λn _=>l.n-n.toNat,⟨0,rfl,Nat.zero_le _,rfl⟩,?_⟩,λq=>absurd (by rw[e]) q⟩
 rintro n h1 ⟨i,rfl,hi,rfl⟩
 refine⟨λhlt=>?_,λ_=>hK⟩
 have hi':i<l.n:=by omega
 obtain⟨b,o,ha,hat⟩:=R.2.resolve_left (by omega)
 obtain⟨b',o',ha',hat'⟩:=R'.2.resolve_left (by omega)
 have rd:∀ c v,c<3->vs[i*3+c]?=some v->h1.at b ((o+((i:Int)).toNat*3)+c)=some v/\h1.at b' ((o'+((i:Int)).toNat*3)+c)=some v:=λc v hc e=>by
  rw[Int.toNat_natCast,Nat.add_assoc,Nat.add_assoc,hat _ (by omega),hat' _ (by omega)];exact⟨e,e⟩
 obtain⟨v0,e0,x0,rfl⟩:=col_rd C R.1 hi' (show 0<3 by decide)
 obtain⟨v1,e1,k1⟩:=col_rd C R.1 hi' (show 1<3 by decide)
 obtain⟨v2,e2,x2,rfl⟩:=col_rd C R.1 hi' (show 2<3 by decide)
 have ⟨p,ep,hp⟩:∃ p:Sl,v1=slv p/\(p.n<=140737488355328/\∃ ws,Cols (kdB DS) 1 ws/\h1.row p.a (p.n*1) ws):=by
  rcases k1 with e|⟨p,dp,e⟩
  ·exact⟨⟨none,0,0⟩,e,by decide,[],Cols.nil _ _,rfl,.inl rfl⟩
  ·exact⟨p,e,Y kBytes (by simp[kinds]) (by decide) p dp⟩
 subst ep
 obtain⟨hpn,ws,cw,rw'⟩:=hp
 refine⟨b,o,ha,⟨by omega,by omega⟩,x0,(rd 0 _ (by decide) e0).1,p,(rd 1 _ (by decide) e1).1,x2,(rd 2 _ (by decide) e2).1,b',o',ha',⟨by omega,by omega⟩,x0,(rd 0 _ (by decide) e0).2,p,(rd 1 _ (by decide) e1).2,x2,(rd 2 _ (by decide) e2).2,λ_=>⟨λ_=>?_,λq=>absurd rfl q⟩,λq=>absurd rfl q⟩
 refine same_b cw rw' rw' rfl hpn ⟨true,rfl,λ_=>?_,λq=>Bool.noConfusion q⟩
 rw[nx_i hi' (by omega)]
 exact⟨⟨i+1,rfl,hi',rfl⟩,by dsimp only;omega⟩
end
section
variable{DS:Nat->Sl->Prop}{N:Nat}{Z:Nat->Prop}{pb R tB:Nat}{d:Int}{g0:Hp}{u:Mem}{h:Hp}{Q:Value->Hp->Prop}
theorem mark0(B:Bk kinds DS N Z pb R tB d g0 u h)(hN:N<=10000000000)(hQ:∀ h',Bk kinds DS N (λ_=>False) pb R tB d g0 u h'->Q (.tuple ⟨[]⟩) h'):F139.T (some ⟨pb,0,none⟩) h Q:=by
 unfold F139.T F139.G
 exact Bk.mark (s:=4) rfl (k:=kBytes) (zs:=[.int .u8 0]) (OF:=Int.toNat) (WR:=(λa i h K=>K [.int .u8 (wrap .u8 (wrap .i64 (a+(wrap .i64 (3*i)))))] h)) (S:=F111.T) (by simp[kinds]) B hN (λ_ _ _ _ _ C R R' e b _ hK=>same_b (DS:=DS) C R R' e b hK) (by decide) (λi=>by show(i:Int).toNat=i*1;omega) (λ_ _ h _ _ k=>k h _ (Keep.refl h) rfl (cols_b (DS:=DS) _)) (kdB_one (D:=DS)) rfl kinds_by hQ
theorem grow0(B:Bk kinds DS N Z pb R tB d g0 u h)(hN:N<=10000000000)(hQ:∀ h',Bk kinds DS N (λc=>Z c\/c=0) pb R tB d g0 u h'->Q (.tuple ⟨[]⟩) h'):F158.T (some ⟨pb,0,none⟩) h Q:=by
 unfold F158.T
 exact Bk.grow (M:=150) (by decide) (s:=4) rfl (k:=kBytes) (zs:=[.int .u8 0]) (WR:=(λa i h K=>K [.int .u8 (wrap .u8 (wrap .i64 ((wrap .i64 (a+6))+(wrap .i64 (5*i)))))] h)) (by simp[kinds]) B hN (λ_ _ h _ _ k=>k h _ (Keep.refl h) rfl (cols_b (DS:=DS) _)) (kdB_one (D:=DS)) (by decide) rfl hQ
theorem hold0(B:Bk kinds DS N Z pb R tB d g0 u h)(hN:N<=10000000000)(hZ:Z 0)(hQ:Q (.bool true) h):F74.T (some ⟨pb,0,none⟩) h Q:=by
 unfold F74.T F74.G
 exact Bk.hold (s:=4) rfl (k:=kBytes) kinds_by (S:=F111.T) (by simp[kinds]) (λ_ _ _ _ _ C R R' e b _ hK=>same_b (DS:=DS) C R R' e b hK) B hN hZ hQ
theorem mark1(B:Bk kinds DS N Z pb R tB d g0 u h)(hQ:Q (.tuple ⟨[]⟩) h):F140.T (some ⟨pb,0,none⟩) h Q:=by
 unfold F140.T
 exact B.nilMark (s:=13) (c:=1) rfl (by decide) (kinds_ne (by decide)) hQ
theorem grow1(B:Bk kinds DS N Z pb R tB d g0 u h)(hQ:∀ h',Bk kinds DS N Z pb R tB d g0 u h'->Q (.tuple ⟨[]⟩) h'):F159.T (some ⟨pb,0,none⟩) h Q:=by
 unfold F159.T
 exact B.nilGrow (s:=13) (c:=1) rfl (by decide) (kinds_ne (by decide)) hQ
theorem hold1(B:Bk kinds DS N Z pb R tB d g0 u h)(hQ:Q (.bool true) h):F75.T (some ⟨pb,0,none⟩) h Q:=by
 unfold F75.T
 exact B.nilKeep (s:=13) (c:=1) rfl (by decide) (kinds_ne (by decide)) hQ
theorem mark2(B:Bk kinds DS N Z pb R tB d g0 u h)(hQ:Q (.tuple ⟨[]⟩) h):F141.T (some ⟨pb,0,none⟩) h Q:=by
 unfold F141.T
 exact B.nilMark (s:=22) (c:=2) rfl (by decide) (kinds_ne (by decide)) hQ
theorem grow2(B:Bk kinds DS N Z pb R tB d g0 u h)(hQ:∀ h',Bk kinds DS N Z pb R tB d g0 u h'->Q (.tuple ⟨[]⟩) h'):F160.T (some ⟨pb,0,none⟩) h Q:=by
 unfold F160.T
 exact B.nilGrow (s:=22) (c:=2) rfl (by decide) (kinds_ne (by decide)) hQ
theorem hold2(B:Bk kinds DS N Z pb R tB d g0 u h)(hQ:Q (.bool true) h):F76.T (some ⟨pb,0,none⟩) h Q:=by
 unfold F76.T
 exact B.nilKeep (s:=22) (c:=2) rfl (by decide) (kinds_ne (by decide)) hQ
theorem mark3(B:Bk kinds DS N Z pb R tB d g0 u h)(hQ:Q (.tuple ⟨[]⟩) h):F142.T (some ⟨pb,0,none⟩) h Q:=by
 unfold F142.T
 exact B.nilMark (s:=31) (c:=3) rfl (by decide) (kinds_ne (by decide)) hQ
theorem grow3(B:Bk kinds DS N Z pb R tB d g0 u h)(hQ:∀ h',Bk kinds DS N Z pb R tB d g0 u h'->Q (.tuple ⟨[]⟩) h'):F161.T (some ⟨pb,0,none⟩) h Q:=by
 unfold F161.T
 exact B.nilGrow (s:=31) (c:=3) rfl (by decide) (kinds_ne (by decide)) hQ
theorem hold3(B:Bk kinds DS N Z pb R tB d g0 u h)(hQ:Q (.bool true) h):F77.T (some ⟨pb,0,none⟩) h Q:=by
 unfold F77.T
 exact B.nilKeep (s:=31) (c:=3) rfl (by decide) (kinds_ne (by decide)) hQ
theorem mark4(B:Bk kinds DS N Z pb R tB d g0 u h)(hQ:Q (.tuple ⟨[]⟩) h):F143.T (some ⟨pb,0,none⟩) h Q:=by
 unfold F143.T
 exact B.nilMark (s:=40) (c:=4) rfl (by decide) (kinds_ne (by decide)) hQ
theorem grow4(B:Bk kinds DS N Z pb R tB d g0 u h)(hQ:∀ h',Bk kinds DS N Z pb R tB d g0 u h'->Q (.tuple ⟨[]⟩) h'):F162.T (some ⟨pb,0,none⟩) h Q:=by
 unfold F162.T
 exact B.nilGrow (s:=40) (c:=4) rfl (by decide) (kinds_ne (by decide)) hQ
theorem hold4(B:Bk kinds DS N Z pb R tB d g0 u h)(hQ:Q (.bool true) h):F78.T (some ⟨pb,0,none⟩) h Q:=by
 unfold F78.T
 exact B.nilKeep (s:=40) (c:=4) rfl (by decide) (kinds_ne (by decide)) hQ
theorem mark5(B:Bk kinds DS N Z pb R tB d g0 u h)(hQ:Q (.tuple ⟨[]⟩) h):F144.T (some ⟨pb,0,none⟩) h Q:=by
 unfold F144.T
 exact B.nilMark (s:=49) (c:=5) rfl (by decide) (kinds_ne (by decide)) hQ
theorem grow5(B:Bk kinds DS N Z pb R tB d g0 u h)(hQ:∀ h',Bk kinds DS N Z pb R tB d g0 u h'->Q (.tuple ⟨[]⟩) h'):F163.T (some ⟨pb,0,none⟩) h Q:=by
 unfold F163.T
 exact B.nilGrow (s:=49) (c:=5) rfl (by decide) (kinds_ne (by decide)) hQ
theorem hold5(B:Bk kinds DS N Z pb R tB d g0 u h)(hQ:Q (.bool true) h):F79.T (some ⟨pb,0,none⟩) h Q:=by
 unfold F79.T
 exact B.nilKeep (s:=49) (c:=5) rfl (by decide) (kinds_ne (by decide)) hQ
theorem mark6(B:Bk kinds DS N Z pb R tB d g0 u h)(hQ:Q (.tuple ⟨[]⟩) h):F145.T (some ⟨pb,0,none⟩) h Q:=by
 unfold F145.T
 exact B.nilMark (s:=58) (c:=6) rfl (by decide) (kinds_ne (by decide)) hQ
theorem grow6(B:Bk kinds DS N Z pb R tB d g0 u h)(hQ:∀ h',Bk kinds DS N Z pb R tB d g0 u h'->Q (.tuple ⟨[]⟩) h'):F164.T (some ⟨pb,0,none⟩) h Q:=by
 unfold F164.T
 exact B.nilGrow (s:=58) (c:=6) rfl (by decide) (kinds_ne (by decide)) hQ
theorem hold6(B:Bk kinds DS N Z pb R tB d g0 u h)(hQ:Q (.bool true) h):F80.T (some ⟨pb,0,none⟩) h Q:=by
 unfold F80.T
 exact B.nilKeep (s:=58) (c:=6) rfl (by decide) (kinds_ne (by decide)) hQ
theorem mark7(B:Bk kinds DS N Z pb R tB d g0 u h)(hQ:Q (.tuple ⟨[]⟩) h):F146.T (some ⟨pb,0,none⟩) h Q:=by
 unfold F146.T
 exact B.nilMark (s:=67) (c:=7) rfl (by decide) (kinds_ne (by decide)) hQ
theorem grow7(B:Bk kinds DS N Z pb R tB d g0 u h)(hQ:∀ h',Bk kinds DS N Z pb R tB d g0 u h'->Q (.tuple ⟨[]⟩) h'):F165.T (some ⟨pb,0,none⟩) h Q:=by
 unfold F165.T
 exact B.nilGrow (s:=67) (c:=7) rfl (by decide) (kinds_ne (by decide)) hQ
theorem hold7(B:Bk kinds DS N Z pb R tB d g0 u h)(hQ:Q (.bool true) h):F81.T (some ⟨pb,0,none⟩) h Q:=by
 unfold F81.T
 exact B.nilKeep (s:=67) (c:=7) rfl (by decide) (kinds_ne (by decide)) hQ
theorem mark8(B:Bk kinds DS N Z pb R tB d g0 u h)(hQ:Q (.tuple ⟨[]⟩) h):F147.T (some ⟨pb,0,none⟩) h Q:=by
 unfold F147.T
 exact B.nilMark (s:=76) (c:=8) rfl (by decide) (kinds_ne (by decide)) hQ
theorem grow8(B:Bk kinds DS N Z pb R tB d g0 u h)(hQ:∀ h',Bk kinds DS N Z pb R tB d g0 u h'->Q (.tuple ⟨[]⟩) h'):F166.T (some ⟨pb,0,none⟩) h Q:=by
 unfold F166.T
 exact B.nilGrow (s:=76) (c:=8) rfl (by decide) (kinds_ne (by decide)) hQ
theorem hold8(B:Bk kinds DS N Z pb R tB d g0 u h)(hQ:Q (.bool true) h):F82.T (some ⟨pb,0,none⟩) h Q:=by
 unfold F82.T
 exact B.nilKeep (s:=76) (c:=8) rfl (by decide) (kinds_ne (by decide)) hQ
theorem mark9(B:Bk kinds DS N Z pb R tB d g0 u h)(hQ:Q (.tuple ⟨[]⟩) h):F148.T (some ⟨pb,0,none⟩) h Q:=by
 unfold F148.T
 exact B.nilMark (s:=85) (c:=9) rfl (by decide) (kinds_ne (by decide)) hQ
theorem grow9(B:Bk kinds DS N Z pb R tB d g0 u h)(hQ:∀ h',Bk kinds DS N Z pb R tB d g0 u h'->Q (.tuple ⟨[]⟩) h'):F167.T (some ⟨pb,0,none⟩) h Q:=by
 unfold F167.T
 exact B.nilGrow (s:=85) (c:=9) rfl (by decide) (kinds_ne (by decide)) hQ
theorem hold9(B:Bk kinds DS N Z pb R tB d g0 u h)(hQ:Q (.bool true) h):F83.T (some ⟨pb,0,none⟩) h Q:=by
 unfold F83.T
 exact B.nilKeep (s:=85) (c:=9) rfl (by decide) (kinds_ne (by decide)) hQ
theorem mark10(B:Bk kinds DS N Z pb R tB d g0 u h)(hQ:Q (.tuple ⟨[]⟩) h):F149.T (some ⟨pb,0,none⟩) h Q:=by
 unfold F149.T
 exact B.nilMark (s:=94) (c:=10) rfl (by decide) (kinds_ne (by decide)) hQ
theorem grow10(B:Bk kinds DS N Z pb R tB d g0 u h)(hQ:∀ h',Bk kinds DS N Z pb R tB d g0 u h'->Q (.tuple ⟨[]⟩) h'):F168.T (some ⟨pb,0,none⟩) h Q:=by
 unfold F168.T
 exact B.nilGrow (s:=94) (c:=10) rfl (by decide) (kinds_ne (by decide)) hQ
theorem hold10(B:Bk kinds DS N Z pb R tB d g0 u h)(hQ:Q (.bool true) h):F84.T (some ⟨pb,0,none⟩) h Q:=by
 unfold F84.T
 exact B.nilKeep (s:=94) (c:=10) rfl (by decide) (kinds_ne (by decide)) hQ
theorem mark11(B:Bk kinds DS N Z pb R tB d g0 u h)(hQ:Q (.tuple ⟨[]⟩) h):F150.T (some ⟨pb,0,none⟩) h Q:=by
 unfold F150.T
 exact B.nilMark (s:=103) (c:=11) rfl (by decide) (kinds_ne (by decide)) hQ
theorem grow11(B:Bk kinds DS N Z pb R tB d g0 u h)(hQ:∀ h',Bk kinds DS N Z pb R tB d g0 u h'->Q (.tuple ⟨[]⟩) h'):F169.T (some ⟨pb,0,none⟩) h Q:=by
 unfold F169.T
 exact B.nilGrow (s:=103) (c:=11) rfl (by decide) (kinds_ne (by decide)) hQ
theorem hold11(B:Bk kinds DS N Z pb R tB d g0 u h)(hQ:Q (.bool true) h):F85.T (some ⟨pb,0,none⟩) h Q:=by
 unfold F85.T
 exact B.nilKeep (s:=103) (c:=11) rfl (by decide) (kinds_ne (by decide)) hQ
theorem mark12(B:Bk kinds DS N Z pb R tB d g0 u h)(hQ:Q (.tuple ⟨[]⟩) h):F151.T (some ⟨pb,0,none⟩) h Q:=by
 unfold F151.T
 exact B.nilMark (s:=112) (c:=12) rfl (by decide) (kinds_ne (by decide)) hQ
theorem grow12(B:Bk kinds DS N Z pb R tB d g0 u h)(hQ:∀ h',Bk kinds DS N Z pb R tB d g0 u h'->Q (.tuple ⟨[]⟩) h'):F170.T (some ⟨pb,0,none⟩) h Q:=by
 unfold F170.T
 exact B.nilGrow (s:=112) (c:=12) rfl (by decide) (kinds_ne (by decide)) hQ
theorem hold12(B:Bk kinds DS N Z pb R tB d g0 u h)(hQ:Q (.bool true) h):F86.T (some ⟨pb,0,none⟩) h Q:=by
 unfold F86.T
 exact B.nilKeep (s:=112) (c:=12) rfl (by decide) (kinds_ne (by decide)) hQ
theorem mark13(B:Bk kinds DS N Z pb R tB d g0 u h)(hQ:Q (.tuple ⟨[]⟩) h):F152.T (some ⟨pb,0,none⟩) h Q:=by
 unfold F152.T
 exact B.nilMark (s:=121) (c:=13) rfl (by decide) (kinds_ne (by decide)) hQ
theorem grow13(B:Bk kinds DS N Z pb R tB d g0 u h)(hQ:∀ h',Bk kinds DS N Z pb R tB d g0 u h'->Q (.tuple ⟨[]⟩) h'):F171.T (some ⟨pb,0,none⟩) h Q:=by
 unfold F171.T
 exact B.nilGrow (s:=121) (c:=13) rfl (by decide) (kinds_ne (by decide)) hQ
theorem hold13(B:Bk kinds DS N Z pb R tB d g0 u h)(hQ:Q (.bool true) h):F87.T (some ⟨pb,0,none⟩) h Q:=by
 unfold F87.T
 exact B.nilKeep (s:=121) (c:=13) rfl (by decide) (kinds_ne (by decide)) hQ
theorem mark14(B:Bk kinds DS N Z pb R tB d g0 u h)(hQ:Q (.tuple ⟨[]⟩) h):F153.T (some ⟨pb,0,none⟩) h Q:=by
 unfold F153.T
 exact B.nilMark (s:=130) (c:=14) rfl (by decide) (kinds_ne (by decide)) hQ
theorem grow14(B:Bk kinds DS N Z pb R tB d g0 u h)(hQ:∀ h',Bk kinds DS N Z pb R tB d g0 u h'->Q (.tuple ⟨[]⟩) h'):F172.T (some ⟨pb,0,none⟩) h Q:=by
 unfold F172.T
 exact B.nilGrow (s:=130) (c:=14) rfl (by decide) (kinds_ne (by decide)) hQ
theorem hold14(B:Bk kinds DS N Z pb R tB d g0 u h)(hQ:Q (.bool true) h):F88.T (some ⟨pb,0,none⟩) h Q:=by
 unfold F88.T
 exact B.nilKeep (s:=130) (c:=14) rfl (by decide) (kinds_ne (by decide)) hQ
theorem mark15(B:Bk kinds DS N Z pb R tB d g0 u h)(hN:N<=10000000000)(hQ:∀ h',Bk kinds DS N (λ_=>False) pb R tB d g0 u h'->Q (.tuple ⟨[]⟩) h'):F154.T (some ⟨pb,0,none⟩) h Q:=by
 unfold F154.T F154.G
 exact Bk.mark (s:=139) rfl (k:=kFiles) (zs:=[.string ⟨#[]⟩,.slice none 0 0,.int .i64 0]) (OF:=(λn=>n.toNat*3)) (WR:=(λa i h K=>K [.string ⟨#[]⟩,.slice none 0 0,.int .i64 (wrap .i64 (a+(wrap .i64 (3*i))))] h)) (S:=F126.T) (by simp[kinds]) B hN (λ_ _ _ _ _ C R R' e b y hK=>same_f (DS:=DS) C R R' e b y hK) (by decide) (λi=>by show(i:Int).toNat*3=i*3;omega) (λ_ _ h _ _ k=>k h _ (Keep.refl h) rfl (cols_m (DS:=DS) _)) (kdF_one (D:=DS)) rfl kinds_by hQ
theorem grow15(B:Bk kinds DS N Z pb R tB d g0 u h)(hN:N<=10000000000)(hQ:∀ h',Bk kinds DS N (λc=>Z c\/c=15) pb R tB d g0 u h'->Q (.tuple ⟨[]⟩) h'):F173.T (some ⟨pb,0,none⟩) h Q:=by
 unfold F173.T
 exact Bk.grow (M:=30) (by decide) (s:=139) rfl (k:=kFiles) (zs:=[.string ⟨#[]⟩,.slice none 0 0,.int .i64 0]) (WR:=(λa i h K=>K [.string ⟨#[]⟩,.slice none 0 0,.int .i64 (wrap .i64 ((wrap .i64 (a+6))+(wrap .i64 (5*i))))] h)) (by simp[kinds]) B hN (λ_ _ h _ _ k=>k h _ (Keep.refl h) rfl (cols_m (DS:=DS) _)) (kdF_one (D:=DS)) (by decide) rfl hQ
theorem hold15(B:Bk kinds DS N Z pb R tB d g0 u h)(hN:N<=10000000000)(hZ:Z 15)(hQ:Q (.bool true) h):F89.T (some ⟨pb,0,none⟩) h Q:=by
 unfold F89.T F89.G
 exact Bk.hold (s:=139) rfl (k:=kFiles) kinds_by (S:=F126.T) (by simp[kinds]) (λ_ _ _ _ _ C R R' e b y hK=>same_f (DS:=DS) C R R' e b y hK) B hN hZ hQ
theorem mark16(B:Bk kinds DS N Z pb R tB d g0 u h)(hQ:Q (.tuple ⟨[]⟩) h):F155.T (some ⟨pb,0,none⟩) h Q:=by
 unfold F155.T
 exact B.nilMark (s:=148) (c:=16) rfl (by decide) (kinds_ne (by decide)) hQ
theorem grow16(B:Bk kinds DS N Z pb R tB d g0 u h)(hQ:∀ h',Bk kinds DS N Z pb R tB d g0 u h'->Q (.tuple ⟨[]⟩) h'):F174.T (some ⟨pb,0,none⟩) h Q:=by
 unfold F174.T
 exact B.nilGrow (s:=148) (c:=16) rfl (by decide) (kinds_ne (by decide)) hQ
theorem hold16(B:Bk kinds DS N Z pb R tB d g0 u h)(hQ:Q (.bool true) h):F90.T (some ⟨pb,0,none⟩) h Q:=by
 unfold F90.T
 exact B.nilKeep (s:=148) (c:=16) rfl (by decide) (kinds_ne (by decide)) hQ
theorem mark17(B:Bk kinds DS N Z pb R tB d g0 u h)(hQ:Q (.tuple ⟨[]⟩) h):F156.T (some ⟨pb,0,none⟩) h Q:=by
 unfold F156.T
 exact B.nilMark (s:=157) (c:=17) rfl (by decide) (kinds_ne (by decide)) hQ
theorem grow17(B:Bk kinds DS N Z pb R tB d g0 u h)(hQ:∀ h',Bk kinds DS N Z pb R tB d g0 u h'->Q (.tuple ⟨[]⟩) h'):F175.T (some ⟨pb,0,none⟩) h Q:=by
 unfold F175.T
 exact B.nilGrow (s:=157) (c:=17) rfl (by decide) (kinds_ne (by decide)) hQ
theorem hold17(B:Bk kinds DS N Z pb R tB d g0 u h)(hQ:Q (.bool true) h):F91.T (some ⟨pb,0,none⟩) h Q:=by
 unfold F91.T
 exact B.nilKeep (s:=157) (c:=17) rfl (by decide) (kinds_ne (by decide)) hQ
theorem mark18(B:Bk kinds DS N Z pb R tB d g0 u h)(hQ:Q (.tuple ⟨[]⟩) h):F157.T (some ⟨pb,0,none⟩) h Q:=by
 unfold F157.T
 exact B.nilMark (s:=166) (c:=18) rfl (by decide) (kinds_ne (by decide)) hQ
theorem grow18(B:Bk kinds DS N Z pb R tB d g0 u h)(hQ:∀ h',Bk kinds DS N Z pb R tB d g0 u h'->Q (.tuple ⟨[]⟩) h'):F176.T (some ⟨pb,0,none⟩) h Q:=by
 unfold F176.T
 exact B.nilGrow (s:=166) (c:=18) rfl (by decide) (kinds_ne (by decide)) hQ
theorem hold18(B:Bk kinds DS N Z pb R tB d g0 u h)(hQ:Q (.bool true) h):F92.T (some ⟨pb,0,none⟩) h Q:=by
 unfold F92.T
 exact B.nilKeep (s:=166) (c:=18) rfl (by decide) (kinds_ne (by decide)) hQ
theorem marks(B:Bk kinds DS N Z pb R tB d g0 u h)(hN:N<=10000000000)(hQ:∀ h',Bk kinds DS N (λ_=>False) pb R tB d g0 u h'->Q (.tuple ⟨[]⟩) h'):F133.T (some ⟨pb,0,none⟩) h Q:=by
 unfold F133.T F133.G
 replace B:=B.mono (Z':=λ_=>False) (λ_ _ q=>q.elim)
 refine mark0 B hN λh B=>?_
 refine mark1 B ?_
 refine mark2 B ?_
 refine mark3 B ?_
 refine mark4 B ?_
 refine mark5 B ?_
 refine mark6 B ?_
 refine mark7 B ?_
 refine mark8 B ?_
 refine mark9 B ?_
 refine mark10 B ?_
 refine mark11 B ?_
 refine mark12 B ?_
 refine mark13 B ?_
 refine mark14 B ?_
 refine mark15 B hN λh B=>?_
 refine mark16 B ?_
 refine mark17 B ?_
 refine mark18 B ?_
 exact hQ _ B
theorem grows(B:Bk kinds DS N Z pb R tB d g0 u h)(hN:N<=10000000000)(hQ:∀ h',Bk kinds DS N (λc=>∃ k∈kinds,k.c=c) pb R tB d g0 u h'->Q (.tuple ⟨[]⟩) h'):F134.T (some ⟨pb,0,none⟩) h Q:=by
 unfold F134.T F134.G
 replace B:=B.mono (Z':=λ_=>False) (λ_ _ q=>q.elim)
 refine grow0 B hN λh B=>?_
 refine grow1 B λh B=>?_
 refine grow2 B λh B=>?_
 refine grow3 B λh B=>?_
 refine grow4 B λh B=>?_
 refine grow5 B λh B=>?_
 refine grow6 B λh B=>?_
 refine grow7 B λh B=>?_
 refine grow8 B λh B=>?_
 refine grow9 B λh B=>?_
 refine grow10 B λh B=>?_
 refine grow11 B λh B=>?_
 refine grow12 B λh B=>?_
 refine grow13 B λh B=>?_
 refine grow14 B λh B=>?_
 refine grow15 B hN λh B=>?_
 refine grow16 B λh B=>?_
 refine grow17 B λh B=>?_
 refine grow18 B λh B=>?_
 refine hQ _ (B.mono λk hk _=>?_)
 simp only[kinds,mem_cons,List.not_mem_nil,or_false] at hk
 rcases hk with rfl|rfl<;>simp[kBytes,kFiles]
theorem done_{d1:Int}(B:Bk kinds DS N Z pb R tB d1 g0 u h)(hN:N<=10000000000)(hd:wrap .i64 (d1-1)=d)(hZ:¬ (0<d)->∀ k∈kinds,Z k.c)(hQ:∀ h',Bk kinds DS N Z pb R tB d g0 u h'->Q (.tuple ⟨[]⟩) h'):F110.T (some ⟨pb,0,none⟩) h Q:=by
 unfold F110.T F110.G
 refine Bk.done (A:=F133.T (some ⟨pb,0,none⟩)) (B:=F134.T (some ⟨pb,0,none⟩)) B hd hZ (λh Q B hQ=>marks B hN hQ) (λh Q B hQ=>grows B hN hQ) hQ
theorem due_{turn n:Int}{K:Value->Hp->Prop}(h0:h.at pb (0+0)=some (.bool false))(h2:h.at pb (0+2)=some (.int .i64 turn))(hK:∀ d:Int,K (.int .i64 d) h):F109.T (some ⟨pb,0,none⟩) n h K:=by
 unfold F109.T
 exact⟨pb,0,rfl,false,h0,λq=>Bool.noConfusion q,λ_=>⟨by decide,λ_=>⟨pb,0,rfl,turn,h2,hK _⟩,λ_=>⟨by decide,λ_=>⟨pb,0,rfl,turn,h2,by decide,by decide,hK _⟩,λ_=>⟨pb,0,rfl,turn,h2,hK _⟩⟩⟩⟩
theorem add0{a b:Nat}{l:Sl}{vs:List Value}{mark:Int}(B:Bk kinds DS N Z pb R tB d g0 u h)(hN:N<10000000000)(hd:0<=d/\d<100)(hZ:¬ (0<d)->∀ k∈kinds,Z k.c)(hu:u (kU a b)=some ⟨l,1,5,vs⟩)(hv:Cols (kdB DS) 1 vs)(hn:(l.n+150)*1<=140737488355328)(hQ:∀ h',Bk kinds (addD DS 0 l) (N+1) Z pb R tB d g0 (u.del (kU a b)) h'->Q (.tuple ⟨[]⟩) h'):F73.T (some ⟨pb,0,none⟩) l mark h Q:=by
 unfold F73.T F73.G
 exact B.deep λh1 B1=>Bk.addB (d':=d) (s:=4) rfl (k:=kBytes) (zs:=[.int .u8 0]) (U:=F109.T (some ⟨pb,0,none⟩)) (D:=F110.T (some ⟨pb,0,none⟩)) (by simp[kinds]) B1 (by omega) hu hv (kdB_one (D:=DS)) rfl hn kinds_up (λ_ _ _ _ h0 h2 hK=>due_ h0 h2 hK) (λh' Q' B' hQ'=>done_ B' (by omega) (by rw[wrap_i64 (n:=d+1) (by omega) (by omega),wrap_i64 (by omega) (by omega)];omega) hZ hQ') hQ
structure HasF(u:Mem)(q:Nat)(l:Sl)(L:List (Sl×FileR)):Prop where
 l:u (kU (2*q) 0)=some ⟨l,3,55,fV L⟩
 d:∀ i x,L[i]?=some x->u (kU (2*q+1) i)=some ⟨x.1,1,5,bl x.2.data⟩
theorem kU_ne{a b c d:Nat}(h:a≠c\/b≠d):kU a b≠kU c d:=λe=>by
 unfold kU at e;simp only[Prod.mk.injEq,true_and] at e;omega
theorem add15{q:Nat}{l:Sl}{L:List (Sl×FileR)}{mark:Int}(B:Bk kinds DS N Z pb R tB d g0 u h)(hN:N+L.length<10000000000)(hd:0<=d/\d<50)(hZ:¬ (0<d)->∀ k∈kinds,Z k.c)(hu:HasF u q l L)(hl:l.n<=100000000)(hL:∀ x∈L,x.1.n<=100000000000)(hQ:∀ h' DS' u',Bk kinds DS' (N+L.length+1) Z pb R tB d g0 u' h'->(∀ j,(∀ b,j≠kU (2*q) b)->(∀ b,j≠kU (2*q+1) b)->u' j=u j)->Q (.tuple ⟨[]⟩) h'):F71.T (some ⟨pb,0,none⟩) l mark h Q:=by
 have hln:l.n=L.length:=by have:=(B.buf hu.l).len;dsimp only at this;rw[fV_len] at this;omega
 have wd:wrap .i64 (d+1)=d+1:=wrap_i64 (by omega) (by omega)
 unfold F71.T F71.G
 refine B.deep λh1 B1=>?_
 rw[wd] at B1
 refine⟨λn2 h2=>∃ (L1 L2:List (Sl×FileR)) (DS':Nat->Sl->Prop) (u':Mem),L=L1++L2/\n2=(L1.length:Int)/\Bk kinds DS' (N+L1.length) Z pb R tB (d+1) g0 u' h2/\(∀ x∈L1,DS' 0 x.1)/\u' (kU (2*q) 0)=some ⟨l,3,55,fV L⟩/\(∀ i x,L2[i]?=some x->u' (kU (2*q+1) (L1.length+i))=some ⟨x.1,1,5,bl x.2.data⟩)/\(∀ j,(∀ b,j≠kU (2*q+1) b)->u' j=u j),λn2 _=>L.length-n2.toNat,⟨[],L,DS,u,rfl,rfl,B1,λx hx=>(by cases hx),hu.l,λi x hx=>by rw[length_nil,Nat.zero_add];exact hu.d i x hx,λ_ _=>rfl⟩,?_⟩
 rintro n2 h2 ⟨L1,L2,DS',u',rfl,rfl,B2,hD,ul,ud,uo⟩
 rw[length_append] at hln hN
 refine⟨λhlt=>?_,λhge=>?_⟩
 ·rcases L2 with _|⟨x,L2⟩
  ·exact absurd hlt (by simp at hln;omega)
  rw[List.length_cons] at hln hN
  obtain⟨b2,ha2,hr2,g0',k1,_⟩:=rec_at (B2.buf ul)
  refine⟨b2,0,ha2,hr2,x.1,k1,?_⟩
  have ux:=ud 0 x rfl
  rw[Nat.add_zero] at ux
  have hx:=hL x (by simp)
  refine add0 B2 (by omega) (by omega) (λq=>absurd (by omega) q) ux (cols_bl _) (by omega) λh3 B3=>?_
  rw[nx_i (n:=1000000000) (by omega) (by omega)]
  refine⟨⟨L1++[x],L2,_,_,by simp,by simp,by rw[length_append,List.length_singleton];exact B3,λy hy=>?_,?_,λi y hy=>?_,λj hj=>?_⟩,by simp only[length_append,List.length_cons];omega⟩
  ·rcases mem_append.1 hy with hy|hy
   ·exact .inl (hD y hy)
   ·rw[mem_singleton.1 hy];exact .inr ⟨rfl,rfl⟩
  ·rw[del_ne _ (kU_ne (by omega)),ul]
  ·rw[length_append,List.length_singleton,del_ne _ (kU_ne (by omega))]
   have:=ud (i+1) y (by rw[List.getElem?_cons_succ];exact hy)
   rw[show L1.length+1+i=L1.length+(i+1) by omega]
   exact this
  ·rw[del_ne _ (hj _)];exact uo j hj
 ·have hL2:L2=[]:=List.eq_nil_of_length_eq_zero (by omega)
  subst hL2
  rw[append_nil] at ul hQ
  rw[length_nil] at hln hN
  refine Bk.addB (d':=d) (s:=139) rfl (k:=kFiles) (zs:=[.string ⟨#[]⟩,.slice none 0 0,.int .i64 0]) (U:=F109.T (some ⟨pb,0,none⟩)) (D:=F110.T (some ⟨pb,0,none⟩)) (by simp[kinds]) B2 (by omega) ul (cols_fV _ hD) (kdF_one (D:=DS')) rfl (show(l.n+150)*48<=140737488355328 by omega) kinds_up (λ_ _ _ _ h0 h2 hK=>due_ h0 h2 hK) (λh' Q' B' hQ'=>done_ B' (by omega) (by rw[wrap_i64 (by omega) (by omega)];omega) hZ hQ') λh' B'=>?_
  refine hQ h' _ _ B' λj h1 h2=>?_
  rw[del_ne _ (h1 0)]
  exact uo j h2
theorem hold_(B:Bk kinds DS N Z pb R tB d g0 u h)(hN:N<=10000000000)(hZ:∀ k∈kinds,Z k.c)(hQ:Q (.bool true) h):F19.T (some ⟨pb,0,none⟩) h Q:=by
 unfold F19.T F19.G
 obtain⟨g,m,cs,K,M⟩:=B
 refine⟨pb,0,rfl,false,M.O.cell M.hb M.c1,λq=>Bool.noConfusion q,λ_=>?_⟩
 have B:Bk kinds DS N Z pb R tB d g0 u h:=⟨g,m,cs,K,M⟩
 refine hold0 B hN (hZ kBytes (by simp[kinds])) ⟨true,rfl,λ_=>?_,λq=>Bool.noConfusion q⟩
 refine hold1 B ⟨true,rfl,λ_=>?_,λq=>Bool.noConfusion q⟩
 refine hold2 B ⟨true,rfl,λ_=>?_,λq=>Bool.noConfusion q⟩
 refine hold3 B ⟨true,rfl,λ_=>?_,λq=>Bool.noConfusion q⟩
 refine hold4 B ⟨true,rfl,λ_=>?_,λq=>Bool.noConfusion q⟩
 refine hold5 B ⟨true,rfl,λ_=>?_,λq=>Bool.noConfusion q⟩
 refine hold6 B ⟨true,rfl,λ_=>?_,λq=>Bool.noConfusion q⟩
 refine hold7 B ⟨true,rfl,λ_=>?_,λq=>Bool.noConfusion q⟩
 refine hold8 B ⟨true,rfl,λ_=>?_,λq=>Bool.noConfusion q⟩
 refine hold9 B ⟨true,rfl,λ_=>?_,λq=>Bool.noConfusion q⟩
 refine hold10 B ⟨true,rfl,λ_=>?_,λq=>Bool.noConfusion q⟩
 refine hold11 B ⟨true,rfl,λ_=>?_,λq=>Bool.noConfusion q⟩
 refine hold12 B ⟨true,rfl,λ_=>?_,λq=>Bool.noConfusion q⟩
 refine hold13 B ⟨true,rfl,λ_=>?_,λq=>Bool.noConfusion q⟩
 refine hold14 B ⟨true,rfl,λ_=>?_,λq=>Bool.noConfusion q⟩
 refine hold15 B hN (hZ kFiles (by simp[kinds])) ⟨true,rfl,λ_=>?_,λq=>Bool.noConfusion q⟩
 refine hold16 B ⟨true,rfl,λ_=>?_,λq=>Bool.noConfusion q⟩
 refine hold17 B ⟨true,rfl,λ_=>?_,λq=>Bool.noConfusion q⟩
 refine hold18 B ⟨true,rfl,λ_=>?_,λq=>Bool.noConfusion q⟩
 exact hQ
end
end Go.Eng.YtekflkpnpibneaaGreatDoor
end
section
namespace Go.Eng.YtekflkpnpibneaaGreatDoor
open Go.Eng
section
variable{h h':Hp}{z:Lb}{i j:Nat}{s l:Sl}{sz t N kb a b q:Nat}{vs:List Value}{u:Mem}{Q:Value->Hp->Prop}{mark:Int}{L:List (Sl×FileR)}
theorem keep_lab(K:Keep h h')(hi:i≠j):on h' (lab h z j) i=on h z i:=on_lab (off_k.trans K) hi
theorem keep_on(K:Keep (off h z i) h')(K2:Keep (on h z i) h'):Keep (on h z i) (on h' (lab h z i) i):=λb x e=>by
 obtain⟨e1,e2⟩:=on_s e
 rw[on_i (by rw[lab_s e2];exact e1)]
 exact K2 _ _ e
theorem lab_off{b:Nat}(e:off h z i b=none):lab h z i b=i:=by
 cases e2:h b with
 |none=>exact lab_n e2
 |some x=>
  rw[lab_s e2]
  apply Classical.byContradiction
  intro hn
  rw[off_n hn,e2] at e;cases e
theorem buf_on(B:Buf h' s sz t vs)(N:NewN (off h z i) s):Buf (on h' (lab h z i) i) s sz t vs:=by
 rcases B.own with⟨ha,hc⟩|⟨b,c,f,ha,hb,x⟩
 ·exact⟨B.len,B.cap,.inl ⟨ha,hc⟩⟩
 ·rcases N with n|⟨b',e,n⟩
  ·rw[ha] at n;cases n
  ·rw[ha] at e
   simp only[Option.some.injEq,Addr.mk.injEq,and_true] at e
   subst e
   exact⟨B.len,B.cap,.inr ⟨b,c,f,ha,by rw[on_i (lab_off n)];exact hb,x⟩⟩
theorem newN_k{g:Hp}(K:Keep g h)(N:NewN h s):NewN g s:=N.mono K.dom
theorem PR.inn{pb:Nat}{A:PA}{B:RB}{S:Dk}(X:PR emp (on h z i) pb A B S):PR (off h z i) h pb A B S:=by
 have al:∀ k,(∃ o,on h z i k=some o)->off h z i k=none:=λk ⟨o,e⟩=>off_i (on_s e).1
 exact⟨X.P.keep on_k,X.R.keep on_k,X.d,on_k _ _ X.pbe,X.np,X.nr,off_k,λk hk=>al k (X.P.alive hk),λk hk=>al k (X.R.alive hk),al _ ⟨_,X.pbe⟩⟩
theorem PR.out{pb:Nat}{A:PA}{B:RB}{S:Dk}(X:PR (off h z i) h' pb A B S):PR emp (on h' (lab h z i) i) pb A B S:=by
 have m:∀ k x,off h z i k=none->h' k=some x->on h' (lab h z i) i k=some x:=λk x n e=>by rw[on_i (lab_off n)];exact e
 exact⟨X.P.mono λk x hk e=>m k x (X.na k hk) e,X.R.mono λk x hk e=>m k x (X.nb k hk) e,X.d,m _ _ X.npb X.pbe,X.np,X.nr,λk x e=>(by cases e),λ_ _=>rfl,λ_ _=>rfl,rfl⟩
def uF(q:Nat)(r:Sl)(L:List (Sl×FileR)):Mem:=λj=>if j=kU (2*q) 0 then some ⟨r,3,55,fV L⟩ else if j.1=3/\j.2.1=2*q+1 then(L[j.2.2]?).map λx=>⟨x.1,1,5,bl x.2.data⟩ else none
def Free(u:Mem)(q:Nat):Prop:=(∀ b,u (kU (2*q) b)=none)/\∀ b,u (kU (2*q+1) b)=none
theorem uF_l(q:Nat)(r:Sl)(L:List (Sl×FileR)):uF q r L (kU (2*q) 0)=some ⟨r,3,55,fV L⟩:=if_pos rfl
theorem uF_d(q:Nat)(r:Sl)(L:List (Sl×FileR))(i:Nat):uF q r L (kU (2*q+1) i)=(L[i]?).map λx=>⟨x.1,1,5,bl x.2.data⟩:=by
 unfold uF
 rw[if_neg (kU_ne (by omega)),if_pos ⟨rfl,rfl⟩];rfl
theorem uF_n{q q':Nat}(r:Sl)(L:List (Sl×FileR))(hq:q≠q'):Free (uF q r L) q':=by
 constructor<;>intro b<;>unfold uF<;>rw[if_neg (kU_ne (by omega)),if_neg]
 ·intro e;have:=e.2;unfold kU at this;dsimp only at this;omega
 ·intro e;have:=e.2;unfold kU at this;dsimp only at this;omega
theorem uF_s{q:Nat}{r:Sl}{L:List (Sl×FileR)}{k:Key}{x:Bf}(e:uF q r L k=some x):(k=kU (2*q) 0/\x=⟨r,3,55,fV L⟩)\/∃ (i:Nat) (y:Sl×FileR),k=kU (2*q+1) i/\L[i]?=some y/\x=⟨y.1,1,5,bl y.2.data⟩:=by
 unfold uF at e
 by_cases h1:k=kU (2*q) 0
 ·rw[if_pos h1] at e;cases e;exact .inl ⟨h1,rfl⟩
 ·rw[if_neg h1] at e
  by_cases h2:k.1=3/\k.2.1=2*q+1
  ·rw[if_pos h2] at e
   obtain⟨y,hy,rfl⟩:=Option.map_eq_some_iff.1 e
   exact .inr ⟨k.2.2,y,by obtain⟨k1,k2,k3⟩:=k;obtain⟨rfl,rfl⟩:=h2;rfl,hy,rfl⟩
  ·rw[if_neg h2] at e;cases e
theorem Free.none(q:Nat):Free (λ_=>none) q:=⟨λ_=>rfl,λ_=>rfl⟩
theorem Free.or{u n:Mem}(a:Free u q)(b:Free n q):Free (u.or n) q:=⟨λx=>by rw[or_r (a.1 x)];exact b.1 x,λx=>by rw[or_r (a.2 x)];exact b.2 x⟩
theorem HasF.of(f:Free u q)(r:Sl)(L:List (Sl×FileR)):HasF (u.or (uF q r L)) q r L:=⟨by rw[or_r (f.1 _)];exact uF_l _ _ _,λi x hx=>by rw[or_r (f.2 _),uF_d,hx];rfl⟩
theorem HasF.or{n:Mem}(H:HasF u q l L):HasF (u.or n) q l L:=⟨or_l H.l,λi x hx=>or_l (H.d i x hx)⟩
def Same(u u':Mem)(q:Nat):Prop:=∀ j,(∀ b,j≠kU (2*q) b)->(∀ b,j≠kU (2*q+1) b)->u' j=u j
theorem HasF.same{u':Mem}{q':Nat}(H:HasF u q l L)(S:Same u u' q')(hq:q≠q'):HasF u' q l L:=⟨by rw[S _ (λ_=>kU_ne (by omega)) (λ_=>kU_ne (by omega))];exact H.l,λi x hx=>by rw[S _ (λ_=>kU_ne (by omega)) (λ_=>kU_ne (by omega))];exact H.d i x hx⟩
theorem Free.same{u':Mem}{q':Nat}(F:Free u q)(S:Same u u' q')(hq:q≠q'):Free u' q:=⟨λb=>by rw[S _ (λ_=>kU_ne (by omega)) (λ_=>kU_ne (by omega))];exact F.1 b,λb=>by rw[S _ (λ_=>kU_ne (by omega)) (λ_=>kU_ne (by omega))];exact F.2 b⟩
def BkS(h:Hp)(z:Lb)(N kb:Nat)(u:Mem):Prop:=∃ DS N',N'<=N/\Bk kinds DS N' (λ_=>True) kb 175 68 0 emp u (on h z 1)
theorem BkS.eq{z':Lb}(B:BkS h z N kb u)(e:on h' z' 1=on h z 1):BkS h' z' N kb u:=by
 unfold BkS;rw[e];exact B
theorem BkS.mono{N':Nat}(B:BkS h z N kb u)(hN:N<=N'):BkS h z N' kb u:=by
 obtain⟨DS,n,hn,B⟩:=B
 exact⟨DS,n,Nat.le_trans hn hN,B⟩
theorem BkS.lab1(B:BkS h z N kb u)(K:Keep h h'):BkS h' (lab h z 1) N kb u:=by
 obtain⟨DS,n,hn,B⟩:=B
 exact⟨DS,n,hn,B.keepH (keep_on (off_k.trans K) (on_k.trans K))⟩
theorem BkS.clear(B:BkS h z N kb u):BkS h z N kb (λ_=>none):=by
 obtain⟨DS,n,hn,B⟩:=B
 exact⟨DS,n,hn,B.clear⟩
theorem BkS.buf{a b:Nat}{x:Bf}(B:BkS h z N kb u)(hu:u (kU a b)=some x):Buf h x.s x.sz x.t x.vs:=by
 obtain⟨DS,n,hn,B⟩:=B
 exact(B.buf hu).keep on_k
theorem BkS.own(B:BkS h z N kb u)(hu:u (kU a b)=none)(K:Keep h h')(hN:NewN h s)(hB:Buf h' s sz t vs):BkS h' (lab h z 1) N kb (u.put (kU a b) ⟨s,sz,t,vs⟩):=by
 obtain⟨DS,n,hn,B⟩:=B
 exact⟨DS,n,hn,B.own hu (keep_on (off_k.trans K) (on_k.trans K)) (newN_k on_k hN) (buf_on hB (newN_k off_k hN))⟩
theorem BkS.ownF(B:BkS h z N kb u)(K:Keep h h')(F:FA h h' l L):BkS h' (lab h z 1) N kb (u.or (uF q l L)):=by
 obtain⟨DS,n,hn,B⟩:=B
 have hb:∀ y∈L,Off l y.1/\Off y.1 l:=λy hy=>by
  have key:∀ b o o',l.a=some ⟨b,o,none⟩->y.1.a=some ⟨b,o',none⟩->False:=λb o o' e1 e2=>by
   obtain⟨c,f,e⟩:=buf_alive F.b ⟨o,e1⟩
   obtain⟨c',f',e'⟩:=buf_alive (F.d y hy).1 ⟨o',e2⟩
   rw[e] at e'
   simp at e'
  exact⟨λb o o' e1 e2=>key b o o' e1 e2,λb o o' e1 e2=>key b o' o e2 e1⟩
 refine⟨DS,n,hn,B.many (keep_on (off_k.trans K) (on_k.trans K)) (λk x e=>?_) (λk x e=>?_) (λk k' x x' hne e e'=>?_)⟩
 ·rcases uF_s e with⟨rfl,_⟩|⟨i,y,rfl,_⟩<;>rfl
 ·rcases uF_s e with⟨_,rfl⟩|⟨i,y,_,hy,rfl⟩
  ·exact⟨buf_on F.b (newN_k off_k F.n),newN_k on_k F.n⟩
  ·have:=F.d y (mem_of_getElem? hy)
   exact⟨buf_on this.1 (newN_k off_k this.2),newN_k on_k this.2⟩
 ·rcases uF_s e with⟨rfl,rfl⟩|⟨i,y,rfl,hy,rfl⟩<;>rcases uF_s e' with⟨rfl,rfl⟩|⟨i',y',rfl,hy',rfl⟩
  ·exact absurd rfl hne
  ·exact(hb y' (mem_of_getElem? hy')).1
  ·exact(hb y (mem_of_getElem? hy)).2
  ·obtain⟨h1,e1⟩:=List.getElem?_eq_some_iff.1 hy
   obtain⟨h2,e2⟩:=List.getElem?_eq_some_iff.1 hy'
   have pw:=List.pairwise_iff_getElem.1 F.dj
   rcases Nat.lt_trichotomy i i' with hlt|rfl|hlt
   ·have:=pw i i' h1 h2 hlt
    rw[e1,e2] at this;exact this
   ·exact absurd rfl hne
   ·have:=pw i' i h2 h1 hlt
    rw[e1,e2] at this;exact offS this
theorem BkS.fa(B:BkS h z N kb u)(H:HasF u q l L):FA emp h l L:=by
 have nw:∀ {s sz t vs},Buf h s sz t vs->NewN emp s:=λBf=>by
  rcases Bf.own with⟨ha,_⟩|⟨b,c,f,ha,_⟩
  ·exact .inl ha
  ·exact .inr ⟨b,ha,rfl⟩
 refine⟨B.buf H.l,nw (B.buf H.l),λx hx=>?_,?_⟩
 ·obtain⟨i,hi⟩:=List.mem_iff_getElem?.1 hx
  exact⟨B.buf (H.d i x hi),nw (B.buf (H.d i x hi))⟩
 ·obtain⟨DS,n,hn,g,m,cs,K,M⟩:=B
  refine List.pairwise_iff_getElem.2 λi j hi hj hlt=>?_
  have a:=H.d i _ (getElem?_eq_getElem hi)
  have b:=H.d j _ (getElem?_eq_getElem hj)
  rw[<- M.uu _ rfl] at a b
  exact M.O.off _ _ _ _ (kU_ne (by omega)) a b
theorem add15S(B:BkS h z N kb u)(H:HasF u q l L)(hN:N+L.length<10000000000)(hl:L.length<=100000000)(hL:∀ x∈L,x.2.data.length<=100000000000)(hQ:∀ h' z' u',(∀ i,i≠1->on h' z' i=on h z i)->BkS h' z' (N+L.length+1) kb u'->Same u u' q->Q (.tuple ⟨[]⟩) h'):F71.TF (some ⟨kb,0,none⟩) l mark h Q:=by
 have F:=B.fa H
 have hln:=F.len
 have hLn:∀ x∈L,x.1.n<=100000000000:=λx hx=>by
  have:=(F.d x hx).1.len;rw[bl_len] at this;have:=hL x hx;omega
 obtain⟨DS,n,hn,B⟩:=B
 refine Fr.part h z 1 (λv hb=>v=.tuple ⟨[]⟩/\∃ DS' u',Bk kinds DS' (n+L.length+1) (λ_=>True) kb 175 68 0 emp u' hb/\Same u u' q) (add15 B (by omega) (by decide) (λ_ _ _=>trivial) H (by omega) hLn λh' DS' u' B' S'=>⟨rfl,DS',u',B',S'⟩) λv h' K hq=>?_
 obtain⟨rfl,DS',u',B',S'⟩:=hq
 exact hQ h' _ u' (λi hi=>on_lab K hi) ⟨DS',_,by omega,B'⟩ S'
theorem add0S{v:List UInt8}(B:BkS h z N kb u)(hu:u (kU a b)=some ⟨l,1,5,bl v⟩)(hN:N<10000000000)(hv:v.length<=100000000000)(hQ:∀ h' z',(∀ i,i≠1->on h' z' i=on h z i)->BkS h' z' (N+1) kb (u.del (kU a b))->Q (.tuple ⟨[]⟩) h'):F73.TF (some ⟨kb,0,none⟩) l mark h Q:=by
 have hln:l.n=v.length:=by have:=(B.buf hu).len;dsimp only at this;rw[bl_len] at this;omega
 obtain⟨DS,n,hn,B⟩:=B
 refine Fr.part h z 1 (λv hb=>v=.tuple ⟨[]⟩/\Bk kinds (addD DS 0 l) (n+1) (λ_=>True) kb 175 68 0 emp (u.del (kU a b)) hb) (add0 B (by omega) (by decide) (λ_ _ _=>trivial) hu (cols_bl _) (by omega) λh' B'=>⟨rfl,B'⟩) λv h' K hq=>?_
 obtain⟨rfl,B'⟩:=hq
 exact hQ h' _ (λi hi=>on_lab K hi) ⟨_,_,by omega,B'⟩
theorem holdS(B:BkS h z N kb u)(hN:N<=10000000000)(hQ:∀ h',Keep (off h z 1) h'->Q (.bool true) h'):F19.TF (some ⟨kb,0,none⟩) h Q:=by
 obtain⟨DS,n,hn,B⟩:=B
 refine Fr.part h z 1 (λv hb=>v=.bool true) (hold_ B (by omega) (λ_ _=>trivial) rfl) λv h' K hq=>?_
 subst hq
 exact hQ h' K
end
end Go.Eng.YtekflkpnpibneaaGreatDoor
end
section
namespace Go.Eng.YtekflkpnpibneaaGreatDoor
open Go.Eng
section
variable{h h':Hp}{z:Lb}{i:Nat}{N kb pb n:Nat}{A:PA}{B:RB}{S:Dk}{Q:Value->Hp->Prop}
theorem mark_s{x:Int}(hQ:∀ y:Int,Q (.int .i64 y) h):F72.T x h Q:=hQ _
theorem row_one{h:Hp}{b:Nat}(hb:h b=some (.cells ⟨[.int .i64 1]⟩ 3 (0,0))):h.row (some ⟨b,0,none⟩) (1*1) ([1].map λk=>Value.int .i64 k):=⟨rfl,.inr ⟨b,0,rfl,λj hj=>by
 have:j=0:=by omega
 subst this
 exact at_of hb 0⟩⟩
theorem told_len(D:DOk S){L:List (Sl×FileR)}(e:L.map (·.2)=dtold S S.now):L.length<=8388608/\(∀ x∈L,x.2.data.length<=2147483648)/\∀ x∈L,x.2.nm.size<=24:=by
 have h1:=congrArg List.length e
 have h2:=D.len
 unfold dtold at h1 e
 simp only[length_map] at h1
 refine⟨by omega,λx hx=>?_,λx hx=>?_⟩
 ·have hm:x.2∈List.map (fileR S) S.now:=by rw[<- e];exact mem_map_of_mem hx
  obtain⟨y,_,hy⟩:=List.mem_map.1 hm
  rw[<- hy]
  unfold fileR
  cases hf:S.fl[y.2]? with
  |none=>exact Nat.zero_le _
  |some f=>exact(D.fl f (mem_of_getElem? hf)).1
 ·have hm:x.2∈List.map (fileR S) S.now:=by rw[<- e];exact mem_map_of_mem hx
  obtain⟨y,hym,hy⟩:=List.mem_map.1 hm
  rw[<- hy]
  have:=D.now.k y hym
  unfold fileR
  cases hf:S.fl[y.2]?<;>exact this
theorem img_len(D:DOk S){L:List (Sl×FileR)}{dir:Int}{keep:List Int}(e:L.map (·.2)=kImage S dir keep):L.length<=8388608/\∀ x∈L,x.2.data.length<=2147483648:=by
 have h1:=congrArg List.length e
 obtain⟨a,_,c⟩:=image_ok D dir keep
 rw[length_map] at h1
 exact⟨by omega,λx hx=>(c x.2 (by rw[<- e];exact mem_map_of_mem hx)).1⟩
theorem read_len(D:DOk S)(s:ByteArray):(kRead S s).2.length<=2147483648:=by
 unfold kRead
 split
 ·exact Nat.zero_le _
 ·split
  ·exact Nat.zero_le _
  ·split
   ·exact Nat.zero_le _
   ·split
    ·next f hf=>exact(D.fl f (mem_of_getElem? hf)).1
    ·exact Nat.zero_le _
theorem split_at{α:Type}:∀ {X:List α} {i:Nat} {x:α},X[i]?=some x->∃ X1 X2,X=X1++x::X2/\X1.length=i
 |[],i,x,h=>by simp at h
 |y::X,0,x,h=>by simp at h;subst h;exact⟨[],X,rfl,rfl⟩
 |y::X,i+1,x,h=>by
  simp only[List.getElem?_cons_succ] at h
  obtain⟨X1,X2,rfl,rfl⟩:=split_at h
  exact⟨y::X1,X2,rfl,rfl⟩
theorem looks_s{nm:Int}(hi:i≠1)(X:PR emp (on h z i) pb A B S)(D:DN n S)(hn:n<=100000000)(Bs:BkS h z N kb (λ_=>none))(hN:N+25165900<=10000000000)
  (hQ:∀ h' z',(∀ j,j≠1->on h' z' j=on h z j)->BkS h' z' (N+25165900) kb (λ_=>none)->Q (.bool true) h'):F18.TF (some ⟨pb,0,none⟩) (some ⟨kb,0,none⟩) nm h Q:=by
 have hcl:S.chg.length<=1000000000:=by have:=D.c;omega
 have X0:=X.inn
 have XX:∀ {h' z'},(∀ j,j≠1->on h' z' j=on h z j)->PR (off h' z' i) h' pb A B S:=λf=>PR.inn (by rw[f i hi];exact X)
 unfold F18.TF F18.G
 refine⟨pb,0,rfl,some ⟨A.db,0,none⟩,at_of X0.pbe 0,pb,0,rfl,some ⟨A.db,0,none⟩,at_of X0.pbe 0,files_p X0.P D.ok λh1 l L1 K1 F1 e1=>⟨l,rfl,at_of (K1 _ _ X0.pbe) 0,files_p (X0.P.keep K1) D.ok λh2 l1 L2 K2 F2 e2=>⟨l1,rfl,?_⟩⟩⟩
 have X2:=X0.keep (K1.trans K2)
 refine⟨pb,0,rfl,some ⟨B.db,0,none⟩,at_of X2.pbe 1,files_r X2.R D.ok λh3 l2 L3 K3 F3 e3=>⟨l2,rfl,?_⟩⟩
 have S3:=((Bs.ownF (q:=0) K1 F1).ownF (q:=1) K2 F2).ownF (q:=2) K3 F3
 have f0:=Free.none
 have fr1:∀ q,0≠q->Free (Mem.or (λ_=>none) (uF 0 l L1)) q:=λq hq=>(f0 q).or (uF_n _ _ hq)
 have fr2:∀ q,0≠q->1≠q->Free ((Mem.or (λ_=>none) (uF 0 l L1)).or (uF 1 l1 L2)) q:=λq h0 h1=>(fr1 q h0).or (uF_n _ _ h1)
 have fr3:∀ q,3<=q->Free (((Mem.or (λ_=>none) (uF 0 l L1)).or (uF 1 l1 L2)).or (uF 2 l2 L3)) q:=λq h0=>(fr2 q (by omega) (by omega)).or (uF_n _ _ (by omega))
 have H0:HasF (((Mem.or (λ_=>none) (uF 0 l L1)).or (uF 1 l1 L2)).or (uF 2 l2 L3)) 0 l L1:=((HasF.of (f0 0) l L1).or).or
 have H1:HasF (((Mem.or (λ_=>none) (uF 0 l L1)).or (uF 1 l1 L2)).or (uF 2 l2 L3)) 1 l1 L2:=(HasF.of (fr1 1 (by decide)) l1 L2).or
 have H2:HasF (((Mem.or (λ_=>none) (uF 0 l L1)).or (uF 1 l1 L2)).or (uF 2 l2 L3)) 2 l2 L3:=HasF.of (fr2 2 (by decide) (by decide)) l2 L3
 have fx3:∀ j,j≠1->on h3 (lab h2 (lab h1 (lab h z 1) 1) 1) j=on h z j:=λj hj=>by rw[keep_lab K3 hj,keep_lab K2 hj,keep_lab K1 hj]
 generalize (((Mem.or (λ_=>none) (uF 0 l L1)).or (uF 1 l1 L2)).or (uF 2 l2 L3))=u3 at S3 fr3 H0 H1 H2
 generalize (lab h2 (lab h1 (lab h z 1) 1) 1)=z3 at S3 fx3
 clear fr1 fr2
 obtain⟨n1,d1,_⟩:=told_len D.ok e1
 obtain⟨n2,d2,_⟩:=told_len D.ok e2
 obtain⟨n3,d3,s3⟩:=told_len D.ok e3
 refine sameF (S3.fa H0) (S3.fa H2) (e1.trans e3.symm) ⟨true,rfl,λ_=>?_,λq=>Bool.noConfusion q⟩ (by omega)
 refine mark_s λy1=>⟨y1,rfl,?_⟩
 refine add15S S3 H0 (by omega) (by omega) (λx hx=>Nat.le_trans (d1 x hx) (by decide)) λh6 z6 u6 f6 S6 U6=>?_
 replace H1:=H1.same U6 (by decide)
 replace H2:=H2.same U6 (by decide)
 replace fr3:∀ q,3<=q->Free u6 q:=λq hq=>(fr3 q hq).same U6 (by omega)
 refine sameF (S6.fa H1) (S6.fa H2) (e2.trans e3.symm) ⟨true,rfl,λ_=>?_,λq=>Bool.noConfusion q⟩ (by omega)
 refine mark_s λy2=>⟨y2,rfl,?_⟩
 refine add15S S6 H1 (by omega) (by omega) (λx hx=>Nat.le_trans (d2 x hx) (by decide)) λh9 z9 u9 f9 S9 U9=>?_
 replace H2:=H2.same U9 (by decide)
 replace fr3:∀ q,3<=q->Free u9 q:=λq hq=>(fr3 q hq).same U9 (by omega)
 have fx9:∀ j,j≠1->on h9 z9 j=on h z j:=λj hj=>by rw[f9 j hj,f6 j hj,fx3 j hj]
 have X9:=XX fx9
 refine⟨pb,0,rfl,some ⟨A.db,0,none⟩,at_of X9.pbe 0,pb,0,rfl,some ⟨A.db,0,none⟩,at_of X9.pbe 0,λb5 hb5=>?_⟩
 have K10:=Keep.new hb5 (.cells ⟨[.int .i64 1]⟩ 3 (0,0))
 have r10:=row_one (new_at h9 b5 (.cells ⟨[.int .i64 1]⟩ 3 (0,0)))
 generalize h9.new b5 (.cells ⟨[.int .i64 1]⟩ 3 (0,0))=h10 at K10 r10 ⊢
 have X10:=X9.keep K10
 refine⟨at_of X10.pbe 0,at_of X10.pbe 0,image_p (keep:=[1]) X10.P D.ok hcl r10 λh11 l3 L4 K11 F4 e4=>⟨l3,rfl,at_of (K11 _ _ X10.pbe) 0,λb6 hb6=>?_⟩⟩
 have K12:=Keep.new hb6 (.cells ⟨[.int .i64 1]⟩ 3 (0,0))
 have r12:=row_one (new_at h11 b6 (.cells ⟨[.int .i64 1]⟩ 3 (0,0)))
 generalize h11.new b6 (.cells ⟨[.int .i64 1]⟩ 3 (0,0))=h12 at K12 r12 ⊢
 have X12:=X10.keep (K11.trans K12)
 refine⟨at_of X12.pbe 0,image_p (keep:=[1]) X12.P D.ok hcl r12 λh13 l4 L5 K13 F5 e5=>⟨l4,rfl,pb,0,rfl,some ⟨B.db,0,none⟩,at_of (K13 _ _ X12.pbe) 1,λb8 hb8=>?_⟩⟩
 have K14:=Keep.new hb8 (.cells ⟨[.int .i64 1]⟩ 3 (0,0))
 have r14:=row_one (new_at h13 b8 (.cells ⟨[.int .i64 1]⟩ 3 (0,0)))
 generalize h13.new b8 (.cells ⟨[.int .i64 1]⟩ 3 (0,0))=h14 at K14 r14 ⊢
 have X14:=X12.keep (K13.trans K14)
 refine image_r (keep:=[1]) X14.R D.ok hcl r14 λh15 l5 L6 K15 F6 e6=>⟨l5,rfl,?_⟩
 have S15:=(((((S9.lab1 K10).ownF (q:=3) K11 F4).lab1 K12).ownF (q:=4) K13 F5).lab1 K14).ownF (q:=5) K15 F6
 have g4:∀ q,3<q->Free (u9.or (uF 3 l3 L4)) q:=λq hq=>(fr3 q (by omega)).or (uF_n _ _ (by omega))
 have g5:∀ q,4<q->Free ((u9.or (uF 3 l3 L4)).or (uF 4 l4 L5)) q:=λq hq=>(g4 q (by omega)).or (uF_n _ _ (by omega))
 have g6:∀ q,5<q->Free (((u9.or (uF 3 l3 L4)).or (uF 4 l4 L5)).or (uF 5 l5 L6)) q:=λq hq=>(g5 q (by omega)).or (uF_n _ _ (by omega))
 have I3:HasF (((u9.or (uF 3 l3 L4)).or (uF 4 l4 L5)).or (uF 5 l5 L6)) 3 l3 L4:=((HasF.of (fr3 3 (by decide)) l3 L4).or).or
 have I4:HasF (((u9.or (uF 3 l3 L4)).or (uF 4 l4 L5)).or (uF 5 l5 L6)) 4 l4 L5:=(HasF.of (g4 4 (by decide)) l4 L5).or
 have I5:HasF (((u9.or (uF 3 l3 L4)).or (uF 4 l4 L5)).or (uF 5 l5 L6)) 5 l5 L6:=HasF.of (g5 5 (by decide)) l5 L6
 replace H2:HasF (((u9.or (uF 3 l3 L4)).or (uF 4 l4 L5)).or (uF 5 l5 L6)) 2 l2 L3:=((H2.or).or).or
 have fx15:∀ j,j≠1->on h15 (lab h14 (lab h13 (lab h12 (lab h11 (lab h10 (lab h9 z9 1) 1) 1) 1) 1) 1) j=on h z j:=λj hj=>by rw[keep_lab K15 hj,keep_lab K14 hj,keep_lab K13 hj,keep_lab K12 hj,keep_lab K11 hj,keep_lab K10 hj,fx9 j hj]
 generalize (((u9.or (uF 3 l3 L4)).or (uF 4 l4 L5)).or (uF 5 l5 L6))=u15 at S15 g6 I3 I4 I5 H2
 generalize (lab h14 (lab h13 (lab h12 (lab h11 (lab h10 (lab h9 z9 1) 1) 1) 1) 1) 1)=z15 at S15 fx15
 clear g4 g5 fr3
 obtain⟨n4,d4⟩:=img_len D.ok e4
 obtain⟨n5,d5⟩:=img_len D.ok e5
 refine sameF (S15.fa I3) (S15.fa I5) (e4.trans e6.symm) ⟨true,rfl,λ_=>?_,λq=>Bool.noConfusion q⟩ (by omega)
 refine mark_s λy3=>⟨y3,rfl,?_⟩
 refine add15S S15 I3 (by omega) (by omega) (λx hx=>Nat.le_trans (d4 x hx) (by decide)) λh18 z18 u18 f18 S18 U18=>?_
 replace I4:=I4.same U18 (by decide)
 replace I5:=I5.same U18 (by decide)
 replace H2:=H2.same U18 (by decide)
 replace g6:∀ q,5<q->Free u18 q:=λq hq=>(g6 q hq).same U18 (by omega)
 have fx18:∀ j,j≠1->on h18 z18 j=on h z j:=λj hj=>by rw[f18 j hj,fx15 j hj]
 refine sameF (S18.fa I4) (S18.fa I5) (e5.trans e6.symm) ⟨true,rfl,λ_=>?_,λq=>Bool.noConfusion q⟩ (by omega)
 have S19:BkS h18 z18 (N+25165830) kb u18:=S18.mono (by omega)
 refine⟨λx4 h20=>∃ (k:Nat) (z20:Lb) (u20:Mem),x4=(k:Int)/\k<=3/\(∀ j,j≠1->on h20 z20 j=on h z j)/\BkS h20 z20 (N+25165830+k) kb u20/\HasF u20 2 l2 L3/\∀ q,10+3*k<=q->Free u20 q,λx4 _=>3-x4.toNat,⟨0,z18,u18,rfl,by decide,fx18,S19,H2,λq hq=>g6 q (by omega)⟩,?_⟩
 rintro x4 h20 ⟨k,z20,u20,rfl,hk,fx,S20,H20,fr⟩
 have fin:Q (.bool true) h20:=hQ h20 z20 fx (S20.clear.mono (by omega))
 refine⟨λhlt=>⟨λhlt3=>?_,λ_=>fin⟩,λ_=>fin⟩
 have FA20:=S20.fa H20
 have hl2:=FA20.len
 have hkL:k<L3.length:=by omega
 obtain⟨La,Lb,eL,hLa⟩:=split_at (getElem?_eq_getElem hkL)
 generalize hx:L3[k]=x at eL
 have hxm:x∈L3:=by rw[<- hx];exact List.getElem_mem hkL
 have X20:=XX fx
 have Bf:=FA20.b
 rw[eL] at Bf
 obtain⟨b10,ha10,hr10,g0',_⟩:=rec_at Bf
 rw[hLa] at hr10 g0'
 have hsz:x.2.nm.size<=9223372036854775807:=Nat.le_trans (s3 x hxm) (by decide)
 refine⟨pb,0,rfl,some ⟨A.db,0,none⟩,at_of X20.pbe 0,b10,0,ha10,hr10,x.2.nm,g0',read_p X20.P D.ok hsz λh21 l6 K21 B6 N6=>⟨l6,_,rfl,pb,0,rfl,some ⟨A.db,0,none⟩,at_of (K21 _ _ X20.pbe) 0,b10,0,ha10,hr10,x.2.nm,K21.at g0',read_p (X20.P.keep K21) D.ok hsz λh22 l7 K22 B7 N7=>⟨l7,_,rfl,pb,0,rfl,some ⟨B.db,0,none⟩,at_of ((K21.trans K22) _ _ X20.pbe) 1,b10,0,ha10,hr10,x.2.nm,(K21.trans K22).at g0',read_r (X20.R.keep (K21.trans K22)) D.ok λh23 l8 K23 B8 N8=>⟨l8,_,rfl,λ_=>⟨λ_=>?_,λq=>absurd rfl q⟩,λq=>absurd rfl q⟩⟩⟩⟩
 have hrd:=read_len D.ok x.2.nm
 have q0:=(fr (10+3*k) (Nat.le_refl _)).1 0
 have q1:=(fr (11+3*k) (by omega)).1 0
 have q2:=(fr (12+3*k) (by omega)).1 0
 have S23:=((S20.own q0 K21 N6 B6).own (a:=2*(11+3*k)) (b:=0) (by rw[put_ne _ _ (kU_ne (by omega))];exact q1) K22 N7 B7).own (a:=2*(12+3*k)) (b:=0) (by rw[put_ne _ _ (kU_ne (by omega)),put_ne _ _ (kU_ne (by omega))];exact q2) K23 N8 B8
 have fx23:∀ j,j≠1->on h23 (lab h22 (lab h21 (lab h20 z20 1) 1) 1) j=on h z j:=λj hj=>by rw[keep_lab K23 hj,keep_lab K22 hj,keep_lab K21 hj,fx j hj]
 refine sameB (row1 ((B6.keep K22).keep K23).row) (row1 B8.row) ⟨true,rfl,λ_=>?_,λq=>Bool.noConfusion q⟩
 refine mark_s λy4=>⟨y4,rfl,?_⟩
 refine add0S S23 (a:=2*(10+3*k)) (b:=0) (by rw[put_ne _ _ (kU_ne (by omega)),put_ne _ _ (kU_ne (by omega)),put_self]) (by omega) (Nat.le_trans hrd (by decide)) λh26 z26 f26 S26=>?_
 have b7:=S26.buf (a:=2*(11+3*k)) (b:=0) (by rw[del_ne _ (kU_ne (by omega)),put_ne _ _ (kU_ne (by omega)),put_self])
 have b8:=S26.buf (a:=2*(12+3*k)) (b:=0) (by rw[del_ne _ (kU_ne (by omega)),put_self])
 refine sameB (row1 b7.row) (row1 b8.row) ⟨true,rfl,λ_=>?_,λq=>Bool.noConfusion q⟩
 rw[inc_i (n:=1000) (by omega) (by omega)]
 have un:∀ a b,(∀ q,a=2*q\/a=2*q+1->q=2\/13+3*k<=q)->((((u20.put (kU (2*(10+3*k)) 0) ⟨l6,1,5,bl (kRead S x.2.nm).2⟩).put (kU (2*(11+3*k)) 0) ⟨l7,1,5,bl (kRead S x.2.nm).2⟩).put (kU (2*(12+3*k)) 0) ⟨l8,1,5,bl (kRead S x.2.nm).2⟩).del (kU (2*(10+3*k)) 0)) (kU a b)=u20 (kU a b):=λa b ha=>by
  have e:∀ q,q=10+3*k\/q=11+3*k\/q=12+3*k->a≠2*q:=λq hq e=>by have:=ha q (.inl e);omega
  rw[del_ne _ (kU_ne (.inl (e _ (.inl rfl)))),put_ne _ _ (kU_ne (.inl (e _ (.inr (.inr rfl))))),put_ne _ _ (kU_ne (.inl (e _ (.inr (.inl rfl))))),put_ne _ _ (kU_ne (.inl (e _ (.inl rfl))))]
 refine⟨⟨k+1,z26,_,by omega,by omega,λj hj=>by rw[f26 j hj,fx23 j hj],S26.mono (by omega),⟨?_,λt y hy=>?_⟩,λq hq=>⟨λb=>?_,λb=>?_⟩⟩,by dsimp only;omega⟩
 ·rw[un _ _ (λq hq=>by omega)];exact H20.l
 ·rw[un _ _ (λq hq=>by omega)];exact H20.d t y hy
 ·rw[un _ _ (λq' hq'=>by omega)];exact(fr q (by omega)).1 b
 ·rw[un _ _ (λq' hq'=>by omega)];exact(fr q (by omega)).2 b
end
end Go.Eng.YtekflkpnpibneaaGreatDoor
end
section
namespace Go.Eng.YtekflkpnpibneaaGreatDoor
open Go.Eng
theorem Mine.inn{h:Hp}{z:Lb}{i:Nat}{m:Mem}(O:Mine emp (on h z i) m):Mine (off h z i) h m:=
 ⟨off_k,λk x e=>(O.buf k x e).keep on_k,λk x e=>by
  rcases (O.buf k x e).own with⟨ha,_⟩|⟨b,c,f,ha,hb,_⟩
  ·exact .inl ha
  ·exact .inr ⟨b,ha,off_i (on_s hb).1⟩,O.off⟩
theorem Mine.out{h h':Hp}{z:Lb}{i:Nat}{m:Mem}(O:Mine (off h z i) h' m):Mine emp (on h' (lab h z i) i) m:=
 ⟨λk x e=>(by cases e),λk x e=>buf_on (O.buf k x e) (O.new k x e),λk x e=>(O.new k x e).imp id λ⟨b,a,_⟩=>⟨b,a,rfl⟩,O.off⟩
theorem on_off{h:Hp}{z:Lb}{i j:Nat}(hij:i≠j):Keep (on h z i) (off h z j):=λk x e=>by
 obtain⟨e1,e2⟩:=on_s e
 rw[off_n (by rw[e1];exact hij)];exact e2
theorem PR.weak{g h1 h:Hp}{A:PA}{B:RB}{S:Dk}{pb:Nat}(X:PR h1 h pb A B S)(K:Keep g h1):PR g h pb A B S:=⟨X.P,X.R,X.d,X.pbe,X.np,X.nr,K.trans X.K,λk hk=>K.dom k (X.na k hk),λk hk=>K.dom k (X.nb k hk),K.dom _ X.npb⟩
def U8(vs:List Value):Prop:=∀ v∈vs,∃ n:Int,v=.int .u8 n
theorem U8.bl(v:List UInt8):U8 (bl v):=λw hw=>by
 obtain⟨x,_,e⟩:=List.mem_map.1 hw
 exact⟨_,e.symm⟩
theorem U8.marks(n:Nat):U8 (markL mkB n):=λw hw=>by
 unfold markL at hw
 obtain⟨j,_,hj⟩:=List.mem_flatMap.1 hw
 exact⟨_,mem_singleton.1 hj⟩
theorem U8.app{a b:List Value}(x:U8 a)(y:U8 b):U8 (a++b):=λw hw=>(mem_append.1 hw).elim (x w) (y w)
theorem U8.set{a:List Value}(x:U8 a)(j:Nat)(n:Int):U8 (a.set j (.int .u8 n)):=λw hw=>(List.mem_or_eq_of_mem_set hw).elim (x w) λe=>⟨n,e⟩
section
variable{h h':Hp}{z:Lb}{m:Mem}{s l l2:Sl}{Q:Value->Hp->Prop}
theorem spoil1{kd:Key}{vs:List Value}{j:Nat}(O:Mine emp (on h z 2) m)(hk:m kd=some ⟨s,1,5,vs⟩)(hu:U8 vs)(hj:j<s.n):∃ b,s.a=some ⟨b,0,none⟩/\(∃ n:Int,h.at b (0+j)=some (.int .u8 n))/\∀ x:Int,h.canW b (0+j) 1/\(∀ i,i≠2->on (h.wr b (0+j) [.int .u8 x]) (lab h z 2) i=on h z i)/\∃ m' vs',Mine emp (on (h.wr b (0+j) [.int .u8 x]) (lab h z 2) 2) m'/\m' kd=some ⟨s,1,5,vs'⟩/\U8 vs'/\∀ k,k≠kd->m' k=m k:=by
 have O1:=Mine.inn O
 have B:=O1.buf _ _ hk
 dsimp only at B
 have hl:=B.len
 have hjl:j<vs.length:=by omega
 obtain⟨b,ha,hat⟩:=buf_at B hjl
 have hv:=getElem?_eq_getElem hjl
 obtain⟨n,hn⟩:=hu _ (List.getElem_mem hjl)
 refine⟨b,ha,⟨n,by rw[hat,hv,hn]⟩,λx=>?_⟩
 obtain⟨b',hb',hc,U,B'⟩:=buf_wr1 B hjl (.int .u8 x)
 rw[ha] at hb';cases hb'
 rw[Nat.zero_add]
 have O2:=O1.write hk U B'
 exact⟨hc,λi hi=>on_lab O2.keep hi,_,_,Mine.out O2,put_self _ _ _,hu.set _ _,λk hk=>put_ne _ _ hk⟩
theorem rV_at{Y:List (Sl×RawF)}{k:Nat}{x:Sl×RawF}(r:h.row l.a (l.n*3) (rV Y))(hx:Y[k]?=some x):∃ b o,l.a=some ⟨b,o,none⟩/\((0:Int)<=(k:Int)/\(k:Int)<(l.n:Int))/\∀ c,c<3->h.at b ((o+((k:Int)).toNat*3)+c)=(rcell x)[c]?:=by
 have hk:=(List.getElem?_eq_some_iff.1 hx).1
 have hl:=r.1
 rw[rV_len] at hl
 obtain⟨b,o,ha,hat⟩:=r.2.resolve_left (by omega)
 refine⟨b,o,ha,⟨by omega,by omega⟩,λc hc=>?_⟩
 rw[Int.toNat_natCast,Nat.add_assoc,hat _ (by omega)]
 unfold rV
 rw[flatG rcell 3 (λ_=>rfl) Y k c hk hc]
 have:=(List.getElem?_eq_some_iff.1 hx).2
 rw[this]
theorem sameRA{L L':List (Sl×RawF)}(R:RA h l L)(R':RA h l2 L')(e:L.map (·.2)=L'.map (·.2))(hl:L.length<=4000000000000)(hQ:Q (.bool true) h):F9.T l l2 h Q:=by
 have hn:=R.len
 have hn':=R'.len
 have hll:L.length=L'.length:=by have:=congrArg List.length e;simpa using this
 unfold F9.T F9.G
 refine⟨λ_=>⟨λn g1=>g1=h/\∃ k:Nat,n=(k:Int)/\k<=L.length,λn _=>L.length-n.toNat,⟨rfl,0,rfl,Nat.zero_le _⟩,?_⟩,λhne=>absurd (by omega) hne⟩
 rintro n g1 ⟨rfl,k,rfl,hk⟩
 refine⟨λhlt=>?_,λ_=>hQ⟩
 have hk1:k<L.length:=by omega
 have hx:=getElem?_eq_getElem hk1
 have hy:=getElem?_eq_getElem (l:=L') (i:=k) (by omega)
 generalize L[k]=x at hx
 generalize L'[k]'(by omega)=y at hy
 have exy:x.2=y.2:=by
  have h1:(L.map (·.2))[k]?=some x.2:=by rw[getElem?_map,hx];rfl
  have h2:(L'.map (·.2))[k]?=some y.2:=by rw[getElem?_map,hy];rfl
  rw[e,h2] at h1
  exact(Option.some.inj h1).symm
 obtain⟨b,o,ha,hr,g0⟩:=rV_at R.b hx
 obtain⟨b',o',ha',hr',g0'⟩:=rV_at R'.b hy
 have k0:=g0 0 (by decide)
 have k0':=g0' 0 (by decide)
 rw[Nat.add_zero] at k0 k0'
 refine⟨b,o,ha,hr,x.2.nm,k0,b',o',ha',hr',y.2.nm,k0',λ_=>⟨b,o,ha,hr,_,g0 2 (by decide),b',o',ha',hr',_,g0' 2 (by decide),λ_=>⟨b,o,ha,hr,x.1,g0 1 (by decide),b',o',ha',hr',y.1,g0' 1 (by decide),?_⟩,λhne=>absurd (by rw[exy]) hne⟩,λhne=>absurd (by rw[exy]) hne⟩
 refine sameB (v:=x.2.data) (row1 (R.d x (mem_of_getElem? hx)).1) (by rw[exy];exact row1 (R'.d y (mem_of_getElem? hy)).1) ⟨true,rfl,λ_=>?_,λh=>(by cases h)⟩
 rw[inc_i (n:=5000000000000) (by omega) (by omega)]
 exact⟨⟨rfl,k+1,rfl,hk1⟩,by dsimp only;omega⟩
def SpF(h:Hp)(z:Lb)(s:Sl)(Y:List (Sl×RawF)):Prop:=∃ m,Mine emp (on h z 2) m/\m (3,12,0)=some ⟨s,3,55,rV (ltOf Y)++markL mkF 40⟩/\∀ i y,Y[i]?=some y->∃ vs,m (3,0,i)=some ⟨y.1,1,5,vs⟩/\U8 vs/\y.2.data.length<=y.1.n
theorem lt_len(Y:List (Sl×RawF)):(ltOf Y).length=Y.length:=by unfold ltOf;rw[length_map]
theorem lt_map(Y:List (Sl×RawF)):(ltOf Y).map (·.2)=Y.map (·.2):=by unfold ltOf;rw[List.map_map];rfl
theorem SpF.row{Y:List (Sl×RawF)}(X:SpF h z s Y)(hn:s.n=Y.length+40):h.row s.a (Y.length*3) (rV (ltOf Y)):=by
 obtain⟨m,O,a,_⟩:=X
 have Bf:=(Mine.inn O).buf _ _ a
 have:=buf_pre (n:=Y.length) (c:=s.n) Bf (by rw[rV_len,lt_len]) (by omega) Bf.cap
 exact this.row
theorem SpF.step{Y:List (Sl×RawF)}(X:SpF h z s Y){i j:Nat}{y:Sl×RawF}(hy:Y[i]?=some y)(hj:j<y.2.data.length):∃ b,y.1.a=some ⟨b,0,none⟩/\(∃ n:Int,h.at b (0+j)=some (.int .u8 n))/\∀ x:Int,h.canW b (0+j) 1/\(∀ i,i≠2->on (h.wr b (0+j) [.int .u8 x]) (lab h z 2) i=on h z i)/\SpF (h.wr b (0+j) [.int .u8 x]) (lab h z 2) s Y:=by
 obtain⟨m,O,a,d⟩:=X
 obtain⟨vs,d1,d2,d3⟩:=d i y hy
 obtain⟨b,ha,hn,st⟩:=spoil1 O d1 d2 (j:=j) (by omega)
 refine⟨b,ha,hn,λx=>?_⟩
 obtain⟨s1,s2,m',vs',O',k1,k2,k3⟩:=st x
 refine⟨s1,s2,m',O',by rw[k3 _ (by simp)];exact a,λi' y' hy'=>?_⟩
 by_cases hi:i'=i
 ·subst hi
  rw[hy] at hy';cases hy'
  exact⟨vs',k1,k2,d3⟩
 ·obtain⟨ws,e1,e2,e3⟩:=d i' y' hy'
  exact⟨ws,by rw[k3 _ (by simp[hi])];exact e1,e2,e3⟩
theorem lent_row{cs:List Value}{w nn:Sl}{M:Nat}{Y:List (Sl×RawF)}{g:Hp}(O:Mine g h m)(R:RK m cs 0 0 53 1 5 M mkB w nn (lbOf Y)){i:Nat}{y:Sl×RawF}(hy:Y[i]?=some y):m (3,0,i)=some ⟨y.1,1,5,bl y.2.data++markL mkB M⟩/\h.row y.1.a (y.2.data.length*1) (bl y.2.data)/\y.2.data.length<=y.1.n/\y.1.a≠none:=by
 have hb:(lbOf Y)[i]?=some ⟨y.1,y.2.data.length,bl y.2.data⟩:=by unfold lbOf;rw[getElem?_map,hy];rfl
 obtain⟨d1,d2,d3,d4,b,db⟩:=R.d i _ hb
 dsimp only at d1 d2 d3 d4 db
 have Bf:=O.buf _ _ d1
 have:=buf_pre (n:=y.2.data.length) (c:=y.1.n) Bf d4 (by omega) d3
 exact⟨d1,this.row,by omega,by rw[db];simp⟩
theorem lent_ra{cs:List Value}{w nn:Sl}{Y:List (Sl×RawF)}{g:Hp}(O:Mine g h m)(R:RK m cs 0 0 53 1 5 4 mkB w nn (lbOf Y))(hF:m (3,12,0)=some ⟨s,3,55,rV (ltOf Y)++markL mkF 40⟩)(hn:s.n=Y.length+40):RA h ⟨s.a,Y.length,s.n⟩ (ltOf Y):=by
 have Bf:=O.buf _ _ hF
 dsimp only at Bf
 refine⟨(buf_pre (n:=Y.length) (c:=s.n) Bf (by rw[rV_len,lt_len]) (by omega) Bf.cap).row,λx hx=>?_⟩
 unfold ltOf at hx
 obtain⟨y,hy,rfl⟩:=List.mem_map.1 hx
 obtain⟨i,hi⟩:=List.mem_iff_getElem?.1 hy
 obtain⟨_,r,c,n⟩:=lent_row O R hi
 exact⟨r,c,λe=>absurd e n⟩
end
end Go.Eng.YtekflkpnpibneaaGreatDoor
end
section
namespace Go.Eng.YtekflkpnpibneaaGreatDoor
open Go.Eng
def cs175:List Value:=[.bool false,.bool false,.int .i64 0,.int .i64 0]++(List.range 19).flatMap λ_=>[.slice none 0 0,.slice none 0 0,.slice none 0 0,.slice none 0 0,.slice none 0 0,.slice none 0 0,.slice none 0 0,.slice none 0 0,.int .i64 0]
theorem cs175_at{c f:Nat}(hc:c<19)(hf:f<9):cs175[4+9*c+f]?=([.slice none 0 0,.slice none 0 0,.slice none 0 0,.slice none 0 0,.slice none 0 0,.slice none 0 0,.slice none 0 0,.slice none 0 0,.int .i64 0]:List Value)[f]?:=by
 unfold cs175
 rw[List.getElem?_append_right (by simp;omega),show 4+9*c+f-([.bool false,.bool false,.int .i64 0,.int .i64 0]:List Value).length=c*9+f by simp;omega]
 exact flatG (λ_=>([.slice none 0 0,.slice none 0 0,.slice none 0 0,.slice none 0 0,.slice none 0 0,.slice none 0 0,.slice none 0 0,.slice none 0 0,.int .i64 0]:List Value)) 9 (λ_=>rfl) (List.range 19) c f (by simpa using hc) hf
section
variable{h h':Hp}{z:Lb}{kb:Nat}
theorem book0(hb:h kb=none)(he:on h z 1=emp):BkS (h.new kb (.cells ⟨cs175⟩ 68 (0,0))) (lab h z 1) 0 kb (λ_=>none):=by
 have e:on (h.new kb (.cells ⟨cs175⟩ 68 (0,0))) (lab h z 1) 1=Hp.new emp kb (.cells ⟨cs175⟩ 68 (0,0)):=by
  funext k
  by_cases hk:k=kb
  ·subst hk
   rw[on_i (lab_n hb)]
   unfold Hp.new;rw[if_pos rfl,if_pos rfl]
  ·have e2:(Hp.new emp kb (.cells ⟨cs175⟩ 68 (0,0))) k=none:=by unfold Hp.new;rw[if_neg hk];rfl
   rw[e2]
   have e3:(h.new kb (.cells ⟨cs175⟩ 68 (0,0))) k=h k:=by unfold Hp.new;rw[if_neg hk]
   by_cases hz:lab h z 1 k=1
   ·rw[on_i hz,e3]
    cases hx:h k with
    |none=>rfl
    |some x=>
     rw[lab_s hx] at hz
     have:=congrFun he k
     rw[on_i hz,hx] at this;cases this
   ·exact on_n hz
 refine⟨λ_ _=>False,0,Nat.le_refl _,?_⟩
 rw[e]
 refine Bk.mono (Bk.start (h':=emp) (ks:=kinds) (R:=175) (tB:=68) (pb:=kb) (cs:=cs175) rfl rfl rfl rfl rfl rfl (λc hc f hf=>?_) (λc hc=>?_) (λk hk=>?_) kinds_d) (λ_ _ _=>trivial)
 ·rw[cs175_at hc (by omega)]
  have:f=0\/f=1\/f=2\/f=3\/f=4\/f=5\/f=6\/f=7:=by omega
  rcases this with rfl|rfl|rfl|rfl|rfl|rfl|rfl|rfl<;>rfl
 ·rw[cs175_at hc (by decide)];rfl
 ·simp only[kinds,mem_cons,List.not_mem_nil,or_false] at hk
  rcases hk with rfl|rfl<;>decide
end
end Go.Eng.YtekflkpnpibneaaGreatDoor
end
section
namespace Go.Eng.YtekflkpnpibneaaGreatDoor
open Go.Eng
structure ApS(g h:Hp)(z:Lb)(kb b6 b7 k:Nat):Prop where
 B:BkS h z (k*75497700) kb (λ_=>none)
 P:∃ A B S,PR emp (on h z 3) b6 A B S/\DN k S
 R:∃ A B S,PR emp (on h z 4) b7 A B S/\DN k S
 G:on h z 0=g
section
variable{g h h':Hp}{z:Lb}{kb b6 b7 k:Nat}{Q:Value->Hp->Prop}{l1:Sl}{O:List OpR}
theorem step_s{R:Hp->Prop}(X:ApS g h z kb b6 b7 k)(R1:OA g l1 O)(hk:k<O.length)(hO:O.length<=60)(sO:∀ x∈O,x.o.data.length<=1048576/\x.o.keep.length<=1048576)(hR:∀ h' z',ApS g h' z' kb b6 b7 (k+1)->R h'){F:Hp->Prop} :
  ix l1.a (k:Int) l1.n λb9 o5=>ldI .i64 h b9 (o5+((k:Int)).toNat*8) λn7=>ldT h b9 ((o5+((k:Int)).toNat*8)+1) λs=>ldT h b9 ((o5+((k:Int)).toNat*8)+2) λs1=>ldS h b9 ((o5+((k:Int)).toNat*8)+3) λl6=>ldI .i64 h b9 ((o5+((k:Int)).toNat*8)+4) λn8=>ldI .i64 h b9 ((o5+((k:Int)).toNat*8)+5) λn9=>ldI .i64 h b9 ((o5+((k:Int)).toNat*8)+6) λn10=>ldS h b9 ((o5+((k:Int)).toNat*8)+7) λl7=>nw h (.cells ⟨cs28⟩ 43 (0,0)) λb10 h15=>ix l1.a (k:Int) l1.n λb11 o6=>ldS h15 b11 ((o6+((k:Int)).toNat*8)+3) λl8=>F12.T (some ⟨b10,0,none⟩) l8 h15 λr6 h16=>retS r6 λl9=>ix l1.a (k:Int) l1.n λb12 o7=>ldS h16 b12 ((o7+((k:Int)).toNat*8)+7) λl10=>F13.T (some ⟨b10,0,none⟩) l10 h16 λr7 h17=>retS r7 λl11=>F14.T (some ⟨b6,0,none⟩) n7 s s1 l9 n8 n9 n10 l11 h17 λr8 h18=>retB r8 (F10.T (some ⟨b10,0,none⟩) h18 λr9 h19=>retB r9 (ix l1.a (k:Int) l1.n λb13 o8=>ldS h19 b13 ((o8+((k:Int)).toNat*8)+3) λl12=>F15.T l9 l12 h19 λr10 h20=>retB r10 (ix l1.a (k:Int) l1.n λb14 o9=>ldS h20 b14 ((o9+((k:Int)).toNat*8)+7) λl13=>F16.T l11 l13 h20 λr11 h21=>retB r11 (∃ (I3:Int->Hp->Prop) (m3:Int->Hp->Nat),I3 0 h21/\(∀ n11:Int,∀ h22:Hp,I3 n11 h22->par (n11<(l9.n:Int)) (ix l9.a n11 l9.n λb15 o10=>ldI .u8 h22 b15 (o10+n11.toNat) λn12=>ix l9.a n11 l9.n λb16 o11=>st h22 b16 (o11+n11.toNat) 1 [.int .u8 (wrap .u8 (n12+7))] λh23=>I3 (wrap .i64 (n11+1)) h23/\m3 (wrap .i64 (n11+1)) h23<m3 n11 h22) (ix l1.a (k:Int) l1.n λb17 o12=>ldI .i64 h22 b17 (o12+((k:Int)).toNat*8) λn13=>ldT h22 b17 ((o12+((k:Int)).toNat*8)+1) λs2=>ldT h22 b17 ((o12+((k:Int)).toNat*8)+2) λs3=>ldS h22 b17 ((o12+((k:Int)).toNat*8)+3) λl14=>ldI .i64 h22 b17 ((o12+((k:Int)).toNat*8)+4) λn14=>ldI .i64 h22 b17 ((o12+((k:Int)).toNat*8)+5) λn15=>ldI .i64 h22 b17 ((o12+((k:Int)).toNat*8)+6) λn16=>ldS h22 b17 ((o12+((k:Int)).toNat*8)+7) λl15=>F17.T (some ⟨b7,0,none⟩) n13 s2 s3 l14 n14 n15 n16 l15 h22 λr12 h24=>retB r12 (F18.TF (some ⟨b6,0,none⟩) (some ⟨kb,0,none⟩) (wrap .i64 (2*(k:Int))) h24 λr13 h25=>retB r13 (F18.TF (some ⟨b7,0,none⟩) (some ⟨kb,0,none⟩) (wrap .i64 ((wrap .i64 (2*(k:Int)))+1)) h25 λr14 h26=>retB r14 (F18.TF (some ⟨b6,0,none⟩) (some ⟨kb,0,none⟩) (wrap .i64 (2*(k:Int))) h26 λr15 h27=>retB r15 (R h27) (F h27)) (F h26)) (F h25)) (F h24)))) (F h21)) (F h20)) (F h19)) (F h18):=by
 have hget:O[k]?=some O[k]:=getElem?_eq_getElem hk
 generalize O[k]=x at hget
 have hm:=mem_of_getElem? hget
 have hd:=R1.d x hm
 have hz:=R1.z x hm
 have hs:=sO x hm
 have dn:x.d.n=x.o.data.length:=by have:=hd.1.1;rw[bl_len] at this;omega
 have kn:x.k.n=x.o.keep.length:=by have:=hd.2.2.1;rw[length_map] at this;omega
 obtain⟨BB,⟨A3,B3,S3,P3,D3⟩,⟨A4,B4,S4,P4,D4⟩,G⟩:=X
 have rd:∀ {h':Hp},Keep g h'->∃ b o,l1.a=some ⟨b,o,none⟩/\((0:Int)<=(k:Int)/\(k:Int)<(l1.n:Int))/\∀ r,r<8->h'.at b ((o+((k:Int)).toNat*8)+r)=(ocell x)[r]?:=λK=>(R1.keep K).at hget
 have K0:Keep g h:=by rw[<- G];exact on_k
 obtain⟨b,o,ha,hr,hat⟩:=rd K0
 refine⟨b,o,ha,hr,x.o.kind,hat 0 (by decide),x.o.nm,hat 1 (by decide),x.o.to,hat 2 (by decide),x.d,hat 3 (by decide),x.o.a,hat 4 (by decide),x.o.b,hat 5 (by decide),x.o.c,hat 6 (by decide),x.k,hat 7 (by decide),λb10 hb10=>?_⟩
 obtain⟨m0,R0,_,_⟩:=room0 hb10 600
 have K15:Keep h (h.new b10 (.cells ⟨cs28⟩ 43 (0,0))):=Keep.new hb10 _
 generalize h.new b10 (.cells ⟨cs28⟩ 43 (0,0))=h15 at R0 K15 ⊢
 obtain⟨O0,kr0,⟨w0,n0,RB0⟩,⟨w1,n1,RI0⟩,⟨w2,n2,RF0⟩,no0⟩:=R0
 obtain⟨b,o,ha,hr,hat⟩:=rd (K0.trans K15)
 refine⟨b,o,ha,hr,x.d,hat 3 (by decide),?_⟩
 unfold F12.T F12.G
 refine layB_s (M:=600) O0 kr0 RB0 ((K0.trans K15).row hd.1) (by omega) (by decide) (by decide) λh16 m1 c1 sb wb nb O1 kr1 RB1 hm1 hc1 hsb=>⟨_,rfl,⟨sb.a,x.d.n,sb.n⟩,rfl,?_⟩
 rw[List.nil_append] at RB1
 have RI1:RK m1 c1 1 2 28 1 3 40 mkI w1 n1 []:=RI0.cong (λk h1 h2=>hm1 k h1 (by omega)) (hc1 _ (by decide) (by decide)) (hc1 _ (by decide) (by decide))
 obtain⟨b,o,ha,hr,hat⟩:=rd (K0.trans O1.keep)
 refine⟨b,o,ha,hr,x.k,hat 7 (by decide),?_⟩
 unfold F13.T F13.G
 refine layI_s O1 kr1 RI1 ((K0.trans O1.keep).row hd.2.2) (by omega) (by decide) λh17 m2 c2 si wi ni O2 kr2 RI2 hm2 hc2 hsi=>⟨_,rfl,⟨si.a,x.k.n,si.n⟩,rfl,?_⟩
 rw[List.nil_append] at RI2
 have RB2:RK m2 c2 0 0 53 1 5 600 mkB wb nb [⟨sb,x.d.n,bl x.o.data⟩]:=RB1.cong (λk h1 h2=>hm2 k h1 (by omega)) (hc2 _ (by decide) (by decide)) (hc2 _ (by decide) (by decide))
 have RF2:RK m2 c2 12 24 22 3 55 40 mkF w2 n2 []:=RF0.cong (λk h1 h2=>by rw[hm2 k h1 (by omega),hm1 k h1 (by omega)]) (by rw[hc2 _ (by decide) (by decide),hc1 _ (by decide) (by decide)]) (by rw[hc2 _ (by decide) (by decide),hc1 _ (by decide) (by decide)])
 have no2:∀ f,f<28->f≠0->f≠1->f≠2->f≠3->f≠24->f≠25->c2[f]?=some (.slice none 0 0):=λf hf a b c d e1 e2=>by rw[hc2 f c d,hc1 f a b];exact no0 f hf a b c d e1 e2
 obtain⟨db1,db2,db3,db4,_⟩:=RB2.d 0 _ rfl
 obtain⟨di1,di2,di3,di4,_⟩:=RI2.d 0 _ rfl
 dsimp only at db1 db2 db3 db4 di1 di2 di3 di4
 -- on its part
 have O17:Mine emp (on h17 (lab h z 2) 2) m2:=Mine.out (O2.base off_k)
 have f17:∀ i,i≠2->on h17 (lab h z 2) i=on h z i:=λi hi=>keep_lab O2.keep hi
 clear O0 O1 O2 kr0 kr1 RB0 RB1 RI0 RI1 RF0 hm1 hm2 hc1 hc2 no0
 generalize lab h z 2=z17 at O17 f17
 have Bd:∀ {h':Hp} {z':Lb} {m:Mem},Mine emp (on h' z' 2) m->m (3,0,0)=some ⟨sb,1,5,bl x.o.data++markL mkB 600⟩->Buf (on h' z' 2) ⟨sb.a,x.d.n,sb.n⟩ 1 5 (bl x.o.data):=λM e=>buf_pre (M.buf _ _ e) db4 (by omega) db3
 have Bi:∀ {h':Hp} {z':Lb} {m:Mem},Mine emp (on h' z' 2) m->m (3,1,0)=some ⟨si,1,3,(x.o.keep.map λk=>Value.int .i64 k)++markL mkI 40⟩->Buf (on h' z' 2) ⟨si.a,x.k.n,si.n⟩ 1 3 (x.o.keep.map λk=>Value.int .i64 k):=λM e=>buf_pre (M.buf _ _ e) di4 (by omega) di3
 have P17:PR (off h17 z17 3) h17 b6 A3 B3 S3:=PR.inn (by rw[f17 3 (by decide)];exact P3)
 refine lends_s P17 D3 (by omega) hz.1 hz.2.1 ((Bd O17 db1).keep (on_off (by decide))) (by omega) (((Bi O17 di1).keep (on_off (by decide))).row) (by omega) λh18 A5 B5 P18=>⟨true,rfl,λ_=>?_,λq=>Bool.noConfusion q⟩
 have D5:DN (k+1) (kStep S3 ⟨x.o.kind,x.o.nm,x.o.to,x.o.data,x.o.a,x.o.b,x.o.c,x.o.keep⟩):=DN.step D3 hz.2.2.1 hz.2.2.2.1 hz.2.2.2.2.1
 generalize kStep S3 ⟨x.o.kind,x.o.nm,x.o.to,x.o.data,x.o.a,x.o.b,x.o.c,x.o.keep⟩=S5 at P18 D5
 have f18:∀ i,i≠3->on h18 (lab h17 z17 3) i=on h17 z17 i:=λi hi=>on_lab P18.K hi
 replace P18:=PR.out P18
 generalize lab h17 z17 3=z18 at P18 f18
 have O18:Mine emp (on h18 z18 2) m2:=by rw[f18 2 (by decide)];exact O17
 have G18:on h18 z18 0=g:=by rw[f18 0 (by decide),f17 0 (by decide)];exact G
 have K18:Keep g h18:=by rw[<- G18];exact on_k
 refine hold_x (M:=600) (g:=off h18 z18 2) ⟨Mine.inn O18,kr2,⟨_,_,RB2⟩,⟨_,_,RI2⟩,⟨_,_,RF2⟩,no2⟩ (by decide) (by simp) (by simp) (by simp) (λy hy=>?_) (λy hy=>?_) (λy hy=>by cases hy) ⟨true,rfl,λ_=>?_,λq=>Bool.noConfusion q⟩
 ·rw[mem_singleton.1 hy];show x.d.n<=_;omega
 ·rw[mem_singleton.1 hy];show x.k.n<=_;omega
 obtain⟨b,o,ha,hr,hat⟩:=rd K18
 refine⟨b,o,ha,hr,x.d,hat 3 (by decide),sameB (row1 ((Bd O18 db1).keep on_k).row) (row1 (K18.row hd.1)) ⟨true,rfl,λ_=>?_,λq=>Bool.noConfusion q⟩⟩
 refine⟨b,o,ha,hr,x.k,hat 7 (by decide),sameI ((Bi O18 di1).keep on_k).row (K18.row hd.2.2) (by omega) ⟨true,rfl,λ_=>?_,λq=>Bool.noConfusion q⟩⟩
 refine⟨λn11 h22=>∃ (j:Nat) (z22:Lb) (m:Mem) (vs:List Value),n11=(j:Int)/\j<=x.d.n/\(∀ i,i≠2->on h22 z22 i=on h18 z18 i)/\Mine emp (on h22 z22 2) m/\m (3,0,0)=some ⟨sb,1,5,vs⟩/\U8 vs,λn11 _=>x.d.n-n11.toNat,⟨0,z18,m2,_,rfl,Nat.zero_le _,λ_ _=>rfl,O18,db1,(U8.bl _).app (U8.marks _)⟩,?_⟩
 rintro n11 h22 ⟨j,z22,m,vs,rfl,hj,f22,O22,e22,u22⟩
 refine⟨λhlt=>?_,λ_=>?_⟩
 ·have hj1:j<x.d.n:=by dsimp only at hlt;omega
  obtain⟨b15,hb15,⟨n12,hn12⟩,sp⟩:=spoil1 O22 e22 u22 (j:=j) (by omega)
  obtain⟨c1,c2,m',vs',O',k1,k2,_⟩:=sp (wrap .u8 (n12+7))
  refine⟨b15,0,hb15,⟨by omega,by dsimp only;omega⟩,n12,by rw[Int.toNat_natCast];exact hn12,b15,0,hb15,⟨by omega,by dsimp only;omega⟩,?_⟩
  rw[Int.toNat_natCast,nx_i hj1 (by omega)]
  exact⟨c1,⟨j+1,_,m',vs',rfl,hj1,λi hi=>by rw[c2 i hi,f22 i hi],O',k1,k2⟩,by dsimp only;omega⟩
 have G22:on h22 z22 0=g:=by rw[f22 0 (by decide)];exact G18
 have K22:Keep g h22:=by rw[<- G22];exact on_k
 obtain⟨b,o,ha,hr,hat⟩:=rd K22
 refine⟨b,o,ha,hr,x.o.kind,hat 0 (by decide),x.o.nm,hat 1 (by decide),x.o.to,hat 2 (by decide),x.d,hat 3 (by decide),x.o.a,hat 4 (by decide),x.o.b,hat 5 (by decide),x.o.c,hat 6 (by decide),x.k,hat 7 (by decide),?_⟩
 have P22:PR (off h22 z22 4) h22 b7 A4 B4 S4:=PR.inn (by rw[f22 4 (by decide),f18 4 (by decide),f17 4 (by decide)];exact P4)
 have Kg:Keep g (off h22 z22 4):=by rw[<- G22];exact on_off (by decide)
 refine does_p P22 D4 (by omega) hz.1 hz.2.1 (Kg.row hd.1) hd.2.1 (by omega) (Kg.row hd.2.2) (by omega) λh24 A6 B6 P24=>⟨true,rfl,λ_=>?_,λq=>Bool.noConfusion q⟩
 have D6:DN (k+1) (kStep S4 ⟨x.o.kind,x.o.nm,x.o.to,x.o.data,x.o.a,x.o.b,x.o.c,x.o.keep⟩):=DN.step D4 hz.2.2.1 hz.2.2.2.1 hz.2.2.2.2.1
 generalize kStep S4 ⟨x.o.kind,x.o.nm,x.o.to,x.o.data,x.o.a,x.o.b,x.o.c,x.o.keep⟩=S6 at P24 D6
 have f24:∀ i,i≠4->on h24 (lab h22 z22 4) i=on h22 z22 i:=λi hi=>on_lab P24.K hi
 replace P24:=PR.out P24
 generalize lab h22 z22 4=z24 at P24 f24
 have P3':PR emp (on h24 z24 3) b6 A5 B5 S5:=by rw[f24 3 (by decide),f22 3 (by decide)];exact P18
 have B24:BkS h24 z24 (k*75497700) kb (λ_=>none):=BB.eq (by rw[f24 1 (by decide),f22 1 (by decide),f18 1 (by decide),f17 1 (by decide)])
 have G24:on h24 z24 0=g:=by rw[f24 0 (by decide)];exact G22
 refine looks_s (i:=3) (by decide) P3' D5 (by omega) B24 (by omega) λh25 z25 f25 B25=>⟨true,rfl,λ_=>?_,λq=>Bool.noConfusion q⟩
 refine looks_s (i:=4) (by decide) (by rw[f25 4 (by decide)];exact P24) D6 (by omega) B25 (by omega) λh26 z26 f26 B26=>⟨true,rfl,λ_=>?_,λq=>Bool.noConfusion q⟩
 refine looks_s (i:=3) (by decide) (by rw[f26 3 (by decide),f25 3 (by decide)];exact P3') D5 (by omega) B26 (by omega) λh27 z27 f27 B27=>⟨true,rfl,λ_=>?_,λq=>Bool.noConfusion q⟩
 exact hR h27 z27 ⟨B27.mono (by omega),⟨A5,B5,S5,by rw[f27 3 (by decide),f26 3 (by decide),f25 3 (by decide)];exact P3',D5⟩,⟨A6,B6,S6,by rw[f27 4 (by decide),f26 4 (by decide),f25 4 (by decide)];exact P24,D6⟩,by rw[f27 0 (by decide),f26 0 (by decide),f25 0 (by decide)];exact G24⟩
end
end Go.Eng.YtekflkpnpibneaaGreatDoor
end
section
namespace Go.Eng.YtekflkpnpibneaaGreatDoor
open Go.Eng
section
variable{h h':Hp}{z:Lb}{Q:Value->Hp->Prop}
theorem off0(h:Hp):off h (λ_=>0) 2=h:=funext λk=>off_n (by decide)
theorem on0(h:Hp):on h (λ_=>0) 0=h:=funext λk=>on_i rfl
theorem on1(h:Hp){i:Nat}(hi:i≠0):on h (λ_=>0) i=emp:=funext λk=>on_n (Ne.symm hi)
theorem spoil_s{s:Sl}{Y:List (Sl×RawF)}{K:Hp->Prop}(hn:s.n=Y.length+40)(hY:Y.length<=4000000000000)(hd:∀ y∈Y,y.2.data.length<=1048576)(X:SpF h z s Y)(hK:∀ h' z',(∀ i,i≠2->on h' z' i=on h z i)->SpF h' z' s Y->K h'){l2:Sl}(el:l2=⟨s.a,Y.length,s.n⟩) :
  ∃ (I:Int->Hp->Prop) (m:Int->Hp->Nat),I 0 h/\(∀ n3:Int,∀ h8:Hp,I n3 h8->par (n3<(l2.n:Int)) (∃ (I1:Int->Hp->Prop) (m1:Int->Hp->Nat),I1 0 h8/\(∀ n4:Int,∀ h9:Hp,I1 n4 h9->ix l2.a n3 l2.n λb1 o=>ldS h9 b1 ((o+n3.toNat*3)+1) λl3=>par (n4<(l3.n:Int)) (ix l2.a n3 l2.n λb2 o1=>ldS h9 b2 ((o1+n3.toNat*3)+1) λl4=>ix l2.a n3 l2.n λb3 o2=>ldS h9 b3 ((o2+n3.toNat*3)+1) λl5=>ix l5.a n4 l5.n λb4 o3=>ldI .u8 h9 b4 (o3+n4.toNat) λn5=>ix l4.a n4 l4.n λb5 o4=>st h9 b5 (o4+n4.toNat) 1 [.int .u8 (wrap .u8 (n5+1))] λh10=>I1 (wrap .i64 (n4+1)) h10/\m1 (wrap .i64 (n4+1)) h10<m1 n4 h9) (I (wrap .i64 (n3+1)) h9/\m (wrap .i64 (n3+1)) h9<m n3 h8))) (K h8)):=by
 subst el
 refine⟨λn3 h8=>∃ (k:Nat) (z8:Lb),n3=(k:Int)/\k<=Y.length/\(∀ i,i≠2->on h8 z8 i=on h z i)/\SpF h8 z8 s Y,λn3 _=>Y.length-n3.toNat,⟨0,z,rfl,Nat.zero_le _,λ_ _=>rfl,X⟩,?_⟩
 rintro n3 h8 ⟨k,z8,rfl,hk,f8,X8⟩
 refine⟨λhlt=>?_,λ_=>hK h8 z8 f8 X8⟩
 have hk1:k<Y.length:=by dsimp only at hlt;omega
 have hy:=getElem?_eq_getElem hk1
 generalize Y[k]=y at hy
 have hyd:=hd y (mem_of_getElem? hy)
 have hyt:(ltOf Y)[k]?=some (⟨y.1.a,y.2.data.length,y.1.n⟩,y.2):=by unfold ltOf;rw[getElem?_map,hy];rfl
 refine⟨λn4 h9=>∃ (j:Nat) (z9:Lb),n4=(j:Int)/\j<=y.2.data.length/\(∀ i,i≠2->on h9 z9 i=on h z i)/\SpF h9 z9 s Y,λn4 _=>y.2.data.length-n4.toNat,⟨0,z8,rfl,Nat.zero_le _,f8,X8⟩,?_⟩
 rintro n4 h9 ⟨j,z9,rfl,hj,f9,X9⟩
 obtain⟨b,o,ha,hr,hat⟩:=rV_at (l:=⟨s.a,Y.length,s.n⟩) (X9.row hn) hyt
 have c1:=hat 1 (by decide)
 refine⟨b,o,ha,hr,⟨y.1.a,y.2.data.length,y.1.n⟩,c1,λhlt2=>?_,λ_=>?_⟩
 ·have hj1:j<y.2.data.length:=by dsimp only at hlt2;omega
  obtain⟨b4,ha4,⟨n5,hn5⟩,sp⟩:=X9.step hy hj1
  obtain⟨w1,w2,w3⟩:=sp (wrap .u8 (n5+1))
  refine⟨b,o,ha,hr,_,c1,b,o,ha,hr,_,c1,b4,0,ha4,⟨by omega,by dsimp only;omega⟩,n5,by rw[Int.toNat_natCast];exact hn5,b4,0,ha4,⟨by omega,by dsimp only;omega⟩,?_⟩
  rw[Int.toNat_natCast,nx_i hj1 (by omega)]
  exact⟨w1,⟨j+1,_,rfl,hj1,λi hi=>by rw[w2 i hi,f9 i hi],w3⟩,by dsimp only;omega⟩
 ·rw[nx_i hk1 (by omega)]
  exact⟨⟨k+1,z9,rfl,hk1,f9,X9⟩,by dsimp only;omega⟩
theorem apart_s{room:Int}{l l1:Sl}{L:List (Sl×RawF)}{O:List OpR}(R:RA h l L)(hroom:room<=9223372036854775807)(hnm:∀ x∈L,x.2.nm.size<=9223372036854775807)(hlen:L.length*48<=140737488351232)(hdat:∀ x∈L,x.2.data.length<=140737488355328)(R1:OA h l1 O)(hO:O.length<=140737488355328)(hQ:∀ h',Keep h h'->Q (.bool true) h'):F3.TF room l l1 h Q:=by
 have hln:=R1.len
 unfold F3.TF F3.G
 refine known_s λh1 K1=>⟨true,rfl,λ_=>?_,λe=>(by cases e)⟩
 replace R:=R.keep K1
 replace R1:=R1.keep K1
 replace hQ:∀ h',Keep h1 h'->Q (.bool true) h':=λh' K=>hQ h' (K1.trans K)
 refine small_s R R1 hdat (by omega) hO ⟨false,rfl,λe=>(by cases e),λ_=>hQ h1 (Keep.refl _)⟩ (λsL sO sn=>⟨true,rfl,λ_=>⟨λ_=>hQ h1 (Keep.refl _),λh60=>?_⟩,λe=>(by cases e)⟩)
 have hO60:O.length<=60:=by omega
 intro b hb
 obtain⟨m0,R0,N12,f12⟩:=room0 hb 4
 refine(?_:F6.T (some ⟨b,0,none⟩) l (h1.new b (.cells ⟨cs28⟩ 43 (0,0))) _)
 generalize h1.new b (.cells ⟨cs28⟩ 43 (0,0))=h3 at R0 ⊢
 obtain⟨O0,kr0,⟨w0,n0,RB0⟩,⟨w1,n1,RI0⟩,_,no0⟩:=R0
 refine layF_s O0 kr0 RB0 N12 f12 R hlen sL λh4 m4 c4 s wb nb wf nf Y O4 kr4 RB4 RF4 eY hm4 hc4=>⟨⟨s.a,L.length,s.n⟩,rfl,?_⟩
 have hYL:Y.length=L.length:=by have:=congrArg List.length eY;simpa using this
 have RI4:RK m4 c4 1 2 28 1 3 40 mkI w1 n1 []:=RI0.cong (λk h1 h2=>hm4 k h1 (by omega) (by omega)) (hc4 _ (by decide) (by decide) (by decide) (by decide)) (hc4 _ (by decide) (by decide) (by decide) (by decide))
 have no4:∀ f,f<28->f≠0->f≠1->f≠2->f≠3->f≠24->f≠25->c4[f]?=some (.slice none 0 0):=λf hf a b c d e1 e2=>by rw[hc4 f a b e1 e2];exact no0 f hf a b c d e1 e2
 obtain⟨df,dn,dc,_,_⟩:=RF4.d 0 _ rfl
 dsimp only at df dn dc
 have dn':s.n=Y.length+40:=by omega
 have RL:=lent_ra O4 RB4 df dn'
 rw[hYL] at RL
 have eL:(ltOf Y).map (·.2)=L.map (·.2):=by rw[lt_map];exact eY
 have hnm':∀ x∈ltOf Y,x.2.nm.size<=9223372036854775807:=λx hx=>by
  have:x.2∈L.map (·.2):=by rw[<- eL];exact mem_map_of_mem hx
  obtain⟨y,hy,e⟩:=List.mem_map.1 this
  rw[<- e];exact hnm y hy
 have ef:((ltOf Y).map λx=>x.2.f)=L.map λx=>x.2.f:=by
  have:∀ M:List (Sl×RawF),(M.map λx=>x.2.f)=(M.map (·.2)).map RawF.f:=λM=>by rw[List.map_map];rfl
  rw[this,this,eL]
 have hYd:∀ y∈Y,y.2.data.length<=1048576:=λy hy=>by
  have:y.2∈L.map (·.2):=by rw[<- eY];exact mem_map_of_mem hy
  obtain⟨x,hx,e⟩:=List.mem_map.1 this
  rw[<- e];exact sL x hx
 have K4:Keep h1 h4:=O4.keep
 -- the lists are the same,the room holds
 have chk:∀ {h6:Hp} {A:Hp->Prop},Keep h4 h6->A h6->F9.T ⟨s.a,L.length,s.n⟩ l h6 λr17 h29=>retB r17 (F10.T (some ⟨b,0,none⟩) h29 λr18 h30=>retB r18 (A h30) (Q (.bool false) h30)) (Q (.bool false) h29):=λ{h6} {A} K hA=>by
  refine sameRA (RL.keep K) (R.keep (K4.trans K)) eL (by rw[lt_len];omega) ⟨true,rfl,λ_=>?_,λq=>Bool.noConfusion q⟩
  refine hold_x (M:=4) (g:=h1) ⟨O4.keepH K,kr4,⟨_,_,RB4⟩,⟨_,_,RI4⟩,⟨_,_,RF4⟩,no4⟩ (by decide) (by unfold lbOf;rw[length_map];omega) (by simp) (by simp) (λy hy=>?_) (λy hy=>by cases hy) (λy hy=>?_) ⟨true,rfl,λ_=>hA,λq=>Bool.noConfusion q⟩
  ·unfold lbOf at hy
   obtain⟨x,hx,rfl⟩:=List.mem_map.1 hy
   have:=hYd x hx
   show x.2.data.length<=_;omega
  ·rw[mem_singleton.1 hy];show L.length<=_;omega
 refine new_p RL hroom hnm' (λhno h5 K5=>⟨none,36,rfl,?_⟩) (λhyes h5 A K5 nA PA=>⟨_,0,rfl,?_⟩)
 ·rw[eL] at hno
  refine new_r (R.keep (K4.trans K5)) hroom (λ_ h6 K6=>⟨none,36,rfl,λh7=>Keep h1 h7,λh7 K7=>⟨okPtr_none _ _,λ_=>hQ h7 K7,λq=>absurd rfl q⟩,?_⟩) (λhyes=>by rw[hno] at hyes;cases hyes)
  exact⟨λ_=>⟨okPtr_none _ _,λ_=>⟨okPtr_none _ _,λ_=>⟨λ_=>chk (A:=_) (K5.trans K6) (K4.trans (K5.trans K6)),λhne=>absurd rfl hne⟩,λhne=>absurd rfl hne⟩,λhne=>absurd rfl hne⟩,λhne=>absurd rfl hne⟩
 rw[eL] at hyes
 rw[ef] at PA
 refine new_r (R.keep (K4.trans K5)) hroom (λhno=>by rw[hno] at hyes;cases hyes) (λ_ h6 B K6 nB RB=>⟨_,0,rfl,λh7=>h7=h6,?_,⟨λ_=>⟨okPtr_none _ _,λq=>(by cases q),λ_=>⟨okPtr_none _ _,λq=>(by cases q),λ_=>⟨λ_=>chk (A:=_) (K5.trans K6) rfl,λhne=>absurd rfl hne⟩⟩⟩,λhne=>absurd rfl hne⟩⟩)
 intro h7 e7
 replace e7:=e7.symm
 subst e7
 refine⟨okPtr_none _ _,λhe=>(by cases he),λ_=>?_⟩
 have D0:=newOk_dn hyes hroom
 rw[<- fs_map] at D0
 generalize hS0:fresh room (L.map λx=>x.2.f)=S0 at PA RB D0
 -- parts: 0 what was,2 the room,3 both disks
 have O4z:Mine emp (on h4 (lab h1 (λ_=>0) 2) 2) m4:=Mine.out (by rw[off0];exact O4)
 have f4:∀ i,i≠2->on h4 (lab h1 (λ_=>0) 2) i=on h1 (λ_=>0) i:=λi hi=>keep_lab K4 hi
 have e0:on h4 (lab h1 (λ_=>0) 2) 0=h1:=by rw[f4 0 (by decide),on0]
 have e1:on h4 (lab h1 (λ_=>0) 2) 1=emp:=by rw[f4 1 (by decide),on1 _ (by decide)]
 have e3:on h4 (lab h1 (λ_=>0) 2) 3=emp:=by rw[f4 3 (by decide),on1 _ (by decide)]
 have e4:on h4 (lab h1 (λ_=>0) 2) 4=emp:=by rw[f4 4 (by decide),on1 _ (by decide)]
 generalize lab h1 (λ_=>0) 2=z4 at O4z e0 e1 e3 e4
 have K46:Keep h4 h6:=K5.trans K6
 have f6:∀ i,i≠3->on h6 (lab h4 z4 3) i=on h4 z4 i:=λi hi=>keep_lab K46 hi
 have ad:∀ k,A.own k->¬ B.own k:=λk ha hb'=>by
  obtain⟨o,ho⟩:=PA.alive ha
  rw[nB k hb'] at ho;cases ho
 have l3:∀ k,h4 k=none->lab h4 z4 3 k=3:=λk hk=>lab_n hk
 have PA6:PD (on h6 (lab h4 z4 3) 3) A S0:=(PA.keep K6).mono λk x ha e=>by rw[on_i (l3 k (nA k ha))];exact e
 have RB6:RD (on h6 (lab h4 z4 3) 3) B S0:=RB.mono λk x hb' e=>by rw[on_i (l3 k (K5.dom k (nB k hb')))];exact e
 have X6:SpF h6 (lab h4 z4 3) s Y:=⟨m4,by rw[f6 2 (by decide)];exact O4z,df,λi y hy=>⟨_,(lent_row O4 RB4 hy).1,(U8.bl _).app (U8.marks _),(lent_row O4 RB4 hy).2.2.1⟩⟩
 have e6:on h6 (lab h4 z4 3) 0=h1/\on h6 (lab h4 z4 3) 1=emp/\on h6 (lab h4 z4 3) 4=emp:=⟨by rw[f6 0 (by decide)];exact e0,by rw[f6 1 (by decide)];exact e1,by rw[f6 4 (by decide)];exact e4⟩
 generalize lab h4 z4 3=z6 at PA6 RB6 X6 e6
 refine spoil_s dn' (by omega) hYd X6 (λh8 z8 f8 X8=>?_) (by rw[hYL])
 intro b6 hb6
 have K11:=Keep.new hb6 (.cells ⟨[.pointer (some ⟨A.db,0,none⟩),.pointer (some ⟨B.db,0,none⟩)]⟩ 58 (0,0))
 have hat:=new_at h8 b6 (.cells ⟨[.pointer (some ⟨A.db,0,none⟩),.pointer (some ⟨B.db,0,none⟩)]⟩ 58 (0,0))
 generalize h8.new b6 (.cells ⟨[.pointer (some ⟨A.db,0,none⟩),.pointer (some ⟨B.db,0,none⟩)]⟩ 58 (0,0))=h11 at K11 hat ⊢
 have f11:∀ i,i≠3->on h11 (lab h8 z8 3) i=on h8 z8 i:=λi hi=>keep_lab K11 hi
 have KK:Keep (on h6 z6 3) (on h11 (lab h8 z8 3) 3):=by rw[<- f8 3 (by decide)];exact keep_on (off_k.trans K11) (on_k.trans K11)
 have no8:∀ k,k=b6->∀ o,on h6 z6 3 k≠some o:=λk hk o e=>by
  rw[<- f8 3 (by decide)] at e
  have:=(on_s e).2
  rw[hk,hb6] at this;cases this
 have P11:PR emp (on h11 (lab h8 z8 3) 3) b6 A B S0:=
  ⟨PA6.keep KK,RB6.keep KK,ad,by rw[on_i (lab_n hb6)];exact hat,λha=>by obtain⟨o,ho⟩:=PA6.alive ha;exact no8 _ rfl o ho,λhb'=>by obtain⟨o,ho⟩:=RB6.alive hb';exact no8 _ rfl o ho,λk x e=>(by cases e),λ_ _=>rfl,λ_ _=>rfl,rfl⟩
 have e11:on h11 (lab h8 z8 3) 0=h1/\on h11 (lab h8 z8 3) 1=emp/\on h11 (lab h8 z8 3) 4=emp:=⟨by rw[f11 0 (by decide),f8 0 (by decide)];exact e6.1,by rw[f11 1 (by decide),f8 1 (by decide)];exact e6.2.1,by rw[f11 4 (by decide),f8 4 (by decide)];exact e6.2.2⟩
 generalize lab h8 z8 3=z11 at P11 e11
 have K11':Keep h1 h11:=by rw[<- e11.1];exact on_k
 refine begin_s (R.keep K11') hroom hnm (by omega) (λx hx=>Nat.le_trans (sL x hx) (by decide)) (λhno=>by rw[hno] at hyes;cases hyes) (λ_ h12 b7 A2 B2 P12=>⟨some ⟨b7,0,none⟩,true,λ_=>⟨rfl,okPtr_none _ _,λq=>(by cases q),λ_=>?_⟩,λq=>Bool.noConfusion q⟩)
 rw[hS0] at P12
 have f12':∀ i,i≠4->on h12 (lab h11 z11 4) i=on h11 z11 i:=λi hi=>keep_lab P12.K hi
 have P12':PR emp (on h12 (lab h11 z11 4) 4) b7 A2 B2 S0:=PR.out (P12.weak off_k)
 have e12:on h12 (lab h11 z11 4) 0=h1/\on h12 (lab h11 z11 4) 1=emp:=⟨by rw[f12' 0 (by decide)];exact e11.1,by rw[f12' 1 (by decide)];exact e11.2.1⟩
 have P3:PR emp (on h12 (lab h11 z11 4) 3) b6 A B S0:=by rw[f12' 3 (by decide)];exact P11
 generalize lab h11 z11 4=z12 at P12' e12 P3
 intro b8 hb8
 have BK:=book0 hb8 e12.2
 have K13:=Keep.new hb8 (.cells ⟨cs175⟩ 68 (0,0))
 refine(?_:∃ (I2:Int->Hp->Prop) (m2:Int->Hp->Nat),I2 0 (h12.new b8 (.cells ⟨cs175⟩ 68 (0,0)))/\_)
 generalize h12.new b8 (.cells ⟨cs175⟩ 68 (0,0))=h13 at BK K13 ⊢
 have f13:∀ i,i≠1->on h13 (lab h12 z12 1) i=on h12 z12 i:=λi hi=>keep_lab K13 hi
 have X13:ApS h1 h13 (lab h12 z12 1) b8 b6 b7 0:=⟨BK.mono (Nat.zero_le _),⟨A,B,S0,by rw[f13 3 (by decide)];exact P3,D0⟩,⟨A2,B2,S0,by rw[f13 4 (by decide)];exact P12',D0⟩,by rw[f13 0 (by decide)];exact e12.1⟩
 refine⟨λn6 h14=>∃ (k:Nat) (z14:Lb),n6=(k:Int)/\k<=O.length/\ApS h1 h14 z14 b8 b6 b7 k,λn6 _=>O.length-n6.toNat,⟨0,_,rfl,Nat.zero_le _,X13⟩,?_⟩
 rintro n6 h14 ⟨k,z14,rfl,hk,X14⟩
 refine⟨λhlt=>?_,λ_=>?_⟩
 ·have hk1:k<O.length:=by omega
  refine step_s (F:=λh=>Q (.bool false) h) X14 R1 hk1 hO60 sO λh15 z15 X15=>?_
  rw[nx_i hk1 (by omega)]
  exact⟨⟨k+1,z15,rfl,hk1,X15⟩,by dsimp only;omega⟩
 ·refine holdS X14.B (by omega) λh15 K15=>⟨true,rfl,λ_=>hQ _ ?_,λq=>Bool.noConfusion q⟩
  have:=X14.G
  have K0:Keep (on h14 z14 0) (off h14 z14 1):=on_off (by decide)
  rw[this] at K0
  exact K0.trans K15
end
end Go.Eng.YtekflkpnpibneaaGreatDoor
end
section
namespace Go.Proofs.YtekflkpnpibneaaGreatDoor.diskApart
open Go.ChangeShapes Go.WideShapes Go.ChangeAt Go.RowKit Go.Eng Go.Eng.YtekflkpnpibneaaGreatDoor
theorem own:ownKnob Tryz.prog.godebug=none:=by kernel_rfl
theorem laidOut:laidOutB Tryz.prog=true:=by kernel_rfl
theorem door_met (os : Os) (args : Array Value) : laidMetH Tryz.prog [("math/bits.deBruijn32tab", Rows.laid_math_bits_deBruijn32tab), ("math/bits.deBruijn64tab", Rows.laid_math_bits_deBruijn64tab), ("internal/strconv.uint64pow10", Rows.laid_internal_strconv_uint64pow10)] ((World.doorLaid Tryz.prog 24 os).forCall (fun _ _ => 0) ⟨#[], args, []⟩).memory :=
 laidMetH_of_parts3 (fuel:=8) (laidMet_of_run' 8 (by kernel_rfl) (by kernel_rfl)) (by kernel_rfl) (by kernel_rfl)
theorem walk{a1 a2:Option Addr}{len1 cap1 len2 cap2:Nat}{n:Int}{L:List (Sl×RawF)}{O:List OpR}{W:World}(X:LA (wh W) n ⟨a1,len1,cap1⟩ L)(hl:L.length*48<=140737488351232)(R1:OA (wh W) ⟨a2,len2,cap2⟩ O)(hO:O.length<=140737488355328) :
  Calls Tryz.prog 3 #[.int .i64 n,.slice a1 len1 cap1,.slice a2 len2 cap2] W λe W'=>e=.returned (.bool true)/\Below W.heap.size W W':=by
 have hT:F3.TF n ⟨a1,len1,cap1⟩ ⟨a2,len2,cap2⟩ (wh W) (λv h'=>v=.bool true/\Keep (wh W) h'):=apart_s X.R X.room X.nm hl X.data R1 hO λh' K=>⟨rfl,K⟩
 have hV:F3.W F3.TF [.int .i64 n,.slice a1 len1 cap1,.slice a2 len2 cap2] (wh W) (λv h'=>v=.bool true/\Keep (wh W) h'):=hT
 refine(F3.okF.2 _ (wh W) _ hV (λ_=>none) W (own_wh W)).mono λe W' ⟨v,h',he,ho,hw,hv,K⟩=>?_
 subst hv
 exact⟨he,below_of hw ho K⟩
set_option maxRecDepth 100000 in
theorem lifted(os:Os)(started:os.Started)(H:Type)(enc:TypeId×Value->H) :
  ReturnsInHanded {} Tryz.checked os 3 .any (fun w args => (Rows.diskApartSpec.pre enc Tryz.prog Tryz.f3 [] false w args ∧ laidMetH Tryz.prog [("math/bits.deBruijn32tab", Rows.laid_math_bits_deBruijn32tab), ("math/bits.deBruijn64tab", Rows.laid_math_bits_deBruijn64tab), ("internal/strconv.uint64pow10", Rows.laid_internal_strconv_uint64pow10)] w) ∧ sizedMet enc Tryz.prog Tryz.f3 (OpenSpec.ofChange Rows.diskApartSpec) false w args)
   (Rows.diskApartSpec.post enc Tryz.prog Tryz.f3 false true false false):=by
 refine returnsInHanded_of_change_and (C := Tryz.checked) (X := (fun w _ => laidMetH Tryz.prog [("math/bits.deBruijn32tab", Rows.laid_math_bits_deBruijn32tab), ("math/bits.deBruijn64tab", Rows.laid_math_bits_deBruijn64tab), ("internal/strconv.uint64pow10", Rows.laid_internal_strconv_uint64pow10)] w)) (fun _ _ _ hh h => h.of_heap hh) own started (by kernel_rfl) Tryz.func3
  (ChangeSpec.witness_shaped (enc := enc) (C := Tryz.checked) (os := os) (X := (fun w _ => laidMetH Tryz.prog [("math/bits.deBruijn32tab", Rows.laid_math_bits_deBruijn32tab), ("math/bits.deBruijn64tab", Rows.laid_math_bits_deBruijn64tab), ("internal/strconv.uint64pow10", Rows.laid_internal_strconv_uint64pow10)] w)) false (World.doorLaid Tryz.prog 24 os) #[.int .i64 0, .slice none 0 0, .slice none 0 0] 8 rfl (World.shaped_of_RefB (by kernel_rfl) (by kernel_rfl)) (by kernel_rfl) (by kernel_rfl) (by kernel_rfl) (door_met os _)) ?_
 intro W base args ds gs before hval0 hW _ hsz0 hL _
 have hval:∀ (j:Nat) t v,Tryz.f3.params[j]?=some t->args[j]?=some v->Value.okWide Tryz.prog W .any base t v:=hval0
 have hsz:(DataW.weightsEach Tryz.prog (Tryz.f3.params.toList++Rows.diskApartSpec.plain.varTypes Tryz.prog) (ds++gs)).all (·<=reachBytes)=true:=hsz0
 have hW':=hW
 obtain⟨p,q,hA0,hV,rfl,hfz,hnd⟩:=hW
 have hA:DataW.TrodAll enc Tryz.prog W 0 (λ_=>true) true Tryz.f3.params.toList args.toList ds p:=hA0
 rw[Tryz.params3] at hA hval
 obtain⟨v0,vs0,d0,ds0,p0,q0,hargs,rfl,rfl,h0,r0⟩:=trodAll_cons hA
 obtain⟨v1,vs1,d1,ds1,p1,q1,rfl,rfl,rfl,h1,r1⟩:=trodAll_cons r0
 obtain⟨v2,vs2,d2,ds2,p2,q2,rfl,rfl,rfl,h2,r2⟩:=trodAll_cons r1
 obtain⟨rfl,rfl,rfl⟩:=trodAll_nil r2
 obtain rfl:args=#[v0,v1,v2]:=by cases args;simp_all
 obtain⟨rfl,rfl⟩:=trodVars_none hV
 obtain⟨a0,rfl,rfl,rfl,w0⟩:=open_int Tryz.underlying3 (hval 0 3 v0 rfl rfl) h0
 obtain⟨a1,len1,cap1,rfl⟩:=okWide_slice Tryz.underlying22 (hval 1 22 v1 rfl rfl)
 have k1:=h1
 have lt1:∀ x∈p1,x.block<W.heap.size:=by obtain⟨m,hm⟩:=k1;exact DataW.trod_lt m _ _ _ hm
 have wb1:WB Tryz.prog 22 d1:=wb_arg (j:=1) hsz rfl rfl
 obtain⟨a2,len2,cap2,rfl⟩:=okWide_slice Tryz.underlying23 (hval 2 23 v2 rfl rfl)
 have k2:=h2
 have lt2:∀ x∈p2,x.block<W.heap.size:=by obtain⟨m,hm⟩:=k2;exact DataW.trod_lt m _ _ _ hm
 have wb2:WB Tryz.prog 23 d2:=wb_arg (j:=2) hsz rfl rfl
 obtain⟨L,X,hl⟩:∃ L,LA (wh W) a0 ⟨a1,len1,cap1⟩ L/\L.length*48<=140737488351232:=by obtain⟨m,hm⟩:=k1;exact open_files hm wb1 (by have:=wf_i64 w0;unfold iI at this;omega)
 obtain⟨O,R1,hO⟩:∃ O,OA (wh W) ⟨a2,len2,cap2⟩ O/\O.length<=140737488355328:=by obtain⟨m,hm⟩:=k2;exact open_ops hm wb2
 clear hA0 hval0 hsz0
 refine(walk X hl R1 hO).mono λe W' ⟨he,bel⟩=>?_
 subst he
 exact⟨_,rfl,_,_,_,[],_,[],hW',trodAll_mk1 (shut_bool Tryz.underlying4 _),(trodAll_cons_mk (shut_int Tryz.underlying3 w0) (trodAll_cons_mk (Below.trod laidOut (by kernel_rfl) (of_decide_eq_true (by kernel_rfl)) k1 bel lt1) (trodAll_cons_mk (Below.trod laidOut (by kernel_rfl) (of_decide_eq_true (by kernel_rfl)) k2 bel lt2) ( trodAll_mk0)))),rfl,bel.frame _,λh=>by cases h⟩
theorem over:Rows.DiskApartSaid:=
 OpenClaim.holds_of_wide 3 Tryz.f3 rfl rfl rfl rfl rfl rfl rfl ⟨rfl,rfl,rfl,rfl,rfl⟩ rfl rfl rfl rfl rfl (by kernel_rfl) Tryz.func3 (by kernel_rfl)
  (of_decide_eq_true (by kernel_rfl)) (by unfold Func.isWrapper;first|(rw[if_pos (by decide +kernel)];kernel_rfl)|(rw[if_neg (by decide +kernel)];exact⟨rfl,rfl⟩))
  (λos started H enc _=>lifted os started H enc)
theorem proved:Rows.DiskApartCardSaid:=
 Claim7.holds_tied_plain_at .later [] [.data, .data, .data] true (true, "1f48c3cc79cbbc382691afd080ea80e540797df844bb3372cc5d07979d2151d0") true
  over (λ_ h=>by cases h) (by kernel_rfl) (λ_ h=>by cases h) diskApart_row_tie rfl ⟨rfl,rfl⟩ (by kernel_rfl) rfl
  (λf fn hf hfn=>by
   obtain rfl : f = 3 := Option.some.inj ((show Tryz.prog.funcNamed "scree/screelaw3.DiskApart" = some 3 by kernel_rfl).symm.trans hf) |>.symm
   obtain rfl:fn=Tryz.f3:=(Option.some.inj (Tryz.func3.symm.trans hfn)).symm
   exact⟨by kernel_rfl,λj t ht=>by
    rw[Tryz.params3] at ht
    have hm:t∈[3,22,23]:=by simpa using Array.mem_of_getElem? ht
    have hall:([3,22,23].all λu=>!Tryz.prog.wantsStandIn u)=true:=by kernel_rfl
    exact(show Tryz.prog.wantsStandIn t=false by simpa using List.all_eq_true.1 hall t hm)⟩)
  (by kernel_rfl)
#print axioms proved
end Go.Proofs.YtekflkpnpibneaaGreatDoor.diskApart
end
