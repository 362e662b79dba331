/-
  JOINED.
-/
import Derived.Test.YtbjnlacacapjiaaGreatDoorK6
import Derived.Test.YtbjnlacacapjiaaGreatDoorK5
import Derived.Test.YtbjnlacacapjiaaGreatDoorK2
import Derived.Test.YtbjnlacacapjiaaGreatDoorProg
set_option linter.unusedSimpArgs false
set_option linter.unusedVariables false
set_option maxRecDepth 100000
open Go.IntKind (wrap)
open List (length_map map_append mem_map_of_mem mem_singleton nodup_append)
section
namespace Go.Eng
structure KI where
 c:Nat
 tL:Nat
 sz:Nat
 t:Nat
 bytes:Nat
 KD:Nat->Value->Prop
theorem kA3(c f:Nat):(kA c f).1≠3:=show(1:Nat)≠3 by decide
theorem kL3(c f:Nat):(kL c f).1≠3:=show(2:Nat)≠3 by decide
theorem kO3(c f:Nat):(kO c f).1≠3:=show(4:Nat)≠3 by decide
def KX(g:Hp)(m:Mem)(cs:List Value)(k:KI)(N:Nat)(z:Prop):Prop:=∃ (kept:List WL) (fr:List FR) (outs:List (Sl×Sl)),KE g m cs k.KD k.c (4+9*k.c) k.tL k.sz k.t k.bytes kept fr outs/\(∀ w∈kept,WOk g m k.KD k.c k.sz k.t k.bytes w)/\(kept.map (·.id)++fr.map (·.id)).Nodup/\NoO m k.c/\2*kept.length+fr.length+outs.length<=2*N/\(∀ i,i∈kept.map (·.id)++fr.map (·.id)->i<N)/\(∀ i,N<=i->m (kL k.c i)=none)/\(∃ n:Int,cs[4+9*k.c+8]?=some (.int .i64 n))/\(z->fr=[])
theorem KX.cong{g g':Hp}{m m':Mem}{cs cs':List Value}{k:KI}{N N':Nat}{z z':Prop}(X:KX g m cs k N z)(K:Keep g g')(hN:N<=N')(hz:z'->z)(hA:∀ f,m' (kA k.c f)=m (kA k.c f))(hL:∀ f,m' (kL k.c f)=m (kL k.c f))(hO:∀ f,m' (kO k.c f)=m (kO k.c f))(hc:∀ f,f<9->cs'[4+9*k.c+f]?=cs[4+9*k.c+f]?):KX g' m' cs' k N' z':=by
 obtain⟨kept,fr,outs,E,W,nd,ko,x1,x2,x3,x4,x5⟩:=X
 exact⟨kept,fr,outs,E.cong K hA (λf _=>hL _) (λf hf=>hc f (by omega)),λw hw=>(W w hw).keep K (hL _),nd,⟨by rw[hO];exact ko.1,by rw[hO];exact ko.2.1,by rw[hO];exact ko.2.2.1,by rw[hO];exact ko.2.2.2⟩,by omega,λi hi=>Nat.lt_of_lt_of_le (x2 i hi) hN,λi hi=>by rw[hL];exact x3 i (by omega),by rw[hc 8 (by decide)];exact x4,λh=>x5 (hz h)⟩
structure BkM(ks:List KI)(N:Nat)(Z:Nat->Prop)(pb R tB:Nat)(d:Int)(g:Hp)(u:Mem)(h:Hp)(m:Mem)(cs:List Value):Prop where
 O:Mine g h m
 hb:m kB=some (bkF pb R tB cs)
 kt:m kT=none
 c0:cs[0]?=some (.bool false)
 c1:cs[1]?=some (.bool false)
 c2:∃ turn:Int,cs[2]?=some (.int .i64 turn)
 c3:cs[3]?=some (.int .i64 d)
 nn:∀ c,c<19->(∀ k∈ks,k.c≠c)->NoK cs (4+9*c)
 kk:∀ k∈ks,KX g m cs k N (Z k.c)
 dk:∀ k∈ks,∀ k'∈ks,k.c=k'.c->k=k'
 uu:∀ j:Key,j.1=3->m j=u j
theorem BkM.step{ks:List KI}{N N':Nat}{Z Z':Nat->Prop}{pb R tB:Nat}{d d':Int}{g g':Hp}{u u':Mem}{h h':Hp}{m m':Mem}{cs cs':List Value}{k:KI}(B:BkM ks N Z pb R tB d g u h m cs)(hk:k∈ks)(Kg:Keep g g')(O':Mine g' h' m')(hb':m' kB=some (bkF pb R tB cs'))(kt':m' kT=none)(X:KX g' m' cs' k N' (Z' k.c))(hN:N<=N')(hZ:∀ c,c≠k.c->Z' c->Z c)
  (hm:∀ j:Key,j≠kB->j.1≠3->(∀ f,j≠kA k.c f)->(∀ f,j≠kO k.c f)->(∀ i,j≠kL k.c i)->m' j=m j) (hu:∀ j:Key,j.1=3->m' j=u' j) (hc:∀ i,i≠3->(∀ f,f<9->i≠4+9*k.c+f)->cs'[i]?=cs[i]?) (c3':cs'[3]?=some (.int .i64 d')):BkM ks N' Z' pb R tB d' g' u' h' m' cs':=by
 refine⟨O',hb',kt',by rw[hc _ (by decide) (λf _=>by omega)];exact B.c0,by rw[hc _ (by decide) (λf _=>by omega)];exact B.c1,by rw[hc _ (by decide) (λf _=>by omega)];exact B.c2,c3',λc h19 hcc f hf=>?_,λk' hk'=>?_,B.dk,hu⟩
 ·have:k.c≠c:=hcc k hk
  rw[hc _ (by omega) (λf' _=>by omega)]
  exact B.nn c h19 hcc f hf
 ·by_cases e:k'.c=k.c
  ·rw[B.dk k' hk' k hk e];exact X
  ·exact(B.kk k' hk').cong Kg hN (hZ _ e) (λf=>hm _ (kA_kB _ _) (kA3 _ _) (λf' q=>e (by unfold kA at q;simp only[Prod.mk.injEq] at q;exact q.2.1)) (λf' q=>by cases q) (λf' q=>by cases q)) (λf=>hm _ (kL_kB _ _) (kL3 _ _) (λf' q=>by cases q) (λf' q=>by cases q) (λf' q=>e (by unfold kL at q;simp only[Prod.mk.injEq] at q;exact q.2.1))) (λf=>hm _ (kO_kB _ _) (kO3 _ _) (λf' q=>by cases q) (λf' q=>e (by unfold kO at q;simp only[Prod.mk.injEq] at q;exact q.2.1)) (λf' q=>by cases q)) (λf hf=>hc _ (by omega) (λf' _=>by omega))
def Bk(ks:List KI)(N:Nat)(Z:Nat->Prop)(pb R tB:Nat)(d:Int)(g0:Hp)(u:Mem)(h:Hp):Prop:=∃ g m cs,Keep g0 g/\BkM ks N Z pb R tB d g u h m cs
section
variable{ks:List KI}{N:Nat}{Z:Nat->Prop}{pb R tB:Nat}{d:Int}{g0:Hp}{u:Mem}{h:Hp}{k:KI}{Q:Value->Hp->Prop}{zs:List Value}
theorem Bk.keep(B:Bk ks N Z pb R tB d g0 u h):Keep g0 h:=by
 obtain⟨g,m,cs,K,M⟩:=B
 exact K.trans M.O.keep
theorem Bk.mono{Z':Nat->Prop}(B:Bk ks N Z pb R tB d g0 u h)(hZ:∀ k∈ks,Z' k.c->Z k.c):Bk ks N Z' pb R tB d g0 u h:=by
 obtain⟨g,m,cs,K,M⟩:=B
 exact⟨g,m,cs,K,M.O,M.hb,M.kt,M.c0,M.c1,M.c2,M.c3,M.nn,λk hk=>(M.kk k hk).cong (Keep.refl g) (Nat.le_refl _) (hZ k hk) (λ_=>rfl) (λ_=>rfl) (λ_=>rfl) (λ_ _=>rfl),M.dk,M.uu⟩
theorem Bk.keepH{h':Hp}(B:Bk ks N Z pb R tB d g0 u h)(K':Keep h h'):Bk ks N Z pb R tB d g0 u h':=by
 obtain⟨g,m,cs,K,M⟩:=B
 exact⟨g,m,cs,K,M.O.keepH K',M.hb,M.kt,M.c0,M.c1,M.c2,M.c3,M.nn,M.kk,M.dk,M.uu⟩
def kU(a b:Nat):Key:=(3,a,b)
theorem Bk.own{h':Hp}{a b:Nat}{s:Sl}{sz t:Nat}{vs:List Value}(B:Bk ks N Z pb R tB d g0 u h)(hu:u (kU a b)=none)(K':Keep h h')(hN:NewB h s)(hB:Buf h' s sz t vs):Bk ks N Z pb R tB d g0 (u.put (kU a b) ⟨s,sz,t,vs⟩) h':=by
 obtain⟨g,m,cs,K,M⟩:=B
 have ne:∀ j:Key,j.1≠3->(m.put (kU a b) ⟨s,sz,t,vs⟩) j=m j:=λj hj=>put_ne _ _ (λq=>hj (by rw[q];rfl))
 refine⟨g,m.put (kU a b) ⟨s,sz,t,vs⟩,cs,K,M.O.add (by rw[M.uu _ rfl];exact hu) K' hN hB,by rw[ne _ (by decide)];exact M.hb,by rw[ne _ (by decide)];exact M.kt,M.c0,M.c1,M.c2,M.c3,M.nn,λk hk=>(M.kk k hk).cong (Keep.refl g) (Nat.le_refl _) id (λ_=>ne _ (kA3 _ _)) (λ_=>ne _ (kL3 _ _)) (λ_=>ne _ (kO3 _ _)) (λ_ _=>rfl),M.dk,λj hj=>?_⟩
 by_cases e:j=kU a b
 ·rw[e,put_self,put_self]
 ·rw[put_ne _ _ e,put_ne _ _ e];exact M.uu j hj
theorem Bk.nilMark{c:Nat}{s:Nat}(es:s=4+9*c)(B:Bk ks N Z pb R tB d g0 u h)(hc:c<19)(hk:∀ k∈ks,k.c≠c)(hQ:Q (.tuple ⟨[]⟩) h):nilMarkT pb s h Q:=by
 subst es
 obtain⟨g,m,cs,K,M⟩:=B
 exact nil_mark M.O M.hb (M.nn c hc hk) hQ
theorem Bk.nilGrow{c:Nat}{s:Nat}(es:s=4+9*c)(B:Bk ks N Z pb R tB d g0 u h)(hc:c<19)(hk:∀ k∈ks,k.c≠c)(hQ:∀ h',Bk ks N Z pb R tB d g0 u h'->Q (.tuple ⟨[]⟩) h'):nilGrowT pb s h Q:=by
 subst es
 obtain⟨g,m,cs,K,M⟩:=B
 exact nil_grow M.O M.hb (M.nn c hc hk) λh' O'=>hQ h' ⟨g,m,cs,K,O',M.hb,M.kt,M.c0,M.c1,M.c2,M.c3,M.nn,M.kk,M.dk,M.uu⟩
theorem Bk.nilKeep{c:Nat}{s:Nat}(es:s=4+9*c)(B:Bk ks N Z pb R tB d g0 u h)(hc:c<19)(hk:∀ k∈ks,k.c≠c)(hQ:Q (.bool true) h):nilKeepT pb s h Q:=by
 subst es
 obtain⟨g,m,cs,K,M⟩:=B
 exact nil_keep M.O M.hb (M.nn c hc hk) hQ
theorem Bk.mark{s:Nat}(es:s=4+9*k.c){S:Sl->Sl->Hp->(Value->Hp->Prop)->Prop}{OF:Int->Nat}{WR:Int->Int->Hp->(List Value->Hp->Prop)->Prop}(hk:k∈ks)(B:Bk ks N Z pb R tB d g0 u h)(hN:N<=500000)(hS:∀ l l' (h:Hp) vs K,Cols k.KD k.sz vs->h.row l.a (l.n*k.sz) vs->h.row l'.a (l'.n*k.sz) vs->l.n=l'.n->l.n<=140737488355328->K (.bool true) h->S l l' h K)
  (hsz:0<k.sz) (hOF:∀ i:Nat,OF (i:Int)=i*k.sz) (hWR:∀ a i h' K,Keep g0 h'->(∀ h'' us,Keep h' h''->us.length=k.sz->Cols k.KD k.sz us->K us h'')->WR a i h' K) (hKD:∀ c v,k.KD c v->Value.oneCell' v=true) (hz:zs.length=k.sz) (hby:0<k.bytes) (hQ:∀ h',Bk ks N (λ_=>False) pb R tB d g0 u h'->Q (.tuple ⟨[]⟩) h'):markT pb s k.tL k.t k.sz k.bytes zs OF WR S h Q:=by
 subst es
 obtain⟨g,m,cs,K,M⟩:=B
 obtain⟨kept,fr,outs,E,W,nd,ko,x1,x2,x3,x4,x5⟩:=M.kk k hk
 obtain⟨turn,c2⟩:=M.c2
 refine mark_k hS hsz hOF (λa i h' K' k=>hWR a i h' K' (K.trans k)) hKD hz (by omega) hby M.O M.hb M.kt ko M.c0 M.c1 c2 E W nd (by omega) (by omega) (by omega) λh' g' m' cs' kept' fr' outs' Kg O' hb' kt' ko' E' W' nd' hid hl ho hm hc=>hQ h' ⟨g',m',cs',K.trans Kg,M.step hk Kg O' hb' kt' ⟨kept',fr',outs',E',W',nd',ko',by omega,λi hi=>?_,λi hi=>?_,?_,λq=>q.elim⟩ (Nat.le_refl _) (λ_ _ q=>q.elim) (λj h1 _ h2 h3 h4=>hm j h1 h2 h3 (λw _=>h4 _)) (λj hj=>?_) (λi h3 hi=>hc i λf hf=>hi f (by omega)) ?_⟩
 ·have:=hid i hi
  exact x2 i this
 ·rw[hm _ (kL_kB _ _) (λ_=>kL_kA _ _ _ _) (λ_=>Ne.symm (kO_kL _ _ _ _)) (λw hw q=>?_)]
  ·exact x3 i hi
  ·have q2:i=w.id:=by unfold kL at q;simpa using q
   have:=x2 w.id (List.mem_append_left _ (mem_map_of_mem (f:=λx:WL=>x.id) hw))
   omega
 ·rw[hc _ (λf hf=>by omega)];exact x4
 ·rw[hm j (λq=>by rw[q] at hj;cases hj) (λf q=>by rw[q] at hj;cases hj) (λf q=>by rw[q] at hj;cases hj) (λw _ q=>by rw[q] at hj;cases hj)]
  exact M.uu j hj
 ·rw[hc _ (λf hf=>by omega)];exact M.c3
theorem Bk.grow{s:Nat}(es:s=4+9*k.c){WR:Int->Int->Hp->(List Value->Hp->Prop)->Prop}(hk:k∈ks)(B:Bk ks N Z pb R tB d g0 u h)(hN:N<=500000)(hWR:∀ a i h' K,Keep g0 h'->(∀ h'' us,Keep h' h''->us.length=k.sz->Cols k.KD k.sz us->K us h'')->WR a i h' K)(hKD:∀ c v,k.KD c v->Value.oneCell' v=true)(hby:0<k.bytes)(hz:zs.length=k.sz)(hQ:∀ h',Bk ks N (λc=>Z c\/c=k.c) pb R tB d g0 u h'->Q (.tuple ⟨[]⟩) h'):growT pb s k.tL k.t k.sz k.bytes zs WR h Q:=by
 subst es
 obtain⟨g,m,cs,K,M⟩:=B
 obtain⟨kept,fr,outs,E,W,nd,ko,x1,x2,x3,x4,x5⟩:=M.kk k hk
 obtain⟨A4,m4,e4⟩:=E.a4
 obtain⟨A7,m7,e7⟩:=E.a7
 have ndf:(fr.map (·.id)).Nodup:=(nodup_append.1 nd).2.1
 have G:GrS g m cs k.KD pb R tB k.c (4+9*k.c) k.tL k.sz k.t k.bytes A4 A7 fr fr outs:=⟨M.hb,M.kt,E.a0,E.a1,⟨m4,e4⟩,⟨m7,e7⟩,E.f,ndf,E.o⟩
 refine grow_k M.O G (λa i h' K' k=>hWR a i h' K' (K.trans k)) hKD hby hz (by omega) (by omega) λh' g' m' cs' outs' Kg O' hb' kt' a0 a1 z4 z7 ho hl hm hc=>?_
 have O2:=(((O'.del (kA k.c 4)).nil (k:=kA k.c 4) (del_self _ _) 1 k.tL).del (kA k.c 7)).nil (k:=kA k.c 7) (del_self _ _) 1 3
 have ne:∀ j,j≠kA k.c 4->j≠kA k.c 7->(((((m'.del (kA k.c 4)).put (kA k.c 4) ⟨⟨none,0,0⟩,1,k.tL,[]⟩).del (kA k.c 7)).put (kA k.c 7) ⟨⟨none,0,0⟩,1,3,[]⟩)) j=m' j:=λj h4 h7=>by rw[put_ne _ _ h7,del_ne _ h7,put_ne _ _ h4,del_ne _ h4]
 have v4:(((((m'.del (kA k.c 4)).put (kA k.c 4) ⟨⟨none,0,0⟩,1,k.tL,[]⟩).del (kA k.c 7)).put (kA k.c 7) ⟨⟨none,0,0⟩,1,3,[]⟩)) (kA k.c 4)=some ⟨⟨none,0,0⟩,1,k.tL,[]⟩:=by rw[put_ne _ _ (kA_ne (by decide)),del_ne _ (kA_ne (by decide)),put_self]
 have v7:=put_self (((m'.del (kA k.c 4)).put (kA k.c 4) ⟨⟨none,0,0⟩,1,k.tL,[]⟩).del (kA k.c 7)) (kA k.c 7) ⟨⟨none,0,0⟩,1,3,[]⟩
 generalize ((((m'.del (kA k.c 4)).put (kA k.c 4) ⟨⟨none,0,0⟩,1,k.tL,[]⟩).del (kA k.c 7)).put (kA k.c 7) ⟨⟨none,0,0⟩,1,3,[]⟩)=m2 at O2 ne v4 v7
 have oth:∀ f,f≠0->f≠1->f≠4->f≠7->m2 (kA k.c f)=m (kA k.c f):=λf h0 h1 h4 h7=>by rw[ne _ (kA_ne h4) (kA_ne h7),hm _ (kA_kB _ _) (kA_ne h0) (kA_ne h1) (λf _=>Ne.symm (kL_kA _ _ _ _))]
 have oL:∀ i,(∀ f∈fr,f.id≠i)->m2 (kL k.c i)=m (kL k.c i):=λi hi=>by rw[ne _ (kL_kA _ _ _ _) (kL_kA _ _ _ _),hm _ (kL_kB _ _) (kL_kA _ _ _ _) (kL_kA _ _ _ _) (λf hf q=>hi f hf (by unfold kL at q;simp only[Prod.mk.injEq] at q;exact q.2.2.symm))]
 have ap:∀ w∈kept,∀ f∈fr,f.id≠w.id:=λw hw f hf q=>(nodup_append.1 nd).2.2 _ (mem_map_of_mem (f:=λx:WL=>x.id) hw) _ (mem_map_of_mem (f:=λx:FR=>x.id) hf) q.symm
 have oO:∀ i,m2 (kO k.c i)=m (kO k.c i):=λi=>by rw[ne _ (kO_kA _ _ _ _) (kO_kA _ _ _ _),hm _ (kO_kB _ _) (kO_kA _ _ _ _) (kO_kA _ _ _ _) (λf _=>kO_kL _ _ _ _)]
 have cc:∀ f,f≠0->f≠1->f≠4->f≠7->cs'[4+9*k.c+f]?=cs[4+9*k.c+f]?:=λf h0 h1 h4 h7=>hc _ (by omega) (by omega) (by omega) (by omega)
 refine hQ h' ⟨g',m2,cs',K.trans Kg,M.step hk Kg O2 ?_ ?_ ⟨kept,[],outs',⟨?_,?_,?_,?_,?_,?_,?_,?_,λf hf=>(by cases hf),λp hp=>.inl (ho p hp)⟩,λw hw=>(W w hw).keep Kg (oL _ (ap w hw)),?_,⟨by rw[oO];exact ko.1,by rw[oO];exact ko.2.1,by rw[oO];exact ko.2.2.1,by rw[oO];exact ko.2.2.2⟩,by rw[List.length_nil];omega,λi hi=>x2 i ?_,λi hi=>?_,?_,λ_=>rfl⟩ (Nat.le_refl _) (λc hcc q=>q.resolve_right hcc) (λj h1 h3 h2 h5 h4=>?_) (λj hj=>?_) (λi h3 hi=>hc i (hi 0 (by decide)) (hi 1 (by decide)) (hi 4 (by decide)) (hi 7 (by decide))) ?_⟩
 ·rw[ne _ (Ne.symm (kA_kB _ _)) (Ne.symm (kA_kB _ _))];exact hb'
 ·rw[ne _ (λq=>by cases q) (λq=>by cases q)];exact kt'
 ·rw[ne _ (kA_ne (by decide)) (kA_ne (by decide))];exact a0
 ·rw[ne _ (kA_ne (by decide)) (kA_ne (by decide))];exact a1
 ·rw[oth _ (by decide) (by decide) (by decide) (by decide),cc _ (by decide) (by decide) (by decide) (by decide)];exact E.a2
 ·rw[oth _ (by decide) (by decide) (by decide) (by decide),cc _ (by decide) (by decide) (by decide) (by decide)];exact E.a3
 ·exact⟨_,v4,z4⟩
 ·rw[oth _ (by decide) (by decide) (by decide) (by decide),cc _ (by decide) (by decide) (by decide) (by decide)];exact E.a5
 ·rw[oth _ (by decide) (by decide) (by decide) (by decide),cc _ (by decide) (by decide) (by decide) (by decide)];exact E.a6
 ·exact⟨_,v7,z7⟩
 ·rw[List.map_nil,List.append_nil];exact(nodup_append.1 nd).1
 ·rw[List.map_nil,List.append_nil] at hi;exact List.mem_append_left _ hi
 ·rw[oL _ (λf hf q=>?_)]
  ·exact x3 i hi
  ·have:=x2 f.id (List.mem_append_right _ (mem_map_of_mem (f:=λx:FR=>x.id) hf))
   omega
 ·rw[cc _ (by decide) (by decide) (by decide) (by decide)];exact x4
 ·rw[ne _ (h2 _) (h2 _),hm _ h1 (h2 _) (h2 _) (λf _=>h4 _)]
 ·rw[ne _ (λq=>by rw[q] at hj;cases hj) (λq=>by rw[q] at hj;cases hj),hm _ (λq=>by rw[q] at hj;cases hj) (λq=>by rw[q] at hj;cases hj) (λq=>by rw[q] at hj;cases hj) (λf _ q=>by rw[q] at hj;cases hj)]
  exact M.uu j hj
 ·rw[hc _ (by omega) (by omega) (by omega) (by omega)];exact M.c3
theorem Bk.hold{s:Nat}(es:s=4+9*k.c)(hby:0<k.bytes){S:Sl->Sl->Hp->(Value->Hp->Prop)->Prop}(hk:k∈ks)(hS:∀ l l' (h:Hp) vs K,Cols k.KD k.sz vs->h.row l.a (l.n*k.sz) vs->h.row l'.a (l'.n*k.sz) vs->l.n=l'.n->l.n<=140737488355328->K (.bool true) h->S l l' h K)(B:Bk ks N Z pb R tB d g0 u h)(hN:N<=500000)(hZ:Z k.c)(hQ:Q (.bool true) h):holdT pb s S h Q:=by
 subst es
 obtain⟨g,m,cs,K,M⟩:=B
 obtain⟨kept,fr,outs,E,W,nd,ko,x1,x2,x3,x4,x5⟩:=M.kk k hk
 have:=x5 hZ
 subst this
 obtain⟨A0,p0,q0⟩:=E.a0
 obtain⟨A1,p1,q1⟩:=E.a1
 obtain⟨A2,p2,q2⟩:=E.a2
 obtain⟨A3,p3,q3⟩:=E.a3
 refine hold_k (KD:=k.KD) (c:=k.c) (ws:=kept) (outs:=outs) hS M.O M.hb (by rw[List.map_map];exact p0) q0 (by rw[List.map_map];exact p1) q1 (by rw[List.map_map];exact p2) q2 (by rw[List.map_map];exact p3) q3 (λp hp=>?_) (λw hw=>?_) (by omega) (by omega) hQ
 ·rcases E.o p hp with h|⟨f,hf,_⟩
  ·exact h
  ·cases hf
 ·obtain⟨a1,a2,a3,a4,a5⟩:=W w hw
  exact⟨a2,(M.O.buf _ _ a1).row,a4,a5,Nat.le_trans (Nat.le_add_right _ 30) (Nat.le_trans (Nat.le_mul_of_pos_right _ hby) a3)⟩
theorem Bk.add{s:Nat}(es:s=4+9*k.c){a b:Nat}{l:Sl}{vs:List Value}{mark:Int}{U:Int->Hp->(Value->Hp->Prop)->Prop}{D:Hp->(Value->Hp->Prop)->Prop}(hk:k∈ks)(B:Bk ks N Z pb R tB d g0 u h)(hN:N<=500000)(hu:u (kU a b)=some ⟨l,k.sz,k.t,vs⟩)(hv:Cols k.KD k.sz vs)(hKD:∀ c v,k.KD c v->Value.oneCell' v=true)(hz:zs.length=k.sz)(hn:(l.n+30)*k.bytes<=140737488355328)
  (hU:∀ (turn n:Int) h9 K,h9.at pb (0+0)=some (.bool false)->h9.at pb (0+2)=some (.int .i64 turn)->(∀ d,K (.int .i64 d) h9)->U n h9 K)
  (hD:∀ h' Q,Bk ks (N+1) Z pb R tB (wrap .i64 (d+1)) g0 (u.del (kU a b)) h'->(∀ h'',Bk ks (N+1) Z pb R tB d g0 (u.del (kU a b)) h''->Q (.tuple ⟨[]⟩) h'')->D h' Q)
  (hQ:∀ h',Bk ks (N+1) Z pb R tB d g0 (u.del (kU a b)) h'->Q (.tuple ⟨[]⟩) h'):addT pb s k.tL k.t k.sz k.bytes zs l mark U D h Q:=by
 subst es
 obtain⟨g,m,cs,K,M⟩:=B
 obtain⟨kept,fr,outs,E,W,nd,ko,x1,x2,x3,⟨seen,x4⟩,x5⟩:=M.kk k hk
 obtain⟨turn,c2⟩:=M.c2
 obtain⟨A2,m2,e2⟩:=E.a2
 obtain⟨A3,m3,e3⟩:=E.a3
 obtain⟨A5,m5,e5⟩:=E.a5
 obtain⟨A6,m6,e6⟩:=E.a6
 have O1:=M.O.move (k:=kU a b) (k':=kL k.c N) (by rw[M.uu _ rfl];exact hu) (x3 N (Nat.le_refl _))
 have ne:∀ j:Key,j.1≠3->j≠kL k.c N->((m.del (kU a b)).put (kL k.c N) ⟨l,k.sz,k.t,vs⟩) j=m j:=λj h1 h2=>by rw[put_ne _ _ h2,del_ne _ (λq=>h1 (by rw[q];rfl))]
 have lt:∀ i,i∈kept.map (·.id)++fr.map (·.id)->i≠N:=λi hi=>by have:=x2 i hi;omega
 have un:∀ j:Key,j.1=3->((m.del (kU a b)).put (kL k.c N) ⟨l,k.sz,k.t,vs⟩) j=(u.del (kU a b)) j:=λj hj=>by
  rw[put_ne _ _ (λq=>by rw[q] at hj;cases hj)]
  by_cases e:j=kU a b
  ·rw[e,del_self,del_self]
  ·rw[del_ne _ e,del_ne _ e];exact M.uu j hj
 have hl:=put_self (m.del (kU a b)) (kL k.c N) ⟨l,k.sz,k.t,vs⟩
 generalize (m.del (kU a b)).put (kL k.c N) ⟨l,k.sz,k.t,vs⟩=m1 at O1 ne un hl
 have hn':l.n*k.bytes<=140737488355328:=Nat.le_trans (Nat.mul_le_mul_right _ (by omega)) hn
 refine add_k (c:=k.c) (id:=N) (turn:=turn) (hU turn) O1 (by rw[ne _ (by decide) (Ne.symm (kL_kB _ _))];exact M.hb) (by rw[ne _ (by decide) (λq=>by cases q)];exact M.kt) (by omega) M.c0 c2 M.c3 x4 (by rw[ne _ (kA3 _ _) (Ne.symm (kL_kA _ _ _ _))];exact m2) e2 (by rw[ne _ (kA3 _ _) (Ne.symm (kL_kA _ _ _ _))];exact m3) e3 (by rw[ne _ (kA3 _ _) (Ne.symm (kL_kA _ _ _ _))];exact m5) e5 (by rw[ne _ (kA3 _ _) (Ne.symm (kL_kA _ _ _ _))];exact m6) e6 (by rw[length_map];omega) (by rw[length_map];omega) (by rw[length_map];omega) (by rw[length_map];omega) hl (hv.one hKD) hz hn' λh' g' m' cs' nt due Kg O' hb' X rnt hnt=>hD h' _ ?_ λh'' B''=>hQ h'' B''
 have XA:∀ f,f≠2->f≠3->f≠5->f≠6->m' (kA k.c f)=m (kA k.c f):=λf h2 h3 h5 h6=>by rw[X.mem _ (kA_kB _ _) (kA_ne h2) (kA_ne h3) (kA_ne h5) (kA_ne h6),ne _ (kA3 _ _) (Ne.symm (kL_kA _ _ _ _))]
 have XL:∀ i,i≠N->m' (kL k.c i)=m (kL k.c i):=λi hi=>by rw[X.mem _ (kL_kB _ _) (kL_kA _ _ _ _) (kL_kA _ _ _ _) (kL_kA _ _ _ _) (kL_kA _ _ _ _),ne _ (kL3 _ _) (λq=>hi (by unfold kL at q;simpa using q))]
 have XO:∀ i,m' (kO k.c i)=m (kO k.c i):=λi=>by rw[X.mem _ (kO_kB _ _) (kO_kA _ _ _ _) (kO_kA _ _ _ _) (kO_kA _ _ _ _) (kO_kA _ _ _ _),ne _ (kO3 _ _) (kO_kL _ _ _ _)]
 have cc:∀ f,f≠2->f≠3->f≠5->f≠6->f≠8->cs'[4+9*k.c+f]?=cs[4+9*k.c+f]?:=λf h2 h3 h5 h6 h8=>X.rest _ (by omega) (by omega) (by omega) (by omega) (by omega) (by omega)
 refine⟨g',m',cs',K.trans Kg,M.step hk Kg O' hb' ?_ ⟨kept++[⟨N,l,nt,vs,mark,due⟩],fr,outs,⟨?_,?_,by rw[map_append];exact X.a2,by rw[map_append];exact X.a3,?_,by rw[map_append];exact X.a5,by rw[map_append];exact X.a6,?_,λf hf=>(E.f f hf).keep Kg (XL _ (lt _ (List.mem_append_right _ (mem_map_of_mem (f:=λx:FR=>x.id) hf)))),λp hp=>(E.o p hp).imp (Fz.keep Kg) id⟩,λw hw=>?_,?_,⟨by rw[XO];exact ko.1,by rw[XO];exact ko.2.1,by rw[XO];exact ko.2.2.1,by rw[XO];exact ko.2.2.2⟩,by rw[List.length_append,List.length_singleton];omega,λi hi=>?_,λi hi=>by rw[XL _ (by omega)];exact x3 i (by omega),⟨_,X.seen⟩,x5⟩ (by omega) (λc _ q=>q) (λj h1 h3 h2 h5 h4=>?_) (λj hj=>?_) (λi h3 hi=>X.rest i h3 (hi 2 (by decide)) (hi 3 (by decide)) (hi 5 (by decide)) (hi 6 (by decide)) (hi 8 (by decide))) X.deep⟩
 ·rw[X.mem _ (λq=>by cases q) (λq=>by cases q) (λq=>by cases q) (λq=>by cases q) (λq=>by cases q),ne _ (by decide) (λq=>by cases q)];exact M.kt
 ·rw[XA _ (by decide) (by decide) (by decide) (by decide),cc _ (by decide) (by decide) (by decide) (by decide) (by decide)];exact E.a0
 ·rw[XA _ (by decide) (by decide) (by decide) (by decide),cc _ (by decide) (by decide) (by decide) (by decide) (by decide)];exact E.a1
 ·rw[XA _ (by decide) (by decide) (by decide) (by decide),cc _ (by decide) (by decide) (by decide) (by decide) (by decide)];exact E.a4
 ·rw[XA _ (by decide) (by decide) (by decide) (by decide),cc _ (by decide) (by decide) (by decide) (by decide) (by decide)];exact E.a7
 ·rcases List.mem_append.1 hw with hw|hw
  ·exact(W w hw).keep Kg (XL _ (lt _ (List.mem_append_left _ (mem_map_of_mem (f:=λx:WL=>x.id) hw))))
  ·rw[mem_singleton] at hw
   subst hw
   exact⟨by rw[X.mem _ (kL_kB _ _) (kL_kA _ _ _ _) (kL_kA _ _ _ _) (kL_kA _ _ _ _) (kL_kA _ _ _ _)];exact hl,hv,hn,rnt,hnt.symm⟩
 ·rw[map_append,show kept.map (·.id)++List.map (·.id) [(⟨N,l,nt,vs,mark,due⟩:WL)]++fr.map (·.id)=kept.map (·.id)++N::fr.map (·.id) by simp]
  exact(List.perm_middle.nodup_iff).2 (List.nodup_cons.2 ⟨λq=>lt N q rfl,nd⟩)
 ·simp only[map_append,List.mem_append,List.map_cons,List.map_nil,mem_singleton] at hi x2
  rcases hi with(hi|hi)|hi
  ·have:=x2 i (.inl hi);omega
  ·omega
  ·have:=x2 i (.inr hi);omega
 ·rw[X.mem _ h1 (h2 _) (h2 _) (h2 _) (h2 _),ne _ h3 (h4 _)]
 ·rw[X.mem _ (λq=>by rw[q] at hj;cases hj) (λq=>by rw[q] at hj;cases hj) (λq=>by rw[q] at hj;cases hj) (λq=>by rw[q] at hj;cases hj) (λq=>by rw[q] at hj;cases hj)]
  exact un j hj
@[reducible] def doneT(pb:Nat)(A B:Hp->(Value->Hp->Prop)->Prop)(h:Hp)(Q:Value->Hp->Prop):Prop:=
 dr (some ⟨pb,0,none⟩) λb o=>ldI .i64 h b (o+3) λn=>dr (some ⟨pb,0,none⟩) λb1 o1=>st h b1 (o1+3) 1 [.int .i64 (wrap .i64 (n-1))] λh1=>dr (some ⟨pb,0,none⟩) λb2 o2=>ldI .i64 h1 b2 (o2+3) λn1=>par ((0:Int)<n1) (Q (.tuple ⟨[]⟩) h1) (A h1 λr h2=>B h2 λr1 h3=>dr (some ⟨pb,0,none⟩) λb3 o3=>ldI .i64 h3 b3 (o3+2) λn2=>dr (some ⟨pb,0,none⟩) λb4 o4=>st h3 b4 (o4+2) 1 [.int .i64 (wrap .i64 (n2+1))] λh4=>Q (.tuple ⟨[]⟩) h4)
theorem Bk.setC{i:Nat}{x v:Value}{d':Int}{g:Hp}{m:Mem}{cs:List Value}(M:BkM ks N Z pb R tB d g u h m cs)(hx:cs[i]?=some x)(hi:i=2\/i=3)(h2:i=2->d'=d/\∃ n:Int,v=.int .i64 n)(h3:i=3->v=.int .i64 d'):h.canW pb (0+i) 1/\BkM ks N Z pb R tB d' g u (h.wr pb (0+i) [v]) (m.put kB (bkF pb R tB (cs.set i v))) (cs.set i v):=by
 obtain⟨w,O⟩:=M.O.setCell M.hb hx v
 have ne:∀ j,j≠kB->(m.put kB (bkF pb R tB (cs.set i v))) j=m j:=λj hj=>put_ne _ _ hj
 have self:(cs.set i v)[i]?=some v:=List.getElem?_set_self (List.getElem?_eq_some_iff.1 hx).1
 have oth:∀ j,j≠i->(cs.set i v)[j]?=cs[j]?:=λj hj=>List.getElem?_set_ne (Ne.symm hj)
 refine⟨w,O,put_self _ _ _,by rw[ne _ (λq=>by cases q)];exact M.kt,by rw[oth _ (by omega)];exact M.c0,by rw[oth _ (by omega)];exact M.c1,?_,?_,λc h19 hc f hf=>by rw[oth _ (by omega)];exact M.nn c h19 hc f hf,λk hk=>(M.kk k hk).cong (Keep.refl g) (Nat.le_refl _) id (λ_=>ne _ (kA_kB _ _)) (λ_=>ne _ (kL_kB _ _)) (λ_=>ne _ (kO_kB _ _)) (λf _=>oth _ (by omega)),M.dk,λj hj=>by rw[ne _ (λq=>by rw[q] at hj;cases hj)];exact M.uu j hj⟩
 ·rcases hi with hi|hi
  ·obtain⟨_,n,hn⟩:=h2 hi
   subst hi
   exact⟨n,by rw[self,hn]⟩
  ·rw[oth _ (by omega)];exact M.c2
 ·rcases hi with hi|hi
  ·rw[oth _ (by omega),(h2 hi).1];exact M.c3
  ·have:=h3 hi
   subst hi
   rw[self,this]
theorem Bk.done{d1:Int}{A B:Hp->(Value->Hp->Prop)->Prop}(B0:Bk ks N Z pb R tB d1 g0 u h)(hd:wrap .i64 (d1-1)=d)(hZ:¬ (0<d)->∀ k∈ks,Z k.c)
  (hA:∀ h Q,Bk ks N Z pb R tB d g0 u h->(∀ h',Bk ks N (λ_=>False) pb R tB d g0 u h'->Q (.tuple ⟨[]⟩) h')->A h Q) (hB:∀ h Q,Bk ks N (λ_=>False) pb R tB d g0 u h->(∀ h',Bk ks N (λc=>∃ k∈ks,k.c=c) pb R tB d g0 u h'->Q (.tuple ⟨[]⟩) h')->B h Q)
  (hQ:∀ h',Bk ks N Z pb R tB d g0 u h'->Q (.tuple ⟨[]⟩) h'):doneT pb A B h Q:=by
 obtain⟨g,m,cs,K,M⟩:=B0
 obtain⟨w,M1⟩:=Bk.setC (v:=.int .i64 (wrap .i64 (d1-1))) (d':=d) M M.c3 (.inr rfl) (λq=>by omega) (λ_=>by rw[hd])
 refine⟨pb,0,rfl,d1,M.O.cell M.hb M.c3,pb,0,rfl,w,pb,0,rfl,d,M1.O.cell M1.hb M1.c3,λh0=>hQ _ ⟨g,_,_,K,M1⟩,λh0=>?_⟩
 refine hA _ _ ⟨g,_,_,K,M1⟩ λh2 B2=>hB _ _ B2 λh3 B3=>?_
 obtain⟨g3,m3,cs3,K3,M3⟩:=B3
 obtain⟨turn,c2⟩:=M3.c2
 obtain⟨w4,M4⟩:=Bk.setC (v:=.int .i64 (wrap .i64 (turn+1))) (d':=d) M3 c2 (.inl rfl) (λ_=>⟨rfl,_,rfl⟩) (λq=>by omega)
 refine⟨pb,0,rfl,turn,M3.O.cell M3.hb c2,pb,0,rfl,w4,hQ _ ?_⟩
 exact Bk.mono ⟨g3,_,_,K3,M4⟩ λk hk _=>⟨k,hk,rfl⟩
theorem Bk.start{cs:List Value}{h':Hp}(hb:h pb=none)(hR:cs.length=R)(c0:cs[0]?=some (.bool false))(c1:cs[1]?=some (.bool false))(c2:cs[2]?=some (.int .i64 0))(c3:cs[3]?=some (.int .i64 0))(nn:∀ c,c<19->NoK cs (4+9*c))(ns:∀ c,c<19->cs[4+9*c+8]?=some (.int .i64 0))(hks:∀ k∈ks,k.c<19)(dk:∀ k∈ks,∀ k'∈ks,k.c=k'.c->k=k') :
  Bk ks 0 (λ_=>True) pb R tB 0 h (λ_=>none) (h.new pb (.cells ⟨cs⟩ tB (0,0))):=by
 have K0:=Keep.new hb (.cells ⟨cs⟩ tB (0,0))
 have B0:=buf_new (h:=h) (b:=pb) (t:=tB) (sz:=R) (n:=1) cs (by rw[hR,Nat.one_mul])
 have O0:=(Mine.start h).add (k:=kB) rfl K0 (.inr ⟨pb,rfl,hb⟩) B0
 have Oe:=λ(m:Mem)=>O0.sub (m':=m)
 refine⟨h,λj=>if j=kB then some (bkF pb R tB cs) else if j.1=1/\j.2.2<8 then(ks.find? λk=>k.c=j.2.1).map λk=>⟨⟨none,0,0⟩,1,if j.2.2<5 then k.tL else 3,[]⟩ else none,cs,Keep.refl h,?_⟩
 have fnd:∀ k∈ks,ks.find? (λx=>x.c=k.c)=some k:=λk hk=>by
  cases e:ks.find? (λx=>decide (x.c=k.c)) with
  |none=>
   have h1:=List.find?_eq_none.1 e k hk
   simp at h1
  |some x=>
   have h1:=List.find?_some e
   have h2:=List.mem_of_find?_eq_some e
   rw[dk x h2 k hk (by simpa using h1)]
 have look:∀ (j:Key) (x:Bf),(if j=kB then some (bkF pb R tB cs) else if j.1=1/\j.2.2<8 then(ks.find? λk=>k.c=j.2.1).map λk=>(⟨⟨none,0,0⟩,1,if j.2.2<5 then k.tL else 3,[]⟩:Bf) else none)=some x->(j=kB/\x=bkF pb R tB cs)\/(j≠kB/\∃ t,x=⟨⟨none,0,0⟩,1,t,[]⟩):=λj x e=>by
  by_cases hj:j=kB
  ·rw[if_pos hj] at e;exact .inl ⟨hj,(Option.some.inj e).symm⟩
  ·rw[if_neg hj] at e
   by_cases h1:j.1=1/\j.2.2<8
   ·rw[if_pos h1] at e
    obtain⟨k,_,ek⟩:=Option.map_eq_some_iff.1 e
    exact .inr ⟨hj,_,ek.symm⟩
   ·rw[if_neg h1] at e;cases e
 refine⟨⟨K0,λj x e=>?_,λj x e=>?_,λj j' x x' hne e e'=>?_⟩,if_pos rfl,rfl,c0,c1,⟨0,c2⟩,c3,λc h19 _=>nn c h19,λk hk=>?_,dk,λj hj=>?_⟩
 ·rcases look j x e with⟨rfl,rfl⟩|⟨_,t,rfl⟩
  ·exact B0
  ·exact Buf.nil _ _ _
 ·rcases look j x e with⟨rfl,rfl⟩|⟨_,t,rfl⟩
  ·exact .inr ⟨pb,rfl,hb⟩
  ·exact .inl rfl
 ·rcases look j x e with⟨rfl,rfl⟩|⟨hj,t,rfl⟩
  ·rcases look j' x' e' with⟨rfl,rfl⟩|⟨_,t,rfl⟩
   ·exact absurd rfl hne
   ·exact λb o o' _ q=>by cases q
  ·exact λb o o' q=>by cases q
 ·have kf:∀ f,f<8->(if kA k.c f=kB then some (bkF pb R tB cs) else if (kA k.c f).1=1/\(kA k.c f).2.2<8 then(ks.find? λx=>x.c=(kA k.c f).2.1).map λx=>(⟨⟨none,0,0⟩,1,if (kA k.c f).2.2<5 then x.tL else 3,[]⟩:Bf) else none)=some ⟨⟨none,0,0⟩,1,if f<5 then k.tL else 3,[]⟩:=λf hf=>by
   rw[if_neg (kA_kB _ _),if_pos ⟨rfl,hf⟩]
   show(ks.find? λx=>x.c=k.c).map _=_
   rw[fnd k hk]
   rfl
  have nk:=nn k.c (hks k hk)
  refine⟨[],[],[],⟨⟨_,kf 0 (by decide),nk 0 (by decide)⟩,⟨_,kf 1 (by decide),nk 1 (by decide)⟩,⟨_,kf 2 (by decide),nk 2 (by decide)⟩,⟨_,kf 3 (by decide),nk 3 (by decide)⟩,⟨_,kf 4 (by decide),nk 4 (by decide)⟩,⟨_,kf 5 (by decide),nk 5 (by decide)⟩,⟨_,kf 6 (by decide),nk 6 (by decide)⟩,⟨_,kf 7 (by decide),nk 7 (by decide)⟩,λf hf=>(by cases hf),λp hp=>(by cases hp)⟩,λw hw=>(by cases hw),List.nodup_nil,⟨rfl,rfl,rfl,rfl⟩,Nat.le_refl _,λi hi=>(by cases hi),λi _=>rfl,⟨0,ns k.c (hks k hk)⟩,λ_=>rfl⟩
 ·rw[if_neg (λq=>by rw[q] at hj;cases hj),if_neg (λq=>by rw[hj] at q;cases q.1)]
end
end Go.Eng
end
section
open Go.Proofs
namespace Go.Eng.YtbjnlacacapjiaaGreatDoor
@[reducible] def smalls8:ByteArray:=ByteArray.mk (List.toArray [48,48,48,49,48,50,48,51,48,52,48,53,48,54,48,55,48,56,48,57,49,48,49,49,49,50,49,51,49,52,49,53,49,54,49,55,49,56,49,57,50,48,50,49,50,50,50,51,50,52,50,53,50,54,50,55,50,56,50,57,51,48,51,49,51,50,51,51,51,52,51,53,51,54,51,55,51,56,51,57,52,48,52,49,52,50,52,51,52,52,52,53,52,54,52,55,52,56,52,57,53,48,53,49,53,50,53,51,53,52,53,53,53,54,53,55,53,56,53,57,54,48,54,49,54,50,54,51,54,52,54,53,54,54,54,55,54,56,54,57,55,48,55,49,55,50,55,51,55,52,55,53,55,54,55,55,55,56,55,57,56,48,56,49,56,50,56,51,56,52,56,53,56,54,56,55,56,56,56,57,57,48,57,49,57,50,57,51,57,52,57,53,57,54,57,55,57,56,57,57])
def F244.T(n:Int):PT:=λh Q=>
 par (n<10) (okSub (ByteArray.mk (List.toArray [48,49,50,51,52,53,54,55,56,57,97,98,99,100,101,102,103,104,105,106,107,108,109,110,111,112,113,114,115,116,117,118,119,120,121,122])) n (wrap .i64 (n+1))/\Q (.string ((ByteArray.mk (List.toArray [48,49,50,51,52,53,54,55,56,57,97,98,99,100,101,102,103,104,105,106,107,108,109,110,111,112,113,114,115,116,117,118,119,120,121,122])).extract (n:Int).toNat ((wrap .i64 (n+1)):Int).toNat)) h) (okSub smalls8 (wrap .i64 (n*2)) (wrap .i64 ((wrap .i64 (n*2))+2))/\Q (.string (smalls8.extract ((wrap .i64 (n*2)):Int).toNat ((wrap .i64 ((wrap .i64 (n*2))+2)):Int).toNat)) h)
theorem F244.den(V n):denF Tryz.prog [] [] V [] Tryz.f244 [.v (.int .i64 n)]=F244.T n:=by kernel_rfl
def F244.W(T244:Int->PT)(args:List Value):PT:=match args with
 |[.int .i64 n]=>T244 n
 |_=>λ_ _=>False
def F244.V:List Value->PT:=F244.W F244.T
theorem F244.ok:FOk Tryz.prog 244 F244.V:=by
 refine⟨⟨_,Tryz.func244,rfl,rfl⟩,λ_=>?_⟩;unfold F244.V F244.W;split;exact denF_okE (GOk.nil) noV_ok Tryz.func244 (F244.den noV _);exact λ_ _ h=>h.elim
def F248.T(n:Int):PT:=λh Q=>
 (0:Int)<=18/\Q (.int .i64 (shrI .i64 (wrap .i64 (n*78913)) 18)) h
theorem F248.den(V n):denF Tryz.prog [] [] V [] Tryz.f248 [.v (.int .i64 n)]=F248.T n:=by kernel_rfl
def F248.W(T248:Int->PT)(args:List Value):PT:=match args with
 |[.int .i64 n]=>T248 n
 |_=>λ_ _=>False
def F248.V:List Value->PT:=F248.W F248.T
theorem F248.ok:FOk Tryz.prog 248 F248.V:=by
 refine⟨⟨_,Tryz.func248,rfl,rfl⟩,λ_=>?_⟩;unfold F248.V F248.W;split;exact denF_okE (GOk.nil) noV_ok Tryz.func248 (F248.den noV _);exact λ_ _ h=>h.elim
def F249.Tt :PT:=λh Q=>
 Q (.int .i64 1) h
theorem F249.dent(V):denF Tryz.prog [] [] V [] Tryz.f249 [.v (.bool true)]=F249.Tt :=by kernel_rfl
def F249.Tf :PT:=λh Q=>
 Q (.int .i64 0) h
theorem F249.denf(V):denF Tryz.prog [] [] V [] Tryz.f249 [.v (.bool false)]=F249.Tf :=by kernel_rfl
def F249.W(T249t T249f:PT)(args:List Value):PT:=match args with
 |[.bool true]=>T249t
 |[.bool false]=>T249f
 |_=>λ_ _=>False
def F249.V:List Value->PT:=F249.W F249.Tt F249.Tf
theorem F249.ok:FOk Tryz.prog 249 F249.V:=by
 refine⟨⟨_,Tryz.func249,rfl,rfl⟩,λargs=>?_⟩
 have hG:GOk Tryz.prog []:=GOk.nil
 unfold F249.V F249.W
 split
 ·exact denF_okE hG noV_ok Tryz.func249 (F249.dent noV )
 ·exact denF_okE hG noV_ok Tryz.func249 (F249.denf noV )
 ·exact λ_ _ h=>h.elim
def F245.T(n:Int):PT:=λh Q=>
 F230.T n h λr h1=>retI .i64 r λn1=>F248.T n1 h1 λr1 h2=>retI .i64 r1 λn2=>((0:Int)<=n2/\n2<((20:Nat):Int))/\ldI .u64 h2 1 (0+(n2:Int).toNat) λn3=>par (n3<=n) (F249.Tt h2 λr2 h3=>retI .i64 r2 λn4=>Q (.int .i64 (wrap .i64 (n2+n4))) h3) (F249.Tf h2 λr3 h4=>retI .i64 r3 λn5=>Q (.int .i64 (wrap .i64 (n2+n5))) h4)
theorem F245.gen(V:Value->List Value->PT)(T230:Int->PT)(T248:Int->PT)(T249t:PT)(T249f:PT)(n:Int):denF Tryz.prog [] [(230,F230.W T230),(248,F248.W T248),(249,F249.W T249t T249f)] V [] Tryz.f245 [.v (.int .u64 n)]=λh Q=>
 T230 n h λr h1=>retI .i64 r λn1=>T248 n1 h1 λr1 h2=>retI .i64 r1 λn2=>((0:Int)<=n2/\n2<((20:Nat):Int))/\ldI .u64 h2 1 (0+(n2:Int).toNat) λn3=>par (n3<=n) (T249t h2 λr2 h3=>retI .i64 r2 λn4=>Q (.int .i64 (wrap .i64 (n2+n4))) h3) (T249f h2 λr3 h4=>retI .i64 r3 λn5=>Q (.int .i64 (wrap .i64 (n2+n5))) h4):=by kernel_rfl
def F245.W(T245:Int->PT)(args:List Value):PT:=match args with
 |[.int .u64 n]=>T245 n
 |_=>λ_ _=>False
def F245.V:List Value->PT:=F245.W F245.T
theorem F245.ok:FOk Tryz.prog 245 F245.V:=by
 refine⟨⟨_,Tryz.func245,rfl,rfl⟩,λ_=>?_⟩;unfold F245.V F245.W;split;exact denF_okE (GOk.cons F230.ok (GOk.cons F248.ok (GOk.cons F249.ok (GOk.nil)))) noV_ok Tryz.func245 (F245.gen noV F230.T F248.T F249.Tt F249.Tf _);exact λ_ _ h=>h.elim
def F246.T(l:Sl)(n:Int):PT:=λh Q=>
 ∃ (I:Int->Int->Hp->Prop) (m:Int->Int->Hp->Nat),I n (l.n:Int) h/\(∀ n1 n2:Int,∀ h1:Hp,I n1 n2 h1->par ((8:Int)<=n2) ((100000000:Int)≠0/\(100000000:Int)≠0/\(10000:Int)≠0/\(10000:Int)≠0/\(100:Int)≠0/\(100:Int)≠0/\(100:Int)≠0/\(100:Int)≠0/\((0:Int)<=(wrap .u32 ((wrap .u32 ((Int.tmod (Int.tmod (wrap .u32 (Int.tmod n1 100000000)) 10000) 100)*2))+1))/\(wrap .u32 ((wrap .u32 ((Int.tmod (Int.tmod (wrap .u32 (Int.tmod n1 100000000)) 10000) 100)*2))+1))<(smalls8.size:Int))/\((0:Int)<=(wrap .u32 ((Int.tmod (Int.tmod (wrap .u32 (Int.tmod n1 100000000)) 10000) 100)*2))/\(wrap .u32 ((Int.tmod (Int.tmod (wrap .u32 (Int.tmod n1 100000000)) 10000) 100)*2))<(smalls8.size:Int))/\ix l.a (wrap .i64 (n2-1)) l.n λb o=>st h1 b (o+((wrap .i64 (n2-1))).toNat) 1 [.int .u8 (bt smalls8 (wrap .u32 ((wrap .u32 ((Int.tmod (Int.tmod (wrap .u32 (Int.tmod n1 100000000)) 10000) 100)*2))+1)))] λh2=>ix l.a (wrap .i64 (n2-2)) l.n λb1 o1=>st h2 b1 (o1+((wrap .i64 (n2-2))).toNat) 1 [.int .u8 (bt smalls8 (wrap .u32 ((Int.tmod (Int.tmod (wrap .u32 (Int.tmod n1 100000000)) 10000) 100)*2)))] λh3=>((0:Int)<=(wrap .u32 ((wrap .u32 ((wrap .u32 (Int.tdiv (Int.tmod (wrap .u32 (Int.tmod n1 100000000)) 10000) 100))*2))+1))/\(wrap .u32 ((wrap .u32 ((wrap .u32 (Int.tdiv (Int.tmod (wrap .u32 (Int.tmod n1 100000000)) 10000) 100))*2))+1))<(smalls8.size:Int))/\((0:Int)<=(wrap .u32 ((wrap .u32 (Int.tdiv (Int.tmod (wrap .u32 (Int.tmod n1 100000000)) 10000) 100))*2))/\(wrap .u32 ((wrap .u32 (Int.tdiv (Int.tmod (wrap .u32 (Int.tmod n1 100000000)) 10000) 100))*2))<(smalls8.size:Int))/\ix l.a (wrap .i64 (n2-3)) l.n λb2 o2=>st h3 b2 (o2+((wrap .i64 (n2-3))).toNat) 1 [.int .u8 (bt smalls8 (wrap .u32 ((wrap .u32 ((wrap .u32 (Int.tdiv (Int.tmod (wrap .u32 (Int.tmod n1 100000000)) 10000) 100))*2))+1)))] λh4=>ix l.a (wrap .i64 (n2-4)) l.n λb3 o3=>st h4 b3 (o3+((wrap .i64 (n2-4))).toNat) 1 [.int .u8 (bt smalls8 (wrap .u32 ((wrap .u32 (Int.tdiv (Int.tmod (wrap .u32 (Int.tmod n1 100000000)) 10000) 100))*2)))] λh5=>((0:Int)<=(wrap .u32 ((wrap .u32 ((Int.tmod (wrap .u32 (Int.tdiv (wrap .u32 (Int.tmod n1 100000000)) 10000)) 100)*2))+1))/\(wrap .u32 ((wrap .u32 ((Int.tmod (wrap .u32 (Int.tdiv (wrap .u32 (Int.tmod n1 100000000)) 10000)) 100)*2))+1))<(smalls8.size:Int))/\((0:Int)<=(wrap .u32 ((Int.tmod (wrap .u32 (Int.tdiv (wrap .u32 (Int.tmod n1 100000000)) 10000)) 100)*2))/\(wrap .u32 ((Int.tmod (wrap .u32 (Int.tdiv (wrap .u32 (Int.tmod n1 100000000)) 10000)) 100)*2))<(smalls8.size:Int))/\ix l.a (wrap .i64 (n2-5)) l.n λb4 o4=>st h5 b4 (o4+((wrap .i64 (n2-5))).toNat) 1 [.int .u8 (bt smalls8 (wrap .u32 ((wrap .u32 ((Int.tmod (wrap .u32 (Int.tdiv (wrap .u32 (Int.tmod n1 100000000)) 10000)) 100)*2))+1)))] λh6=>ix l.a (wrap .i64 (n2-6)) l.n λb5 o5=>st h6 b5 (o5+((wrap .i64 (n2-6))).toNat) 1 [.int .u8 (bt smalls8 (wrap .u32 ((Int.tmod (wrap .u32 (Int.tdiv (wrap .u32 (Int.tmod n1 100000000)) 10000)) 100)*2)))] λh7=>((0:Int)<=(wrap .u32 ((wrap .u32 ((wrap .u32 (Int.tdiv (wrap .u32 (Int.tdiv (wrap .u32 (Int.tmod n1 100000000)) 10000)) 100))*2))+1))/\(wrap .u32 ((wrap .u32 ((wrap .u32 (Int.tdiv (wrap .u32 (Int.tdiv (wrap .u32 (Int.tmod n1 100000000)) 10000)) 100))*2))+1))<(smalls8.size:Int))/\((0:Int)<=(wrap .u32 ((wrap .u32 (Int.tdiv (wrap .u32 (Int.tdiv (wrap .u32 (Int.tmod n1 100000000)) 10000)) 100))*2))/\(wrap .u32 ((wrap .u32 (Int.tdiv (wrap .u32 (Int.tdiv (wrap .u32 (Int.tmod n1 100000000)) 10000)) 100))*2))<(smalls8.size:Int))/\ix l.a (wrap .i64 (n2-7)) l.n λb6 o6=>st h7 b6 (o6+((wrap .i64 (n2-7))).toNat) 1 [.int .u8 (bt smalls8 (wrap .u32 ((wrap .u32 ((wrap .u32 (Int.tdiv (wrap .u32 (Int.tdiv (wrap .u32 (Int.tmod n1 100000000)) 10000)) 100))*2))+1)))] λh8=>ix l.a (wrap .i64 (n2-8)) l.n λb7 o7=>st h8 b7 (o7+((wrap .i64 (n2-8))).toNat) 1 [.int .u8 (bt smalls8 (wrap .u32 ((wrap .u32 (Int.tdiv (wrap .u32 (Int.tdiv (wrap .u32 (Int.tmod n1 100000000)) 10000)) 100))*2)))] λh9=>I (wrap .u64 (Int.tdiv n1 100000000)) (wrap .i64 (n2-8)) h9/\m (wrap .u64 (Int.tdiv n1 100000000)) (wrap .i64 (n2-8)) h9<m n1 n2 h1) (∃ J:Int->Int->Hp->Prop,(∀ n3 n4:Int,∀ h10:Hp,J n3 n4 h10->par ((2:Int)<=n3) ((100:Int)≠0/\(100:Int)≠0/\((0:Int)<=(wrap .u32 ((wrap .u32 ((Int.tmod n4 100)*2))+1))/\(wrap .u32 ((wrap .u32 ((Int.tmod n4 100)*2))+1))<(smalls8.size:Int))/\((0:Int)<=(wrap .u32 ((Int.tmod n4 100)*2))/\(wrap .u32 ((Int.tmod n4 100)*2))<(smalls8.size:Int))/\ix l.a (wrap .i64 (n3-1)) l.n λb8 o8=>st h10 b8 (o8+((wrap .i64 (n3-1))).toNat) 1 [.int .u8 (bt smalls8 (wrap .u32 ((wrap .u32 ((Int.tmod n4 100)*2))+1)))] λh11=>ix l.a (wrap .i64 (n3-2)) l.n λb9 o9=>st h11 b9 (o9+((wrap .i64 (n3-2))).toNat) 1 [.int .u8 (bt smalls8 (wrap .u32 ((Int.tmod n4 100)*2)))] λh12=>par ((0:Int)<(wrap .i64 (n3-2))) (ix l.a 0 l.n λb10 o10=>st h12 b10 (o10+(0:Int).toNat) 1 [.int .u8 (wrap .u8 (wrap .u32 (48+(wrap .u32 (Int.tdiv n4 100)))))] λh13=>Q (.tuple ⟨[]⟩) h13) (Q (.tuple ⟨[]⟩) h12)) (par ((0:Int)<n3) (ix l.a 0 l.n λb11 o11=>st h10 b11 (o11+(0:Int).toNat) 1 [.int .u8 (wrap .u8 (wrap .u32 (48+n4)))] λh14=>Q (.tuple ⟨[]⟩) h14) (Q (.tuple ⟨[]⟩) h10)))/\(par ((4:Int)<=n2) ((10000:Int)≠0/\(10000:Int)≠0/\(100:Int)≠0/\(100:Int)≠0/\((0:Int)<=(wrap .u32 ((wrap .u32 ((Int.tmod (Int.tmod (wrap .u32 n1) 10000) 100)*2))+1))/\(wrap .u32 ((wrap .u32 ((Int.tmod (Int.tmod (wrap .u32 n1) 10000) 100)*2))+1))<(smalls8.size:Int))/\((0:Int)<=(wrap .u32 ((Int.tmod (Int.tmod (wrap .u32 n1) 10000) 100)*2))/\(wrap .u32 ((Int.tmod (Int.tmod (wrap .u32 n1) 10000) 100)*2))<(smalls8.size:Int))/\ix l.a (wrap .i64 (n2-1)) l.n λb12 o12=>st h1 b12 (o12+((wrap .i64 (n2-1))).toNat) 1 [.int .u8 (bt smalls8 (wrap .u32 ((wrap .u32 ((Int.tmod (Int.tmod (wrap .u32 n1) 10000) 100)*2))+1)))] λh15=>ix l.a (wrap .i64 (n2-2)) l.n λb13 o13=>st h15 b13 (o13+((wrap .i64 (n2-2))).toNat) 1 [.int .u8 (bt smalls8 (wrap .u32 ((Int.tmod (Int.tmod (wrap .u32 n1) 10000) 100)*2)))] λh16=>((0:Int)<=(wrap .u32 ((wrap .u32 ((wrap .u32 (Int.tdiv (Int.tmod (wrap .u32 n1) 10000) 100))*2))+1))/\(wrap .u32 ((wrap .u32 ((wrap .u32 (Int.tdiv (Int.tmod (wrap .u32 n1) 10000) 100))*2))+1))<(smalls8.size:Int))/\((0:Int)<=(wrap .u32 ((wrap .u32 (Int.tdiv (Int.tmod (wrap .u32 n1) 10000) 100))*2))/\(wrap .u32 ((wrap .u32 (Int.tdiv (Int.tmod (wrap .u32 n1) 10000) 100))*2))<(smalls8.size:Int))/\ix l.a (wrap .i64 (n2-3)) l.n λb14 o14=>st h16 b14 (o14+((wrap .i64 (n2-3))).toNat) 1 [.int .u8 (bt smalls8 (wrap .u32 ((wrap .u32 ((wrap .u32 (Int.tdiv (Int.tmod (wrap .u32 n1) 10000) 100))*2))+1)))] λh17=>ix l.a (wrap .i64 (n2-4)) l.n λb15 o15=>st h17 b15 (o15+((wrap .i64 (n2-4))).toNat) 1 [.int .u8 (bt smalls8 (wrap .u32 ((wrap .u32 (Int.tdiv (Int.tmod (wrap .u32 n1) 10000) 100))*2)))] λh18=>J (wrap .i64 (n2-4)) (wrap .u32 (Int.tdiv (wrap .u32 n1) 10000)) h18) (J n2 (wrap .u32 n1) h1))))
theorem F246.den(V l n):denF Tryz.prog [] [] V [(12,.loop [(1,.int .u64),(4,.int .i64)] []),(15,.join [(4,.int .i64),(12,.int .u32)] []),(1966,.order [0,1,2,3,4,5,6,7,8,9,10,11,12,13,14]),(2006,.order [0,1,2,3,4,5,6,7,8,9,10,11,12,13,14]),(3934,.order [0,1,2,3,4,5,6,7,8,9,10,11,12,13,14]),(6334,.order [0,1,2,3,4,5,6,7,8,9,10,11,12,13,14]),(12670,.order [0,1,2,3,4,5,6,7,8,9,10,11,12,13,14]),(25342,.order [0,1,2,3,4,5,6,7,8,9,10,11,12,13,14]),(50686,.order [0,1,2,3,4,5,6,7,8,9,10,11,12,13,14])] Tryz.f246 [.v (.slice l.a l.n l.c),.v (.int .u64 n)]=F246.T l n:=by kernel_rfl
def F246.W(T246:Sl->Int->PT)(args:List Value):PT:=match args with
 |[.slice l_a l_n l_c,.int .u64 n]=>T246 ⟨l_a,l_n,l_c⟩ n
 |_=>λ_ _=>False
def F246.V:List Value->PT:=F246.W F246.T
theorem F246.ok:FOk Tryz.prog 246 F246.V:=by
 refine⟨⟨_,Tryz.func246,rfl,rfl⟩,λ_=>?_⟩;unfold F246.V F246.W;split;exact denF_okE (GOk.nil) noV_ok Tryz.func246 (F246.den noV ⟨_,_,_⟩ _);exact λ_ _ h=>h.elim
@[reducible] def F241.G(T244 T245:Int->PT)(T246:Sl->Int->PT)(n n1:Int):PT:=λh Q=>
 par (n1=10) (∃ J:Hp->Prop,(∀ h1:Hp,J h1->nw h1 (.cells ⟨[.int .u8 0,.int .u8 0,.int .u8 0,.int .u8 0,.int .u8 0,.int .u8 0,.int .u8 0,.int .u8 0,.int .u8 0,.int .u8 0,.int .u8 0,.int .u8 0,.int .u8 0,.int .u8 0,.int .u8 0,.int .u8 0,.int .u8 0,.int .u8 0,.int .u8 0,.int .u8 0,.int .u8 0,.int .u8 0,.int .u8 0,.int .u8 0]⟩ 257 (0,0)) λb h2=>par (n<0) (T245 (wrap .u64 (0-(wrap .u64 n))) h2 λr h3=>retI .i64 r λn2=>Sl.okCut ⟨some ⟨b,0,none⟩,24,24⟩ 1 (wrap .i64 (1+n2)) 24/\T246 (Sl.cut ⟨some ⟨b,0,none⟩,24,24⟩ 1 1 (wrap .i64 (1+n2)) 24) (wrap .u64 (0-(wrap .u64 n))) h3 λr1 h4=>par (n<0) (((0:Int)<=0/\0<((24:Nat):Int))/\st h4 b (0+(0:Int).toNat) 1 [.int .u8 45] λh5=>Sl.okCut ⟨some ⟨b,0,none⟩,24,24⟩ 0 (wrap .i64 (1+n2)) 24/\∃ s:ByteArray,h5.row ((Sl.cut ⟨some ⟨b,0,none⟩,24,24⟩ 1 0 (wrap .i64 (1+n2)) 24).a) ((Sl.cut ⟨some ⟨b,0,none⟩,24,24⟩ 1 0 (wrap .i64 (1+n2)) 24).n) (bytesV s)/\Q (.string s) h5) (Sl.okCut ⟨some ⟨b,0,none⟩,24,24⟩ 1 (wrap .i64 (1+n2)) 24/\∃ s1:ByteArray,h4.row ((Sl.cut ⟨some ⟨b,0,none⟩,24,24⟩ 1 1 (wrap .i64 (1+n2)) 24).a) ((Sl.cut ⟨some ⟨b,0,none⟩,24,24⟩ 1 1 (wrap .i64 (1+n2)) 24).n) (bytesV s1)/\Q (.string s1) h4)) (T245 (wrap .u64 n) h2 λr2 h6=>retI .i64 r2 λn3=>Sl.okCut ⟨some ⟨b,0,none⟩,24,24⟩ 1 (wrap .i64 (1+n3)) 24/\T246 (Sl.cut ⟨some ⟨b,0,none⟩,24,24⟩ 1 1 (wrap .i64 (1+n3)) 24) (wrap .u64 n) h6 λr3 h7=>par (n<0) (((0:Int)<=0/\0<((24:Nat):Int))/\st h7 b (0+(0:Int).toNat) 1 [.int .u8 45] λh8=>Sl.okCut ⟨some ⟨b,0,none⟩,24,24⟩ 0 (wrap .i64 (1+n3)) 24/\∃ s2:ByteArray,h8.row ((Sl.cut ⟨some ⟨b,0,none⟩,24,24⟩ 1 0 (wrap .i64 (1+n3)) 24).a) ((Sl.cut ⟨some ⟨b,0,none⟩,24,24⟩ 1 0 (wrap .i64 (1+n3)) 24).n) (bytesV s2)/\Q (.string s2) h8) (Sl.okCut ⟨some ⟨b,0,none⟩,24,24⟩ 1 (wrap .i64 (1+n3)) 24/\∃ s3:ByteArray,h7.row ((Sl.cut ⟨some ⟨b,0,none⟩,24,24⟩ 1 1 (wrap .i64 (1+n3)) 24).a) ((Sl.cut ⟨some ⟨b,0,none⟩,24,24⟩ 1 1 (wrap .i64 (1+n3)) 24).n) (bytesV s3)/\Q (.string s3) h7)))/\(par ((0:Int)<=n) (par (n<100) (T244 n h λr4 h9=>retT r4 λs4=>Q (.string s4) h9) (J h)) (J h))) (False)
def F241.T:=F241.G F244.T F245.T F246.T
theorem F241.gen(V T244 T245 T246 n n1):denF Tryz.prog [] [(244,F244.W T244),(245,F245.W T245),(246,F246.W T246)] V [(7,.cut),(26,.join [] [])] Tryz.f241 [.v (.int .i64 n),.v (.int .i64 n1)]=F241.G T244 T245 T246 n n1:=by kernel_rfl
def F241.W(T241:Int->Int->PT)(args:List Value):PT:=match args with
 |[.int .i64 n,.int .i64 n1]=>T241 n n1
 |_=>λ_ _=>False
def F241.V:List Value->PT:=F241.W F241.T
theorem F241.ok:FOk Tryz.prog 241 F241.V:=by
 refine⟨⟨_,Tryz.func241,rfl,rfl⟩,λ_=>?_⟩;unfold F241.V F241.W;split;exact denF_okE (GOk.cons F244.ok (GOk.cons F245.ok (GOk.cons F246.ok (GOk.nil)))) noV_ok Tryz.func241 (F241.gen noV F244.T F245.T F246.T _ _);exact λ_ _ h=>h.elim
@[reducible] def F233.G(T241:Int->Int->PT)(n:Int):PT:=λh Q=>
 T241 n 10 h λr h1=>retT r λs=>Q (.string s) h1
def F233.T:=F233.G F241.T
theorem F233.gen(V T241 n):denF Tryz.prog [] [(241,F241.W T241)] V [] Tryz.f233 [.v (.int .i64 n)]=F233.G T241 n:=by kernel_rfl
def F233.W(T233:Int->PT)(args:List Value):PT:=match args with
 |[.int .i64 n]=>T233 n
 |_=>λ_ _=>False
def F233.V:List Value->PT:=F233.W F233.T
theorem F233.ok:FOk Tryz.prog 233 F233.V:=by
 refine⟨⟨_,Tryz.func233,rfl,rfl⟩,λ_=>?_⟩;unfold F233.V F233.W;split;exact denF_okE (GOk.cons F241.ok (GOk.nil)) noV_ok Tryz.func233 (F233.gen noV F241.T _);exact λ_ _ h=>h.elim
@[reducible] def F216.G(T233:Int->PT)(n:Int):PT:=λh Q=>
 T233 n h λr h1=>retT r λs=>Q (.string s) h1
def F216.T:=F216.G F233.T
theorem F216.gen(V T233 n):denF Tryz.prog [] [(233,F233.W T233)] V [] Tryz.f216 [.v (.int .i64 n)]=F216.G T233 n:=by kernel_rfl
def F216.W(T216:Int->PT)(args:List Value):PT:=match args with
 |[.int .i64 n]=>T216 n
 |_=>λ_ _=>False
def F216.V:List Value->PT:=F216.W F216.T
theorem F216.ok:FOk Tryz.prog 216 F216.V:=by
 refine⟨⟨_,Tryz.func216,rfl,rfl⟩,λ_=>?_⟩;unfold F216.V F216.W;split;exact denF_okE (GOk.cons F233.ok (GOk.nil)) noV_ok Tryz.func216 (F216.gen noV F233.T _);exact λ_ _ h=>h.elim
end Go.Eng.YtbjnlacacapjiaaGreatDoor
end
section
open Go.Proofs
namespace Go.Eng.YtbjnlacacapjiaaGreatDoor
def F125.T(l l1:Sl):PT:=λh Q=>
 par ((l.n:Int)=(l1.n:Int)) (∃ (I:Int->Hp->Prop) (m:Int->Hp->Nat),I 0 h/\(∀ n:Int,∀ h1:Hp,I n h1->par (n<(l.n:Int)) (ix l.a n l.n λb o=>ldI .u64 h1 b (o+n.toNat) λn1=>ix l1.a n l1.n λb1 o1=>ldI .u64 h1 b1 (o1+n.toNat) λn2=>par (n1=n2) (I (wrap .i64 (n+1)) h1/\m (wrap .i64 (n+1)) h1<m n h1) (Q (.bool false) h1)) (Q (.bool true) h1))) (Q (.bool false) h)
theorem F125.den(V l l1):denF Tryz.prog [] [] V [(58,.loop [(5,.int .i64)] [])] Tryz.f125 [.v (.slice l.a l.n l.c),.v (.slice l1.a l1.n l1.c)]=F125.T l l1:=by kernel_rfl
def F125.W(T125:Sl->Sl->PT)(args:List Value):PT:=match args with
 |[.slice l_a l_n l_c,.slice l1_a l1_n l1_c]=>T125 ⟨l_a,l_n,l_c⟩ ⟨l1_a,l1_n,l1_c⟩
 |_=>λ_ _=>False
def F125.V:List Value->PT:=F125.W F125.T
theorem F125.ok:FOk Tryz.prog 125 F125.V:=by
 refine⟨⟨_,Tryz.func125,rfl,rfl⟩,λ_=>?_⟩;unfold F125.V F125.W;split;exact denF_okE (GOk.nil) noV_ok Tryz.func125 (F125.den noV ⟨_,_,_⟩ ⟨_,_,_⟩);exact λ_ _ h=>h.elim
def F126.T(l l1:Sl):PT:=λh Q=>
 par ((l.n:Int)=(l1.n:Int)) (∃ (I:Int->Hp->Prop) (m:Int->Hp->Nat),I 0 h/\(∀ n:Int,∀ h1:Hp,I n h1->par (n<(l.n:Int)) (ix l.a n l.n λb o=>ldT h1 b (o+n.toNat) λs=>ix l1.a n l1.n λb1 o1=>ldT h1 b1 (o1+n.toNat) λs1=>par (s=s1) (I (wrap .i64 (n+1)) h1/\m (wrap .i64 (n+1)) h1<m n h1) (Q (.bool false) h1)) (Q (.bool true) h1))) (Q (.bool false) h)
theorem F126.den(V l l1):denF Tryz.prog [] [] V [(58,.loop [(5,.int .i64)] [])] Tryz.f126 [.v (.slice l.a l.n l.c),.v (.slice l1.a l1.n l1.c)]=F126.T l l1:=by kernel_rfl
def F126.W(T126:Sl->Sl->PT)(args:List Value):PT:=match args with
 |[.slice l_a l_n l_c,.slice l1_a l1_n l1_c]=>T126 ⟨l_a,l_n,l_c⟩ ⟨l1_a,l1_n,l1_c⟩
 |_=>λ_ _=>False
def F126.V:List Value->PT:=F126.W F126.T
theorem F126.ok:FOk Tryz.prog 126 F126.V:=by
 refine⟨⟨_,Tryz.func126,rfl,rfl⟩,λ_=>?_⟩;unfold F126.V F126.W;split;exact denF_okE (GOk.nil) noV_ok Tryz.func126 (F126.den noV ⟨_,_,_⟩ ⟨_,_,_⟩);exact λ_ _ h=>h.elim
def F130.T(l l1:Sl):PT:=λh Q=>
 par ((l.n:Int)=(l1.n:Int)) (∃ (I:Int->Hp->Prop) (m:Int->Hp->Nat),I 0 h/\(∀ n:Int,∀ h1:Hp,I n h1->par (n<(l.n:Int)) (ix l.a n l.n λb o=>ldI .u64 h1 b (o+n.toNat*6) λn1=>ldI .i64 h1 b ((o+n.toNat*6)+1) λn2=>ldI .i64 h1 b ((o+n.toNat*6)+2) λn3=>ldI .i64 h1 b ((o+n.toNat*6)+3) λn4=>ldT h1 b ((o+n.toNat*6)+4) λs=>ldT h1 b ((o+n.toNat*6)+5) λs1=>ix l1.a n l1.n λb1 o1=>ldI .u64 h1 b1 (o1+n.toNat*6) λn5=>ldI .i64 h1 b1 ((o1+n.toNat*6)+1) λn6=>ldI .i64 h1 b1 ((o1+n.toNat*6)+2) λn7=>ldI .i64 h1 b1 ((o1+n.toNat*6)+3) λn8=>ldT h1 b1 ((o1+n.toNat*6)+4) λs2=>ldT h1 b1 ((o1+n.toNat*6)+5) λs3=>par (([.int .u64 n1,.int .i64 n2,.int .i64 n3,.int .i64 n4,.string s,.string s1]:List Value)=[.int .u64 n5,.int .i64 n6,.int .i64 n7,.int .i64 n8,.string s2,.string s3]) (I (wrap .i64 (n+1)) h1/\m (wrap .i64 (n+1)) h1<m n h1) (Q (.bool false) h1)) (Q (.bool true) h1))) (Q (.bool false) h)
theorem F130.den(V l l1):denF Tryz.prog [6,7] [] V [(58,.loop [(5,.int .i64)] [])] Tryz.f130 [.v (.slice l.a l.n l.c),.v (.slice l1.a l1.n l1.c)]=F130.T l l1:=by kernel_rfl
def F130.W(T130:Sl->Sl->PT)(args:List Value):PT:=match args with
 |[.slice l_a l_n l_c,.slice l1_a l1_n l1_c]=>T130 ⟨l_a,l_n,l_c⟩ ⟨l1_a,l1_n,l1_c⟩
 |_=>λ_ _=>False
def F130.V:List Value->PT:=F130.W F130.T
theorem F130.ok:FOk Tryz.prog 130 F130.V:=by
 refine⟨⟨_,Tryz.func130,rfl,rfl⟩,λ_=>?_⟩;unfold F130.V F130.W;split;exact denF_okE (GOk.nil) noV_ok Tryz.func130 (F130.den noV ⟨_,_,_⟩ ⟨_,_,_⟩);exact λ_ _ h=>h.elim
def F81.T(p:Option Addr)(n:Int):PT:=λh Q=>
 dr p λb o=>ldB h b o (dr p λb1 o1=>ldI .i64 h b1 (o1+2) λn1=>Q (.int .i64 n1) h) ((3:Int)≠0/\par ((Int.tmod n 3)=0) (dr p λb2 o2=>ldI .i64 h b2 (o2+2) λn2=>Q (.int .i64 n2) h) ((3:Int)≠0/\par ((Int.tmod n 3)=1) (dr p λb3 o3=>ldI .i64 h b3 (o3+2) λn3=>(3:Int)≠0/\(8:Int)≠0/\Q (.int .i64 (wrap .i64 ((wrap .i64 (n3+1))+(Int.tmod (wrap .i64 (Int.tdiv n 3)) 8)))) h) (dr p λb4 o4=>ldI .i64 h b4 (o4+2) λn4=>Q (.int .i64 (wrap .i64 (n4+1))) h)))
theorem F81.den(V p n):denF Tryz.prog [] [] V [] Tryz.f81 [.v (.pointer p),.v (.int .i64 n)]=F81.T p n:=by kernel_rfl
def F81.W(T81:Option Addr->Int->PT)(args:List Value):PT:=match args with
 |[.pointer p,.int .i64 n]=>T81 p n
 |_=>λ_ _=>False
def F81.V:List Value->PT:=F81.W F81.T
theorem F81.ok:FOk Tryz.prog 81 F81.V:=by
 refine⟨⟨_,Tryz.func81,rfl,rfl⟩,λ_=>?_⟩;unfold F81.V F81.W;split;exact denF_okE (GOk.nil) noV_ok Tryz.func81 (F81.den noV _ _);exact λ_ _ h=>h.elim
def F172.T(p:Option Addr):PT:=λh Q=>
 dr p λb o=>ldS h b (o+6) λl=>dr p λb1 o1=>ldS h b1 (o1+7) λl1=>dr p λb2 o2=>ldS h b2 (o2+9) λl2=>dr p λb3 o3=>ldS h b3 (o3+10) λl3=>par ((l.n:Int)=0) (Q (.tuple ⟨[]⟩) h) (False)
theorem F172.den(V p):denF Tryz.prog [70,83,93,106,153,165,175,185] [] V [(63,.cut)] Tryz.f172 [.v (.pointer p)]=F172.T p:=by kernel_rfl
def F172.W(T172:Option Addr->PT)(args:List Value):PT:=match args with
 |[.pointer p]=>T172 p
 |_=>λ_ _=>False
def F172.V:List Value->PT:=F172.W F172.T
theorem F172.ok:FOk Tryz.prog 172 F172.V:=by
 refine⟨⟨_,Tryz.func172,rfl,rfl⟩,λ_=>?_⟩;unfold F172.V F172.W;split;exact denF_okE (GOk.nil) noV_ok Tryz.func172 (F172.den noV _);exact λ_ _ h=>h.elim
def F173.T(p:Option Addr):PT:=λh Q=>
 dr p λb o=>ldS h b (o+15) λl=>dr p λb1 o1=>ldS h b1 (o1+16) λl1=>dr p λb2 o2=>ldS h b2 (o2+18) λl2=>dr p λb3 o3=>ldS h b3 (o3+19) λl3=>par ((l.n:Int)=0) (Q (.tuple ⟨[]⟩) h) (False)
theorem F173.den(V p):denF Tryz.prog [70,83,93,106,152,164,174,184] [] V [(63,.cut)] Tryz.f173 [.v (.pointer p)]=F173.T p:=by kernel_rfl
def F173.W(T173:Option Addr->PT)(args:List Value):PT:=match args with
 |[.pointer p]=>T173 p
 |_=>λ_ _=>False
def F173.V:List Value->PT:=F173.W F173.T
theorem F173.ok:FOk Tryz.prog 173 F173.V:=by
 refine⟨⟨_,Tryz.func173,rfl,rfl⟩,λ_=>?_⟩;unfold F173.V F173.W;split;exact denF_okE (GOk.nil) noV_ok Tryz.func173 (F173.den noV _);exact λ_ _ h=>h.elim
@[reducible] def F174.G(T125:Sl->Sl->PT)(p:Option Addr):PT:=λh Q=>
 dr p λb o=>ldS h b (o+24) λl=>dr p λb1 o1=>ldS h b1 (o1+25) λl1=>dr p λb2 o2=>ldS h b2 (o2+27) λl2=>dr p λb3 o3=>ldS h b3 (o3+28) λl3=>par ((l.n:Int)=0) (Q (.tuple ⟨[]⟩) h) (dr p λb4 o4=>st h b4 (o4+24) 1 [.slice none 0 0] λh1=>dr p λb5 o5=>st h1 b5 (o5+25) 1 [.slice none 0 0] λh2=>dr p λb6 o6=>st h2 b6 (o6+27) 1 [.slice none 0 0] λh3=>dr p λb7 o7=>st h3 b7 (o7+28) 1 [.slice none 0 0] λh4=>∃ (I:Int->Hp->Prop) (m:Int->Hp->Nat),I 0 h4/\(∀ n:Int,∀ h5:Hp,I n h5->par (n<(l.n:Int)) (ix l.a n l.n λb8 o8=>ldS h5 b8 (o8+n.toNat) λl4=>ix l2.a n l2.n λb9 o9=>ldI .i64 h5 b9 (o9+n.toNat) λn1=>ix l3.a n l3.n λb10 o10=>ldI .i64 h5 b10 (o10+n.toNat) λn2=>dr p λb11 o11=>ldI .i64 h5 b11 (o11+2) λn3=>par (n3<n2) (dr p λb12 o12=>ldS h5 b12 (o12+24) λl5=>appendD l5 106 1 24 [.slice none 0 0] 1 [.slice l4.a l4.n l4.c] h5 λl6 h6=>dr p λb13 o13=>st h6 b13 (o13+24) 1 [.slice l6.a l6.n l6.c] λh7=>dr p λb14 o14=>ldS h7 b14 (o14+25) λl7=>ix l1.a n l1.n λb15 o15=>ldS h7 b15 (o15+n.toNat) λl8=>h7.at b14 (o14+25)=some (.slice l7.a l7.n l7.c)/\appendD l7 106 1 24 [.slice none 0 0] 1 [.slice l8.a l8.n l8.c] h7 λl9 h8=>dr p λb16 o16=>st h8 b16 (o16+25) 1 [.slice l9.a l9.n l9.c] λh9=>dr p λb17 o17=>ldS h9 b17 (o17+27) λl10=>appendD l10 3 1 8 [.int .i64 0] 1 [.int .i64 n1] h9 λl11 h10=>dr p λb18 o18=>st h10 b18 (o18+27) 1 [.slice l11.a l11.n l11.c] λh11=>dr p λb19 o19=>ldS h11 b19 (o19+28) λl12=>ix l3.a n l3.n λb20 o20=>ldI .i64 h11 b20 (o20+n.toNat) λn4=>h11.at b19 (o19+28)=some (.slice l12.a l12.n l12.c)/\appendD l12 3 1 8 [.int .i64 0] 1 [.int .i64 n4] h11 λl13 h12=>dr p λb21 o21=>st h12 b21 (o21+28) 1 [.slice l13.a l13.n l13.c] λh13=>I (wrap .i64 (n+1)) h13/\m (wrap .i64 (n+1)) h13<m n h5) (∃ J:Hp->Prop,(∀ h14:Hp,J h14->∃ (I1:Int->Hp->Prop) (m1:Int->Hp->Nat),I1 0 h14/\(∀ n5:Int,∀ h15:Hp,I1 n5 h15->par (n5<(l4.n:Int)) (ix l4.a n5 l4.n λb22 o22=>st h15 b22 (o22+n5.toNat) 1 [.int .u64 (wrap .u64 (wrap .i64 (n1+(wrap .i64 (3*n5)))))] λh16=>I1 (wrap .i64 (n5+1)) h16/\m1 (wrap .i64 (n5+1)) h16<m1 n5 h15) (dr p λb23 o23=>ldS h15 b23 (o23+22) λl14=>appendD l14 106 1 24 [.slice none 0 0] 1 [.slice l4.a l4.n l4.c] h15 λl15 h17=>dr p λb24 o24=>st h17 b24 (o24+22) 1 [.slice l15.a l15.n l15.c] λh18=>dr p λb25 o25=>ldS h18 b25 (o25+23) λl16=>nw h18 (.cells ⟨[]⟩ 48 (0,0)) λb26 h19=>h19.at b25 (o25+23)=some (.slice l16.a l16.n l16.c)/\∃ vs,h19.row l4.a (l4.n*1) vs/\(∀ v∈vs,Value.oneCell' v=true)/\appendD ⟨(some ⟨b26,0,none⟩),0,0⟩ 48 1 8 [.int .u64 0] l4.n vs h19 λl17 h20=>h20.at b25 (o25+23)=some (.slice l16.a l16.n l16.c)/\h20.at b25 (o25+23)=some (.slice l16.a l16.n l16.c)/\appendD l16 106 1 24 [.slice none 0 0] 1 [.slice l17.a l17.n l17.c] h20 λl18 h21=>dr p λb27 o26=>st h21 b27 (o26+23) 1 [.slice l18.a l18.n l18.c] λh22=>dr p λb28 o27=>ldS h22 b28 (o27+26) λl19=>appendD l19 106 1 24 [.slice none 0 0] 1 [.slice l4.a l4.n l4.c] h22 λl20 h23=>dr p λb29 o28=>st h23 b29 (o28+26) 1 [.slice l20.a l20.n l20.c] λh24=>dr p λb30 o29=>ldS h24 b30 (o29+29) λl21=>appendD l21 3 1 8 [.int .i64 0] 1 [.int .i64 n1] h24 λl22 h25=>dr p λb31 o30=>st h25 b31 (o30+29) 1 [.slice l22.a l22.n l22.c] λh26=>I (wrap .i64 (n+1)) h26/\m (wrap .i64 (n+1)) h26<m n h5)))/\(dr p λb32 o31=>ldB h5 b32 (o31+1) (dr p λb33 o32=>st h5 b33 (o32+1) 1 [.bool true] λh27=>J h27) (dr p λb34 o33=>ldB h5 b34 o33 (dr p λb35 o34=>st h5 b35 (o34+1) 1 [.bool false] λh28=>J h28) (ix l1.a n l1.n λb36 o35=>ldS h5 b36 (o35+n.toNat) λl23=>T125 l4 l23 h5 λr h29=>retB r (dr p λb37 o36=>st h29 b37 (o36+1) 1 [.bool false] λh30=>J h30) (dr p λb38 o37=>st h29 b38 (o37+1) 1 [.bool true] λh31=>J h31)))))) (Q (.tuple ⟨[]⟩) h5)))
def F174.T:=F174.G F125.T
theorem F174.gen(V T125 p):denF Tryz.prog [70,83,93,106,153,165,175,185] [(125,F125.W T125)] V [(510,.loop [(6,.int .i64)] []),(65319,.join [] []),(130636,.order [0,1,2,3,4,5,6,7,8]),(1045098,.order [0,1,2,3,4,5,6,7,8,9,10,11,12,13]),(1045114,.loop [(9,.int .i64)] []),(1045118,.order [0,1,2,3,4,6,5,7,8,9,10,11,12]),(4180398,.order [0,1,2,3,4,5,6,7,8,9,10,11,12,13])] Tryz.f174 [.v (.pointer p)]=F174.G T125 p:=by kernel_rfl
def F174.W(T174:Option Addr->PT)(args:List Value):PT:=match args with
 |[.pointer p]=>T174 p
 |_=>λ_ _=>False
def F174.V:List Value->PT:=F174.W F174.T
theorem F174.ok:FOk Tryz.prog 174 F174.V:=by
 refine⟨⟨_,Tryz.func174,rfl,rfl⟩,λ_=>?_⟩;unfold F174.V F174.W;split;exact denF_okE (GOk.cons F125.ok (GOk.nil)) noV_ok Tryz.func174 (F174.gen noV F125.T _);exact λ_ _ h=>h.elim
@[reducible] def F175.G(T126:Sl->Sl->PT)(T216:Int->PT)(p:Option Addr):PT:=λh Q=>
 dr p λb o=>ldS h b (o+33) λl=>dr p λb1 o1=>ldS h b1 (o1+34) λl1=>dr p λb2 o2=>ldS h b2 (o2+36) λl2=>dr p λb3 o3=>ldS h b3 (o3+37) λl3=>par ((l.n:Int)=0) (Q (.tuple ⟨[]⟩) h) (dr p λb4 o4=>st h b4 (o4+33) 1 [.slice none 0 0] λh1=>dr p λb5 o5=>st h1 b5 (o5+34) 1 [.slice none 0 0] λh2=>dr p λb6 o6=>st h2 b6 (o6+36) 1 [.slice none 0 0] λh3=>dr p λb7 o7=>st h3 b7 (o7+37) 1 [.slice none 0 0] λh4=>∃ (I:Int->Hp->Prop) (m:Int->Hp->Nat),I 0 h4/\(∀ n:Int,∀ h5:Hp,I n h5->par (n<(l.n:Int)) (ix l.a n l.n λb8 o8=>ldS h5 b8 (o8+n.toNat) λl4=>ix l2.a n l2.n λb9 o9=>ldI .i64 h5 b9 (o9+n.toNat) λn1=>ix l3.a n l3.n λb10 o10=>ldI .i64 h5 b10 (o10+n.toNat) λn2=>dr p λb11 o11=>ldI .i64 h5 b11 (o11+2) λn3=>par (n3<n2) (dr p λb12 o12=>ldS h5 b12 (o12+33) λl5=>appendD l5 51 1 24 [.slice none 0 0] 1 [.slice l4.a l4.n l4.c] h5 λl6 h6=>dr p λb13 o13=>st h6 b13 (o13+33) 1 [.slice l6.a l6.n l6.c] λh7=>dr p λb14 o14=>ldS h7 b14 (o14+34) λl7=>ix l1.a n l1.n λb15 o15=>ldS h7 b15 (o15+n.toNat) λl8=>h7.at b14 (o14+34)=some (.slice l7.a l7.n l7.c)/\appendD l7 51 1 24 [.slice none 0 0] 1 [.slice l8.a l8.n l8.c] h7 λl9 h8=>dr p λb16 o16=>st h8 b16 (o16+34) 1 [.slice l9.a l9.n l9.c] λh9=>dr p λb17 o17=>ldS h9 b17 (o17+36) λl10=>appendD l10 3 1 8 [.int .i64 0] 1 [.int .i64 n1] h9 λl11 h10=>dr p λb18 o18=>st h10 b18 (o18+36) 1 [.slice l11.a l11.n l11.c] λh11=>dr p λb19 o19=>ldS h11 b19 (o19+37) λl12=>ix l3.a n l3.n λb20 o20=>ldI .i64 h11 b20 (o20+n.toNat) λn4=>h11.at b19 (o19+37)=some (.slice l12.a l12.n l12.c)/\appendD l12 3 1 8 [.int .i64 0] 1 [.int .i64 n4] h11 λl13 h12=>dr p λb21 o21=>st h12 b21 (o21+37) 1 [.slice l13.a l13.n l13.c] λh13=>I (wrap .i64 (n+1)) h13/\m (wrap .i64 (n+1)) h13<m n h5) (∃ J:Hp->Prop,(∀ h14:Hp,J h14->∃ (I1:Int->Hp->Prop) (m1:Int->Hp->Nat),I1 0 h14/\(∀ n5:Int,∀ h15:Hp,I1 n5 h15->par (n5<(l4.n:Int)) (T216 (wrap .i64 (n1+(wrap .i64 (3*n5)))) h15 λr h16=>retT r λs=>ix l4.a n5 l4.n λb22 o22=>st h16 b22 (o22+n5.toNat) 1 [.string s] λh17=>I1 (wrap .i64 (n5+1)) h17/\m1 (wrap .i64 (n5+1)) h17<m1 n5 h15) (dr p λb23 o23=>ldS h15 b23 (o23+31) λl14=>appendD l14 51 1 24 [.slice none 0 0] 1 [.slice l4.a l4.n l4.c] h15 λl15 h18=>dr p λb24 o24=>st h18 b24 (o24+31) 1 [.slice l15.a l15.n l15.c] λh19=>dr p λb25 o25=>ldS h19 b25 (o25+32) λl16=>nw h19 (.cells ⟨[]⟩ 9 (0,0)) λb26 h20=>h20.at b25 (o25+32)=some (.slice l16.a l16.n l16.c)/\∃ vs,h20.row l4.a (l4.n*1) vs/\(∀ v∈vs,Value.oneCell' v=true)/\appendD ⟨(some ⟨b26,0,none⟩),0,0⟩ 9 1 16 [.string ⟨#[]⟩] l4.n vs h20 λl17 h21=>h21.at b25 (o25+32)=some (.slice l16.a l16.n l16.c)/\h21.at b25 (o25+32)=some (.slice l16.a l16.n l16.c)/\appendD l16 51 1 24 [.slice none 0 0] 1 [.slice l17.a l17.n l17.c] h21 λl18 h22=>dr p λb27 o26=>st h22 b27 (o26+32) 1 [.slice l18.a l18.n l18.c] λh23=>dr p λb28 o27=>ldS h23 b28 (o27+35) λl19=>appendD l19 51 1 24 [.slice none 0 0] 1 [.slice l4.a l4.n l4.c] h23 λl20 h24=>dr p λb29 o28=>st h24 b29 (o28+35) 1 [.slice l20.a l20.n l20.c] λh25=>dr p λb30 o29=>ldS h25 b30 (o29+38) λl21=>appendD l21 3 1 8 [.int .i64 0] 1 [.int .i64 n1] h25 λl22 h26=>dr p λb31 o30=>st h26 b31 (o30+38) 1 [.slice l22.a l22.n l22.c] λh27=>I (wrap .i64 (n+1)) h27/\m (wrap .i64 (n+1)) h27<m n h5)))/\(dr p λb32 o31=>ldB h5 b32 (o31+1) (dr p λb33 o32=>st h5 b33 (o32+1) 1 [.bool true] λh28=>J h28) (dr p λb34 o33=>ldB h5 b34 o33 (dr p λb35 o34=>st h5 b35 (o34+1) 1 [.bool false] λh29=>J h29) (ix l1.a n l1.n λb36 o35=>ldS h5 b36 (o35+n.toNat) λl23=>T126 l4 l23 h5 λr1 h30=>retB r1 (dr p λb37 o36=>st h30 b37 (o36+1) 1 [.bool false] λh31=>J h31) (dr p λb38 o37=>st h30 b38 (o37+1) 1 [.bool true] λh32=>J h32)))))) (Q (.tuple ⟨[]⟩) h5)))
def F175.T:=F175.G F126.T F216.T
theorem F175.gen(V T126 T216 p):denF Tryz.prog [70,83,93,106,153,165,175,185] [(126,F126.W T126),(216,F216.W T216)] V [(510,.loop [(6,.int .i64)] []),(65319,.join [] []),(130636,.order [0,1,2,3,4,5,6,7,8]),(1045098,.order [0,1,2,3,4,5,6,7,8,9,10,11,12,13]),(1045114,.loop [(9,.int .i64)] []),(1045118,.order [0,1,2,3,4,6,5,7,8,9,10,11,12]),(4180398,.order [0,1,2,3,4,5,6,7,8,9,10,11,12,13])] Tryz.f175 [.v (.pointer p)]=F175.G T126 T216 p:=by kernel_rfl
def F175.W(T175:Option Addr->PT)(args:List Value):PT:=match args with
 |[.pointer p]=>T175 p
 |_=>λ_ _=>False
def F175.V:List Value->PT:=F175.W F175.T
theorem F175.ok:FOk Tryz.prog 175 F175.V:=by
 refine⟨⟨_,Tryz.func175,rfl,rfl⟩,λ_=>?_⟩;unfold F175.V F175.W;split;exact denF_okE (GOk.cons F126.ok (GOk.cons F216.ok (GOk.nil))) noV_ok Tryz.func175 (F175.gen noV F126.T F216.T _);exact λ_ _ h=>h.elim
def F176.T(p:Option Addr):PT:=λh Q=>
 dr p λb o=>ldS h b (o+42) λl=>dr p λb1 o1=>ldS h b1 (o1+43) λl1=>dr p λb2 o2=>ldS h b2 (o2+45) λl2=>dr p λb3 o3=>ldS h b3 (o3+46) λl3=>par ((l.n:Int)=0) (Q (.tuple ⟨[]⟩) h) (False)
theorem F176.den(V p):denF Tryz.prog [70,83,93,106,154,166,176,186] [] V [(63,.cut)] Tryz.f176 [.v (.pointer p)]=F176.T p:=by kernel_rfl
def F176.W(T176:Option Addr->PT)(args:List Value):PT:=match args with
 |[.pointer p]=>T176 p
 |_=>λ_ _=>False
def F176.V:List Value->PT:=F176.W F176.T
theorem F176.ok:FOk Tryz.prog 176 F176.V:=by
 refine⟨⟨_,Tryz.func176,rfl,rfl⟩,λ_=>?_⟩;unfold F176.V F176.W;split;exact denF_okE (GOk.nil) noV_ok Tryz.func176 (F176.den noV _);exact λ_ _ h=>h.elim
def F177.T(p:Option Addr):PT:=λh Q=>
 dr p λb o=>ldS h b (o+51) λl=>dr p λb1 o1=>ldS h b1 (o1+52) λl1=>dr p λb2 o2=>ldS h b2 (o2+54) λl2=>dr p λb3 o3=>ldS h b3 (o3+55) λl3=>par ((l.n:Int)=0) (Q (.tuple ⟨[]⟩) h) (False)
theorem F177.den(V p):denF Tryz.prog [70,83,93,106,154,166,176,186] [] V [(63,.cut)] Tryz.f177 [.v (.pointer p)]=F177.T p:=by kernel_rfl
def F177.W(T177:Option Addr->PT)(args:List Value):PT:=match args with
 |[.pointer p]=>T177 p
 |_=>λ_ _=>False
def F177.V:List Value->PT:=F177.W F177.T
theorem F177.ok:FOk Tryz.prog 177 F177.V:=by
 refine⟨⟨_,Tryz.func177,rfl,rfl⟩,λ_=>?_⟩;unfold F177.V F177.W;split;exact denF_okE (GOk.nil) noV_ok Tryz.func177 (F177.den noV _);exact λ_ _ h=>h.elim
def F178.T(p:Option Addr):PT:=λh Q=>
 dr p λb o=>ldS h b (o+60) λl=>dr p λb1 o1=>ldS h b1 (o1+61) λl1=>dr p λb2 o2=>ldS h b2 (o2+63) λl2=>dr p λb3 o3=>ldS h b3 (o3+64) λl3=>par ((l.n:Int)=0) (Q (.tuple ⟨[]⟩) h) (False)
theorem F178.den(V p):denF Tryz.prog [70,83,93,106,154,166,176,186] [] V [(63,.cut)] Tryz.f178 [.v (.pointer p)]=F178.T p:=by kernel_rfl
def F178.W(T178:Option Addr->PT)(args:List Value):PT:=match args with
 |[.pointer p]=>T178 p
 |_=>λ_ _=>False
def F178.V:List Value->PT:=F178.W F178.T
theorem F178.ok:FOk Tryz.prog 178 F178.V:=by
 refine⟨⟨_,Tryz.func178,rfl,rfl⟩,λ_=>?_⟩;unfold F178.V F178.W;split;exact denF_okE (GOk.nil) noV_ok Tryz.func178 (F178.den noV _);exact λ_ _ h=>h.elim
@[reducible] def F179.G(T130:Sl->Sl->PT)(p:Option Addr):PT:=λh Q=>
 dr p λb o=>ldS h b (o+69) λl=>dr p λb1 o1=>ldS h b1 (o1+70) λl1=>dr p λb2 o2=>ldS h b2 (o2+72) λl2=>dr p λb3 o3=>ldS h b3 (o3+73) λl3=>par ((l.n:Int)=0) (Q (.tuple ⟨[]⟩) h) (dr p λb4 o4=>st h b4 (o4+69) 1 [.slice none 0 0] λh1=>dr p λb5 o5=>st h1 b5 (o5+70) 1 [.slice none 0 0] λh2=>dr p λb6 o6=>st h2 b6 (o6+72) 1 [.slice none 0 0] λh3=>dr p λb7 o7=>st h3 b7 (o7+73) 1 [.slice none 0 0] λh4=>∃ (I:Int->Hp->Prop) (m:Int->Hp->Nat),I 0 h4/\(∀ n:Int,∀ h5:Hp,I n h5->par (n<(l.n:Int)) (ix l.a n l.n λb8 o8=>ldS h5 b8 (o8+n.toNat) λl4=>ix l2.a n l2.n λb9 o9=>ldI .i64 h5 b9 (o9+n.toNat) λn1=>ix l3.a n l3.n λb10 o10=>ldI .i64 h5 b10 (o10+n.toNat) λn2=>dr p λb11 o11=>ldI .i64 h5 b11 (o11+2) λn3=>par (n3<n2) (dr p λb12 o12=>ldS h5 b12 (o12+69) λl5=>appendD l5 77 1 24 [.slice none 0 0] 1 [.slice l4.a l4.n l4.c] h5 λl6 h6=>dr p λb13 o13=>st h6 b13 (o13+69) 1 [.slice l6.a l6.n l6.c] λh7=>dr p λb14 o14=>ldS h7 b14 (o14+70) λl7=>ix l1.a n l1.n λb15 o15=>ldS h7 b15 (o15+n.toNat) λl8=>h7.at b14 (o14+70)=some (.slice l7.a l7.n l7.c)/\appendD l7 77 1 24 [.slice none 0 0] 1 [.slice l8.a l8.n l8.c] h7 λl9 h8=>dr p λb16 o16=>st h8 b16 (o16+70) 1 [.slice l9.a l9.n l9.c] λh9=>dr p λb17 o17=>ldS h9 b17 (o17+72) λl10=>appendD l10 3 1 8 [.int .i64 0] 1 [.int .i64 n1] h9 λl11 h10=>dr p λb18 o18=>st h10 b18 (o18+72) 1 [.slice l11.a l11.n l11.c] λh11=>dr p λb19 o19=>ldS h11 b19 (o19+73) λl12=>ix l3.a n l3.n λb20 o20=>ldI .i64 h11 b20 (o20+n.toNat) λn4=>h11.at b19 (o19+73)=some (.slice l12.a l12.n l12.c)/\appendD l12 3 1 8 [.int .i64 0] 1 [.int .i64 n4] h11 λl13 h12=>dr p λb21 o21=>st h12 b21 (o21+73) 1 [.slice l13.a l13.n l13.c] λh13=>I (wrap .i64 (n+1)) h13/\m (wrap .i64 (n+1)) h13<m n h5) (∃ J:Hp->Prop,(∀ h14:Hp,J h14->∃ (I1:Int->Hp->Prop) (m1:Int->Hp->Nat),I1 0 h14/\(∀ n5:Int,∀ h15:Hp,I1 n5 h15->par (n5<(l4.n:Int)) (ix l4.a n5 l4.n λb22 o22=>st h15 b22 (o22+n5.toNat*6) 6 [.int .u64 (wrap .u64 (wrap .i64 (n1+(wrap .i64 (3*n5))))),.int .i64 0,.int .i64 0,.int .i64 0,.string ⟨#[]⟩,.string ⟨#[]⟩] λh16=>I1 (wrap .i64 (n5+1)) h16/\m1 (wrap .i64 (n5+1)) h16<m1 n5 h15) (dr p λb23 o23=>ldS h15 b23 (o23+67) λl14=>appendD l14 77 1 24 [.slice none 0 0] 1 [.slice l4.a l4.n l4.c] h15 λl15 h17=>dr p λb24 o24=>st h17 b24 (o24+67) 1 [.slice l15.a l15.n l15.c] λh18=>dr p λb25 o25=>ldS h18 b25 (o25+68) λl16=>nw h18 (.cells ⟨[]⟩ 63 (0,0)) λb26 h19=>h19.at b25 (o25+68)=some (.slice l16.a l16.n l16.c)/\∃ vs,h19.row l4.a (l4.n*6) vs/\(∀ v∈vs,Value.oneCell' v=true)/\appendD ⟨(some ⟨b26,0,none⟩),0,0⟩ 63 6 64 [.int .u64 0,.int .i64 0,.int .i64 0,.int .i64 0,.string ⟨#[]⟩,.string ⟨#[]⟩] l4.n vs h19 λl17 h20=>h20.at b25 (o25+68)=some (.slice l16.a l16.n l16.c)/\h20.at b25 (o25+68)=some (.slice l16.a l16.n l16.c)/\appendD l16 77 1 24 [.slice none 0 0] 1 [.slice l17.a l17.n l17.c] h20 λl18 h21=>dr p λb27 o26=>st h21 b27 (o26+68) 1 [.slice l18.a l18.n l18.c] λh22=>dr p λb28 o27=>ldS h22 b28 (o27+71) λl19=>appendD l19 77 1 24 [.slice none 0 0] 1 [.slice l4.a l4.n l4.c] h22 λl20 h23=>dr p λb29 o28=>st h23 b29 (o28+71) 1 [.slice l20.a l20.n l20.c] λh24=>dr p λb30 o29=>ldS h24 b30 (o29+74) λl21=>appendD l21 3 1 8 [.int .i64 0] 1 [.int .i64 n1] h24 λl22 h25=>dr p λb31 o30=>st h25 b31 (o30+74) 1 [.slice l22.a l22.n l22.c] λh26=>I (wrap .i64 (n+1)) h26/\m (wrap .i64 (n+1)) h26<m n h5)))/\(dr p λb32 o31=>ldB h5 b32 (o31+1) (dr p λb33 o32=>st h5 b33 (o32+1) 1 [.bool true] λh27=>J h27) (dr p λb34 o33=>ldB h5 b34 o33 (dr p λb35 o34=>st h5 b35 (o34+1) 1 [.bool false] λh28=>J h28) (ix l1.a n l1.n λb36 o35=>ldS h5 b36 (o35+n.toNat) λl23=>T130 l4 l23 h5 λr h29=>retB r (dr p λb37 o36=>st h29 b37 (o36+1) 1 [.bool false] λh30=>J h30) (dr p λb38 o37=>st h29 b38 (o37+1) 1 [.bool true] λh31=>J h31)))))) (Q (.tuple ⟨[]⟩) h5)))
def F179.T:=F179.G F130.T
theorem F179.gen(V T130 p):denF Tryz.prog [70,83,93,106,154,166,176,186] [(130,F130.W T130)] V [(510,.loop [(6,.int .i64)] []),(65319,.join [] []),(130636,.order [0,1,2,3,4,5,6,7,8]),(1045098,.order [0,1,2,3,4,5,6,7,8,9,10,11,12,13]),(1045114,.loop [(9,.int .i64)] []),(1045118,.order [0,1,2,3,4,6,5,7,8,9,10,11,12]),(4180398,.order [0,1,2,3,4,5,6,7,8,9,10,11,12,13])] Tryz.f179 [.v (.pointer p)]=F179.G T130 p:=by kernel_rfl
def F179.W(T179:Option Addr->PT)(args:List Value):PT:=match args with
 |[.pointer p]=>T179 p
 |_=>λ_ _=>False
def F179.V:List Value->PT:=F179.W F179.T
theorem F179.ok:FOk Tryz.prog 179 F179.V:=by
 refine⟨⟨_,Tryz.func179,rfl,rfl⟩,λ_=>?_⟩;unfold F179.V F179.W;split;exact denF_okE (GOk.cons F130.ok (GOk.nil)) noV_ok Tryz.func179 (F179.gen noV F130.T _);exact λ_ _ h=>h.elim
def F180.T(p:Option Addr):PT:=λh Q=>
 dr p λb o=>ldS h b (o+78) λl=>dr p λb1 o1=>ldS h b1 (o1+79) λl1=>dr p λb2 o2=>ldS h b2 (o2+81) λl2=>dr p λb3 o3=>ldS h b3 (o3+82) λl3=>par ((l.n:Int)=0) (Q (.tuple ⟨[]⟩) h) (False)
theorem F180.den(V p):denF Tryz.prog [70,83,93,106,153,165,175,185] [] V [(63,.cut)] Tryz.f180 [.v (.pointer p)]=F180.T p:=by kernel_rfl
def F180.W(T180:Option Addr->PT)(args:List Value):PT:=match args with
 |[.pointer p]=>T180 p
 |_=>λ_ _=>False
def F180.V:List Value->PT:=F180.W F180.T
theorem F180.ok:FOk Tryz.prog 180 F180.V:=by
 refine⟨⟨_,Tryz.func180,rfl,rfl⟩,λ_=>?_⟩;unfold F180.V F180.W;split;exact denF_okE (GOk.nil) noV_ok Tryz.func180 (F180.den noV _);exact λ_ _ h=>h.elim
def F181.T(p:Option Addr):PT:=λh Q=>
 dr p λb o=>ldS h b (o+87) λl=>dr p λb1 o1=>ldS h b1 (o1+88) λl1=>dr p λb2 o2=>ldS h b2 (o2+90) λl2=>dr p λb3 o3=>ldS h b3 (o3+91) λl3=>par ((l.n:Int)=0) (Q (.tuple ⟨[]⟩) h) (False)
theorem F181.den(V p):denF Tryz.prog [70,83,93,106,153,165,175,185] [] V [(63,.cut)] Tryz.f181 [.v (.pointer p)]=F181.T p:=by kernel_rfl
def F181.W(T181:Option Addr->PT)(args:List Value):PT:=match args with
 |[.pointer p]=>T181 p
 |_=>λ_ _=>False
def F181.V:List Value->PT:=F181.W F181.T
theorem F181.ok:FOk Tryz.prog 181 F181.V:=by
 refine⟨⟨_,Tryz.func181,rfl,rfl⟩,λ_=>?_⟩;unfold F181.V F181.W;split;exact denF_okE (GOk.nil) noV_ok Tryz.func181 (F181.den noV _);exact λ_ _ h=>h.elim
def F182.T(p:Option Addr):PT:=λh Q=>
 dr p λb o=>ldS h b (o+96) λl=>dr p λb1 o1=>ldS h b1 (o1+97) λl1=>dr p λb2 o2=>ldS h b2 (o2+99) λl2=>dr p λb3 o3=>ldS h b3 (o3+100) λl3=>par ((l.n:Int)=0) (Q (.tuple ⟨[]⟩) h) (False)
theorem F182.den(V p):denF Tryz.prog [70,83,93,106,153,165,175,185] [] V [(63,.cut)] Tryz.f182 [.v (.pointer p)]=F182.T p:=by kernel_rfl
def F182.W(T182:Option Addr->PT)(args:List Value):PT:=match args with
 |[.pointer p]=>T182 p
 |_=>λ_ _=>False
def F182.V:List Value->PT:=F182.W F182.T
theorem F182.ok:FOk Tryz.prog 182 F182.V:=by
 refine⟨⟨_,Tryz.func182,rfl,rfl⟩,λ_=>?_⟩;unfold F182.V F182.W;split;exact denF_okE (GOk.nil) noV_ok Tryz.func182 (F182.den noV _);exact λ_ _ h=>h.elim
def F183.T(p:Option Addr):PT:=λh Q=>
 dr p λb o=>ldS h b (o+105) λl=>dr p λb1 o1=>ldS h b1 (o1+106) λl1=>dr p λb2 o2=>ldS h b2 (o2+108) λl2=>dr p λb3 o3=>ldS h b3 (o3+109) λl3=>par ((l.n:Int)=0) (Q (.tuple ⟨[]⟩) h) (False)
theorem F183.den(V p):denF Tryz.prog [70,83,93,106,154,166,176,186] [] V [(63,.cut)] Tryz.f183 [.v (.pointer p)]=F183.T p:=by kernel_rfl
def F183.W(T183:Option Addr->PT)(args:List Value):PT:=match args with
 |[.pointer p]=>T183 p
 |_=>λ_ _=>False
def F183.V:List Value->PT:=F183.W F183.T
theorem F183.ok:FOk Tryz.prog 183 F183.V:=by
 refine⟨⟨_,Tryz.func183,rfl,rfl⟩,λ_=>?_⟩;unfold F183.V F183.W;split;exact denF_okE (GOk.nil) noV_ok Tryz.func183 (F183.den noV _);exact λ_ _ h=>h.elim
def F184.T(p:Option Addr):PT:=λh Q=>
 dr p λb o=>ldS h b (o+114) λl=>dr p λb1 o1=>ldS h b1 (o1+115) λl1=>dr p λb2 o2=>ldS h b2 (o2+117) λl2=>dr p λb3 o3=>ldS h b3 (o3+118) λl3=>par ((l.n:Int)=0) (Q (.tuple ⟨[]⟩) h) (False)
theorem F184.den(V p):denF Tryz.prog [70,83,93,106,155,167,177,187] [] V [(63,.cut)] Tryz.f184 [.v (.pointer p)]=F184.T p:=by kernel_rfl
def F184.W(T184:Option Addr->PT)(args:List Value):PT:=match args with
 |[.pointer p]=>T184 p
 |_=>λ_ _=>False
def F184.V:List Value->PT:=F184.W F184.T
theorem F184.ok:FOk Tryz.prog 184 F184.V:=by
 refine⟨⟨_,Tryz.func184,rfl,rfl⟩,λ_=>?_⟩;unfold F184.V F184.W;split;exact denF_okE (GOk.nil) noV_ok Tryz.func184 (F184.den noV _);exact λ_ _ h=>h.elim
def F185.T(p:Option Addr):PT:=λh Q=>
 dr p λb o=>ldS h b (o+123) λl=>dr p λb1 o1=>ldS h b1 (o1+124) λl1=>dr p λb2 o2=>ldS h b2 (o2+126) λl2=>dr p λb3 o3=>ldS h b3 (o3+127) λl3=>par ((l.n:Int)=0) (Q (.tuple ⟨[]⟩) h) (False)
theorem F185.den(V p):denF Tryz.prog [70,83,93,106,155,167,177,187] [] V [(63,.cut)] Tryz.f185 [.v (.pointer p)]=F185.T p:=by kernel_rfl
def F185.W(T185:Option Addr->PT)(args:List Value):PT:=match args with
 |[.pointer p]=>T185 p
 |_=>λ_ _=>False
def F185.V:List Value->PT:=F185.W F185.T
theorem F185.ok:FOk Tryz.prog 185 F185.V:=by
 refine⟨⟨_,Tryz.func185,rfl,rfl⟩,λ_=>?_⟩;unfold F185.V F185.W;split;exact denF_okE (GOk.nil) noV_ok Tryz.func185 (F185.den noV _);exact λ_ _ h=>h.elim
def F186.T(p:Option Addr):PT:=λh Q=>
 dr p λb o=>ldS h b (o+132) λl=>dr p λb1 o1=>ldS h b1 (o1+133) λl1=>dr p λb2 o2=>ldS h b2 (o2+135) λl2=>dr p λb3 o3=>ldS h b3 (o3+136) λl3=>par ((l.n:Int)=0) (Q (.tuple ⟨[]⟩) h) (False)
theorem F186.den(V p):denF Tryz.prog [70,83,93,106,155,167,177,187] [] V [(63,.cut)] Tryz.f186 [.v (.pointer p)]=F186.T p:=by kernel_rfl
def F186.W(T186:Option Addr->PT)(args:List Value):PT:=match args with
 |[.pointer p]=>T186 p
 |_=>λ_ _=>False
def F186.V:List Value->PT:=F186.W F186.T
theorem F186.ok:FOk Tryz.prog 186 F186.V:=by
 refine⟨⟨_,Tryz.func186,rfl,rfl⟩,λ_=>?_⟩;unfold F186.V F186.W;split;exact denF_okE (GOk.nil) noV_ok Tryz.func186 (F186.den noV _);exact λ_ _ h=>h.elim
def F187.T(p:Option Addr):PT:=λh Q=>
 dr p λb o=>ldS h b (o+141) λl=>dr p λb1 o1=>ldS h b1 (o1+142) λl1=>dr p λb2 o2=>ldS h b2 (o2+144) λl2=>dr p λb3 o3=>ldS h b3 (o3+145) λl3=>par ((l.n:Int)=0) (Q (.tuple ⟨[]⟩) h) (False)
theorem F187.den(V p):denF Tryz.prog [70,83,93,106,153,165,175,185] [] V [(63,.cut)] Tryz.f187 [.v (.pointer p)]=F187.T p:=by kernel_rfl
def F187.W(T187:Option Addr->PT)(args:List Value):PT:=match args with
 |[.pointer p]=>T187 p
 |_=>λ_ _=>False
def F187.V:List Value->PT:=F187.W F187.T
theorem F187.ok:FOk Tryz.prog 187 F187.V:=by
 refine⟨⟨_,Tryz.func187,rfl,rfl⟩,λ_=>?_⟩;unfold F187.V F187.W;split;exact denF_okE (GOk.nil) noV_ok Tryz.func187 (F187.den noV _);exact λ_ _ h=>h.elim
def F188.T(p:Option Addr):PT:=λh Q=>
 dr p λb o=>ldS h b (o+150) λl=>dr p λb1 o1=>ldS h b1 (o1+151) λl1=>dr p λb2 o2=>ldS h b2 (o2+153) λl2=>dr p λb3 o3=>ldS h b3 (o3+154) λl3=>par ((l.n:Int)=0) (Q (.tuple ⟨[]⟩) h) (False)
theorem F188.den(V p):denF Tryz.prog [70,83,93,106,153,165,175,185] [] V [(63,.cut)] Tryz.f188 [.v (.pointer p)]=F188.T p:=by kernel_rfl
def F188.W(T188:Option Addr->PT)(args:List Value):PT:=match args with
 |[.pointer p]=>T188 p
 |_=>λ_ _=>False
def F188.V:List Value->PT:=F188.W F188.T
theorem F188.ok:FOk Tryz.prog 188 F188.V:=by
 refine⟨⟨_,Tryz.func188,rfl,rfl⟩,λ_=>?_⟩;unfold F188.V F188.W;split;exact denF_okE (GOk.nil) noV_ok Tryz.func188 (F188.den noV _);exact λ_ _ h=>h.elim
def F189.T(p:Option Addr):PT:=λh Q=>
 dr p λb o=>ldS h b (o+159) λl=>dr p λb1 o1=>ldS h b1 (o1+160) λl1=>dr p λb2 o2=>ldS h b2 (o2+162) λl2=>dr p λb3 o3=>ldS h b3 (o3+163) λl3=>par ((l.n:Int)=0) (Q (.tuple ⟨[]⟩) h) (False)
theorem F189.den(V p):denF Tryz.prog [70,83,93,106,154,166,176,186] [] V [(63,.cut)] Tryz.f189 [.v (.pointer p)]=F189.T p:=by kernel_rfl
def F189.W(T189:Option Addr->PT)(args:List Value):PT:=match args with
 |[.pointer p]=>T189 p
 |_=>λ_ _=>False
def F189.V:List Value->PT:=F189.W F189.T
theorem F189.ok:FOk Tryz.prog 189 F189.V:=by
 refine⟨⟨_,Tryz.func189,rfl,rfl⟩,λ_=>?_⟩;unfold F189.V F189.W;split;exact denF_okE (GOk.nil) noV_ok Tryz.func189 (F189.den noV _);exact λ_ _ h=>h.elim
def F190.T(p:Option Addr):PT:=λh Q=>
 dr p λb o=>ldS h b (o+168) λl=>dr p λb1 o1=>ldS h b1 (o1+169) λl1=>dr p λb2 o2=>ldS h b2 (o2+171) λl2=>dr p λb3 o3=>ldS h b3 (o3+172) λl3=>par ((l.n:Int)=0) (Q (.tuple ⟨[]⟩) h) (False)
theorem F190.den(V p):denF Tryz.prog [70,83,93,106,153,165,175,185] [] V [(63,.cut)] Tryz.f190 [.v (.pointer p)]=F190.T p:=by kernel_rfl
def F190.W(T190:Option Addr->PT)(args:List Value):PT:=match args with
 |[.pointer p]=>T190 p
 |_=>λ_ _=>False
def F190.V:List Value->PT:=F190.W F190.T
theorem F190.ok:FOk Tryz.prog 190 F190.V:=by
 refine⟨⟨_,Tryz.func190,rfl,rfl⟩,λ_=>?_⟩;unfold F190.V F190.W;split;exact denF_okE (GOk.nil) noV_ok Tryz.func190 (F190.den noV _);exact λ_ _ h=>h.elim
def F191.T(p:Option Addr):PT:=λh Q=>
 ∃ (I:Int->Hp->Prop) (m:Int->Hp->Nat),I 0 h/\(∀ n:Int,∀ h1:Hp,I n h1->dr p λb o=>ldS h1 b (o+8) λl=>par (n<(l.n:Int)) (False) (dr p λb1 o1=>st h1 b1 (o1+8) 1 [.slice none 0 0] λh2=>dr p λb2 o2=>st h2 b2 (o2+11) 1 [.slice none 0 0] λh3=>Q (.tuple ⟨[]⟩) h3))
theorem F191.den(V p):denF Tryz.prog [40,48,60] [] V [(10,.loop [(2,.int .i64)] []),(41,.cut)] Tryz.f191 [.v (.pointer p)]=F191.T p:=by kernel_rfl
def F191.W(T191:Option Addr->PT)(args:List Value):PT:=match args with
 |[.pointer p]=>T191 p
 |_=>λ_ _=>False
def F191.V:List Value->PT:=F191.W F191.T
theorem F191.ok:FOk Tryz.prog 191 F191.V:=by
 refine⟨⟨_,Tryz.func191,rfl,rfl⟩,λ_=>?_⟩;unfold F191.V F191.W;split;exact denF_okE (GOk.nil) noV_ok Tryz.func191 (F191.den noV _);exact λ_ _ h=>h.elim
def F192.T(p:Option Addr):PT:=λh Q=>
 ∃ (I:Int->Hp->Prop) (m:Int->Hp->Nat),I 0 h/\(∀ n:Int,∀ h1:Hp,I n h1->dr p λb o=>ldS h1 b (o+17) λl=>par (n<(l.n:Int)) (False) (dr p λb1 o1=>st h1 b1 (o1+17) 1 [.slice none 0 0] λh2=>dr p λb2 o2=>st h2 b2 (o2+20) 1 [.slice none 0 0] λh3=>Q (.tuple ⟨[]⟩) h3))
theorem F192.den(V p):denF Tryz.prog [39,47,59] [] V [(10,.loop [(2,.int .i64)] []),(41,.cut)] Tryz.f192 [.v (.pointer p)]=F192.T p:=by kernel_rfl
def F192.W(T192:Option Addr->PT)(args:List Value):PT:=match args with
 |[.pointer p]=>T192 p
 |_=>λ_ _=>False
def F192.V:List Value->PT:=F192.W F192.T
theorem F192.ok:FOk Tryz.prog 192 F192.V:=by
 refine⟨⟨_,Tryz.func192,rfl,rfl⟩,λ_=>?_⟩;unfold F192.V F192.W;split;exact denF_okE (GOk.nil) noV_ok Tryz.func192 (F192.den noV _);exact λ_ _ h=>h.elim
def F193.T(p:Option Addr):PT:=λh Q=>
 ∃ (I:Int->Hp->Prop) (m:Int->Hp->Nat),I 0 h/\(∀ n:Int,∀ h1:Hp,I n h1->dr p λb o=>ldS h1 b (o+26) λl=>par (n<(l.n:Int)) (dr p λb1 o1=>ldS h1 b1 (o1+29) λl1=>ix l1.a n l1.n λb2 o2=>ldI .i64 h1 b2 (o2+n.toNat) λn1=>dr p λb3 o3=>ldS h1 b3 (o3+26) λl2=>ix l2.a n l2.n λb4 o4=>ldS h1 b4 (o4+n.toNat) λl3=>∃ (I1:Sl->Int->Hp->Prop) (m1:Sl->Int->Hp->Nat),I1 l3 0 h1/\(∀ l4:Sl,∀ n2:Int,∀ h2:Hp,I1 l4 n2 h2->par (n2<30) (appendD l4 48 1 8 [.int .u64 0] 1 [.int .u64 (wrap .u64 (wrap .i64 ((wrap .i64 (n1+6))+(wrap .i64 (5*n2)))))] h2 λl5 h3=>I1 l5 (wrap .i64 (n2+1)) h3/\m1 l5 (wrap .i64 (n2+1)) h3<m1 l4 n2 h2) (dr p λb5 o5=>ldS h2 b5 (o5+22) λl6=>appendD l6 106 1 24 [.slice none 0 0] 1 [.slice l4.a l4.n l4.c] h2 λl7 h4=>dr p λb6 o6=>st h4 b6 (o6+22) 1 [.slice l7.a l7.n l7.c] λh5=>dr p λb7 o7=>ldS h5 b7 (o7+23) λl8=>nw h5 (.cells ⟨[]⟩ 48 (0,0)) λb8 h6=>h6.at b7 (o7+23)=some (.slice l8.a l8.n l8.c)/\∃ vs,h6.row l4.a (l4.n*1) vs/\(∀ v∈vs,Value.oneCell' v=true)/\appendD ⟨(some ⟨b8,0,none⟩),0,0⟩ 48 1 8 [.int .u64 0] l4.n vs h6 λl9 h7=>h7.at b7 (o7+23)=some (.slice l8.a l8.n l8.c)/\h7.at b7 (o7+23)=some (.slice l8.a l8.n l8.c)/\appendD l8 106 1 24 [.slice none 0 0] 1 [.slice l9.a l9.n l9.c] h7 λl10 h8=>dr p λb9 o8=>st h8 b9 (o8+23) 1 [.slice l10.a l10.n l10.c] λh9=>I (wrap .i64 (n+1)) h9/\m (wrap .i64 (n+1)) h9<m n h1))) (dr p λb10 o9=>st h1 b10 (o9+26) 1 [.slice none 0 0] λh10=>dr p λb11 o10=>st h10 b11 (o10+29) 1 [.slice none 0 0] λh11=>Q (.tuple ⟨[]⟩) h11))
theorem F193.den(V p):denF Tryz.prog [40,48,60] [] V [(10,.loop [(2,.int .i64)] []),(2639,.order [0,1,2,3,4,6,5,7,8,9,10,11,12]),(5274,.loop [(4,.sl),(5,.int .i64)] [])] Tryz.f193 [.v (.pointer p)]=F193.T p:=by kernel_rfl
def F193.W(T193:Option Addr->PT)(args:List Value):PT:=match args with
 |[.pointer p]=>T193 p
 |_=>λ_ _=>False
def F193.V:List Value->PT:=F193.W F193.T
theorem F193.ok:FOk Tryz.prog 193 F193.V:=by
 refine⟨⟨_,Tryz.func193,rfl,rfl⟩,λ_=>?_⟩;unfold F193.V F193.W;split;exact denF_okE (GOk.nil) noV_ok Tryz.func193 (F193.den noV _);exact λ_ _ h=>h.elim
@[reducible] def F194.G(T216:Int->PT)(p:Option Addr):PT:=λh Q=>
 ∃ (I:Int->Hp->Prop) (m:Int->Hp->Nat),I 0 h/\(∀ n:Int,∀ h1:Hp,I n h1->dr p λb o=>ldS h1 b (o+35) λl=>par (n<(l.n:Int)) (dr p λb1 o1=>ldS h1 b1 (o1+38) λl1=>ix l1.a n l1.n λb2 o2=>ldI .i64 h1 b2 (o2+n.toNat) λn1=>dr p λb3 o3=>ldS h1 b3 (o3+35) λl2=>ix l2.a n l2.n λb4 o4=>ldS h1 b4 (o4+n.toNat) λl3=>∃ (I1:Sl->Int->Hp->Prop) (m1:Sl->Int->Hp->Nat),I1 l3 0 h1/\(∀ l4:Sl,∀ n2:Int,∀ h2:Hp,I1 l4 n2 h2->par (n2<30) (T216 (wrap .i64 ((wrap .i64 (n1+6))+(wrap .i64 (5*n2)))) h2 λr h3=>retT r λs=>appendD l4 9 1 16 [.string ⟨#[]⟩] 1 [.string s] h3 λl5 h4=>I1 l5 (wrap .i64 (n2+1)) h4/\m1 l5 (wrap .i64 (n2+1)) h4<m1 l4 n2 h2) (dr p λb5 o5=>ldS h2 b5 (o5+31) λl6=>appendD l6 51 1 24 [.slice none 0 0] 1 [.slice l4.a l4.n l4.c] h2 λl7 h5=>dr p λb6 o6=>st h5 b6 (o6+31) 1 [.slice l7.a l7.n l7.c] λh6=>dr p λb7 o7=>ldS h6 b7 (o7+32) λl8=>nw h6 (.cells ⟨[]⟩ 9 (0,0)) λb8 h7=>h7.at b7 (o7+32)=some (.slice l8.a l8.n l8.c)/\∃ vs,h7.row l4.a (l4.n*1) vs/\(∀ v∈vs,Value.oneCell' v=true)/\appendD ⟨(some ⟨b8,0,none⟩),0,0⟩ 9 1 16 [.string ⟨#[]⟩] l4.n vs h7 λl9 h8=>h8.at b7 (o7+32)=some (.slice l8.a l8.n l8.c)/\h8.at b7 (o7+32)=some (.slice l8.a l8.n l8.c)/\appendD l8 51 1 24 [.slice none 0 0] 1 [.slice l9.a l9.n l9.c] h8 λl10 h9=>dr p λb9 o8=>st h9 b9 (o8+32) 1 [.slice l10.a l10.n l10.c] λh10=>I (wrap .i64 (n+1)) h10/\m (wrap .i64 (n+1)) h10<m n h1))) (dr p λb10 o9=>st h1 b10 (o9+35) 1 [.slice none 0 0] λh11=>dr p λb11 o10=>st h11 b11 (o10+38) 1 [.slice none 0 0] λh12=>Q (.tuple ⟨[]⟩) h12))
def F194.T:=F194.G F216.T
theorem F194.gen(V T216 p):denF Tryz.prog [40,48,60] [(216,F216.W T216)] V [(10,.loop [(2,.int .i64)] []),(2639,.order [0,1,2,3,4,6,5,7,8,9,10,11,12]),(5274,.loop [(4,.sl),(5,.int .i64)] [])] Tryz.f194 [.v (.pointer p)]=F194.G T216 p:=by kernel_rfl
def F194.W(T194:Option Addr->PT)(args:List Value):PT:=match args with
 |[.pointer p]=>T194 p
 |_=>λ_ _=>False
def F194.V:List Value->PT:=F194.W F194.T
theorem F194.ok:FOk Tryz.prog 194 F194.V:=by
 refine⟨⟨_,Tryz.func194,rfl,rfl⟩,λ_=>?_⟩;unfold F194.V F194.W;split;exact denF_okE (GOk.cons F216.ok (GOk.nil)) noV_ok Tryz.func194 (F194.gen noV F216.T _);exact λ_ _ h=>h.elim
def F195.T(p:Option Addr):PT:=λh Q=>
 ∃ (I:Int->Hp->Prop) (m:Int->Hp->Nat),I 0 h/\(∀ n:Int,∀ h1:Hp,I n h1->dr p λb o=>ldS h1 b (o+44) λl=>par (n<(l.n:Int)) (False) (dr p λb1 o1=>st h1 b1 (o1+44) 1 [.slice none 0 0] λh2=>dr p λb2 o2=>st h2 b2 (o2+47) 1 [.slice none 0 0] λh3=>Q (.tuple ⟨[]⟩) h3))
theorem F195.den(V p):denF Tryz.prog [41,49,61] [] V [(10,.loop [(2,.int .i64)] []),(41,.cut)] Tryz.f195 [.v (.pointer p)]=F195.T p:=by kernel_rfl
def F195.W(T195:Option Addr->PT)(args:List Value):PT:=match args with
 |[.pointer p]=>T195 p
 |_=>λ_ _=>False
def F195.V:List Value->PT:=F195.W F195.T
theorem F195.ok:FOk Tryz.prog 195 F195.V:=by
 refine⟨⟨_,Tryz.func195,rfl,rfl⟩,λ_=>?_⟩;unfold F195.V F195.W;split;exact denF_okE (GOk.nil) noV_ok Tryz.func195 (F195.den noV _);exact λ_ _ h=>h.elim
def F196.T(p:Option Addr):PT:=λh Q=>
 ∃ (I:Int->Hp->Prop) (m:Int->Hp->Nat),I 0 h/\(∀ n:Int,∀ h1:Hp,I n h1->dr p λb o=>ldS h1 b (o+53) λl=>par (n<(l.n:Int)) (False) (dr p λb1 o1=>st h1 b1 (o1+53) 1 [.slice none 0 0] λh2=>dr p λb2 o2=>st h2 b2 (o2+56) 1 [.slice none 0 0] λh3=>Q (.tuple ⟨[]⟩) h3))
theorem F196.den(V p):denF Tryz.prog [41,49,61] [] V [(10,.loop [(2,.int .i64)] []),(41,.cut)] Tryz.f196 [.v (.pointer p)]=F196.T p:=by kernel_rfl
def F196.W(T196:Option Addr->PT)(args:List Value):PT:=match args with
 |[.pointer p]=>T196 p
 |_=>λ_ _=>False
def F196.V:List Value->PT:=F196.W F196.T
theorem F196.ok:FOk Tryz.prog 196 F196.V:=by
 refine⟨⟨_,Tryz.func196,rfl,rfl⟩,λ_=>?_⟩;unfold F196.V F196.W;split;exact denF_okE (GOk.nil) noV_ok Tryz.func196 (F196.den noV _);exact λ_ _ h=>h.elim
def F197.T(p:Option Addr):PT:=λh Q=>
 ∃ (I:Int->Hp->Prop) (m:Int->Hp->Nat),I 0 h/\(∀ n:Int,∀ h1:Hp,I n h1->dr p λb o=>ldS h1 b (o+62) λl=>par (n<(l.n:Int)) (False) (dr p λb1 o1=>st h1 b1 (o1+62) 1 [.slice none 0 0] λh2=>dr p λb2 o2=>st h2 b2 (o2+65) 1 [.slice none 0 0] λh3=>Q (.tuple ⟨[]⟩) h3))
theorem F197.den(V p):denF Tryz.prog [41,49,61] [] V [(10,.loop [(2,.int .i64)] []),(41,.cut)] Tryz.f197 [.v (.pointer p)]=F197.T p:=by kernel_rfl
def F197.W(T197:Option Addr->PT)(args:List Value):PT:=match args with
 |[.pointer p]=>T197 p
 |_=>λ_ _=>False
def F197.V:List Value->PT:=F197.W F197.T
theorem F197.ok:FOk Tryz.prog 197 F197.V:=by
 refine⟨⟨_,Tryz.func197,rfl,rfl⟩,λ_=>?_⟩;unfold F197.V F197.W;split;exact denF_okE (GOk.nil) noV_ok Tryz.func197 (F197.den noV _);exact λ_ _ h=>h.elim
def F198.T(p:Option Addr):PT:=λh Q=>
 ∃ (I:Int->Hp->Prop) (m:Int->Hp->Nat),I 0 h/\(∀ n:Int,∀ h1:Hp,I n h1->dr p λb o=>ldS h1 b (o+71) λl=>par (n<(l.n:Int)) (dr p λb1 o1=>ldS h1 b1 (o1+74) λl1=>ix l1.a n l1.n λb2 o2=>ldI .i64 h1 b2 (o2+n.toNat) λn1=>dr p λb3 o3=>ldS h1 b3 (o3+71) λl2=>ix l2.a n l2.n λb4 o4=>ldS h1 b4 (o4+n.toNat) λl3=>∃ (I1:Sl->Int->Hp->Prop) (m1:Sl->Int->Hp->Nat),I1 l3 0 h1/\(∀ l4:Sl,∀ n2:Int,∀ h2:Hp,I1 l4 n2 h2->par (n2<30) (appendD l4 63 6 64 [.int .u64 0,.int .i64 0,.int .i64 0,.int .i64 0,.string ⟨#[]⟩,.string ⟨#[]⟩] 1 [.int .u64 (wrap .u64 (wrap .i64 ((wrap .i64 (n1+6))+(wrap .i64 (5*n2))))),.int .i64 0,.int .i64 0,.int .i64 0,.string ⟨#[]⟩,.string ⟨#[]⟩] h2 λl5 h3=>I1 l5 (wrap .i64 (n2+1)) h3/\m1 l5 (wrap .i64 (n2+1)) h3<m1 l4 n2 h2) (dr p λb5 o5=>ldS h2 b5 (o5+67) λl6=>appendD l6 77 1 24 [.slice none 0 0] 1 [.slice l4.a l4.n l4.c] h2 λl7 h4=>dr p λb6 o6=>st h4 b6 (o6+67) 1 [.slice l7.a l7.n l7.c] λh5=>dr p λb7 o7=>ldS h5 b7 (o7+68) λl8=>nw h5 (.cells ⟨[]⟩ 63 (0,0)) λb8 h6=>h6.at b7 (o7+68)=some (.slice l8.a l8.n l8.c)/\∃ vs,h6.row l4.a (l4.n*6) vs/\(∀ v∈vs,Value.oneCell' v=true)/\appendD ⟨(some ⟨b8,0,none⟩),0,0⟩ 63 6 64 [.int .u64 0,.int .i64 0,.int .i64 0,.int .i64 0,.string ⟨#[]⟩,.string ⟨#[]⟩] l4.n vs h6 λl9 h7=>h7.at b7 (o7+68)=some (.slice l8.a l8.n l8.c)/\h7.at b7 (o7+68)=some (.slice l8.a l8.n l8.c)/\appendD l8 77 1 24 [.slice none 0 0] 1 [.slice l9.a l9.n l9.c] h7 λl10 h8=>dr p λb9 o8=>st h8 b9 (o8+68) 1 [.slice l10.a l10.n l10.c] λh9=>I (wrap .i64 (n+1)) h9/\m (wrap .i64 (n+1)) h9<m n h1))) (dr p λb10 o9=>st h1 b10 (o9+71) 1 [.slice none 0 0] λh10=>dr p λb11 o10=>st h10 b11 (o10+74) 1 [.slice none 0 0] λh11=>Q (.tuple ⟨[]⟩) h11))
theorem F198.den(V p):denF Tryz.prog [41,49,61] [] V [(10,.loop [(2,.int .i64)] []),(2639,.order [0,1,2,3,4,6,5,7,8,9,10,11,12]),(5274,.loop [(4,.sl),(5,.int .i64)] [])] Tryz.f198 [.v (.pointer p)]=F198.T p:=by kernel_rfl
def F198.W(T198:Option Addr->PT)(args:List Value):PT:=match args with
 |[.pointer p]=>T198 p
 |_=>λ_ _=>False
def F198.V:List Value->PT:=F198.W F198.T
theorem F198.ok:FOk Tryz.prog 198 F198.V:=by
 refine⟨⟨_,Tryz.func198,rfl,rfl⟩,λ_=>?_⟩;unfold F198.V F198.W;split;exact denF_okE (GOk.nil) noV_ok Tryz.func198 (F198.den noV _);exact λ_ _ h=>h.elim
def F199.T(p:Option Addr):PT:=λh Q=>
 ∃ (I:Int->Hp->Prop) (m:Int->Hp->Nat),I 0 h/\(∀ n:Int,∀ h1:Hp,I n h1->dr p λb o=>ldS h1 b (o+80) λl=>par (n<(l.n:Int)) (False) (dr p λb1 o1=>st h1 b1 (o1+80) 1 [.slice none 0 0] λh2=>dr p λb2 o2=>st h2 b2 (o2+83) 1 [.slice none 0 0] λh3=>Q (.tuple ⟨[]⟩) h3))
theorem F199.den(V p):denF Tryz.prog [40,48,60] [] V [(10,.loop [(2,.int .i64)] []),(41,.cut)] Tryz.f199 [.v (.pointer p)]=F199.T p:=by kernel_rfl
def F199.W(T199:Option Addr->PT)(args:List Value):PT:=match args with
 |[.pointer p]=>T199 p
 |_=>λ_ _=>False
def F199.V:List Value->PT:=F199.W F199.T
theorem F199.ok:FOk Tryz.prog 199 F199.V:=by
 refine⟨⟨_,Tryz.func199,rfl,rfl⟩,λ_=>?_⟩;unfold F199.V F199.W;split;exact denF_okE (GOk.nil) noV_ok Tryz.func199 (F199.den noV _);exact λ_ _ h=>h.elim
def F200.T(p:Option Addr):PT:=λh Q=>
 ∃ (I:Int->Hp->Prop) (m:Int->Hp->Nat),I 0 h/\(∀ n:Int,∀ h1:Hp,I n h1->dr p λb o=>ldS h1 b (o+89) λl=>par (n<(l.n:Int)) (False) (dr p λb1 o1=>st h1 b1 (o1+89) 1 [.slice none 0 0] λh2=>dr p λb2 o2=>st h2 b2 (o2+92) 1 [.slice none 0 0] λh3=>Q (.tuple ⟨[]⟩) h3))
theorem F200.den(V p):denF Tryz.prog [40,48,60] [] V [(10,.loop [(2,.int .i64)] []),(41,.cut)] Tryz.f200 [.v (.pointer p)]=F200.T p:=by kernel_rfl
def F200.W(T200:Option Addr->PT)(args:List Value):PT:=match args with
 |[.pointer p]=>T200 p
 |_=>λ_ _=>False
def F200.V:List Value->PT:=F200.W F200.T
theorem F200.ok:FOk Tryz.prog 200 F200.V:=by
 refine⟨⟨_,Tryz.func200,rfl,rfl⟩,λ_=>?_⟩;unfold F200.V F200.W;split;exact denF_okE (GOk.nil) noV_ok Tryz.func200 (F200.den noV _);exact λ_ _ h=>h.elim
def F201.T(p:Option Addr):PT:=λh Q=>
 ∃ (I:Int->Hp->Prop) (m:Int->Hp->Nat),I 0 h/\(∀ n:Int,∀ h1:Hp,I n h1->dr p λb o=>ldS h1 b (o+98) λl=>par (n<(l.n:Int)) (False) (dr p λb1 o1=>st h1 b1 (o1+98) 1 [.slice none 0 0] λh2=>dr p λb2 o2=>st h2 b2 (o2+101) 1 [.slice none 0 0] λh3=>Q (.tuple ⟨[]⟩) h3))
theorem F201.den(V p):denF Tryz.prog [40,48,60] [] V [(10,.loop [(2,.int .i64)] []),(41,.cut)] Tryz.f201 [.v (.pointer p)]=F201.T p:=by kernel_rfl
def F201.W(T201:Option Addr->PT)(args:List Value):PT:=match args with
 |[.pointer p]=>T201 p
 |_=>λ_ _=>False
def F201.V:List Value->PT:=F201.W F201.T
theorem F201.ok:FOk Tryz.prog 201 F201.V:=by
 refine⟨⟨_,Tryz.func201,rfl,rfl⟩,λ_=>?_⟩;unfold F201.V F201.W;split;exact denF_okE (GOk.nil) noV_ok Tryz.func201 (F201.den noV _);exact λ_ _ h=>h.elim
def F202.T(p:Option Addr):PT:=λh Q=>
 ∃ (I:Int->Hp->Prop) (m:Int->Hp->Nat),I 0 h/\(∀ n:Int,∀ h1:Hp,I n h1->dr p λb o=>ldS h1 b (o+107) λl=>par (n<(l.n:Int)) (False) (dr p λb1 o1=>st h1 b1 (o1+107) 1 [.slice none 0 0] λh2=>dr p λb2 o2=>st h2 b2 (o2+110) 1 [.slice none 0 0] λh3=>Q (.tuple ⟨[]⟩) h3))
theorem F202.den(V p):denF Tryz.prog [41,49,61] [] V [(10,.loop [(2,.int .i64)] []),(41,.cut)] Tryz.f202 [.v (.pointer p)]=F202.T p:=by kernel_rfl
def F202.W(T202:Option Addr->PT)(args:List Value):PT:=match args with
 |[.pointer p]=>T202 p
 |_=>λ_ _=>False
def F202.V:List Value->PT:=F202.W F202.T
theorem F202.ok:FOk Tryz.prog 202 F202.V:=by
 refine⟨⟨_,Tryz.func202,rfl,rfl⟩,λ_=>?_⟩;unfold F202.V F202.W;split;exact denF_okE (GOk.nil) noV_ok Tryz.func202 (F202.den noV _);exact λ_ _ h=>h.elim
def F203.T(p:Option Addr):PT:=λh Q=>
 ∃ (I:Int->Hp->Prop) (m:Int->Hp->Nat),I 0 h/\(∀ n:Int,∀ h1:Hp,I n h1->dr p λb o=>ldS h1 b (o+116) λl=>par (n<(l.n:Int)) (False) (dr p λb1 o1=>st h1 b1 (o1+116) 1 [.slice none 0 0] λh2=>dr p λb2 o2=>st h2 b2 (o2+119) 1 [.slice none 0 0] λh3=>Q (.tuple ⟨[]⟩) h3))
theorem F203.den(V p):denF Tryz.prog [42,50,62] [] V [(10,.loop [(2,.int .i64)] []),(41,.cut)] Tryz.f203 [.v (.pointer p)]=F203.T p:=by kernel_rfl
def F203.W(T203:Option Addr->PT)(args:List Value):PT:=match args with
 |[.pointer p]=>T203 p
 |_=>λ_ _=>False
def F203.V:List Value->PT:=F203.W F203.T
theorem F203.ok:FOk Tryz.prog 203 F203.V:=by
 refine⟨⟨_,Tryz.func203,rfl,rfl⟩,λ_=>?_⟩;unfold F203.V F203.W;split;exact denF_okE (GOk.nil) noV_ok Tryz.func203 (F203.den noV _);exact λ_ _ h=>h.elim
def F204.T(p:Option Addr):PT:=λh Q=>
 ∃ (I:Int->Hp->Prop) (m:Int->Hp->Nat),I 0 h/\(∀ n:Int,∀ h1:Hp,I n h1->dr p λb o=>ldS h1 b (o+125) λl=>par (n<(l.n:Int)) (False) (dr p λb1 o1=>st h1 b1 (o1+125) 1 [.slice none 0 0] λh2=>dr p λb2 o2=>st h2 b2 (o2+128) 1 [.slice none 0 0] λh3=>Q (.tuple ⟨[]⟩) h3))
theorem F204.den(V p):denF Tryz.prog [42,50,62] [] V [(10,.loop [(2,.int .i64)] []),(41,.cut)] Tryz.f204 [.v (.pointer p)]=F204.T p:=by kernel_rfl
def F204.W(T204:Option Addr->PT)(args:List Value):PT:=match args with
 |[.pointer p]=>T204 p
 |_=>λ_ _=>False
def F204.V:List Value->PT:=F204.W F204.T
theorem F204.ok:FOk Tryz.prog 204 F204.V:=by
 refine⟨⟨_,Tryz.func204,rfl,rfl⟩,λ_=>?_⟩;unfold F204.V F204.W;split;exact denF_okE (GOk.nil) noV_ok Tryz.func204 (F204.den noV _);exact λ_ _ h=>h.elim
def F205.T(p:Option Addr):PT:=λh Q=>
 ∃ (I:Int->Hp->Prop) (m:Int->Hp->Nat),I 0 h/\(∀ n:Int,∀ h1:Hp,I n h1->dr p λb o=>ldS h1 b (o+134) λl=>par (n<(l.n:Int)) (False) (dr p λb1 o1=>st h1 b1 (o1+134) 1 [.slice none 0 0] λh2=>dr p λb2 o2=>st h2 b2 (o2+137) 1 [.slice none 0 0] λh3=>Q (.tuple ⟨[]⟩) h3))
theorem F205.den(V p):denF Tryz.prog [42,50,62] [] V [(10,.loop [(2,.int .i64)] []),(41,.cut)] Tryz.f205 [.v (.pointer p)]=F205.T p:=by kernel_rfl
def F205.W(T205:Option Addr->PT)(args:List Value):PT:=match args with
 |[.pointer p]=>T205 p
 |_=>λ_ _=>False
def F205.V:List Value->PT:=F205.W F205.T
theorem F205.ok:FOk Tryz.prog 205 F205.V:=by
 refine⟨⟨_,Tryz.func205,rfl,rfl⟩,λ_=>?_⟩;unfold F205.V F205.W;split;exact denF_okE (GOk.nil) noV_ok Tryz.func205 (F205.den noV _);exact λ_ _ h=>h.elim
def F206.T(p:Option Addr):PT:=λh Q=>
 ∃ (I:Int->Hp->Prop) (m:Int->Hp->Nat),I 0 h/\(∀ n:Int,∀ h1:Hp,I n h1->dr p λb o=>ldS h1 b (o+143) λl=>par (n<(l.n:Int)) (False) (dr p λb1 o1=>st h1 b1 (o1+143) 1 [.slice none 0 0] λh2=>dr p λb2 o2=>st h2 b2 (o2+146) 1 [.slice none 0 0] λh3=>Q (.tuple ⟨[]⟩) h3))
theorem F206.den(V p):denF Tryz.prog [40,48,60] [] V [(10,.loop [(2,.int .i64)] []),(41,.cut)] Tryz.f206 [.v (.pointer p)]=F206.T p:=by kernel_rfl
def F206.W(T206:Option Addr->PT)(args:List Value):PT:=match args with
 |[.pointer p]=>T206 p
 |_=>λ_ _=>False
def F206.V:List Value->PT:=F206.W F206.T
theorem F206.ok:FOk Tryz.prog 206 F206.V:=by
 refine⟨⟨_,Tryz.func206,rfl,rfl⟩,λ_=>?_⟩;unfold F206.V F206.W;split;exact denF_okE (GOk.nil) noV_ok Tryz.func206 (F206.den noV _);exact λ_ _ h=>h.elim
def F207.T(p:Option Addr):PT:=λh Q=>
 ∃ (I:Int->Hp->Prop) (m:Int->Hp->Nat),I 0 h/\(∀ n:Int,∀ h1:Hp,I n h1->dr p λb o=>ldS h1 b (o+152) λl=>par (n<(l.n:Int)) (False) (dr p λb1 o1=>st h1 b1 (o1+152) 1 [.slice none 0 0] λh2=>dr p λb2 o2=>st h2 b2 (o2+155) 1 [.slice none 0 0] λh3=>Q (.tuple ⟨[]⟩) h3))
theorem F207.den(V p):denF Tryz.prog [40,48,60] [] V [(10,.loop [(2,.int .i64)] []),(41,.cut)] Tryz.f207 [.v (.pointer p)]=F207.T p:=by kernel_rfl
def F207.W(T207:Option Addr->PT)(args:List Value):PT:=match args with
 |[.pointer p]=>T207 p
 |_=>λ_ _=>False
def F207.V:List Value->PT:=F207.W F207.T
theorem F207.ok:FOk Tryz.prog 207 F207.V:=by
 refine⟨⟨_,Tryz.func207,rfl,rfl⟩,λ_=>?_⟩;unfold F207.V F207.W;split;exact denF_okE (GOk.nil) noV_ok Tryz.func207 (F207.den noV _);exact λ_ _ h=>h.elim
def F208.T(p:Option Addr):PT:=λh Q=>
 ∃ (I:Int->Hp->Prop) (m:Int->Hp->Nat),I 0 h/\(∀ n:Int,∀ h1:Hp,I n h1->dr p λb o=>ldS h1 b (o+161) λl=>par (n<(l.n:Int)) (False) (dr p λb1 o1=>st h1 b1 (o1+161) 1 [.slice none 0 0] λh2=>dr p λb2 o2=>st h2 b2 (o2+164) 1 [.slice none 0 0] λh3=>Q (.tuple ⟨[]⟩) h3))
theorem F208.den(V p):denF Tryz.prog [41,49,61] [] V [(10,.loop [(2,.int .i64)] []),(41,.cut)] Tryz.f208 [.v (.pointer p)]=F208.T p:=by kernel_rfl
def F208.W(T208:Option Addr->PT)(args:List Value):PT:=match args with
 |[.pointer p]=>T208 p
 |_=>λ_ _=>False
def F208.V:List Value->PT:=F208.W F208.T
theorem F208.ok:FOk Tryz.prog 208 F208.V:=by
 refine⟨⟨_,Tryz.func208,rfl,rfl⟩,λ_=>?_⟩;unfold F208.V F208.W;split;exact denF_okE (GOk.nil) noV_ok Tryz.func208 (F208.den noV _);exact λ_ _ h=>h.elim
def F209.T(p:Option Addr):PT:=λh Q=>
 ∃ (I:Int->Hp->Prop) (m:Int->Hp->Nat),I 0 h/\(∀ n:Int,∀ h1:Hp,I n h1->dr p λb o=>ldS h1 b (o+170) λl=>par (n<(l.n:Int)) (False) (dr p λb1 o1=>st h1 b1 (o1+170) 1 [.slice none 0 0] λh2=>dr p λb2 o2=>st h2 b2 (o2+173) 1 [.slice none 0 0] λh3=>Q (.tuple ⟨[]⟩) h3))
theorem F209.den(V p):denF Tryz.prog [40,48,60] [] V [(10,.loop [(2,.int .i64)] []),(41,.cut)] Tryz.f209 [.v (.pointer p)]=F209.T p:=by kernel_rfl
def F209.W(T209:Option Addr->PT)(args:List Value):PT:=match args with
 |[.pointer p]=>T209 p
 |_=>λ_ _=>False
def F209.V:List Value->PT:=F209.W F209.T
theorem F209.ok:FOk Tryz.prog 209 F209.V:=by
 refine⟨⟨_,Tryz.func209,rfl,rfl⟩,λ_=>?_⟩;unfold F209.V F209.W;split;exact denF_okE (GOk.nil) noV_ok Tryz.func209 (F209.den noV _);exact λ_ _ h=>h.elim
@[reducible] def F146.G(T172 T173 T174 T175 T176 T177 T178 T179 T180 T181 T182 T183 T184 T185 T186 T187 T188 T189 T190:Option Addr->PT)(p:Option Addr):PT:=λh Q=>
 T172 p h λr h1=>T173 p h1 λr1 h2=>T174 p h2 λr2 h3=>T175 p h3 λr3 h4=>T176 p h4 λr4 h5=>T177 p h5 λr5 h6=>T178 p h6 λr6 h7=>T179 p h7 λr7 h8=>T180 p h8 λr8 h9=>T181 p h9 λr9 h10=>T182 p h10 λr10 h11=>T183 p h11 λr11 h12=>T184 p h12 λr12 h13=>T185 p h13 λr13 h14=>T186 p h14 λr14 h15=>T187 p h15 λr15 h16=>T188 p h16 λr16 h17=>T189 p h17 λr17 h18=>T190 p h18 λr18 h19=>Q (.tuple ⟨[]⟩) h19
def F146.T:=F146.G F172.T F173.T F174.T F175.T F176.T F177.T F178.T F179.T F180.T F181.T F182.T F183.T F184.T F185.T F186.T F187.T F188.T F189.T F190.T
theorem F146.gen(V T172 T173 T174 T175 T176 T177 T178 T179 T180 T181 T182 T183 T184 T185 T186 T187 T188 T189 T190 p):denF Tryz.prog [] [(172,F172.W T172),(173,F173.W T173),(174,F174.W T174),(175,F175.W T175),(176,F176.W T176),(177,F177.W T177),(178,F178.W T178),(179,F179.W T179),(180,F180.W T180),(181,F181.W T181),(182,F182.W T182),(183,F183.W T183),(184,F184.W T184),(185,F185.W T185),(186,F186.W T186),(187,F187.W T187),(188,F188.W T188),(189,F189.W T189),(190,F190.W T190)] V [] Tryz.f146 [.v (.pointer p)]=F146.G T172 T173 T174 T175 T176 T177 T178 T179 T180 T181 T182 T183 T184 T185 T186 T187 T188 T189 T190 p:=by kernel_rfl
def F146.W(T146:Option Addr->PT)(args:List Value):PT:=match args with
 |[.pointer p]=>T146 p
 |_=>λ_ _=>False
def F146.V:List Value->PT:=F146.W F146.T
theorem F146.ok:FOk Tryz.prog 146 F146.V:=by
 refine⟨⟨_,Tryz.func146,rfl,rfl⟩,λ_=>?_⟩;unfold F146.V F146.W;split;exact denF_okE (GOk.cons F172.ok (GOk.cons F173.ok (GOk.cons F174.ok (GOk.cons F175.ok (GOk.cons F176.ok (GOk.cons F177.ok (GOk.cons F178.ok (GOk.cons F179.ok (GOk.cons F180.ok (GOk.cons F181.ok (GOk.cons F182.ok (GOk.cons F183.ok (GOk.cons F184.ok (GOk.cons F185.ok (GOk.cons F186.ok (GOk.cons F187.ok (GOk.cons F188.ok (GOk.cons F189.ok (GOk.cons F190.ok (GOk.nil)))))))))))))))))))) noV_ok Tryz.func146 (F146.gen noV F172.T F173.T F174.T F175.T F176.T F177.T F178.T F179.T F180.T F181.T F182.T F183.T F184.T F185.T F186.T F187.T F188.T F189.T F190.T _);exact λ_ _ h=>h.elim
@[reducible] def F147.G(T191 T192 T193 T194 T195 T196 T197 T198 T199 T200 T201 T202 T203 T204 T205 T206 T207 T208 T209:Option Addr->PT)(p:Option Addr):PT:=λh Q=>
 T191 p h λr h1=>T192 p h1 λr1 h2=>T193 p h2 λr2 h3=>T194 p h3 λr3 h4=>T195 p h4 λr4 h5=>T196 p h5 λr5 h6=>T197 p h6 λr6 h7=>T198 p h7 λr7 h8=>T199 p h8 λr8 h9=>T200 p h9 λr9 h10=>T201 p h10 λr10 h11=>T202 p h11 λr11 h12=>T203 p h12 λr12 h13=>T204 p h13 λr13 h14=>T205 p h14 λr14 h15=>T206 p h15 λr15 h16=>T207 p h16 λr16 h17=>T208 p h17 λr17 h18=>T209 p h18 λr18 h19=>Q (.tuple ⟨[]⟩) h19
def F147.T:=F147.G F191.T F192.T F193.T F194.T F195.T F196.T F197.T F198.T F199.T F200.T F201.T F202.T F203.T F204.T F205.T F206.T F207.T F208.T F209.T
theorem F147.gen(V T191 T192 T193 T194 T195 T196 T197 T198 T199 T200 T201 T202 T203 T204 T205 T206 T207 T208 T209 p):denF Tryz.prog [] [(191,F191.W T191),(192,F192.W T192),(193,F193.W T193),(194,F194.W T194),(195,F195.W T195),(196,F196.W T196),(197,F197.W T197),(198,F198.W T198),(199,F199.W T199),(200,F200.W T200),(201,F201.W T201),(202,F202.W T202),(203,F203.W T203),(204,F204.W T204),(205,F205.W T205),(206,F206.W T206),(207,F207.W T207),(208,F208.W T208),(209,F209.W T209)] V [] Tryz.f147 [.v (.pointer p)]=F147.G T191 T192 T193 T194 T195 T196 T197 T198 T199 T200 T201 T202 T203 T204 T205 T206 T207 T208 T209 p:=by kernel_rfl
def F147.W(T147:Option Addr->PT)(args:List Value):PT:=match args with
 |[.pointer p]=>T147 p
 |_=>λ_ _=>False
def F147.V:List Value->PT:=F147.W F147.T
theorem F147.ok:FOk Tryz.prog 147 F147.V:=by
 refine⟨⟨_,Tryz.func147,rfl,rfl⟩,λ_=>?_⟩;unfold F147.V F147.W;split;exact denF_okE (GOk.cons F191.ok (GOk.cons F192.ok (GOk.cons F193.ok (GOk.cons F194.ok (GOk.cons F195.ok (GOk.cons F196.ok (GOk.cons F197.ok (GOk.cons F198.ok (GOk.cons F199.ok (GOk.cons F200.ok (GOk.cons F201.ok (GOk.cons F202.ok (GOk.cons F203.ok (GOk.cons F204.ok (GOk.cons F205.ok (GOk.cons F206.ok (GOk.cons F207.ok (GOk.cons F208.ok (GOk.cons F209.ok (GOk.nil)))))))))))))))))))) noV_ok Tryz.func147 (F147.gen noV F191.T F192.T F193.T F194.T F195.T F196.T F197.T F198.T F199.T F200.T F201.T F202.T F203.T F204.T F205.T F206.T F207.T F208.T F209.T _);exact λ_ _ h=>h.elim
@[reducible] def F82.G(T146 T147:Option Addr->PT)(p:Option Addr):PT:=λh Q=>
 dr p λb o=>ldI .i64 h b (o+3) λn=>dr p λb1 o1=>st h b1 (o1+3) 1 [.int .i64 (wrap .i64 (n-1))] λh1=>dr p λb2 o2=>ldI .i64 h1 b2 (o2+3) λn1=>par ((0:Int)<n1) (Q (.tuple ⟨[]⟩) h1) (T146 p h1 λr h2=>T147 p h2 λr1 h3=>dr p λb3 o3=>ldI .i64 h3 b3 (o3+2) λn2=>dr p λb4 o4=>st h3 b4 (o4+2) 1 [.int .i64 (wrap .i64 (n2+1))] λh4=>Q (.tuple ⟨[]⟩) h4)
def F82.T:=F82.G F146.T F147.T
theorem F82.gen(V T146 T147 p):denF Tryz.prog [] [(146,F146.W T146),(147,F147.W T147)] V [] Tryz.f82 [.v (.pointer p)]=F82.G T146 T147 p:=by kernel_rfl
def F82.W(T82:Option Addr->PT)(args:List Value):PT:=match args with
 |[.pointer p]=>T82 p
 |_=>λ_ _=>False
def F82.V:List Value->PT:=F82.W F82.T
theorem F82.ok:FOk Tryz.prog 82 F82.V:=by
 refine⟨⟨_,Tryz.func82,rfl,rfl⟩,λ_=>?_⟩;unfold F82.V F82.W;split;exact denF_okE (GOk.cons F146.ok (GOk.cons F147.ok (GOk.nil))) noV_ok Tryz.func82 (F82.gen noV F146.T F147.T _);exact λ_ _ h=>h.elim
@[reducible] def F39.G(T81:Option Addr->Int->PT)(T82:Option Addr->PT)(p:Option Addr)(l:Sl)(n:Int):PT:=λh Q=>
 dr p λb o=>ldI .i64 h b (o+3) λn1=>dr p λb1 o1=>st h b1 (o1+3) 1 [.int .i64 (wrap .i64 (n1+1))] λh1=>dr p λb2 o2=>ldS h1 b2 (o2+24) λl1=>appendD l1 106 1 24 [.slice none 0 0] 1 [.slice l.a l.n l.c] h1 λl2 h2=>dr p λb3 o3=>st h2 b3 (o3+24) 1 [.slice l2.a l2.n l2.c] λh3=>dr p λb4 o4=>ldS h3 b4 (o4+25) λl3=>nw h3 (.cells ⟨[]⟩ 48 (0,0)) λb5 h4=>h4.at b4 (o4+25)=some (.slice l3.a l3.n l3.c)/\∃ vs,h4.row l.a (l.n*1) vs/\(∀ v∈vs,Value.oneCell' v=true)/\appendD ⟨(some ⟨b5,0,none⟩),0,0⟩ 48 1 8 [.int .u64 0] l.n vs h4 λl4 h5=>h5.at b4 (o4+25)=some (.slice l3.a l3.n l3.c)/\h5.at b4 (o4+25)=some (.slice l3.a l3.n l3.c)/\appendD l3 106 1 24 [.slice none 0 0] 1 [.slice l4.a l4.n l4.c] h5 λl5 h6=>dr p λb6 o5=>st h6 b6 (o5+25) 1 [.slice l5.a l5.n l5.c] λh7=>dr p λb7 o6=>ldS h7 b7 (o6+27) λl6=>appendD l6 3 1 8 [.int .i64 0] 1 [.int .i64 n] h7 λl7 h8=>dr p λb8 o7=>st h8 b8 (o7+27) 1 [.slice l7.a l7.n l7.c] λh9=>dr p λb9 o8=>ldS h9 b9 (o8+28) λl8=>dr p λb10 o9=>ldI .i64 h9 b10 (o9+30) λn2=>T81 p n2 h9 λr h10=>retI .i64 r λn3=>h10.at b9 (o8+28)=some (.slice l8.a l8.n l8.c)/\h10.at b9 (o8+28)=some (.slice l8.a l8.n l8.c)/\appendD l8 3 1 8 [.int .i64 0] 1 [.int .i64 n3] h10 λl9 h11=>dr p λb11 o10=>st h11 b11 (o10+28) 1 [.slice l9.a l9.n l9.c] λh12=>dr p λb12 o11=>ldI .i64 h12 b12 (o11+30) λn4=>dr p λb13 o12=>st h12 b13 (o12+30) 1 [.int .i64 (wrap .i64 (n4+1))] λh13=>T82 p h13 λr1 h14=>Q (.tuple ⟨[]⟩) h14
def F39.T:=F39.G F81.T F82.T
theorem F39.gen(V T81 T82 p l n):denF Tryz.prog [19,31,41,56] [(81,F81.W T81),(82,F82.W T82)] V [(14,.order [0,1,2,3,4,6,5,7,8,9,10,11,12]),(62,.order [0,1,2,3,4,5,6,7,8,9,10,11,12,13,14,15])] Tryz.f39 [.v (.pointer p),.v (.slice l.a l.n l.c),.v (.int .i64 n)]=F39.G T81 T82 p l n:=by kernel_rfl
def F39.W(T39:Option Addr->Sl->Int->PT)(args:List Value):PT:=match args with
 |[.pointer p,.slice l_a l_n l_c,.int .i64 n]=>T39 p ⟨l_a,l_n,l_c⟩ n
 |_=>λ_ _=>False
def F39.V:List Value->PT:=F39.W F39.T
theorem F39.ok:FOk Tryz.prog 39 F39.V:=by
 refine⟨⟨_,Tryz.func39,rfl,rfl⟩,λ_=>?_⟩;unfold F39.V F39.W;split;exact denF_okE (GOk.cons F81.ok (GOk.cons F82.ok (GOk.nil))) noV_ok Tryz.func39 (F39.gen noV F81.T F82.T _ ⟨_,_,_⟩ _);exact λ_ _ h=>h.elim
@[reducible] def F48.G(T81:Option Addr->Int->PT)(T82:Option Addr->PT)(p:Option Addr)(l:Sl)(n:Int):PT:=λh Q=>
 dr p λb o=>ldI .i64 h b (o+3) λn1=>dr p λb1 o1=>st h b1 (o1+3) 1 [.int .i64 (wrap .i64 (n1+1))] λh1=>dr p λb2 o2=>ldS h1 b2 (o2+33) λl1=>appendD l1 51 1 24 [.slice none 0 0] 1 [.slice l.a l.n l.c] h1 λl2 h2=>dr p λb3 o3=>st h2 b3 (o3+33) 1 [.slice l2.a l2.n l2.c] λh3=>dr p λb4 o4=>ldS h3 b4 (o4+34) λl3=>nw h3 (.cells ⟨[]⟩ 9 (0,0)) λb5 h4=>h4.at b4 (o4+34)=some (.slice l3.a l3.n l3.c)/\∃ vs,h4.row l.a (l.n*1) vs/\(∀ v∈vs,Value.oneCell' v=true)/\appendD ⟨(some ⟨b5,0,none⟩),0,0⟩ 9 1 16 [.string ⟨#[]⟩] l.n vs h4 λl4 h5=>h5.at b4 (o4+34)=some (.slice l3.a l3.n l3.c)/\h5.at b4 (o4+34)=some (.slice l3.a l3.n l3.c)/\appendD l3 51 1 24 [.slice none 0 0] 1 [.slice l4.a l4.n l4.c] h5 λl5 h6=>dr p λb6 o5=>st h6 b6 (o5+34) 1 [.slice l5.a l5.n l5.c] λh7=>dr p λb7 o6=>ldS h7 b7 (o6+36) λl6=>appendD l6 3 1 8 [.int .i64 0] 1 [.int .i64 n] h7 λl7 h8=>dr p λb8 o7=>st h8 b8 (o7+36) 1 [.slice l7.a l7.n l7.c] λh9=>dr p λb9 o8=>ldS h9 b9 (o8+37) λl8=>dr p λb10 o9=>ldI .i64 h9 b10 (o9+39) λn2=>T81 p n2 h9 λr h10=>retI .i64 r λn3=>h10.at b9 (o8+37)=some (.slice l8.a l8.n l8.c)/\h10.at b9 (o8+37)=some (.slice l8.a l8.n l8.c)/\appendD l8 3 1 8 [.int .i64 0] 1 [.int .i64 n3] h10 λl9 h11=>dr p λb11 o10=>st h11 b11 (o10+37) 1 [.slice l9.a l9.n l9.c] λh12=>dr p λb12 o11=>ldI .i64 h12 b12 (o11+39) λn4=>dr p λb13 o12=>st h12 b13 (o12+39) 1 [.int .i64 (wrap .i64 (n4+1))] λh13=>T82 p h13 λr1 h14=>Q (.tuple ⟨[]⟩) h14
def F48.T:=F48.G F81.T F82.T
theorem F48.gen(V T81 T82 p l n):denF Tryz.prog [19,31,41,56] [(81,F81.W T81),(82,F82.W T82)] V [(14,.order [0,1,2,3,4,6,5,7,8,9,10,11,12]),(62,.order [0,1,2,3,4,5,6,7,8,9,10,11,12,13,14,15])] Tryz.f48 [.v (.pointer p),.v (.slice l.a l.n l.c),.v (.int .i64 n)]=F48.G T81 T82 p l n:=by kernel_rfl
def F48.W(T48:Option Addr->Sl->Int->PT)(args:List Value):PT:=match args with
 |[.pointer p,.slice l_a l_n l_c,.int .i64 n]=>T48 p ⟨l_a,l_n,l_c⟩ n
 |_=>λ_ _=>False
def F48.V:List Value->PT:=F48.W F48.T
theorem F48.ok:FOk Tryz.prog 48 F48.V:=by
 refine⟨⟨_,Tryz.func48,rfl,rfl⟩,λ_=>?_⟩;unfold F48.V F48.W;split;exact denF_okE (GOk.cons F81.ok (GOk.cons F82.ok (GOk.nil))) noV_ok Tryz.func48 (F48.gen noV F81.T F82.T _ ⟨_,_,_⟩ _);exact λ_ _ h=>h.elim
@[reducible] def F90.G(T81:Option Addr->Int->PT)(T82:Option Addr->PT)(p:Option Addr)(l:Sl)(n:Int):PT:=λh Q=>
 dr p λb o=>ldI .i64 h b (o+3) λn1=>dr p λb1 o1=>st h b1 (o1+3) 1 [.int .i64 (wrap .i64 (n1+1))] λh1=>dr p λb2 o2=>ldS h1 b2 (o2+69) λl1=>appendD l1 77 1 24 [.slice none 0 0] 1 [.slice l.a l.n l.c] h1 λl2 h2=>dr p λb3 o3=>st h2 b3 (o3+69) 1 [.slice l2.a l2.n l2.c] λh3=>dr p λb4 o4=>ldS h3 b4 (o4+70) λl3=>nw h3 (.cells ⟨[]⟩ 63 (0,0)) λb5 h4=>h4.at b4 (o4+70)=some (.slice l3.a l3.n l3.c)/\∃ vs,h4.row l.a (l.n*6) vs/\(∀ v∈vs,Value.oneCell' v=true)/\appendD ⟨(some ⟨b5,0,none⟩),0,0⟩ 63 6 64 [.int .u64 0,.int .i64 0,.int .i64 0,.int .i64 0,.string ⟨#[]⟩,.string ⟨#[]⟩] l.n vs h4 λl4 h5=>h5.at b4 (o4+70)=some (.slice l3.a l3.n l3.c)/\h5.at b4 (o4+70)=some (.slice l3.a l3.n l3.c)/\appendD l3 77 1 24 [.slice none 0 0] 1 [.slice l4.a l4.n l4.c] h5 λl5 h6=>dr p λb6 o5=>st h6 b6 (o5+70) 1 [.slice l5.a l5.n l5.c] λh7=>dr p λb7 o6=>ldS h7 b7 (o6+72) λl6=>appendD l6 3 1 8 [.int .i64 0] 1 [.int .i64 n] h7 λl7 h8=>dr p λb8 o7=>st h8 b8 (o7+72) 1 [.slice l7.a l7.n l7.c] λh9=>dr p λb9 o8=>ldS h9 b9 (o8+73) λl8=>dr p λb10 o9=>ldI .i64 h9 b10 (o9+75) λn2=>T81 p n2 h9 λr h10=>retI .i64 r λn3=>h10.at b9 (o8+73)=some (.slice l8.a l8.n l8.c)/\h10.at b9 (o8+73)=some (.slice l8.a l8.n l8.c)/\appendD l8 3 1 8 [.int .i64 0] 1 [.int .i64 n3] h10 λl9 h11=>dr p λb11 o10=>st h11 b11 (o10+73) 1 [.slice l9.a l9.n l9.c] λh12=>dr p λb12 o11=>ldI .i64 h12 b12 (o11+75) λn4=>dr p λb13 o12=>st h12 b13 (o12+75) 1 [.int .i64 (wrap .i64 (n4+1))] λh13=>T82 p h13 λr1 h14=>Q (.tuple ⟨[]⟩) h14
def F90.T:=F90.G F81.T F82.T
theorem F90.gen(V T81 T82 p l n):denF Tryz.prog [19,31,41,56] [(81,F81.W T81),(82,F82.W T82)] V [(14,.order [0,1,2,3,4,6,5,7,8,9,10,11,12]),(62,.order [0,1,2,3,4,5,6,7,8,9,10,11,12,13,14,15])] Tryz.f90 [.v (.pointer p),.v (.slice l.a l.n l.c),.v (.int .i64 n)]=F90.G T81 T82 p l n:=by kernel_rfl
def F90.W(T90:Option Addr->Sl->Int->PT)(args:List Value):PT:=match args with
 |[.pointer p,.slice l_a l_n l_c,.int .i64 n]=>T90 p ⟨l_a,l_n,l_c⟩ n
 |_=>λ_ _=>False
def F90.V:List Value->PT:=F90.W F90.T
theorem F90.ok:FOk Tryz.prog 90 F90.V:=by
 refine⟨⟨_,Tryz.func90,rfl,rfl⟩,λ_=>?_⟩;unfold F90.V F90.W;split;exact denF_okE (GOk.cons F81.ok (GOk.cons F82.ok (GOk.nil))) noV_ok Tryz.func90 (F90.gen noV F81.T F82.T _ ⟨_,_,_⟩ _);exact λ_ _ h=>h.elim
def F50.T(p:Option Addr):PT:=λh Q=>
 ∃ (I:Int->Hp->Prop) (m:Int->Hp->Nat),I 0 h/\(∀ n:Int,∀ h1:Hp,I n h1->dr p λb o=>ldS h1 b (o+4) λl=>par (n<(l.n:Int)) (False) (∃ (I1:Int->Hp->Prop) (m1:Int->Hp->Nat),I1 0 h1/\(∀ n1:Int,∀ h2:Hp,I1 n1 h2->dr p λb1 o1=>ldS h2 b1 (o1+6) λl1=>par (n1<(l1.n:Int)) (False) (Q (.bool true) h2))))
theorem F50.den(V p):denF Tryz.prog [] [] V [(26,.loop [(3,.int .i64)] []),(58,.loop [(4,.int .i64)] []),(105,.cut),(233,.cut)] Tryz.f50 [.v (.pointer p)]=F50.T p:=by kernel_rfl
def F50.W(T50:Option Addr->PT)(args:List Value):PT:=match args with
 |[.pointer p]=>T50 p
 |_=>λ_ _=>False
def F50.V:List Value->PT:=F50.W F50.T
theorem F50.ok:FOk Tryz.prog 50 F50.V:=by
 refine⟨⟨_,Tryz.func50,rfl,rfl⟩,λ_=>?_⟩;unfold F50.V F50.W;split;exact denF_okE (GOk.nil) noV_ok Tryz.func50 (F50.den noV _);exact λ_ _ h=>h.elim
def F51.T(p:Option Addr):PT:=λh Q=>
 ∃ (I:Int->Hp->Prop) (m:Int->Hp->Nat),I 0 h/\(∀ n:Int,∀ h1:Hp,I n h1->dr p λb o=>ldS h1 b (o+13) λl=>par (n<(l.n:Int)) (False) (∃ (I1:Int->Hp->Prop) (m1:Int->Hp->Nat),I1 0 h1/\(∀ n1:Int,∀ h2:Hp,I1 n1 h2->dr p λb1 o1=>ldS h2 b1 (o1+15) λl1=>par (n1<(l1.n:Int)) (False) (Q (.bool true) h2))))
theorem F51.den(V p):denF Tryz.prog [] [] V [(26,.loop [(3,.int .i64)] []),(58,.loop [(4,.int .i64)] []),(105,.cut),(233,.cut)] Tryz.f51 [.v (.pointer p)]=F51.T p:=by kernel_rfl
def F51.W(T51:Option Addr->PT)(args:List Value):PT:=match args with
 |[.pointer p]=>T51 p
 |_=>λ_ _=>False
def F51.V:List Value->PT:=F51.W F51.T
theorem F51.ok:FOk Tryz.prog 51 F51.V:=by
 refine⟨⟨_,Tryz.func51,rfl,rfl⟩,λ_=>?_⟩;unfold F51.V F51.W;split;exact denF_okE (GOk.nil) noV_ok Tryz.func51 (F51.den noV _);exact λ_ _ h=>h.elim
@[reducible] def F52.G(T125:Sl->Sl->PT)(p:Option Addr):PT:=λh Q=>
 ∃ (I:Int->Hp->Prop) (m:Int->Hp->Nat),I 0 h/\(∀ n:Int,∀ h1:Hp,I n h1->dr p λb o=>ldS h1 b (o+22) λl=>par (n<(l.n:Int)) (dr p λb1 o1=>ldS h1 b1 (o1+22) λl1=>ix l1.a n l1.n λb2 o2=>ldS h1 b2 (o2+n.toNat) λl2=>dr p λb3 o3=>ldS h1 b3 (o3+23) λl3=>ix l3.a n l3.n λb4 o4=>ldS h1 b4 (o4+n.toNat) λl4=>T125 l2 l4 h1 λr h2=>retB r (I (wrap .i64 (n+1)) h2/\m (wrap .i64 (n+1)) h2<m n h1) (Q (.bool false) h2)) (∃ (I1:Int->Hp->Prop) (m1:Int->Hp->Nat),I1 0 h1/\(∀ n1:Int,∀ h3:Hp,I1 n1 h3->dr p λb5 o5=>ldS h3 b5 (o5+24) λl5=>par (n1<(l5.n:Int)) (dr p λb6 o6=>ldS h3 b6 (o6+24) λl6=>ix l6.a n1 l6.n λb7 o7=>ldS h3 b7 (o7+n1.toNat) λl7=>dr p λb8 o8=>ldS h3 b8 (o8+25) λl8=>ix l8.a n1 l8.n λb9 o9=>ldS h3 b9 (o9+n1.toNat) λl9=>T125 l7 l9 h3 λr1 h4=>retB r1 (I1 (wrap .i64 (n1+1)) h4/\m1 (wrap .i64 (n1+1)) h4<m1 n1 h3) (Q (.bool false) h4)) (Q (.bool true) h3))))
def F52.T:=F52.G F125.T
theorem F52.gen(V T125 p):denF Tryz.prog [] [(125,F125.W T125)] V [(26,.loop [(3,.int .i64)] []),(58,.loop [(4,.int .i64)] []),(840,.order [0,1,2,3,4,5,6,7,8,9,10,11,12,13,14,15]),(1864,.order [0,1,2,3,4,5,6,7,8,9,10,11,12,13,14,15])] Tryz.f52 [.v (.pointer p)]=F52.G T125 p:=by kernel_rfl
def F52.W(T52:Option Addr->PT)(args:List Value):PT:=match args with
 |[.pointer p]=>T52 p
 |_=>λ_ _=>False
def F52.V:List Value->PT:=F52.W F52.T
theorem F52.ok:FOk Tryz.prog 52 F52.V:=by
 refine⟨⟨_,Tryz.func52,rfl,rfl⟩,λ_=>?_⟩;unfold F52.V F52.W;split;exact denF_okE (GOk.cons F125.ok (GOk.nil)) noV_ok Tryz.func52 (F52.gen noV F125.T _);exact λ_ _ h=>h.elim
@[reducible] def F53.G(T126:Sl->Sl->PT)(p:Option Addr):PT:=λh Q=>
 ∃ (I:Int->Hp->Prop) (m:Int->Hp->Nat),I 0 h/\(∀ n:Int,∀ h1:Hp,I n h1->dr p λb o=>ldS h1 b (o+31) λl=>par (n<(l.n:Int)) (dr p λb1 o1=>ldS h1 b1 (o1+31) λl1=>ix l1.a n l1.n λb2 o2=>ldS h1 b2 (o2+n.toNat) λl2=>dr p λb3 o3=>ldS h1 b3 (o3+32) λl3=>ix l3.a n l3.n λb4 o4=>ldS h1 b4 (o4+n.toNat) λl4=>T126 l2 l4 h1 λr h2=>retB r (I (wrap .i64 (n+1)) h2/\m (wrap .i64 (n+1)) h2<m n h1) (Q (.bool false) h2)) (∃ (I1:Int->Hp->Prop) (m1:Int->Hp->Nat),I1 0 h1/\(∀ n1:Int,∀ h3:Hp,I1 n1 h3->dr p λb5 o5=>ldS h3 b5 (o5+33) λl5=>par (n1<(l5.n:Int)) (dr p λb6 o6=>ldS h3 b6 (o6+33) λl6=>ix l6.a n1 l6.n λb7 o7=>ldS h3 b7 (o7+n1.toNat) λl7=>dr p λb8 o8=>ldS h3 b8 (o8+34) λl8=>ix l8.a n1 l8.n λb9 o9=>ldS h3 b9 (o9+n1.toNat) λl9=>T126 l7 l9 h3 λr1 h4=>retB r1 (I1 (wrap .i64 (n1+1)) h4/\m1 (wrap .i64 (n1+1)) h4<m1 n1 h3) (Q (.bool false) h4)) (Q (.bool true) h3))))
def F53.T:=F53.G F126.T
theorem F53.gen(V T126 p):denF Tryz.prog [] [(126,F126.W T126)] V [(26,.loop [(3,.int .i64)] []),(58,.loop [(4,.int .i64)] []),(840,.order [0,1,2,3,4,5,6,7,8,9,10,11,12,13,14,15]),(1864,.order [0,1,2,3,4,5,6,7,8,9,10,11,12,13,14,15])] Tryz.f53 [.v (.pointer p)]=F53.G T126 p:=by kernel_rfl
def F53.W(T53:Option Addr->PT)(args:List Value):PT:=match args with
 |[.pointer p]=>T53 p
 |_=>λ_ _=>False
def F53.V:List Value->PT:=F53.W F53.T
theorem F53.ok:FOk Tryz.prog 53 F53.V:=by
 refine⟨⟨_,Tryz.func53,rfl,rfl⟩,λ_=>?_⟩;unfold F53.V F53.W;split;exact denF_okE (GOk.cons F126.ok (GOk.nil)) noV_ok Tryz.func53 (F53.gen noV F126.T _);exact λ_ _ h=>h.elim
def F54.T(p:Option Addr):PT:=λh Q=>
 ∃ (I:Int->Hp->Prop) (m:Int->Hp->Nat),I 0 h/\(∀ n:Int,∀ h1:Hp,I n h1->dr p λb o=>ldS h1 b (o+40) λl=>par (n<(l.n:Int)) (False) (∃ (I1:Int->Hp->Prop) (m1:Int->Hp->Nat),I1 0 h1/\(∀ n1:Int,∀ h2:Hp,I1 n1 h2->dr p λb1 o1=>ldS h2 b1 (o1+42) λl1=>par (n1<(l1.n:Int)) (False) (Q (.bool true) h2))))
theorem F54.den(V p):denF Tryz.prog [] [] V [(26,.loop [(3,.int .i64)] []),(58,.loop [(4,.int .i64)] []),(105,.cut),(233,.cut)] Tryz.f54 [.v (.pointer p)]=F54.T p:=by kernel_rfl
def F54.W(T54:Option Addr->PT)(args:List Value):PT:=match args with
 |[.pointer p]=>T54 p
 |_=>λ_ _=>False
def F54.V:List Value->PT:=F54.W F54.T
theorem F54.ok:FOk Tryz.prog 54 F54.V:=by
 refine⟨⟨_,Tryz.func54,rfl,rfl⟩,λ_=>?_⟩;unfold F54.V F54.W;split;exact denF_okE (GOk.nil) noV_ok Tryz.func54 (F54.den noV _);exact λ_ _ h=>h.elim
def F55.T(p:Option Addr):PT:=λh Q=>
 ∃ (I:Int->Hp->Prop) (m:Int->Hp->Nat),I 0 h/\(∀ n:Int,∀ h1:Hp,I n h1->dr p λb o=>ldS h1 b (o+49) λl=>par (n<(l.n:Int)) (False) (∃ (I1:Int->Hp->Prop) (m1:Int->Hp->Nat),I1 0 h1/\(∀ n1:Int,∀ h2:Hp,I1 n1 h2->dr p λb1 o1=>ldS h2 b1 (o1+51) λl1=>par (n1<(l1.n:Int)) (False) (Q (.bool true) h2))))
theorem F55.den(V p):denF Tryz.prog [] [] V [(26,.loop [(3,.int .i64)] []),(58,.loop [(4,.int .i64)] []),(105,.cut),(233,.cut)] Tryz.f55 [.v (.pointer p)]=F55.T p:=by kernel_rfl
def F55.W(T55:Option Addr->PT)(args:List Value):PT:=match args with
 |[.pointer p]=>T55 p
 |_=>λ_ _=>False
def F55.V:List Value->PT:=F55.W F55.T
theorem F55.ok:FOk Tryz.prog 55 F55.V:=by
 refine⟨⟨_,Tryz.func55,rfl,rfl⟩,λ_=>?_⟩;unfold F55.V F55.W;split;exact denF_okE (GOk.nil) noV_ok Tryz.func55 (F55.den noV _);exact λ_ _ h=>h.elim
def F56.T(p:Option Addr):PT:=λh Q=>
 ∃ (I:Int->Hp->Prop) (m:Int->Hp->Nat),I 0 h/\(∀ n:Int,∀ h1:Hp,I n h1->dr p λb o=>ldS h1 b (o+58) λl=>par (n<(l.n:Int)) (False) (∃ (I1:Int->Hp->Prop) (m1:Int->Hp->Nat),I1 0 h1/\(∀ n1:Int,∀ h2:Hp,I1 n1 h2->dr p λb1 o1=>ldS h2 b1 (o1+60) λl1=>par (n1<(l1.n:Int)) (False) (Q (.bool true) h2))))
theorem F56.den(V p):denF Tryz.prog [] [] V [(26,.loop [(3,.int .i64)] []),(58,.loop [(4,.int .i64)] []),(105,.cut),(233,.cut)] Tryz.f56 [.v (.pointer p)]=F56.T p:=by kernel_rfl
def F56.W(T56:Option Addr->PT)(args:List Value):PT:=match args with
 |[.pointer p]=>T56 p
 |_=>λ_ _=>False
def F56.V:List Value->PT:=F56.W F56.T
theorem F56.ok:FOk Tryz.prog 56 F56.V:=by
 refine⟨⟨_,Tryz.func56,rfl,rfl⟩,λ_=>?_⟩;unfold F56.V F56.W;split;exact denF_okE (GOk.nil) noV_ok Tryz.func56 (F56.den noV _);exact λ_ _ h=>h.elim
@[reducible] def F57.G(T130:Sl->Sl->PT)(p:Option Addr):PT:=λh Q=>
 ∃ (I:Int->Hp->Prop) (m:Int->Hp->Nat),I 0 h/\(∀ n:Int,∀ h1:Hp,I n h1->dr p λb o=>ldS h1 b (o+67) λl=>par (n<(l.n:Int)) (dr p λb1 o1=>ldS h1 b1 (o1+67) λl1=>ix l1.a n l1.n λb2 o2=>ldS h1 b2 (o2+n.toNat) λl2=>dr p λb3 o3=>ldS h1 b3 (o3+68) λl3=>ix l3.a n l3.n λb4 o4=>ldS h1 b4 (o4+n.toNat) λl4=>T130 l2 l4 h1 λr h2=>retB r (I (wrap .i64 (n+1)) h2/\m (wrap .i64 (n+1)) h2<m n h1) (Q (.bool false) h2)) (∃ (I1:Int->Hp->Prop) (m1:Int->Hp->Nat),I1 0 h1/\(∀ n1:Int,∀ h3:Hp,I1 n1 h3->dr p λb5 o5=>ldS h3 b5 (o5+69) λl5=>par (n1<(l5.n:Int)) (dr p λb6 o6=>ldS h3 b6 (o6+69) λl6=>ix l6.a n1 l6.n λb7 o7=>ldS h3 b7 (o7+n1.toNat) λl7=>dr p λb8 o8=>ldS h3 b8 (o8+70) λl8=>ix l8.a n1 l8.n λb9 o9=>ldS h3 b9 (o9+n1.toNat) λl9=>T130 l7 l9 h3 λr1 h4=>retB r1 (I1 (wrap .i64 (n1+1)) h4/\m1 (wrap .i64 (n1+1)) h4<m1 n1 h3) (Q (.bool false) h4)) (Q (.bool true) h3))))
def F57.T:=F57.G F130.T
theorem F57.gen(V T130 p):denF Tryz.prog [] [(130,F130.W T130)] V [(26,.loop [(3,.int .i64)] []),(58,.loop [(4,.int .i64)] []),(840,.order [0,1,2,3,4,5,6,7,8,9,10,11,12,13,14,15]),(1864,.order [0,1,2,3,4,5,6,7,8,9,10,11,12,13,14,15])] Tryz.f57 [.v (.pointer p)]=F57.G T130 p:=by kernel_rfl
def F57.W(T57:Option Addr->PT)(args:List Value):PT:=match args with
 |[.pointer p]=>T57 p
 |_=>λ_ _=>False
def F57.V:List Value->PT:=F57.W F57.T
theorem F57.ok:FOk Tryz.prog 57 F57.V:=by
 refine⟨⟨_,Tryz.func57,rfl,rfl⟩,λ_=>?_⟩;unfold F57.V F57.W;split;exact denF_okE (GOk.cons F130.ok (GOk.nil)) noV_ok Tryz.func57 (F57.gen noV F130.T _);exact λ_ _ h=>h.elim
def F58.T(p:Option Addr):PT:=λh Q=>
 ∃ (I:Int->Hp->Prop) (m:Int->Hp->Nat),I 0 h/\(∀ n:Int,∀ h1:Hp,I n h1->dr p λb o=>ldS h1 b (o+76) λl=>par (n<(l.n:Int)) (False) (∃ (I1:Int->Hp->Prop) (m1:Int->Hp->Nat),I1 0 h1/\(∀ n1:Int,∀ h2:Hp,I1 n1 h2->dr p λb1 o1=>ldS h2 b1 (o1+78) λl1=>par (n1<(l1.n:Int)) (False) (Q (.bool true) h2))))
theorem F58.den(V p):denF Tryz.prog [] [] V [(26,.loop [(3,.int .i64)] []),(58,.loop [(4,.int .i64)] []),(105,.cut),(233,.cut)] Tryz.f58 [.v (.pointer p)]=F58.T p:=by kernel_rfl
def F58.W(T58:Option Addr->PT)(args:List Value):PT:=match args with
 |[.pointer p]=>T58 p
 |_=>λ_ _=>False
def F58.V:List Value->PT:=F58.W F58.T
theorem F58.ok:FOk Tryz.prog 58 F58.V:=by
 refine⟨⟨_,Tryz.func58,rfl,rfl⟩,λ_=>?_⟩;unfold F58.V F58.W;split;exact denF_okE (GOk.nil) noV_ok Tryz.func58 (F58.den noV _);exact λ_ _ h=>h.elim
def F59.T(p:Option Addr):PT:=λh Q=>
 ∃ (I:Int->Hp->Prop) (m:Int->Hp->Nat),I 0 h/\(∀ n:Int,∀ h1:Hp,I n h1->dr p λb o=>ldS h1 b (o+85) λl=>par (n<(l.n:Int)) (False) (∃ (I1:Int->Hp->Prop) (m1:Int->Hp->Nat),I1 0 h1/\(∀ n1:Int,∀ h2:Hp,I1 n1 h2->dr p λb1 o1=>ldS h2 b1 (o1+87) λl1=>par (n1<(l1.n:Int)) (False) (Q (.bool true) h2))))
theorem F59.den(V p):denF Tryz.prog [] [] V [(26,.loop [(3,.int .i64)] []),(58,.loop [(4,.int .i64)] []),(105,.cut),(233,.cut)] Tryz.f59 [.v (.pointer p)]=F59.T p:=by kernel_rfl
def F59.W(T59:Option Addr->PT)(args:List Value):PT:=match args with
 |[.pointer p]=>T59 p
 |_=>λ_ _=>False
def F59.V:List Value->PT:=F59.W F59.T
theorem F59.ok:FOk Tryz.prog 59 F59.V:=by
 refine⟨⟨_,Tryz.func59,rfl,rfl⟩,λ_=>?_⟩;unfold F59.V F59.W;split;exact denF_okE (GOk.nil) noV_ok Tryz.func59 (F59.den noV _);exact λ_ _ h=>h.elim
def F60.T(p:Option Addr):PT:=λh Q=>
 ∃ (I:Int->Hp->Prop) (m:Int->Hp->Nat),I 0 h/\(∀ n:Int,∀ h1:Hp,I n h1->dr p λb o=>ldS h1 b (o+94) λl=>par (n<(l.n:Int)) (False) (∃ (I1:Int->Hp->Prop) (m1:Int->Hp->Nat),I1 0 h1/\(∀ n1:Int,∀ h2:Hp,I1 n1 h2->dr p λb1 o1=>ldS h2 b1 (o1+96) λl1=>par (n1<(l1.n:Int)) (False) (Q (.bool true) h2))))
theorem F60.den(V p):denF Tryz.prog [] [] V [(26,.loop [(3,.int .i64)] []),(58,.loop [(4,.int .i64)] []),(105,.cut),(233,.cut)] Tryz.f60 [.v (.pointer p)]=F60.T p:=by kernel_rfl
def F60.W(T60:Option Addr->PT)(args:List Value):PT:=match args with
 |[.pointer p]=>T60 p
 |_=>λ_ _=>False
def F60.V:List Value->PT:=F60.W F60.T
theorem F60.ok:FOk Tryz.prog 60 F60.V:=by
 refine⟨⟨_,Tryz.func60,rfl,rfl⟩,λ_=>?_⟩;unfold F60.V F60.W;split;exact denF_okE (GOk.nil) noV_ok Tryz.func60 (F60.den noV _);exact λ_ _ h=>h.elim
def F61.T(p:Option Addr):PT:=λh Q=>
 ∃ (I:Int->Hp->Prop) (m:Int->Hp->Nat),I 0 h/\(∀ n:Int,∀ h1:Hp,I n h1->dr p λb o=>ldS h1 b (o+103) λl=>par (n<(l.n:Int)) (False) (∃ (I1:Int->Hp->Prop) (m1:Int->Hp->Nat),I1 0 h1/\(∀ n1:Int,∀ h2:Hp,I1 n1 h2->dr p λb1 o1=>ldS h2 b1 (o1+105) λl1=>par (n1<(l1.n:Int)) (False) (Q (.bool true) h2))))
theorem F61.den(V p):denF Tryz.prog [] [] V [(26,.loop [(3,.int .i64)] []),(58,.loop [(4,.int .i64)] []),(105,.cut),(233,.cut)] Tryz.f61 [.v (.pointer p)]=F61.T p:=by kernel_rfl
def F61.W(T61:Option Addr->PT)(args:List Value):PT:=match args with
 |[.pointer p]=>T61 p
 |_=>λ_ _=>False
def F61.V:List Value->PT:=F61.W F61.T
theorem F61.ok:FOk Tryz.prog 61 F61.V:=by
 refine⟨⟨_,Tryz.func61,rfl,rfl⟩,λ_=>?_⟩;unfold F61.V F61.W;split;exact denF_okE (GOk.nil) noV_ok Tryz.func61 (F61.den noV _);exact λ_ _ h=>h.elim
def F62.T(p:Option Addr):PT:=λh Q=>
 ∃ (I:Int->Hp->Prop) (m:Int->Hp->Nat),I 0 h/\(∀ n:Int,∀ h1:Hp,I n h1->dr p λb o=>ldS h1 b (o+112) λl=>par (n<(l.n:Int)) (False) (∃ (I1:Int->Hp->Prop) (m1:Int->Hp->Nat),I1 0 h1/\(∀ n1:Int,∀ h2:Hp,I1 n1 h2->dr p λb1 o1=>ldS h2 b1 (o1+114) λl1=>par (n1<(l1.n:Int)) (False) (Q (.bool true) h2))))
theorem F62.den(V p):denF Tryz.prog [] [] V [(26,.loop [(3,.int .i64)] []),(58,.loop [(4,.int .i64)] []),(105,.cut),(233,.cut)] Tryz.f62 [.v (.pointer p)]=F62.T p:=by kernel_rfl
def F62.W(T62:Option Addr->PT)(args:List Value):PT:=match args with
 |[.pointer p]=>T62 p
 |_=>λ_ _=>False
def F62.V:List Value->PT:=F62.W F62.T
theorem F62.ok:FOk Tryz.prog 62 F62.V:=by
 refine⟨⟨_,Tryz.func62,rfl,rfl⟩,λ_=>?_⟩;unfold F62.V F62.W;split;exact denF_okE (GOk.nil) noV_ok Tryz.func62 (F62.den noV _);exact λ_ _ h=>h.elim
def F63.T(p:Option Addr):PT:=λh Q=>
 ∃ (I:Int->Hp->Prop) (m:Int->Hp->Nat),I 0 h/\(∀ n:Int,∀ h1:Hp,I n h1->dr p λb o=>ldS h1 b (o+121) λl=>par (n<(l.n:Int)) (False) (∃ (I1:Int->Hp->Prop) (m1:Int->Hp->Nat),I1 0 h1/\(∀ n1:Int,∀ h2:Hp,I1 n1 h2->dr p λb1 o1=>ldS h2 b1 (o1+123) λl1=>par (n1<(l1.n:Int)) (False) (Q (.bool true) h2))))
theorem F63.den(V p):denF Tryz.prog [] [] V [(26,.loop [(3,.int .i64)] []),(58,.loop [(4,.int .i64)] []),(105,.cut),(233,.cut)] Tryz.f63 [.v (.pointer p)]=F63.T p:=by kernel_rfl
def F63.W(T63:Option Addr->PT)(args:List Value):PT:=match args with
 |[.pointer p]=>T63 p
 |_=>λ_ _=>False
def F63.V:List Value->PT:=F63.W F63.T
theorem F63.ok:FOk Tryz.prog 63 F63.V:=by
 refine⟨⟨_,Tryz.func63,rfl,rfl⟩,λ_=>?_⟩;unfold F63.V F63.W;split;exact denF_okE (GOk.nil) noV_ok Tryz.func63 (F63.den noV _);exact λ_ _ h=>h.elim
def F64.T(p:Option Addr):PT:=λh Q=>
 ∃ (I:Int->Hp->Prop) (m:Int->Hp->Nat),I 0 h/\(∀ n:Int,∀ h1:Hp,I n h1->dr p λb o=>ldS h1 b (o+130) λl=>par (n<(l.n:Int)) (False) (∃ (I1:Int->Hp->Prop) (m1:Int->Hp->Nat),I1 0 h1/\(∀ n1:Int,∀ h2:Hp,I1 n1 h2->dr p λb1 o1=>ldS h2 b1 (o1+132) λl1=>par (n1<(l1.n:Int)) (False) (Q (.bool true) h2))))
theorem F64.den(V p):denF Tryz.prog [] [] V [(26,.loop [(3,.int .i64)] []),(58,.loop [(4,.int .i64)] []),(105,.cut),(233,.cut)] Tryz.f64 [.v (.pointer p)]=F64.T p:=by kernel_rfl
def F64.W(T64:Option Addr->PT)(args:List Value):PT:=match args with
 |[.pointer p]=>T64 p
 |_=>λ_ _=>False
def F64.V:List Value->PT:=F64.W F64.T
theorem F64.ok:FOk Tryz.prog 64 F64.V:=by
 refine⟨⟨_,Tryz.func64,rfl,rfl⟩,λ_=>?_⟩;unfold F64.V F64.W;split;exact denF_okE (GOk.nil) noV_ok Tryz.func64 (F64.den noV _);exact λ_ _ h=>h.elim
def F65.T(p:Option Addr):PT:=λh Q=>
 ∃ (I:Int->Hp->Prop) (m:Int->Hp->Nat),I 0 h/\(∀ n:Int,∀ h1:Hp,I n h1->dr p λb o=>ldS h1 b (o+139) λl=>par (n<(l.n:Int)) (False) (∃ (I1:Int->Hp->Prop) (m1:Int->Hp->Nat),I1 0 h1/\(∀ n1:Int,∀ h2:Hp,I1 n1 h2->dr p λb1 o1=>ldS h2 b1 (o1+141) λl1=>par (n1<(l1.n:Int)) (False) (Q (.bool true) h2))))
theorem F65.den(V p):denF Tryz.prog [] [] V [(26,.loop [(3,.int .i64)] []),(58,.loop [(4,.int .i64)] []),(105,.cut),(233,.cut)] Tryz.f65 [.v (.pointer p)]=F65.T p:=by kernel_rfl
def F65.W(T65:Option Addr->PT)(args:List Value):PT:=match args with
 |[.pointer p]=>T65 p
 |_=>λ_ _=>False
def F65.V:List Value->PT:=F65.W F65.T
theorem F65.ok:FOk Tryz.prog 65 F65.V:=by
 refine⟨⟨_,Tryz.func65,rfl,rfl⟩,λ_=>?_⟩;unfold F65.V F65.W;split;exact denF_okE (GOk.nil) noV_ok Tryz.func65 (F65.den noV _);exact λ_ _ h=>h.elim
def F66.T(p:Option Addr):PT:=λh Q=>
 ∃ (I:Int->Hp->Prop) (m:Int->Hp->Nat),I 0 h/\(∀ n:Int,∀ h1:Hp,I n h1->dr p λb o=>ldS h1 b (o+148) λl=>par (n<(l.n:Int)) (False) (∃ (I1:Int->Hp->Prop) (m1:Int->Hp->Nat),I1 0 h1/\(∀ n1:Int,∀ h2:Hp,I1 n1 h2->dr p λb1 o1=>ldS h2 b1 (o1+150) λl1=>par (n1<(l1.n:Int)) (False) (Q (.bool true) h2))))
theorem F66.den(V p):denF Tryz.prog [] [] V [(26,.loop [(3,.int .i64)] []),(58,.loop [(4,.int .i64)] []),(105,.cut),(233,.cut)] Tryz.f66 [.v (.pointer p)]=F66.T p:=by kernel_rfl
def F66.W(T66:Option Addr->PT)(args:List Value):PT:=match args with
 |[.pointer p]=>T66 p
 |_=>λ_ _=>False
def F66.V:List Value->PT:=F66.W F66.T
theorem F66.ok:FOk Tryz.prog 66 F66.V:=by
 refine⟨⟨_,Tryz.func66,rfl,rfl⟩,λ_=>?_⟩;unfold F66.V F66.W;split;exact denF_okE (GOk.nil) noV_ok Tryz.func66 (F66.den noV _);exact λ_ _ h=>h.elim
def F67.T(p:Option Addr):PT:=λh Q=>
 ∃ (I:Int->Hp->Prop) (m:Int->Hp->Nat),I 0 h/\(∀ n:Int,∀ h1:Hp,I n h1->dr p λb o=>ldS h1 b (o+157) λl=>par (n<(l.n:Int)) (False) (∃ (I1:Int->Hp->Prop) (m1:Int->Hp->Nat),I1 0 h1/\(∀ n1:Int,∀ h2:Hp,I1 n1 h2->dr p λb1 o1=>ldS h2 b1 (o1+159) λl1=>par (n1<(l1.n:Int)) (False) (Q (.bool true) h2))))
theorem F67.den(V p):denF Tryz.prog [] [] V [(26,.loop [(3,.int .i64)] []),(58,.loop [(4,.int .i64)] []),(105,.cut),(233,.cut)] Tryz.f67 [.v (.pointer p)]=F67.T p:=by kernel_rfl
def F67.W(T67:Option Addr->PT)(args:List Value):PT:=match args with
 |[.pointer p]=>T67 p
 |_=>λ_ _=>False
def F67.V:List Value->PT:=F67.W F67.T
theorem F67.ok:FOk Tryz.prog 67 F67.V:=by
 refine⟨⟨_,Tryz.func67,rfl,rfl⟩,λ_=>?_⟩;unfold F67.V F67.W;split;exact denF_okE (GOk.nil) noV_ok Tryz.func67 (F67.den noV _);exact λ_ _ h=>h.elim
def F68.T(p:Option Addr):PT:=λh Q=>
 ∃ (I:Int->Hp->Prop) (m:Int->Hp->Nat),I 0 h/\(∀ n:Int,∀ h1:Hp,I n h1->dr p λb o=>ldS h1 b (o+166) λl=>par (n<(l.n:Int)) (False) (∃ (I1:Int->Hp->Prop) (m1:Int->Hp->Nat),I1 0 h1/\(∀ n1:Int,∀ h2:Hp,I1 n1 h2->dr p λb1 o1=>ldS h2 b1 (o1+168) λl1=>par (n1<(l1.n:Int)) (False) (Q (.bool true) h2))))
theorem F68.den(V p):denF Tryz.prog [] [] V [(26,.loop [(3,.int .i64)] []),(58,.loop [(4,.int .i64)] []),(105,.cut),(233,.cut)] Tryz.f68 [.v (.pointer p)]=F68.T p:=by kernel_rfl
def F68.W(T68:Option Addr->PT)(args:List Value):PT:=match args with
 |[.pointer p]=>T68 p
 |_=>λ_ _=>False
def F68.V:List Value->PT:=F68.W F68.T
theorem F68.ok:FOk Tryz.prog 68 F68.V:=by
 refine⟨⟨_,Tryz.func68,rfl,rfl⟩,λ_=>?_⟩;unfold F68.V F68.W;split;exact denF_okE (GOk.nil) noV_ok Tryz.func68 (F68.den noV _);exact λ_ _ h=>h.elim
@[reducible] def F10.G(T50 T51 T52 T53 T54 T55 T56 T57 T58 T59 T60 T61 T62 T63 T64 T65 T66 T67 T68:Option Addr->PT)(p:Option Addr):PT:=λh Q=>
 dr p λb o=>ldB h b (o+1) (Q (.bool false) h) (T50 p h λr h1=>retB r (T51 p h1 λr1 h2=>retB r1 (T52 p h2 λr2 h3=>retB r2 (T53 p h3 λr3 h4=>retB r3 (T54 p h4 λr4 h5=>retB r4 (T55 p h5 λr5 h6=>retB r5 (T56 p h6 λr6 h7=>retB r6 (T57 p h7 λr7 h8=>retB r7 (T58 p h8 λr8 h9=>retB r8 (T59 p h9 λr9 h10=>retB r9 (T60 p h10 λr10 h11=>retB r10 (T61 p h11 λr11 h12=>retB r11 (T62 p h12 λr12 h13=>retB r12 (T63 p h13 λr13 h14=>retB r13 (T64 p h14 λr14 h15=>retB r14 (T65 p h15 λr15 h16=>retB r15 (T66 p h16 λr16 h17=>retB r16 (T67 p h17 λr17 h18=>retB r17 (T68 p h18 λr18 h19=>retB r18 (Q (.bool true) h19) (Q (.bool false) h19)) (Q (.bool false) h18)) (Q (.bool false) h17)) (Q (.bool false) h16)) (Q (.bool false) h15)) (Q (.bool false) h14)) (Q (.bool false) h13)) (Q (.bool false) h12)) (Q (.bool false) h11)) (Q (.bool false) h10)) (Q (.bool false) h9)) (Q (.bool false) h8)) (Q (.bool false) h7)) (Q (.bool false) h6)) (Q (.bool false) h5)) (Q (.bool false) h4)) (Q (.bool false) h3)) (Q (.bool false) h2)) (Q (.bool false) h1))
def F10.T:=F10.G F50.T F51.T F52.T F53.T F54.T F55.T F56.T F57.T F58.T F59.T F60.T F61.T F62.T F63.T F64.T F65.T F66.T F67.T F68.T
theorem F10.gen(V T50 T51 T52 T53 T54 T55 T56 T57 T58 T59 T60 T61 T62 T63 T64 T65 T66 T67 T68 p):denF Tryz.prog [] [(50,F50.W T50),(51,F51.W T51),(52,F52.W T52),(53,F53.W T53),(54,F54.W T54),(55,F55.W T55),(56,F56.W T56),(57,F57.W T57),(58,F58.W T58),(59,F59.W T59),(60,F60.W T60),(61,F61.W T61),(62,F62.W T62),(63,F63.W T63),(64,F64.W T64),(65,F65.W T65),(66,F66.W T66),(67,F67.W T67),(68,F68.W T68)] V [] Tryz.f10 [.v (.pointer p)]=F10.G T50 T51 T52 T53 T54 T55 T56 T57 T58 T59 T60 T61 T62 T63 T64 T65 T66 T67 T68 p:=by kernel_rfl
def F10.W(T10:Option Addr->PT)(args:List Value):PT:=match args with
 |[.pointer p]=>T10 p
 |_=>λ_ _=>False
def F10.V:List Value->PT:=F10.W F10.T
theorem F10.ok:FOk Tryz.prog 10 F10.V:=by
 refine⟨⟨_,Tryz.func10,rfl,rfl⟩,λ_=>?_⟩;unfold F10.V F10.W;split;exact denF_okE (GOk.cons F50.ok (GOk.cons F51.ok (GOk.cons F52.ok (GOk.cons F53.ok (GOk.cons F54.ok (GOk.cons F55.ok (GOk.cons F56.ok (GOk.cons F57.ok (GOk.cons F58.ok (GOk.cons F59.ok (GOk.cons F60.ok (GOk.cons F61.ok (GOk.cons F62.ok (GOk.cons F63.ok (GOk.cons F64.ok (GOk.cons F65.ok (GOk.cons F66.ok (GOk.cons F67.ok (GOk.cons F68.ok (GOk.nil)))))))))))))))))))) noV_ok Tryz.func10 (F10.gen noV F50.T F51.T F52.T F53.T F54.T F55.T F56.T F57.T F58.T F59.T F60.T F61.T F62.T F63.T F64.T F65.T F66.T F67.T F68.T _);exact λ_ _ h=>h.elim
end Go.Eng.YtbjnlacacapjiaaGreatDoor
end
section
namespace Go.Eng.YtbjnlacacapjiaaGreatDoor
open Go.Eng
open Go.Sort (bitsLen)
def Byt(vs:List Value):Prop:=∀ v∈vs,∃ k:UInt8,v=.int .u8 (k.toNat:Int)
theorem Byt.list:∀ {vs:List Value},Byt vs->∃ l:List UInt8,vs=l.map λb=>.int .u8 (b.toNat:Int)
 |[],_=>⟨[],rfl⟩
 |v::vs,h=>by
  obtain⟨k,rfl⟩:=h v List.mem_cons_self
  obtain⟨l,rfl⟩:=Byt.list (vs:=vs) (λx hx=>h x (List.mem_cons_of_mem _ hx))
  exact⟨k::l,rfl⟩
theorem Byt.str{h:Hp}{a:Option Addr}{n:Nat}{vs:List Value}(R:h.row a n vs)(B:Byt vs):∃ s:ByteArray,h.row a n (bytesV s):=by
 obtain⟨l,rfl⟩:=B.list
 exact⟨⟨l.toArray⟩,R⟩
theorem w32{x:Int}(h0:0<=x)(h1:x<4294967296):wrap .u32 x=x:=by
 simp[IntKind.wrap,IntKind.signed,IntKind.bits];omega
theorem w_rng32(x:Int):0<=wrap .u32 x/\wrap .u32 x<4294967296:=by
 simp[IntKind.wrap,IntKind.signed,IntKind.bits];omega
theorem w_rng64(x:Int):0<=wrap .u64 x/\wrap .u64 x<18446744073709551616:=by
 simp[IntKind.wrap,IntKind.signed,IntKind.bits];omega
theorem w_rng8(x:Int):0<=wrap .u8 x/\wrap .u8 x<256:=by
 simp[IntKind.wrap,IntKind.signed,IntKind.bits];omega
theorem sz8:smalls8.size=200:=by kernel_rfl
theorem byt_bt(s:ByteArray)(i:Int):Byt [.int .u8 (bt s i)]:=λv hv=>by
 rw[mem_singleton.1 hv]
 unfold bt
 split
 ·exact⟨_,rfl⟩
 ·exact⟨0,rfl⟩
theorem byt_w(x:Int):Byt [.int .u8 (wrap .u8 x)]:=λv hv=>by
 rw[mem_singleton.1 hv]
 obtain⟨h0,h1⟩:=w_rng8 x
 refine⟨UInt8.ofNat (wrap .u8 x).toNat,?_⟩
 have:(UInt8.ofNat (wrap .u8 x).toNat).toNat=(wrap .u8 x).toNat:=by
  simp[UInt8.toNat_ofNat'];omega
 rw[this]
 congr 1
 omega
theorem pl2{y:Int}(h0:0<=y)(h1:y<100):((0:Int)<=wrap .u32 (wrap .u32 (y*2)+1)/\wrap .u32 (wrap .u32 (y*2)+1)<(smalls8.size:Int))/\((0:Int)<=wrap .u32 (y*2)/\wrap .u32 (y*2)<(smalls8.size:Int)):=by
 rw[sz8,w32 (x:=y*2) (by omega) (by omega),w32 (by omega) (by omega)]
 omega
theorem tm{a:Int}(n:Int)(ha:0<=a)(hn:0<n):0<=Int.tmod a n/\Int.tmod a n<n:=⟨Int.tmod_nonneg _ ha,Int.tmod_lt_of_pos _ hn⟩
theorem td{a:Int}{n k:Int}(ha:0<=a)(hn:0<n)(h:a<n*k):0<=Int.tdiv a n/\Int.tdiv a n<k:=by
 rw[Int.tdiv_eq_ediv_of_nonneg ha]
 exact⟨Int.ediv_nonneg ha (by omega),Int.ediv_lt_of_lt_mul hn (by rw[Int.mul_comm];exact h)⟩
structure Rm24(h0:Hp)(b:Nat)(h:Hp):Prop where
 k:Keep h0 h
 n:h0 b=none
 c:∃ vs:List Value,vs.length=24/\Byt vs/\h b=some (.cells ⟨vs⟩ 257 (0,0))
section
variable{h0 h:Hp}{b:Nat}{Q:Value->Hp->Prop}
theorem Rm24.wr(S:Rm24 h0 b h){o:Nat}(ho:o<24){v:Value}(hv:Byt [v]):h.canW b o 1/\Rm24 h0 b (h.wr b o [v]):=by
 obtain⟨vs,h1,h2,h3⟩:=S.c
 refine⟨⟨⟨vs⟩,257,(0,0),h3,by show o+1<=vs.length;omega,λj _ _=>by simp⟩,⟨λk x e=>?_,S.n,⟨vs.set o v,by rw[List.length_set];exact h1,λx hx=>?_,?_⟩⟩⟩
 ·have hk:k≠b:=λq=>by rw[q,S.n] at e;cases e
  unfold Hp.wr
  rw[if_neg hk]
  exact S.k k x e
 ·rcases List.mem_or_eq_of_mem_set hx with hx|rfl
  ·exact h2 x hx
  ·exact hv x (mem_singleton.2 rfl)
 ·unfold Hp.wr
  rw[if_pos rfl,h3]
  rfl
theorem Rm24.ix(S:Rm24 h0 b h){z:Int}{k:Nat}(hz:0<=z/\z<(k:Int))(hk:k<=20){v:Value}(hv:Byt [v]){K:Hp->Prop}(hK:∀ h',Rm24 h0 b h'->K h'):Go.Eng.ix (some ⟨b,1,none⟩) z k λb' o=>st h b' (o+z.toNat) 1 [v] K:=by
 obtain⟨w,S'⟩:=S.wr (o:=1+z.toNat) (by omega) hv
 exact⟨b,1,rfl,hz,w,hK _ S'⟩
theorem Rm24.row(S:Rm24 h0 b h){o n:Nat}(hon:o+n<=24):∃ s:ByteArray,h.row (some ⟨b,o,none⟩) n (bytesV s):=by
 obtain⟨vs,h1,h2,h3⟩:=S.c
 refine Byt.str (vs:=(vs.drop o).take n) ⟨by rw[List.length_take,List.length_drop];omega,.inr ⟨b,o,rfl,λj hj=>?_⟩⟩ λv hv=>h2 v (List.mem_of_mem_drop (List.mem_of_mem_take hv))
 unfold Hp.at
 rw[h3]
 show(⟨vs⟩:Array Value)[o+j]?=_
 rw[List.getElem?_take,if_pos hj,List.getElem?_drop]
 simp
end
section
variable{h0 h:Hp}{b:Nat}{Q:Value->Hp->Prop}
def TabP(h:Hp):Prop:=∀ i:Nat,i<20->∃ v:Int,h.at 1 (0+i)=some (.int .u64 v)
theorem TabP.keep{h h':Hp}(T:TabP h)(K:Keep h h'):TabP h':=λi hi=>by
 obtain⟨v,hv⟩:=T i hi
 exact⟨v,keep_at K hv⟩
theorem smalln_s{n:Int}(hn:0<=n/\n<100)(hQ:∀ s,Q (.string s) h):F244.T n h Q:=by
 unfold F244.T
 refine⟨λhlt=>⟨⟨hn.1,?_,?_⟩,hQ _⟩,λhge=>⟨⟨?_,?_,?_⟩,hQ _⟩⟩
 ·rw[wrap_i64 (by omega) (by omega)];omega
 ·rw[wrap_i64 (by omega) (by omega)]
  have:(ByteArray.mk (List.toArray [48,49,50,51,52,53,54,55,56,57,97,98,99,100,101,102,103,104,105,106,107,108,109,110,111,112,113,114,115,116,117,118,119,120,121,122])).size=36:=by kernel_rfl
  rw[this];omega
 ·rw[wrap_i64 (by omega) (by omega)];omega
 ·rw[wrap_i64 (n:=n*2) (by omega) (by omega),wrap_i64 (by omega) (by omega)];omega
 ·rw[wrap_i64 (n:=n*2) (by omega) (by omega),wrap_i64 (by omega) (by omega),sz8];omega
theorem digits_s{n:Nat}(hn:n<18446744073709551616)(T:TabP h)(hQ:∀ d:Nat,d<=20->Q (.int .i64 (d:Int)) h):F245.T (n:Int) h Q:=by
 unfold F245.T
 have hb:bitsLen n<=64:=bitsLen_le (n:=n) (k:=64) (by show n<18446744073709551616;exact hn)
 refine len64_s hn ⟨_,rfl,?_⟩
 unfold F248.T
 refine⟨by decide,_,rfl,?_⟩
 have hd:shrI .i64 (wrap .i64 (((bitsLen n:Nat):Int)*78913)) 18=(((bitsLen n*78913) / 2 ^ 18:Nat):Int):=by
  rw[wrap_i64 (by omega) (by omega),show((bitsLen n:Nat):Int)*78913=((bitsLen n*78913:Nat):Int) by omega]
  exact shrN (k:=.i64) _ 18 (by decide)
 rw[hd]
 have h19:(bitsLen n*78913) / 2 ^ 18<=19:=by
  have:bitsLen n*78913<=64*78913:=Nat.mul_le_mul_right _ hb
  omega
 obtain⟨v,hv⟩:=T _ (show(bitsLen n*78913) / 2 ^ 18<20 by omega)
 refine⟨⟨by omega,by omega⟩,v,by rw[Int.toNat_natCast];exact hv,λ_=>?_,λ_=>?_⟩
 ·unfold F249.Tt
  exact⟨1,rfl,by dsimp only;rw[wrap_i64 (by omega) (by omega)];exact hQ ((bitsLen n*78913) / 2 ^ 18+1) (by omega)⟩
 ·unfold F249.Tf
  exact⟨0,rfl,by dsimp only;rw[wrap_i64 (by omega) (by omega)];exact hQ ((bitsLen n*78913) / 2 ^ 18+0) (by omega)⟩
theorem fb10_s{k c:Nat}{n:Int}(S:Rm24 h0 b h)(hk:k<=20)(hn:0<=n)(hQ:∀ h',Rm24 h0 b h'->Q (.tuple ⟨[]⟩) h'):F246.T ⟨some ⟨b,1,none⟩,k,c⟩ n h Q:=by
 unfold F246.T
 refine⟨λn1 n2 h1=>0<=n1/\(∃ i:Nat,n2=(i:Int)/\i<=k)/\Rm24 h0 b h1,λ_ n2 _=>n2.toNat,⟨hn,⟨k,rfl,Nat.le_refl _⟩,S⟩,?_⟩
 rintro n1 n2 h1 ⟨hn1,⟨i,rfl,hi⟩,S1⟩
 have tail:∀ (n3 n4:Int) (h10:Hp),(∃ j:Nat,n3=(j:Int)/\j<=k)->0<=n4->Rm24 h0 b h10->par ((2:Int)<=n3) ((100:Int)≠0/\(100:Int)≠0/\((0:Int)<=(wrap .u32 ((wrap .u32 ((Int.tmod n4 100)*2))+1))/\(wrap .u32 ((wrap .u32 ((Int.tmod n4 100)*2))+1))<(smalls8.size:Int))/\((0:Int)<=(wrap .u32 ((Int.tmod n4 100)*2))/\(wrap .u32 ((Int.tmod n4 100)*2))<(smalls8.size:Int))/\ix (some ⟨b,1,none⟩) (wrap .i64 (n3-1)) k λb8 o8=>st h10 b8 (o8+((wrap .i64 (n3-1))).toNat) 1 [.int .u8 (bt smalls8 (wrap .u32 ((wrap .u32 ((Int.tmod n4 100)*2))+1)))] λh11=>ix (some ⟨b,1,none⟩) (wrap .i64 (n3-2)) k λb9 o9=>st h11 b9 (o9+((wrap .i64 (n3-2))).toNat) 1 [.int .u8 (bt smalls8 (wrap .u32 ((Int.tmod n4 100)*2)))] λh12=>par ((0:Int)<(wrap .i64 (n3-2))) (ix (some ⟨b,1,none⟩) 0 k λb10 o10=>st h12 b10 (o10+(0:Int).toNat) 1 [.int .u8 (wrap .u8 (wrap .u32 (48+(wrap .u32 (Int.tdiv n4 100)))))] λh13=>Q (.tuple ⟨[]⟩) h13) (Q (.tuple ⟨[]⟩) h12)) (par ((0:Int)<n3) (ix (some ⟨b,1,none⟩) 0 k λb11 o11=>st h10 b11 (o11+(0:Int).toNat) 1 [.int .u8 (wrap .u8 (wrap .u32 (48+n4)))] λh14=>Q (.tuple ⟨[]⟩) h14) (Q (.tuple ⟨[]⟩) h10)):=by
  rintro n3 n4 h10 ⟨j,rfl,hj⟩ h4 S10
  refine⟨λh2=>?_,λh2=>⟨λh0'=>S10.ix ⟨by omega,by omega⟩ hk (byt_w _) λh' S'=>hQ h' S',λ_=>hQ _ S10⟩⟩
  have t1:=tm 100 h4 (by decide)
  have p1:=pl2 t1.1 t1.2
  have w1:wrap .i64 ((j:Int)-1)=(j:Int)-1:=wrap_i64 (by omega) (by omega)
  have w2:wrap .i64 ((j:Int)-2)=(j:Int)-2:=wrap_i64 (by omega) (by omega)
  rw[w1,w2]
  refine⟨by decide,by decide,p1.1,p1.2,S10.ix ⟨by omega,by omega⟩ hk (byt_bt _ _) λh11 S11=>S11.ix ⟨by omega,by omega⟩ hk (byt_bt _ _) λh12 S12=>⟨λh0'=>?_,λ_=>hQ _ S12⟩⟩
  exact S12.ix ⟨by omega,by omega⟩ hk (byt_w _) λh' S'=>hQ h' S'
 have ws:∀ m:Int,0<=m->m<=i->wrap .i64 ((i:Int)-m)=(i:Int)-m:=λm h8 hm=>wrap_i64 (by omega) (by omega)
 refine⟨λh8=>?_,λh8=>⟨λn3 n4 h'=>(∃ j:Nat,n3=(j:Int)/\j<=k)/\0<=n4/\Rm24 h0 b h',λn3 n4 h10 ⟨a1,a2,a3⟩=>tail n3 n4 h10 a1 a2 a3,λh4=>?_,λh4=>⟨⟨i,rfl,hi⟩,(w_rng32 _).1,S1⟩⟩⟩
 ·have q1:=ws 1 (by decide) (by omega)
  have q2:=ws 2 (by decide) (by omega)
  have q3:=ws 3 (by decide) (by omega)
  have q4:=ws 4 (by decide) (by omega)
  have q5:=ws 5 (by decide) (by omega)
  have q6:=ws 6 (by decide) (by omega)
  have q7:=ws 7 (by decide) (by omega)
  have q8:=ws 8 (by decide) (by omega)
  rw[q1,q2,q3,q4,q5,q6,q7,q8]
  have x0:=tm 100000000 hn1 (by decide)
  rw[w32 (x:=Int.tmod n1 100000000) x0.1 (by omega)]
  generalize Int.tmod n1 100000000=x at x0
  have a10:=tm 10000 x0.1 (by decide)
  have a32:=td (n:=10000) (k:=10000) x0.1 (by decide) (by omega)
  rw[w32 (x:=Int.tdiv x 10000) a32.1 (by omega)]
  generalize Int.tmod x 10000=y at a10
  generalize Int.tdiv x 10000=z at a32
  have b0:=tm 100 a10.1 (by decide)
  have b1:=td (n:=100) (k:=100) a10.1 (by decide) (by omega)
  have c0:=tm 100 a32.1 (by decide)
  have c1:=td (n:=100) (k:=100) a32.1 (by decide) (by omega)
  rw[w32 (x:=Int.tdiv y 100) b1.1 (by omega),w32 (x:=Int.tdiv z 100) c1.1 (by omega)]
  refine⟨by decide,by decide,by decide,by decide,by decide,by decide,by decide,by decide,(pl2 b0.1 b0.2).1,(pl2 b0.1 b0.2).2,S1.ix ⟨by omega,by omega⟩ hk (byt_bt _ _) λh2 S2=>S2.ix ⟨by omega,by omega⟩ hk (byt_bt _ _) λh3 S3=>⟨(pl2 b1.1 b1.2).1,(pl2 b1.1 b1.2).2,S3.ix ⟨by omega,by omega⟩ hk (byt_bt _ _) λh4 S4=>S4.ix ⟨by omega,by omega⟩ hk (byt_bt _ _) λh5 S5=>⟨(pl2 c0.1 c0.2).1,(pl2 c0.1 c0.2).2,S5.ix ⟨by omega,by omega⟩ hk (byt_bt _ _) λh6 S6=>S6.ix ⟨by omega,by omega⟩ hk (byt_bt _ _) λh7 S7=>⟨(pl2 c1.1 c1.2).1,(pl2 c1.1 c1.2).2,S7.ix ⟨by omega,by omega⟩ hk (byt_bt _ _) λh8 S8=>S8.ix ⟨by omega,by omega⟩ hk (byt_bt _ _) λh9 S9=>⟨⟨(w_rng64 _).1,⟨i-8,by omega,by omega⟩,S9⟩,by dsimp only;omega⟩⟩⟩⟩⟩
 ·have q1:=ws 1 (by decide) (by omega)
  have q2:=ws 2 (by decide) (by omega)
  have q3:=ws 3 (by decide) (by omega)
  have q4:=ws 4 (by decide) (by omega)
  rw[q1,q2,q3,q4]
  have x0:=w_rng32 n1
  generalize wrap .u32 n1=x at x0
  have a10:=tm 10000 x0.1 (by decide)
  generalize Int.tmod x 10000=y at a10
  have b0:=tm 100 a10.1 (by decide)
  have b1:=td (n:=100) (k:=100) a10.1 (by decide) (by omega)
  rw[w32 (x:=Int.tdiv y 100) b1.1 (by omega)]
  refine⟨by decide,by decide,by decide,by decide,(pl2 b0.1 b0.2).1,(pl2 b0.1 b0.2).2,S1.ix ⟨by omega,by omega⟩ hk (byt_bt _ _) λh2 S2=>S2.ix ⟨by omega,by omega⟩ hk (byt_bt _ _) λh3 S3=>⟨(pl2 b1.1 b1.2).1,(pl2 b1.1 b1.2).2,S3.ix ⟨by omega,by omega⟩ hk (byt_bt _ _) λh4 S4=>S4.ix ⟨by omega,by omega⟩ hk (byt_bt _ _) λh5 S5=>⟨⟨i-4,by omega,by omega⟩,(w_rng32 _).1,S5⟩⟩⟩
theorem itoa_s{n:Int}(T:TabP h)(hn:-9223372036854775808<=n/\n<9223372036854775808)(hQ:∀ h' s,Keep h h'->Q (.string s) h'):F216.T n h Q:=by
 unfold F216.T F216.G F233.T F233.G F241.T F241.G
 have back:∀ v h',(∀ s:ByteArray,v=.string s->Keep h h'->retT v λs=>retT (.string s) λs=>Q (.string s) h'):=λv h' s e K=>⟨s,e,s,rfl,hQ _ _ K⟩
 refine⟨λ_=>⟨λh'=>h'=h,?_,λh0'=>⟨λh100=>smalln_s ⟨h0',h100⟩ λs=>⟨s,rfl,s,rfl,s,rfl,hQ _ _ (Keep.refl h)⟩,λ_=>rfl⟩,λ_=>rfl⟩,λq=>absurd rfl q⟩
 rintro h1 rfl b hb
 have S0:Rm24 h1 b (h1.new b (.cells ⟨[.int .u8 0,.int .u8 0,.int .u8 0,.int .u8 0,.int .u8 0,.int .u8 0,.int .u8 0,.int .u8 0,.int .u8 0,.int .u8 0,.int .u8 0,.int .u8 0,.int .u8 0,.int .u8 0,.int .u8 0,.int .u8 0,.int .u8 0,.int .u8 0,.int .u8 0,.int .u8 0,.int .u8 0,.int .u8 0,.int .u8 0,.int .u8 0]⟩ 257 (0,0))):=by
  refine⟨Keep.new hb _,hb,⟨_,rfl,λv hv=>⟨0,?_⟩,by unfold Hp.new;rw[if_pos rfl]⟩⟩
  simp only[List.mem_cons,List.not_mem_nil,or_false,or_self] at hv
  exact hv
 generalize h1.new b _=h2 at S0
 have cut1:∀ d:Nat,d<=20->Sl.cut ⟨some ⟨b,0,none⟩,24,24⟩ 1 1 (((1+d:Nat)):Int) 24=⟨some ⟨b,1,none⟩,d,23⟩:=λd hd=>by
  unfold Sl.cut
  simp[Addr.add]
  omega
 have cut0':∀ d:Nat,d<=20->Sl.cut ⟨some ⟨b,0,none⟩,24,24⟩ 1 0 (((1+d:Nat)):Int) 24=⟨some ⟨b,0,none⟩,1+d,24⟩:=λd hd=>by
  unfold Sl.cut
  simp[Addr.add]
  omega
 have w1:∀ d:Nat,d<=20->wrap .i64 (1+(d:Int))=((1+d:Nat):Int):=λd hd=>by rw[wrap_i64 (by omega) (by omega)];omega
 have u64:∀ m:Int,0<=m->m<18446744073709551616->∀ (P:Value->Hp->Prop) (h:Hp),TabP h->(∀ d:Nat,d<=20->P (.int .i64 (d:Int)) h)->F245.T m h P:=λm h0 h1 P h T hP=>by
  obtain⟨k,rfl⟩:=Int.eq_ofNat_of_zero_le h0
  exact digits_s (by omega) T hP
 refine⟨λhneg=>?_,λhpos=>?_⟩
 ·refine u64 _ (w_rng64 _).1 (w_rng64 _).2 _ _ (T.keep S0.k) λd hd=>⟨_,rfl,?_⟩
  dsimp only
  rw[w1 d hd,cut1 d hd]
  refine⟨⟨by decide,by omega,by omega,Int.le_refl 24⟩,fb10_s S0 hd (w_rng64 _).1 λh4 S4=>⟨λ_=>⟨⟨by decide,by decide⟩,?_⟩,λq=>absurd hneg q⟩⟩
  obtain⟨w,S5⟩:=S4.wr (o:=0) (by decide) (v:=.int .u8 45) (λv hv=>⟨45,mem_singleton.1 hv⟩)
  refine⟨w,⟨by decide,by omega,by omega,Int.le_refl 24⟩,?_⟩
  rw[cut0' d hd]
  obtain⟨s,hs⟩:=S5.row (o:=0) (n:=1+d) (by omega)
  exact⟨s,hs,s,rfl,s,rfl,hQ _ _ S5.k⟩
 ·refine u64 _ (w_rng64 _).1 (w_rng64 _).2 _ _ (T.keep S0.k) λd hd=>⟨_,rfl,?_⟩
  dsimp only
  rw[w1 d hd,cut1 d hd]
  refine⟨⟨by decide,by omega,by omega,Int.le_refl 24⟩,fb10_s S0 hd (w_rng64 _).1 λh4 S4=>⟨λq=>absurd q hpos,λ_=>⟨⟨by decide,by omega,by omega,Int.le_refl 24⟩,?_⟩⟩⟩
  obtain⟨s,hs⟩:=S4.row (o:=1) (n:=d) (by omega)
  exact⟨s,hs,s,rfl,s,rfl,hQ _ _ S4.k⟩
end
end Go.Eng.YtbjnlacacapjiaaGreatDoor
end
