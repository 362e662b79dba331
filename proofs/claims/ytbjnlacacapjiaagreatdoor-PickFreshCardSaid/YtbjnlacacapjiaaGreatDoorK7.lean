/-
  TEXTS OF MINE, JOINED: BK9 YB0 PKA YP1 YP2 YP3.
-/
import Derived.Test.YtbjnlacacapjiaaGreatDoorK6
import Derived.Test.YtbjnlacacapjiaaGreatDoorK2
import Derived.Test.YtbjnlacacapjiaaGreatDoorProg
import Derived.Test.YtbjnlacacapjiaaGreatDoorK5
set_option linter.unusedSimpArgs false
set_option linter.unusedVariables false
section
namespace Go.Eng
structure KI where
 c:Nat
 tL:Nat
 sz:Nat
 t:Nat
 bytes:Nat
 KD:Nat→Value→Prop
theorem kA3 (c f:Nat):(kA c f).1≠3:=show (1:Nat)≠3 by decide
theorem kL3 (c f:Nat):(kL c f).1≠3:=show (2:Nat)≠3 by decide
theorem kO3 (c f:Nat):(kO c f).1≠3:=show (4:Nat)≠3 by decide
def KX (g:Hp) (m:Mem) (cs:List Value) (k:KI) (N:Nat) (z:Prop):Prop:=∃ (kept:List WL) (fr:List FR) (outs:List (Sl×Sl)),KE g m cs k.KD k.c (4+9*k.c) k.tL k.sz k.t k.bytes kept fr outs∧(∀ w∈kept,WOk g m k.KD k.c k.sz k.t k.bytes w)∧(kept.map (·.id)++fr.map (·.id)).Nodup∧NoO m k.c∧2*kept.length+fr.length+outs.length≤2*N∧(∀ i,i∈kept.map (·.id)++fr.map (·.id)→i < N)∧(∀ i,N≤i→m (kL k.c i)=none)∧(∃ n:Int,cs[4+9*k.c+8]?=some (.int .i64 n))∧(z→fr=[])
theorem KX.cong {g g':Hp} {m m':Mem} {cs cs':List Value} {k:KI} {N N':Nat} {z z':Prop} (X:KX g m cs k N z) (K:Keep g g') (hN:N≤N') (hz:z'→z) (hA:∀ f,m' (kA k.c f)=m (kA k.c f)) (hL:∀ f,m' (kL k.c f)=m (kL k.c f)) (hO:∀ f,m' (kO k.c f)=m (kO k.c f)) (hc:∀ f,f < 9→cs'[4+9*k.c+f]?=cs[4+9*k.c+f]?):KX g' m' cs' k N' z':=by
 obtain ⟨kept,fr,outs,E,W,nd,ko,x1,x2,x3,x4,x5⟩:=X
 exact ⟨kept,fr,outs,E.cong K hA (fun f _=>hL _) (fun f hf=>hc f (by omega)),fun w hw=>(W w hw).keep K (hL _),nd,⟨by rw [hO]; exact ko.1,by rw [hO]; exact ko.2.1,by rw [hO]; exact ko.2.2.1,by rw [hO]; exact ko.2.2.2⟩,by omega,fun i hi=>Nat.lt_of_lt_of_le (x2 i hi) hN,fun i hi=>by rw [hL]; exact x3 i (by omega),by rw [hc 8 (by decide)]; exact x4,fun h=>x5 (hz h)⟩
structure BkM (ks:List KI) (N:Nat) (Z:Nat→Prop) (pb R tB:Nat) (d:Int) (g:Hp) (u:Mem) (h:Hp) (m:Mem) (cs:List Value):Prop where
 O:Mine g h m
 hb:m kB=some (bkF pb R tB cs)
 kt:m kT=none
 c0:cs[0]?=some (.bool false)
 c1:cs[1]?=some (.bool false)
 c2:∃ turn:Int,cs[2]?=some (.int .i64 turn)
 c3:cs[3]?=some (.int .i64 d)
 nn:∀ c,c < 19→(∀ k∈ks,k.c≠c)→NoK cs (4+9*c)
 kk:∀ k∈ks,KX g m cs k N (Z k.c)
 dk:∀ k∈ks,∀ k'∈ks,k.c=k'.c→k=k'
 uu:∀ j:Key,j.1=3→m j=u j
theorem BkM.step {ks:List KI} {N N':Nat} {Z Z':Nat→Prop} {pb R tB:Nat} {d d':Int} {g g':Hp} {u u':Mem} {h h':Hp} {m m':Mem} {cs cs':List Value} {k:KI} (B:BkM ks N Z pb R tB d g u h m cs) (hk:k∈ks) (Kg:Keep g g') (O':Mine g' h' m') (hb':m' kB=some (bkF pb R tB cs')) (kt':m' kT=none) (X:KX g' m' cs' k N' (Z' k.c)) (hN:N≤N') (hZ:∀ c,c≠k.c→Z' c→Z c)
  (hm:∀ j:Key,j≠kB→j.1≠3→(∀ f,j≠kA k.c f)→(∀ f,j≠kO k.c f)→(∀ i,j≠kL k.c i)→m' j=m j) (hu:∀ j:Key,j.1=3→m' j=u' j) (hc:∀ i,i≠3→(∀ f,f < 9→i≠4+9*k.c+f)→cs'[i]?=cs[i]?) (c3':cs'[3]?=some (.int .i64 d')):BkM ks N' Z' pb R tB d' g' u' h' m' cs':=by
 refine ⟨O',hb',kt',by rw [hc _ (by decide) (fun f _=>by omega)]; exact B.c0,by rw [hc _ (by decide) (fun f _=>by omega)]; exact B.c1,by rw [hc _ (by decide) (fun f _=>by omega)]; exact B.c2,c3',fun c h19 hcc f hf=>?_,fun k' hk'=>?_,B.dk,hu⟩
 ·have:k.c≠c:=hcc k hk
  rw [hc _ (by omega) (fun f' _=>by omega)]
  exact B.nn c h19 hcc f hf
 ·by_cases e:k'.c=k.c
  ·rw [B.dk k' hk' k hk e]; exact X
  ·exact (B.kk k' hk').cong Kg hN (hZ _ e) (fun f=>hm _ (kA_kB _ _) (kA3 _ _) (fun f' q=>e (by unfold kA at q; simp only [Prod.mk.injEq] at q; exact q.2.1)) (fun f' q=>by cases q) (fun f' q=>by cases q)) (fun f=>hm _ (kL_kB _ _) (kL3 _ _) (fun f' q=>by cases q) (fun f' q=>by cases q) (fun f' q=>e (by unfold kL at q; simp only [Prod.mk.injEq] at q; exact q.2.1))) (fun f=>hm _ (kO_kB _ _) (kO3 _ _) (fun f' q=>by cases q) (fun f' q=>e (by unfold kO at q; simp only [Prod.mk.injEq] at q; exact q.2.1)) (fun f' q=>by cases q)) (fun f hf=>hc _ (by omega) (fun f' _=>by omega))
def Bk (ks:List KI) (N:Nat) (Z:Nat→Prop) (pb R tB:Nat) (d:Int) (g0:Hp) (u:Mem) (h:Hp):Prop:=∃ g m cs,Keep g0 g∧BkM ks N Z pb R tB d g u h m cs
section
variable {ks:List KI} {N:Nat} {Z:Nat→Prop} {pb R tB:Nat} {d:Int} {g0:Hp} {u:Mem} {h:Hp} {k:KI} {Q:Value→Hp→Prop} {zs:List Value}
theorem Bk.keep (B:Bk ks N Z pb R tB d g0 u h):Keep g0 h:=by
 obtain ⟨g,m,cs,K,M⟩:=B
 exact K.trans M.O.keep
theorem Bk.mono {Z':Nat→Prop} (B:Bk ks N Z pb R tB d g0 u h) (hZ:∀ k∈ks,Z' k.c→Z k.c):Bk ks N Z' pb R tB d g0 u h:=by
 obtain ⟨g,m,cs,K,M⟩:=B
 exact ⟨g,m,cs,K,M.O,M.hb,M.kt,M.c0,M.c1,M.c2,M.c3,M.nn,fun k hk=>(M.kk k hk).cong (Keep.refl g) (Nat.le_refl _) (hZ k hk) (fun _=>rfl) (fun _=>rfl) (fun _=>rfl) (fun _ _=>rfl),M.dk,M.uu⟩
theorem Bk.keepH {h':Hp} (B:Bk ks N Z pb R tB d g0 u h) (K':Keep h h'):Bk ks N Z pb R tB d g0 u h':=by
 obtain ⟨g,m,cs,K,M⟩:=B
 exact ⟨g,m,cs,K,M.O.keepH K',M.hb,M.kt,M.c0,M.c1,M.c2,M.c3,M.nn,M.kk,M.dk,M.uu⟩
def kU (a b:Nat):Key:=(3,a,b)
theorem Bk.own {h':Hp} {a b:Nat} {s:Sl} {sz t:Nat} {vs:List Value} (B:Bk ks N Z pb R tB d g0 u h) (hu:u (kU a b)=none) (K':Keep h h') (hN:NewB h s) (hB:Buf h' s sz t vs):Bk ks N Z pb R tB d g0 (u.put (kU a b) ⟨s,sz,t,vs⟩) h':=by
 obtain ⟨g,m,cs,K,M⟩:=B
 have ne:∀ j:Key,j.1≠3→(m.put (kU a b) ⟨s,sz,t,vs⟩) j=m j:=fun j hj=>put_ne _ _ (fun q=>hj (by rw [q]; rfl))
 refine ⟨g,m.put (kU a b) ⟨s,sz,t,vs⟩,cs,K,M.O.add (by rw [M.uu _ rfl]; exact hu) K' hN hB,by rw [ne _ (by decide)]; exact M.hb,by rw [ne _ (by decide)]; exact M.kt,M.c0,M.c1,M.c2,M.c3,M.nn,fun k hk=>(M.kk k hk).cong (Keep.refl g) (Nat.le_refl _) id (fun _=>ne _ (kA3 _ _)) (fun _=>ne _ (kL3 _ _)) (fun _=>ne _ (kO3 _ _)) (fun _ _=>rfl),M.dk,fun j hj=>?_⟩
 by_cases e:j=kU a b
 ·rw [e,put_self,put_self]
 ·rw [put_ne _ _ e,put_ne _ _ e]; exact M.uu j hj
theorem Bk.buf {a b:Nat} {x:Bf} (B:Bk ks N Z pb R tB d g0 u h) (hu:u (kU a b)=some x):Buf h x.s x.sz x.t x.vs:=by
 obtain ⟨g,m,cs,K,M⟩:=B
 exact M.O.buf (kU a b) x (by rw [M.uu _ rfl]; exact hu)
theorem Bk.nilMark {c:Nat} {s:Nat} (es:s=4+9*c) (B:Bk ks N Z pb R tB d g0 u h) (hc:c < 19) (hk:∀ k∈ks,k.c≠c) (hQ:Q (.tuple ⟨[]⟩) h):nilMarkT pb s h Q:=by
 subst es
 obtain ⟨g,m,cs,K,M⟩:=B
 exact nil_mark M.O M.hb (M.nn c hc hk) hQ
theorem Bk.nilGrow {c:Nat} {s:Nat} (es:s=4+9*c) (B:Bk ks N Z pb R tB d g0 u h) (hc:c < 19) (hk:∀ k∈ks,k.c≠c) (hQ:∀ h',Bk ks N Z pb R tB d g0 u h'→Q (.tuple ⟨[]⟩) h'):nilGrowT pb s h Q:=by
 subst es
 obtain ⟨g,m,cs,K,M⟩:=B
 exact nil_grow M.O M.hb (M.nn c hc hk) fun h' O'=>hQ h' ⟨g,m,cs,K,O',M.hb,M.kt,M.c0,M.c1,M.c2,M.c3,M.nn,M.kk,M.dk,M.uu⟩
theorem Bk.nilKeep {c:Nat} {s:Nat} (es:s=4+9*c) (B:Bk ks N Z pb R tB d g0 u h) (hc:c < 19) (hk:∀ k∈ks,k.c≠c) (hQ:Q (.bool true) h):nilKeepT pb s h Q:=by
 subst es
 obtain ⟨g,m,cs,K,M⟩:=B
 exact nil_keep M.O M.hb (M.nn c hc hk) hQ
theorem Bk.mark {s:Nat} (es:s=4+9*k.c) {S:Sl→Sl→Hp→(Value→Hp→Prop)→Prop} {OF:Int→Nat} {MK:Int→Int→List Value} (hk:k∈ks) (B:Bk ks N Z pb R tB d g0 u h) (hN:N≤500000) (hS:∀ l l' (h:Hp) vs K,Cols k.KD k.sz vs→h.row l.a (l.n*k.sz) vs→h.row l'.a (l'.n*k.sz) vs→l.n=l'.n→l.n≤140737488355328→K (.bool true) h→S l l' h K)
  (hsz:0 < k.sz) (hOF:∀ i:Nat,OF (i:Int)=i*k.sz) (hmk:∀ a i,(MK a i).length=k.sz) (hmo:∀ a i,Cols k.KD k.sz (MK a i)) (hKD:∀ c v,k.KD c v→Value.oneCell' v=true) (hz:zs.length=k.sz) (hby:0 < k.bytes) (hQ:∀ h',Bk ks N (fun _=>False) pb R tB d g0 u h'→Q (.tuple ⟨[]⟩) h'):markT pb s k.tL k.t k.sz k.bytes zs OF MK S h Q:=by
 subst es
 obtain ⟨g,m,cs,K,M⟩:=B
 obtain ⟨kept,fr,outs,E,W,nd,ko,x1,x2,x3,x4,x5⟩:=M.kk k hk
 obtain ⟨turn,c2⟩:=M.c2
 refine mark_k hS hsz hOF hmk hmo hKD hz (by omega) hby M.O M.hb M.kt ko M.c0 M.c1 c2 E W nd (by omega) (by omega) (by omega) fun h' g' m' cs' kept' fr' outs' Kg O' hb' kt' ko' E' W' nd' hid hl ho hm hc=>hQ h' ⟨g',m',cs',K.trans Kg,M.step hk Kg O' hb' kt' ⟨kept',fr',outs',E',W',nd',ko',by omega,fun i hi=>?_,fun i hi=>?_,?_,fun q=>q.elim⟩ (Nat.le_refl _) (fun _ _ q=>q.elim) (fun j h1 _ h2 h3 h4=>hm j h1 h2 h3 (fun w _=>h4 _)) (fun j hj=>?_) (fun i h3 hi=>hc i fun f hf=>hi f (by omega)) ?_⟩
 ·have:=hid i hi
  exact x2 i this
 ·rw [hm _ (kL_kB _ _) (fun _=>kL_kA _ _ _ _) (fun _=>Ne.symm (kO_kL _ _ _ _)) (fun w hw q=>?_)]
  ·exact x3 i hi
  ·have q2:i=w.id:=by unfold kL at q; simpa using q
   have:=x2 w.id (List.mem_append_left _ (List.mem_map_of_mem (f:=fun x:WL=>x.id) hw))
   omega
 ·rw [hc _ (fun f hf=>by omega)]; exact x4
 ·rw [hm j (fun q=>by rw [q] at hj; cases hj) (fun f q=>by rw [q] at hj; cases hj) (fun f q=>by rw [q] at hj; cases hj) (fun w _ q=>by rw [q] at hj; cases hj)]
  exact M.uu j hj
 ·rw [hc _ (fun f hf=>by omega)]; exact M.c3
theorem Bk.grow {s:Nat} (es:s=4+9*k.c) {MK:Int→Int→List Value} (hk:k∈ks) (B:Bk ks N Z pb R tB d g0 u h) (hN:N≤500000) (hmk:∀ a i,(MK a i).length=k.sz) (hmo:∀ a i,Cols k.KD k.sz (MK a i)) (hKD:∀ c v,k.KD c v→Value.oneCell' v=true) (hby:0 < k.bytes) (hz:zs.length=k.sz) (hQ:∀ h',Bk ks N (fun c=>Z c∨c=k.c) pb R tB d g0 u h'→Q (.tuple ⟨[]⟩) h'):growT pb s k.tL k.t k.sz k.bytes zs MK h Q:=by
 subst es
 obtain ⟨g,m,cs,K,M⟩:=B
 obtain ⟨kept,fr,outs,E,W,nd,ko,x1,x2,x3,x4,x5⟩:=M.kk k hk
 obtain ⟨A4,m4,e4⟩:=E.a4
 obtain ⟨A7,m7,e7⟩:=E.a7
 have ndf:(fr.map (·.id)).Nodup:=(List.nodup_append.1 nd).2.1
 have G:GrS g m cs k.KD pb R tB k.c (4+9*k.c) k.tL k.sz k.t k.bytes A4 A7 fr fr outs:=⟨M.hb,M.kt,E.a0,E.a1,⟨m4,e4⟩,⟨m7,e7⟩,E.f,ndf,E.o⟩
 refine grow_k M.O G hmk hmo hKD hby hz (by omega) (by omega) fun h' g' m' cs' outs' Kg O' hb' kt' a0 a1 z4 z7 ho hl hm hc=>?_
 have O2:=(((O'.del (kA k.c 4)).nil (k:=kA k.c 4) (del_self _ _) 1 k.tL).del (kA k.c 7)).nil (k:=kA k.c 7) (del_self _ _) 1 3
 have ne:∀ j,j≠kA k.c 4→j≠kA k.c 7→(((((m'.del (kA k.c 4)).put (kA k.c 4) ⟨⟨none,0,0⟩,1,k.tL,[]⟩).del (kA k.c 7)).put (kA k.c 7) ⟨⟨none,0,0⟩,1,3,[]⟩)) j=m' j:=fun j h4 h7=>by rw [put_ne _ _ h7,del_ne _ h7,put_ne _ _ h4,del_ne _ h4]
 have v4:(((((m'.del (kA k.c 4)).put (kA k.c 4) ⟨⟨none,0,0⟩,1,k.tL,[]⟩).del (kA k.c 7)).put (kA k.c 7) ⟨⟨none,0,0⟩,1,3,[]⟩)) (kA k.c 4)=some ⟨⟨none,0,0⟩,1,k.tL,[]⟩:=by rw [put_ne _ _ (kA_ne (by decide)),del_ne _ (kA_ne (by decide)),put_self]
 have v7:=put_self (((m'.del (kA k.c 4)).put (kA k.c 4) ⟨⟨none,0,0⟩,1,k.tL,[]⟩).del (kA k.c 7)) (kA k.c 7) ⟨⟨none,0,0⟩,1,3,[]⟩
 generalize ((((m'.del (kA k.c 4)).put (kA k.c 4) ⟨⟨none,0,0⟩,1,k.tL,[]⟩).del (kA k.c 7)).put (kA k.c 7) ⟨⟨none,0,0⟩,1,3,[]⟩)=m2 at O2 ne v4 v7
 have oth:∀ f,f≠0→f≠1→f≠4→f≠7→m2 (kA k.c f)=m (kA k.c f):=fun f h0 h1 h4 h7=>by rw [ne _ (kA_ne h4) (kA_ne h7),hm _ (kA_kB _ _) (kA_ne h0) (kA_ne h1) (fun f _=>Ne.symm (kL_kA _ _ _ _))]
 have oL:∀ i,(∀ f∈fr,f.id≠i)→m2 (kL k.c i)=m (kL k.c i):=fun i hi=>by rw [ne _ (kL_kA _ _ _ _) (kL_kA _ _ _ _),hm _ (kL_kB _ _) (kL_kA _ _ _ _) (kL_kA _ _ _ _) (fun f hf q=>hi f hf (by unfold kL at q; simp only [Prod.mk.injEq] at q; exact q.2.2.symm))]
 have ap:∀ w∈kept,∀ f∈fr,f.id≠w.id:=fun w hw f hf q=>(List.nodup_append.1 nd).2.2 _ (List.mem_map_of_mem (f:=fun x:WL=>x.id) hw) _ (List.mem_map_of_mem (f:=fun x:FR=>x.id) hf) q.symm
 have oO:∀ i,m2 (kO k.c i)=m (kO k.c i):=fun i=>by rw [ne _ (kO_kA _ _ _ _) (kO_kA _ _ _ _),hm _ (kO_kB _ _) (kO_kA _ _ _ _) (kO_kA _ _ _ _) (fun f _=>kO_kL _ _ _ _)]
 have cc:∀ f,f≠0→f≠1→f≠4→f≠7→cs'[4+9*k.c+f]?=cs[4+9*k.c+f]?:=fun f h0 h1 h4 h7=>hc _ (by omega) (by omega) (by omega) (by omega)
 refine hQ h' ⟨g',m2,cs',K.trans Kg,M.step hk Kg O2 ?_ ?_ ⟨kept,[],outs',⟨?_,?_,?_,?_,?_,?_,?_,?_,fun f hf=>(by cases hf),fun p hp=>.inl (ho p hp)⟩,fun w hw=>(W w hw).keep Kg (oL _ (ap w hw)),?_,⟨by rw [oO]; exact ko.1,by rw [oO]; exact ko.2.1,by rw [oO]; exact ko.2.2.1,by rw [oO]; exact ko.2.2.2⟩,by rw [List.length_nil]; omega,fun i hi=>x2 i ?_,fun i hi=>?_,?_,fun _=>rfl⟩ (Nat.le_refl _) (fun c hcc q=>q.resolve_right hcc) (fun j h1 h3 h2 h5 h4=>?_) (fun j hj=>?_) (fun i h3 hi=>hc i (hi 0 (by decide)) (hi 1 (by decide)) (hi 4 (by decide)) (hi 7 (by decide))) ?_⟩
 ·rw [ne _ (Ne.symm (kA_kB _ _)) (Ne.symm (kA_kB _ _))]; exact hb'
 ·rw [ne _ (fun q=>by cases q) (fun q=>by cases q)]; exact kt'
 ·rw [ne _ (kA_ne (by decide)) (kA_ne (by decide))]; exact a0
 ·rw [ne _ (kA_ne (by decide)) (kA_ne (by decide))]; exact a1
 ·rw [oth _ (by decide) (by decide) (by decide) (by decide),cc _ (by decide) (by decide) (by decide) (by decide)]; exact E.a2
 ·rw [oth _ (by decide) (by decide) (by decide) (by decide),cc _ (by decide) (by decide) (by decide) (by decide)]; exact E.a3
 ·exact ⟨_,v4,z4⟩
 ·rw [oth _ (by decide) (by decide) (by decide) (by decide),cc _ (by decide) (by decide) (by decide) (by decide)]; exact E.a5
 ·rw [oth _ (by decide) (by decide) (by decide) (by decide),cc _ (by decide) (by decide) (by decide) (by decide)]; exact E.a6
 ·exact ⟨_,v7,z7⟩
 ·rw [List.map_nil,List.append_nil]; exact (List.nodup_append.1 nd).1
 ·rw [List.map_nil,List.append_nil] at hi; exact List.mem_append_left _ hi
 ·rw [oL _ (fun f hf q=>?_)]
  ·exact x3 i hi
  ·have:=x2 f.id (List.mem_append_right _ (List.mem_map_of_mem (f:=fun x:FR=>x.id) hf))
   omega
 ·rw [cc _ (by decide) (by decide) (by decide) (by decide)]; exact x4
 ·rw [ne _ (h2 _) (h2 _),hm _ h1 (h2 _) (h2 _) (fun f _=>h4 _)]
 ·rw [ne _ (fun q=>by rw [q] at hj; cases hj) (fun q=>by rw [q] at hj; cases hj),hm _ (fun q=>by rw [q] at hj; cases hj) (fun q=>by rw [q] at hj; cases hj) (fun q=>by rw [q] at hj; cases hj) (fun f _ q=>by rw [q] at hj; cases hj)]
  exact M.uu j hj
 ·rw [hc _ (by omega) (by omega) (by omega) (by omega)]; exact M.c3
theorem Bk.hold {s:Nat} (es:s=4+9*k.c) (hby:0 < k.bytes) {S:Sl→Sl→Hp→(Value→Hp→Prop)→Prop} (hk:k∈ks) (hS:∀ l l' (h:Hp) vs K,Cols k.KD k.sz vs→h.row l.a (l.n*k.sz) vs→h.row l'.a (l'.n*k.sz) vs→l.n=l'.n→l.n≤140737488355328→K (.bool true) h→S l l' h K) (B:Bk ks N Z pb R tB d g0 u h) (hN:N≤500000) (hZ:Z k.c) (hQ:Q (.bool true) h):holdT pb s S h Q:=by
 subst es
 obtain ⟨g,m,cs,K,M⟩:=B
 obtain ⟨kept,fr,outs,E,W,nd,ko,x1,x2,x3,x4,x5⟩:=M.kk k hk
 have:=x5 hZ
 subst this
 obtain ⟨A0,p0,q0⟩:=E.a0
 obtain ⟨A1,p1,q1⟩:=E.a1
 obtain ⟨A2,p2,q2⟩:=E.a2
 obtain ⟨A3,p3,q3⟩:=E.a3
 refine hold_k (KD:=k.KD) (c:=k.c) (ws:=kept) (outs:=outs) hS M.O M.hb (by rw [List.map_map]; exact p0) q0 (by rw [List.map_map]; exact p1) q1 (by rw [List.map_map]; exact p2) q2 (by rw [List.map_map]; exact p3) q3 (fun p hp=>?_) (fun w hw=>?_) (by omega) (by omega) hQ
 ·rcases E.o p hp with h | ⟨f,hf,_⟩
  ·exact h
  ·cases hf
 ·obtain ⟨a1,a2,a3,a4,a5⟩:=W w hw
  exact ⟨a2,(M.O.buf _ _ a1).row,a4,a5,Nat.le_trans (Nat.le_add_right _ 30) (Nat.le_trans (Nat.le_mul_of_pos_right _ hby) a3)⟩
theorem Bk.add {s:Nat} (es:s=4+9*k.c) {a b:Nat} {l:Sl} {vs:List Value} {mark:Int} {U:Int→Hp→(Value→Hp→Prop)→Prop} {D:Hp→(Value→Hp→Prop)→Prop} (hk:k∈ks) (B:Bk ks N Z pb R tB d g0 u h) (hN:N≤500000) (hu:u (kU a b)=some ⟨l,k.sz,k.t,vs⟩) (hv:Cols k.KD k.sz vs) (hKD:∀ c v,k.KD c v→Value.oneCell' v=true) (hz:zs.length=k.sz) (hn:(l.n+30)*k.bytes≤140737488355328)
  (hU:∀ (turn n:Int) h9 K,h9.at pb (0+0)=some (.bool false)→h9.at pb (0+2)=some (.int .i64 turn)→(∀ d,K (.int .i64 d) h9)→U n h9 K)
  (hD:∀ h' Q,Bk ks (N+1) Z pb R tB (IntKind.wrap .i64 (d+1)) g0 (u.del (kU a b)) h'→(∀ h'',Bk ks (N+1) Z pb R tB d g0 (u.del (kU a b)) h''→Q (.tuple ⟨[]⟩) h'')→D h' Q)
  (hQ:∀ h',Bk ks (N+1) Z pb R tB d g0 (u.del (kU a b)) h'→Q (.tuple ⟨[]⟩) h'):addT pb s k.tL k.t k.sz k.bytes zs l mark U D h Q:=by
 subst es
 obtain ⟨g,m,cs,K,M⟩:=B
 obtain ⟨kept,fr,outs,E,W,nd,ko,x1,x2,x3,⟨seen,x4⟩,x5⟩:=M.kk k hk
 obtain ⟨turn,c2⟩:=M.c2
 obtain ⟨A2,m2,e2⟩:=E.a2
 obtain ⟨A3,m3,e3⟩:=E.a3
 obtain ⟨A5,m5,e5⟩:=E.a5
 obtain ⟨A6,m6,e6⟩:=E.a6
 have O1:=M.O.move (k:=kU a b) (k':=kL k.c N) (by rw [M.uu _ rfl]; exact hu) (x3 N (Nat.le_refl _))
 have ne:∀ j:Key,j.1≠3→j≠kL k.c N→((m.del (kU a b)).put (kL k.c N) ⟨l,k.sz,k.t,vs⟩) j=m j:=fun j h1 h2=>by rw [put_ne _ _ h2,del_ne _ (fun q=>h1 (by rw [q]; rfl))]
 have lt:∀ i,i∈kept.map (·.id)++fr.map (·.id)→i≠N:=fun i hi=>by have:=x2 i hi; omega
 have un:∀ j:Key,j.1=3→((m.del (kU a b)).put (kL k.c N) ⟨l,k.sz,k.t,vs⟩) j=(u.del (kU a b)) j:=fun j hj=>by
  rw [put_ne _ _ (fun q=>by rw [q] at hj; cases hj)]
  by_cases e:j=kU a b
  ·rw [e,del_self,del_self]
  ·rw [del_ne _ e,del_ne _ e]; exact M.uu j hj
 have hl:=put_self (m.del (kU a b)) (kL k.c N) ⟨l,k.sz,k.t,vs⟩
 generalize (m.del (kU a b)).put (kL k.c N) ⟨l,k.sz,k.t,vs⟩=m1 at O1 ne un hl
 have hn':l.n*k.bytes≤140737488355328:=Nat.le_trans (Nat.mul_le_mul_right _ (by omega)) hn
 refine add_k (c:=k.c) (id:=N) (turn:=turn) (hU turn) O1 (by rw [ne _ (by decide) (Ne.symm (kL_kB _ _))]; exact M.hb) (by rw [ne _ (by decide) (fun q=>by cases q)]; exact M.kt) (by omega) M.c0 c2 M.c3 x4 (by rw [ne _ (kA3 _ _) (Ne.symm (kL_kA _ _ _ _))]; exact m2) e2 (by rw [ne _ (kA3 _ _) (Ne.symm (kL_kA _ _ _ _))]; exact m3) e3 (by rw [ne _ (kA3 _ _) (Ne.symm (kL_kA _ _ _ _))]; exact m5) e5 (by rw [ne _ (kA3 _ _) (Ne.symm (kL_kA _ _ _ _))]; exact m6) e6 (by rw [List.length_map]; omega) (by rw [List.length_map]; omega) (by rw [List.length_map]; omega) (by rw [List.length_map]; omega) hl (hv.one hKD) hz hn' fun h' g' m' cs' nt due Kg O' hb' X rnt hnt=>hD h' _ ?_ fun h'' B''=>hQ h'' B''
 have XA:∀ f,f≠2→f≠3→f≠5→f≠6→m' (kA k.c f)=m (kA k.c f):=fun f h2 h3 h5 h6=>by rw [X.mem _ (kA_kB _ _) (kA_ne h2) (kA_ne h3) (kA_ne h5) (kA_ne h6),ne _ (kA3 _ _) (Ne.symm (kL_kA _ _ _ _))]
 have XL:∀ i,i≠N→m' (kL k.c i)=m (kL k.c i):=fun i hi=>by rw [X.mem _ (kL_kB _ _) (kL_kA _ _ _ _) (kL_kA _ _ _ _) (kL_kA _ _ _ _) (kL_kA _ _ _ _),ne _ (kL3 _ _) (fun q=>hi (by unfold kL at q; simpa using q))]
 have XO:∀ i,m' (kO k.c i)=m (kO k.c i):=fun i=>by rw [X.mem _ (kO_kB _ _) (kO_kA _ _ _ _) (kO_kA _ _ _ _) (kO_kA _ _ _ _) (kO_kA _ _ _ _),ne _ (kO3 _ _) (kO_kL _ _ _ _)]
 have cc:∀ f,f≠2→f≠3→f≠5→f≠6→f≠8→cs'[4+9*k.c+f]?=cs[4+9*k.c+f]?:=fun f h2 h3 h5 h6 h8=>X.rest _ (by omega) (by omega) (by omega) (by omega) (by omega) (by omega)
 refine ⟨g',m',cs',K.trans Kg,M.step hk Kg O' hb' ?_ ⟨kept++[⟨N,l,nt,vs,mark,due⟩],fr,outs,⟨?_,?_,by rw [List.map_append]; exact X.a2,by rw [List.map_append]; exact X.a3,?_,by rw [List.map_append]; exact X.a5,by rw [List.map_append]; exact X.a6,?_,fun f hf=>(E.f f hf).keep Kg (XL _ (lt _ (List.mem_append_right _ (List.mem_map_of_mem (f:=fun x:FR=>x.id) hf)))),fun p hp=>(E.o p hp).imp (Fz.keep Kg) id⟩,fun w hw=>?_,?_,⟨by rw [XO]; exact ko.1,by rw [XO]; exact ko.2.1,by rw [XO]; exact ko.2.2.1,by rw [XO]; exact ko.2.2.2⟩,by rw [List.length_append,List.length_singleton]; omega,fun i hi=>?_,fun i hi=>by rw [XL _ (by omega)]; exact x3 i (by omega),⟨_,X.seen⟩,x5⟩ (by omega) (fun c _ q=>q) (fun j h1 h3 h2 h5 h4=>?_) (fun j hj=>?_) (fun i h3 hi=>X.rest i h3 (hi 2 (by decide)) (hi 3 (by decide)) (hi 5 (by decide)) (hi 6 (by decide)) (hi 8 (by decide))) X.deep⟩
 ·rw [X.mem _ (fun q=>by cases q) (fun q=>by cases q) (fun q=>by cases q) (fun q=>by cases q) (fun q=>by cases q),ne _ (by decide) (fun q=>by cases q)]; exact M.kt
 ·rw [XA _ (by decide) (by decide) (by decide) (by decide),cc _ (by decide) (by decide) (by decide) (by decide) (by decide)]; exact E.a0
 ·rw [XA _ (by decide) (by decide) (by decide) (by decide),cc _ (by decide) (by decide) (by decide) (by decide) (by decide)]; exact E.a1
 ·rw [XA _ (by decide) (by decide) (by decide) (by decide),cc _ (by decide) (by decide) (by decide) (by decide) (by decide)]; exact E.a4
 ·rw [XA _ (by decide) (by decide) (by decide) (by decide),cc _ (by decide) (by decide) (by decide) (by decide) (by decide)]; exact E.a7
 ·rcases List.mem_append.1 hw with hw | hw
  ·exact (W w hw).keep Kg (XL _ (lt _ (List.mem_append_left _ (List.mem_map_of_mem (f:=fun x:WL=>x.id) hw))))
  ·rw [List.mem_singleton] at hw
   subst hw
   exact ⟨by rw [X.mem _ (kL_kB _ _) (kL_kA _ _ _ _) (kL_kA _ _ _ _) (kL_kA _ _ _ _) (kL_kA _ _ _ _)]; exact hl,hv,hn,rnt,hnt.symm⟩
 ·rw [List.map_append,show kept.map (·.id)++List.map (·.id) [(⟨N,l,nt,vs,mark,due⟩:WL)]++fr.map (·.id)=kept.map (·.id)++N::fr.map (·.id) by simp]
  exact (List.perm_middle.nodup_iff).2 (List.nodup_cons.2 ⟨fun q=>lt N q rfl,nd⟩)
 ·simp only [List.map_append,List.mem_append,List.map_cons,List.map_nil,List.mem_singleton] at hi x2
  rcases hi with (hi | hi) | hi
  ·have:=x2 i (.inl hi); omega
  ·omega
  ·have:=x2 i (.inr hi); omega
 ·rw [X.mem _ h1 (h2 _) (h2 _) (h2 _) (h2 _),ne _ h3 (h4 _)]
 ·rw [X.mem _ (fun q=>by rw [q] at hj; cases hj) (fun q=>by rw [q] at hj; cases hj) (fun q=>by rw [q] at hj; cases hj) (fun q=>by rw [q] at hj; cases hj) (fun q=>by rw [q] at hj; cases hj)]
  exact un j hj
@[reducible] def doneT (pb:Nat) (A B:Hp→(Value→Hp→Prop)→Prop) (h:Hp) (Q:Value→Hp→Prop):Prop:=
 dr (some ⟨pb,0,none⟩) fun b o=>ldI .i64 h b (o+3) fun n=>dr (some ⟨pb,0,none⟩) fun b1 o1=>st h b1 (o1+3) 1 [.int .i64 (IntKind.wrap .i64 (n - 1))] fun h1=>dr (some ⟨pb,0,none⟩) fun b2 o2=>ldI .i64 h1 b2 (o2+3) fun n1=>par ((0:Int) < n1) (Q (.tuple ⟨[]⟩) h1) (A h1 fun r h2=>B h2 fun r1 h3=>dr (some ⟨pb,0,none⟩) fun b3 o3=>ldI .i64 h3 b3 (o3+2) fun n2=>dr (some ⟨pb,0,none⟩) fun b4 o4=>st h3 b4 (o4+2) 1 [.int .i64 (IntKind.wrap .i64 (n2+1))] fun h4=>Q (.tuple ⟨[]⟩) h4)
theorem Bk.setC {i:Nat} {x v:Value} {d':Int} {g:Hp} {m:Mem} {cs:List Value} (M:BkM ks N Z pb R tB d g u h m cs) (hx:cs[i]?=some x) (hi:i=2∨i=3) (h2:i=2→d'=d∧∃ n:Int,v=.int .i64 n) (h3:i=3→v=.int .i64 d'):h.canW pb (0+i) 1∧BkM ks N Z pb R tB d' g u (h.wr pb (0+i) [v]) (m.put kB (bkF pb R tB (cs.set i v))) (cs.set i v):=by
 obtain ⟨w,O⟩:=M.O.setCell M.hb hx v
 have ne:∀ j,j≠kB→(m.put kB (bkF pb R tB (cs.set i v))) j=m j:=fun j hj=>put_ne _ _ hj
 have self:(cs.set i v)[i]?=some v:=List.getElem?_set_self (List.getElem?_eq_some_iff.1 hx).1
 have oth:∀ j,j≠i→(cs.set i v)[j]?=cs[j]?:=fun j hj=>List.getElem?_set_ne (Ne.symm hj)
 refine ⟨w,O,put_self _ _ _,by rw [ne _ (fun q=>by cases q)]; exact M.kt,by rw [oth _ (by omega)]; exact M.c0,by rw [oth _ (by omega)]; exact M.c1,?_,?_,fun c h19 hc f hf=>by rw [oth _ (by omega)]; exact M.nn c h19 hc f hf,fun k hk=>(M.kk k hk).cong (Keep.refl g) (Nat.le_refl _) id (fun _=>ne _ (kA_kB _ _)) (fun _=>ne _ (kL_kB _ _)) (fun _=>ne _ (kO_kB _ _)) (fun f _=>oth _ (by omega)),M.dk,fun j hj=>by rw [ne _ (fun q=>by rw [q] at hj; cases hj)]; exact M.uu j hj⟩
 ·rcases hi with hi | hi
  ·obtain ⟨_,n,hn⟩:=h2 hi
   subst hi
   exact ⟨n,by rw [self,hn]⟩
  ·rw [oth _ (by omega)]; exact M.c2
 ·rcases hi with hi | hi
  ·rw [oth _ (by omega),(h2 hi).1]; exact M.c3
  ·have:=h3 hi
   subst hi
   rw [self,this]
theorem Bk.done {d1:Int} {A B:Hp→(Value→Hp→Prop)→Prop} (B0:Bk ks N Z pb R tB d1 g0 u h) (hd:IntKind.wrap .i64 (d1 - 1)=d) (hZ:¬ (0 < d)→∀ k∈ks,Z k.c)
  (hA:∀ h Q,Bk ks N Z pb R tB d g0 u h→(∀ h',Bk ks N (fun _=>False) pb R tB d g0 u h'→Q (.tuple ⟨[]⟩) h')→A h Q) (hB:∀ h Q,Bk ks N (fun _=>False) pb R tB d g0 u h→(∀ h',Bk ks N (fun c=>∃ k∈ks,k.c=c) pb R tB d g0 u h'→Q (.tuple ⟨[]⟩) h')→B h Q)
  (hQ:∀ h',Bk ks N Z pb R tB d g0 u h'→Q (.tuple ⟨[]⟩) h'):doneT pb A B h Q:=by
 obtain ⟨g,m,cs,K,M⟩:=B0
 obtain ⟨w,M1⟩:=Bk.setC (v:=.int .i64 (IntKind.wrap .i64 (d1 - 1))) (d':=d) M M.c3 (.inr rfl) (fun q=>by omega) (fun _=>by rw [hd])
 refine ⟨pb,0,rfl,d1,M.O.cell M.hb M.c3,pb,0,rfl,w,pb,0,rfl,d,M1.O.cell M1.hb M1.c3,fun h0=>hQ _ ⟨g,_,_,K,M1⟩,fun h0=>?_⟩
 refine hA _ _ ⟨g,_,_,K,M1⟩ fun h2 B2=>hB _ _ B2 fun h3 B3=>?_
 obtain ⟨g3,m3,cs3,K3,M3⟩:=B3
 obtain ⟨turn,c2⟩:=M3.c2
 obtain ⟨w4,M4⟩:=Bk.setC (v:=.int .i64 (IntKind.wrap .i64 (turn+1))) (d':=d) M3 c2 (.inl rfl) (fun _=>⟨rfl,_,rfl⟩) (fun q=>by omega)
 refine ⟨pb,0,rfl,turn,M3.O.cell M3.hb c2,pb,0,rfl,w4,hQ _ ?_⟩
 exact Bk.mono ⟨g3,_,_,K3,M4⟩ fun k hk _=>⟨k,hk,rfl⟩
theorem Bk.start {cs:List Value} {h':Hp} (hb:h pb=none) (hR:cs.length=R) (c0:cs[0]?=some (.bool false)) (c1:cs[1]?=some (.bool false)) (c2:cs[2]?=some (.int .i64 0)) (c3:cs[3]?=some (.int .i64 0)) (nn:∀ c,c < 19→NoK cs (4+9*c)) (ns:∀ c,c < 19→cs[4+9*c+8]?=some (.int .i64 0)) (hks:∀ k∈ks,k.c < 19) (dk:∀ k∈ks,∀ k'∈ks,k.c=k'.c→k=k') :
  Bk ks 0 (fun _=>True) pb R tB 0 h (fun _=>none) (h.new pb (.cells ⟨cs⟩ tB (0,0))):=by
 have K0:=Keep.new hb (.cells ⟨cs⟩ tB (0,0))
 have B0:=buf_new (h:=h) (b:=pb) (t:=tB) (sz:=R) (n:=1) cs (by rw [hR,Nat.one_mul])
 have O0:=(Mine.start h).add (k:=kB) rfl K0 (.inr ⟨pb,rfl,hb⟩) B0
 have Oe:=fun (m:Mem)=>O0.sub (m':=m)
 refine ⟨h,fun j=>if j=kB then some (bkF pb R tB cs) else if j.1=1∧j.2.2 < 8 then (ks.find? fun k=>k.c=j.2.1).map fun k=>⟨⟨none,0,0⟩,1,if j.2.2 < 5 then k.tL else 3,[]⟩ else none,cs,Keep.refl h,?_⟩
 have fnd:∀ k∈ks,ks.find? (fun x=>x.c=k.c)=some k:=fun k hk=>by
  cases e:ks.find? (fun x=>decide (x.c=k.c)) with
  | none=>
   have h1:=List.find?_eq_none.1 e k hk
   simp at h1
  | some x=>
   have h1:=List.find?_some e
   have h2:=List.mem_of_find?_eq_some e
   rw [dk x h2 k hk (by simpa using h1)]
 have look:∀ (j:Key) (x:Bf),(if j=kB then some (bkF pb R tB cs) else if j.1=1∧j.2.2 < 8 then (ks.find? fun k=>k.c=j.2.1).map fun k=>(⟨⟨none,0,0⟩,1,if j.2.2 < 5 then k.tL else 3,[]⟩:Bf) else none)=some x→(j=kB∧x=bkF pb R tB cs)∨(j≠kB∧∃ t,x=⟨⟨none,0,0⟩,1,t,[]⟩):=fun j x e=>by
  by_cases hj:j=kB
  ·rw [if_pos hj] at e; exact .inl ⟨hj,(Option.some.inj e).symm⟩
  ·rw [if_neg hj] at e
   by_cases h1:j.1=1∧j.2.2 < 8
   ·rw [if_pos h1] at e
    obtain ⟨k,_,ek⟩:=Option.map_eq_some_iff.1 e
    exact .inr ⟨hj,_,ek.symm⟩
   ·rw [if_neg h1] at e; cases e
 refine ⟨⟨K0,fun j x e=>?_,fun j x e=>?_,fun j j' x x' hne e e'=>?_⟩,if_pos rfl,rfl,c0,c1,⟨0,c2⟩,c3,fun c h19 _=>nn c h19,fun k hk=>?_,dk,fun j hj=>?_⟩
 ·rcases look j x e with ⟨rfl,rfl⟩ | ⟨_,t,rfl⟩
  ·exact B0
  ·exact Buf.nil _ _ _
 ·rcases look j x e with ⟨rfl,rfl⟩ | ⟨_,t,rfl⟩
  ·exact .inr ⟨pb,rfl,hb⟩
  ·exact .inl rfl
 ·rcases look j x e with ⟨rfl,rfl⟩ | ⟨hj,t,rfl⟩
  ·rcases look j' x' e' with ⟨rfl,rfl⟩ | ⟨_,t,rfl⟩
   ·exact absurd rfl hne
   ·exact fun b o o' _ q=>by cases q
  ·exact fun b o o' q=>by cases q
 ·have kf:∀ f,f < 8→(if kA k.c f=kB then some (bkF pb R tB cs) else if (kA k.c f).1=1∧(kA k.c f).2.2 < 8 then (ks.find? fun x=>x.c=(kA k.c f).2.1).map fun x=>(⟨⟨none,0,0⟩,1,if (kA k.c f).2.2 < 5 then x.tL else 3,[]⟩:Bf) else none)=some ⟨⟨none,0,0⟩,1,if f < 5 then k.tL else 3,[]⟩:=fun f hf=>by
   rw [if_neg (kA_kB _ _),if_pos ⟨rfl,hf⟩]
   show (ks.find? fun x=>x.c=k.c).map _=_
   rw [fnd k hk]
   rfl
  have nk:=nn k.c (hks k hk)
  refine ⟨[],[],[],⟨⟨_,kf 0 (by decide),nk 0 (by decide)⟩,⟨_,kf 1 (by decide),nk 1 (by decide)⟩,⟨_,kf 2 (by decide),nk 2 (by decide)⟩,⟨_,kf 3 (by decide),nk 3 (by decide)⟩,⟨_,kf 4 (by decide),nk 4 (by decide)⟩,⟨_,kf 5 (by decide),nk 5 (by decide)⟩,⟨_,kf 6 (by decide),nk 6 (by decide)⟩,⟨_,kf 7 (by decide),nk 7 (by decide)⟩,fun f hf=>(by cases hf),fun p hp=>(by cases hp)⟩,fun w hw=>(by cases hw),List.nodup_nil,⟨rfl,rfl,rfl,rfl⟩,Nat.le_refl _,fun i hi=>(by cases hi),fun i _=>rfl,⟨0,ns k.c (hks k hk)⟩,fun _=>rfl⟩
 ·rw [if_neg (fun q=>by rw [q] at hj; cases hj),if_neg (fun q=>by rw [hj] at q; cases q.1)]
end
end Go.Eng
end
section
set_option maxRecDepth 100000
open Go.Proofs
namespace Go.Eng.YtbjnlacacapjiaaGreatDoor
def F124.T (l l1:Sl):PT:=fun h Q=>
 par ((l.n:Int)=(l1.n:Int)) (∃ (I:Int→Hp→Prop) (m:Int→Hp→Nat),I 0 h∧(∀ n:Int,∀ h1:Hp,I n h1→par (n < (l.n:Int)) (ix l.a n l.n fun b o=>ldI .i64 h1 b (o+n.toNat) fun n1=>ix l1.a n l1.n fun b1 o1=>ldI .i64 h1 b1 (o1+n.toNat) fun n2=>par (n1=n2) (I (IntKind.wrap .i64 (n+1)) h1∧m (IntKind.wrap .i64 (n+1)) h1 < m n h1) (Q (.bool false) h1)) (Q (.bool true) h1))) (Q (.bool false) h)
theorem F124.den (V l l1):denF Tryz.prog [] [] V [(58,.loop [(5,.int .i64)] [])] Tryz.f124 [.v (.slice l.a l.n l.c),.v (.slice l1.a l1.n l1.c)]=F124.T l l1:=by kernel_rfl
def F124.W (T124:Sl→Sl→PT) (args:List Value):PT:=match args with
 | [.slice l_a l_n l_c,.slice l1_a l1_n l1_c]=>T124 ⟨l_a,l_n,l_c⟩ ⟨l1_a,l1_n,l1_c⟩
 | _=>fun _ _=>False
def F124.V:List Value→PT:=F124.W F124.T
theorem F124.ok:FOk Tryz.prog 124 F124.V:=by
 refine ⟨⟨_,Tryz.func124,rfl,rfl⟩,fun args=>?_⟩
 unfold F124.V F124.W
 split
 ·exact denF_okE (GOk.nil) noV_ok Tryz.func124 (F124.den noV ⟨_,_,_⟩ ⟨_,_,_⟩)
 ·exact fun _ _ h=>h.elim
def F130.T (l l1:Sl):PT:=fun h Q=>
 par ((l.n:Int)=(l1.n:Int)) (∃ (I:Int→Hp→Prop) (m:Int→Hp→Nat),I 0 h∧(∀ n:Int,∀ h1:Hp,I n h1→par (n < (l.n:Int)) (ix l.a n l.n fun b o=>ldI .u64 h1 b (o+n.toNat*6) fun n1=>ldI .i64 h1 b ((o+n.toNat*6)+1) fun n2=>ldI .i64 h1 b ((o+n.toNat*6)+2) fun n3=>ldI .i64 h1 b ((o+n.toNat*6)+3) fun n4=>ldT h1 b ((o+n.toNat*6)+4) fun s=>ldT h1 b ((o+n.toNat*6)+5) fun s1=>ix l1.a n l1.n fun b1 o1=>ldI .u64 h1 b1 (o1+n.toNat*6) fun n5=>ldI .i64 h1 b1 ((o1+n.toNat*6)+1) fun n6=>ldI .i64 h1 b1 ((o1+n.toNat*6)+2) fun n7=>ldI .i64 h1 b1 ((o1+n.toNat*6)+3) fun n8=>ldT h1 b1 ((o1+n.toNat*6)+4) fun s2=>ldT h1 b1 ((o1+n.toNat*6)+5) fun s3=>par (([.int .u64 n1,.int .i64 n2,.int .i64 n3,.int .i64 n4,.string s,.string s1]:List Value)=[.int .u64 n5,.int .i64 n6,.int .i64 n7,.int .i64 n8,.string s2,.string s3]) (I (IntKind.wrap .i64 (n+1)) h1∧m (IntKind.wrap .i64 (n+1)) h1 < m n h1) (Q (.bool false) h1)) (Q (.bool true) h1))) (Q (.bool false) h)
theorem F130.den (V l l1):denF Tryz.prog [6,7] [] V [(58,.loop [(5,.int .i64)] [])] Tryz.f130 [.v (.slice l.a l.n l.c),.v (.slice l1.a l1.n l1.c)]=F130.T l l1:=by kernel_rfl
def F130.W (T130:Sl→Sl→PT) (args:List Value):PT:=match args with
 | [.slice l_a l_n l_c,.slice l1_a l1_n l1_c]=>T130 ⟨l_a,l_n,l_c⟩ ⟨l1_a,l1_n,l1_c⟩
 | _=>fun _ _=>False
def F130.V:List Value→PT:=F130.W F130.T
theorem F130.ok:FOk Tryz.prog 130 F130.V:=by
 refine ⟨⟨_,Tryz.func130,rfl,rfl⟩,fun args=>?_⟩
 unfold F130.V F130.W
 split
 ·exact denF_okE (GOk.nil) noV_ok Tryz.func130 (F130.den noV ⟨_,_,_⟩ ⟨_,_,_⟩)
 ·exact fun _ _ h=>h.elim
def F81.T (p:Option Addr) (n:Int):PT:=fun h Q=>
 dr p fun b o=>ldB h b o (dr p fun b1 o1=>ldI .i64 h b1 (o1+2) fun n1=>Q (.int .i64 n1) h) ((3:Int)≠0∧par ((Int.tmod n 3)=0) (dr p fun b2 o2=>ldI .i64 h b2 (o2+2) fun n2=>Q (.int .i64 n2) h) ((3:Int)≠0∧par ((Int.tmod n 3)=1) (dr p fun b3 o3=>ldI .i64 h b3 (o3+2) fun n3=>(3:Int)≠0∧(8:Int)≠0∧Q (.int .i64 (IntKind.wrap .i64 ((IntKind.wrap .i64 (n3+1))+(Int.tmod (IntKind.wrap .i64 (Int.tdiv n 3)) 8)))) h) (dr p fun b4 o4=>ldI .i64 h b4 (o4+2) fun n4=>Q (.int .i64 (IntKind.wrap .i64 (n4+1))) h)))
theorem F81.den (V p n):denF Tryz.prog [] [] V [] Tryz.f81 [.v (.pointer p),.v (.int .i64 n)]=F81.T p n:=by kernel_rfl
def F81.W (T81:Option Addr→Int→PT) (args:List Value):PT:=match args with
 | [.pointer p,.int .i64 n]=>T81 p n
 | _=>fun _ _=>False
def F81.V:List Value→PT:=F81.W F81.T
theorem F81.ok:FOk Tryz.prog 81 F81.V:=by
 refine ⟨⟨_,Tryz.func81,rfl,rfl⟩,fun args=>?_⟩
 unfold F81.V F81.W
 split
 ·exact denF_okE (GOk.nil) noV_ok Tryz.func81 (F81.den noV _ _)
 ·exact fun _ _ h=>h.elim
def F172.T (p:Option Addr):PT:=fun h Q=>
 dr p fun b o=>ldS h b (o+6) fun l=>dr p fun b1 o1=>ldS h b1 (o1+7) fun l1=>dr p fun b2 o2=>ldS h b2 (o2+9) fun l2=>dr p fun b3 o3=>ldS h b3 (o3+10) fun l3=>par ((l.n:Int)=0) (Q (.tuple ⟨[]⟩) h) (False)
theorem F172.den (V p):denF Tryz.prog [70,83,93,106,153,165,175,185] [] V [(63,.cut)] Tryz.f172 [.v (.pointer p)]=F172.T p:=by kernel_rfl
def F172.W (T172:Option Addr→PT) (args:List Value):PT:=match args with
 | [.pointer p]=>T172 p
 | _=>fun _ _=>False
def F172.V:List Value→PT:=F172.W F172.T
theorem F172.ok:FOk Tryz.prog 172 F172.V:=by
 refine ⟨⟨_,Tryz.func172,rfl,rfl⟩,fun args=>?_⟩
 unfold F172.V F172.W
 split
 ·exact denF_okE (GOk.nil) noV_ok Tryz.func172 (F172.den noV _)
 ·exact fun _ _ h=>h.elim
@[reducible] def F173.G (T124:Sl→Sl→PT) (p:Option Addr):PT:=fun h Q=>
 dr p fun b o=>ldS h b (o+15) fun l=>dr p fun b1 o1=>ldS h b1 (o1+16) fun l1=>dr p fun b2 o2=>ldS h b2 (o2+18) fun l2=>dr p fun b3 o3=>ldS h b3 (o3+19) fun l3=>par ((l.n:Int)=0) (Q (.tuple ⟨[]⟩) h) (dr p fun b4 o4=>st h b4 (o4+15) 1 [.slice none 0 0] fun h1=>dr p fun b5 o5=>st h1 b5 (o5+16) 1 [.slice none 0 0] fun h2=>dr p fun b6 o6=>st h2 b6 (o6+18) 1 [.slice none 0 0] fun h3=>dr p fun b7 o7=>st h3 b7 (o7+19) 1 [.slice none 0 0] fun h4=>∃ (I:Int→Hp→Prop) (m:Int→Hp→Nat),I 0 h4∧(∀ n:Int,∀ h5:Hp,I n h5→par (n < (l.n:Int)) (ix l.a n l.n fun b8 o8=>ldS h5 b8 (o8+n.toNat) fun l4=>ix l2.a n l2.n fun b9 o9=>ldI .i64 h5 b9 (o9+n.toNat) fun n1=>ix l3.a n l3.n fun b10 o10=>ldI .i64 h5 b10 (o10+n.toNat) fun n2=>dr p fun b11 o11=>ldI .i64 h5 b11 (o11+2) fun n3=>par (n3 < n2) (dr p fun b12 o12=>ldS h5 b12 (o12+15) fun l5=>appendD l5 25 1 24 [.slice none 0 0] 1 [.slice l4.a l4.n l4.c] h5 fun l6 h6=>dr p fun b13 o13=>st h6 b13 (o13+15) 1 [.slice l6.a l6.n l6.c] fun h7=>dr p fun b14 o14=>ldS h7 b14 (o14+16) fun l7=>ix l1.a n l1.n fun b15 o15=>ldS h7 b15 (o15+n.toNat) fun l8=>h7.at b14 (o14+16)=some (.slice l7.a l7.n l7.c)∧appendD l7 25 1 24 [.slice none 0 0] 1 [.slice l8.a l8.n l8.c] h7 fun l9 h8=>dr p fun b16 o16=>st h8 b16 (o16+16) 1 [.slice l9.a l9.n l9.c] fun h9=>dr p fun b17 o17=>ldS h9 b17 (o17+18) fun l10=>appendD l10 3 1 8 [.int .i64 0] 1 [.int .i64 n1] h9 fun l11 h10=>dr p fun b18 o18=>st h10 b18 (o18+18) 1 [.slice l11.a l11.n l11.c] fun h11=>dr p fun b19 o19=>ldS h11 b19 (o19+19) fun l12=>ix l3.a n l3.n fun b20 o20=>ldI .i64 h11 b20 (o20+n.toNat) fun n4=>h11.at b19 (o19+19)=some (.slice l12.a l12.n l12.c)∧appendD l12 3 1 8 [.int .i64 0] 1 [.int .i64 n4] h11 fun l13 h12=>dr p fun b21 o21=>st h12 b21 (o21+19) 1 [.slice l13.a l13.n l13.c] fun h13=>I (IntKind.wrap .i64 (n+1)) h13∧m (IntKind.wrap .i64 (n+1)) h13 < m n h5) (∃ J:Hp→Prop,(∀ h14:Hp,J h14→∃ (I1:Int→Hp→Prop) (m1:Int→Hp→Nat),I1 0 h14∧(∀ n5:Int,∀ h15:Hp,I1 n5 h15→par (n5 < (l4.n:Int)) (ix l4.a n5 l4.n fun b22 o22=>st h15 b22 (o22+n5.toNat) 1 [.int .i64 (IntKind.wrap .i64 (n1+(IntKind.wrap .i64 (3*n5))))] fun h16=>I1 (IntKind.wrap .i64 (n5+1)) h16∧m1 (IntKind.wrap .i64 (n5+1)) h16 < m1 n5 h15) (dr p fun b23 o23=>ldS h15 b23 (o23+13) fun l14=>appendD l14 25 1 24 [.slice none 0 0] 1 [.slice l4.a l4.n l4.c] h15 fun l15 h17=>dr p fun b24 o24=>st h17 b24 (o24+13) 1 [.slice l15.a l15.n l15.c] fun h18=>dr p fun b25 o25=>ldS h18 b25 (o25+14) fun l16=>nw h18 (.cells ⟨[]⟩ 3 (0,0)) fun b26 h19=>h19.at b25 (o25+14)=some (.slice l16.a l16.n l16.c)∧∃ vs,h19.row l4.a (l4.n*1) vs∧(∀ v∈vs,Value.oneCell' v=true)∧appendD ⟨(some ⟨b26,0,none⟩),0,0⟩ 3 1 8 [.int .i64 0] l4.n vs h19 fun l17 h20=>h20.at b25 (o25+14)=some (.slice l16.a l16.n l16.c)∧h20.at b25 (o25+14)=some (.slice l16.a l16.n l16.c)∧appendD l16 25 1 24 [.slice none 0 0] 1 [.slice l17.a l17.n l17.c] h20 fun l18 h21=>dr p fun b27 o26=>st h21 b27 (o26+14) 1 [.slice l18.a l18.n l18.c] fun h22=>dr p fun b28 o27=>ldS h22 b28 (o27+17) fun l19=>appendD l19 25 1 24 [.slice none 0 0] 1 [.slice l4.a l4.n l4.c] h22 fun l20 h23=>dr p fun b29 o28=>st h23 b29 (o28+17) 1 [.slice l20.a l20.n l20.c] fun h24=>dr p fun b30 o29=>ldS h24 b30 (o29+20) fun l21=>appendD l21 3 1 8 [.int .i64 0] 1 [.int .i64 n1] h24 fun l22 h25=>dr p fun b31 o30=>st h25 b31 (o30+20) 1 [.slice l22.a l22.n l22.c] fun h26=>I (IntKind.wrap .i64 (n+1)) h26∧m (IntKind.wrap .i64 (n+1)) h26 < m n h5)))∧(dr p fun b32 o31=>ldB h5 b32 (o31+1) (dr p fun b33 o32=>st h5 b33 (o32+1) 1 [.bool true] fun h27=>J h27) (dr p fun b34 o33=>ldB h5 b34 o33 (dr p fun b35 o34=>st h5 b35 (o34+1) 1 [.bool false] fun h28=>J h28) (ix l1.a n l1.n fun b36 o35=>ldS h5 b36 (o35+n.toNat) fun l23=>T124 l4 l23 h5 fun r h29=>retB r (dr p fun b37 o36=>st h29 b37 (o36+1) 1 [.bool false] fun h30=>J h30) (dr p fun b38 o37=>st h29 b38 (o37+1) 1 [.bool true] fun h31=>J h31)))))) (Q (.tuple ⟨[]⟩) h5)))
def F173.T:=F173.G F124.T
theorem F173.gen (V T124 p):denF Tryz.prog [70,83,93,106,152,164,174,184] [(124,F124.W T124)] V [(510,.loop [(6,.int .i64)] []),(65319,.join [] []),(130636,.order [0,1,2,3,4,5,6,7,8]),(1045098,.order [0,1,2,3,4,5,6,7,8,9,10,11,12,13]),(1045114,.loop [(9,.int .i64)] []),(1045118,.order [0,1,2,3,4,6,5,7,8,9,10,11,12]),(4180398,.order [0,1,2,3,4,5,6,7,8,9,10,11,12,13])] Tryz.f173 [.v (.pointer p)]=F173.G T124 p:=by kernel_rfl
def F173.W (T173:Option Addr→PT) (args:List Value):PT:=match args with
 | [.pointer p]=>T173 p
 | _=>fun _ _=>False
def F173.V:List Value→PT:=F173.W F173.T
theorem F173.ok:FOk Tryz.prog 173 F173.V:=by
 refine ⟨⟨_,Tryz.func173,rfl,rfl⟩,fun args=>?_⟩
 unfold F173.V F173.W
 split
 ·exact denF_okE (GOk.cons F124.ok (GOk.nil)) noV_ok Tryz.func173 (F173.gen noV F124.T _)
 ·exact fun _ _ h=>h.elim
def F174.T (p:Option Addr):PT:=fun h Q=>
 dr p fun b o=>ldS h b (o+24) fun l=>dr p fun b1 o1=>ldS h b1 (o1+25) fun l1=>dr p fun b2 o2=>ldS h b2 (o2+27) fun l2=>dr p fun b3 o3=>ldS h b3 (o3+28) fun l3=>par ((l.n:Int)=0) (Q (.tuple ⟨[]⟩) h) (False)
theorem F174.den (V p):denF Tryz.prog [70,83,93,106,153,165,175,185] [] V [(63,.cut)] Tryz.f174 [.v (.pointer p)]=F174.T p:=by kernel_rfl
def F174.W (T174:Option Addr→PT) (args:List Value):PT:=match args with
 | [.pointer p]=>T174 p
 | _=>fun _ _=>False
def F174.V:List Value→PT:=F174.W F174.T
theorem F174.ok:FOk Tryz.prog 174 F174.V:=by
 refine ⟨⟨_,Tryz.func174,rfl,rfl⟩,fun args=>?_⟩
 unfold F174.V F174.W
 split
 ·exact denF_okE (GOk.nil) noV_ok Tryz.func174 (F174.den noV _)
 ·exact fun _ _ h=>h.elim
def F175.T (p:Option Addr):PT:=fun h Q=>
 dr p fun b o=>ldS h b (o+33) fun l=>dr p fun b1 o1=>ldS h b1 (o1+34) fun l1=>dr p fun b2 o2=>ldS h b2 (o2+36) fun l2=>dr p fun b3 o3=>ldS h b3 (o3+37) fun l3=>par ((l.n:Int)=0) (Q (.tuple ⟨[]⟩) h) (False)
theorem F175.den (V p):denF Tryz.prog [70,83,93,106,153,165,175,185] [] V [(63,.cut)] Tryz.f175 [.v (.pointer p)]=F175.T p:=by kernel_rfl
def F175.W (T175:Option Addr→PT) (args:List Value):PT:=match args with
 | [.pointer p]=>T175 p
 | _=>fun _ _=>False
def F175.V:List Value→PT:=F175.W F175.T
theorem F175.ok:FOk Tryz.prog 175 F175.V:=by
 refine ⟨⟨_,Tryz.func175,rfl,rfl⟩,fun args=>?_⟩
 unfold F175.V F175.W
 split
 ·exact denF_okE (GOk.nil) noV_ok Tryz.func175 (F175.den noV _)
 ·exact fun _ _ h=>h.elim
def F176.T (p:Option Addr):PT:=fun h Q=>
 dr p fun b o=>ldS h b (o+42) fun l=>dr p fun b1 o1=>ldS h b1 (o1+43) fun l1=>dr p fun b2 o2=>ldS h b2 (o2+45) fun l2=>dr p fun b3 o3=>ldS h b3 (o3+46) fun l3=>par ((l.n:Int)=0) (Q (.tuple ⟨[]⟩) h) (False)
theorem F176.den (V p):denF Tryz.prog [70,83,93,106,154,166,176,186] [] V [(63,.cut)] Tryz.f176 [.v (.pointer p)]=F176.T p:=by kernel_rfl
def F176.W (T176:Option Addr→PT) (args:List Value):PT:=match args with
 | [.pointer p]=>T176 p
 | _=>fun _ _=>False
def F176.V:List Value→PT:=F176.W F176.T
theorem F176.ok:FOk Tryz.prog 176 F176.V:=by
 refine ⟨⟨_,Tryz.func176,rfl,rfl⟩,fun args=>?_⟩
 unfold F176.V F176.W
 split
 ·exact denF_okE (GOk.nil) noV_ok Tryz.func176 (F176.den noV _)
 ·exact fun _ _ h=>h.elim
def F177.T (p:Option Addr):PT:=fun h Q=>
 dr p fun b o=>ldS h b (o+51) fun l=>dr p fun b1 o1=>ldS h b1 (o1+52) fun l1=>dr p fun b2 o2=>ldS h b2 (o2+54) fun l2=>dr p fun b3 o3=>ldS h b3 (o3+55) fun l3=>par ((l.n:Int)=0) (Q (.tuple ⟨[]⟩) h) (False)
theorem F177.den (V p):denF Tryz.prog [70,83,93,106,154,166,176,186] [] V [(63,.cut)] Tryz.f177 [.v (.pointer p)]=F177.T p:=by kernel_rfl
def F177.W (T177:Option Addr→PT) (args:List Value):PT:=match args with
 | [.pointer p]=>T177 p
 | _=>fun _ _=>False
def F177.V:List Value→PT:=F177.W F177.T
theorem F177.ok:FOk Tryz.prog 177 F177.V:=by
 refine ⟨⟨_,Tryz.func177,rfl,rfl⟩,fun args=>?_⟩
 unfold F177.V F177.W
 split
 ·exact denF_okE (GOk.nil) noV_ok Tryz.func177 (F177.den noV _)
 ·exact fun _ _ h=>h.elim
def F178.T (p:Option Addr):PT:=fun h Q=>
 dr p fun b o=>ldS h b (o+60) fun l=>dr p fun b1 o1=>ldS h b1 (o1+61) fun l1=>dr p fun b2 o2=>ldS h b2 (o2+63) fun l2=>dr p fun b3 o3=>ldS h b3 (o3+64) fun l3=>par ((l.n:Int)=0) (Q (.tuple ⟨[]⟩) h) (False)
theorem F178.den (V p):denF Tryz.prog [70,83,93,106,154,166,176,186] [] V [(63,.cut)] Tryz.f178 [.v (.pointer p)]=F178.T p:=by kernel_rfl
def F178.W (T178:Option Addr→PT) (args:List Value):PT:=match args with
 | [.pointer p]=>T178 p
 | _=>fun _ _=>False
def F178.V:List Value→PT:=F178.W F178.T
theorem F178.ok:FOk Tryz.prog 178 F178.V:=by
 refine ⟨⟨_,Tryz.func178,rfl,rfl⟩,fun args=>?_⟩
 unfold F178.V F178.W
 split
 ·exact denF_okE (GOk.nil) noV_ok Tryz.func178 (F178.den noV _)
 ·exact fun _ _ h=>h.elim
@[reducible] def F179.G (T130:Sl→Sl→PT) (p:Option Addr):PT:=fun h Q=>
 dr p fun b o=>ldS h b (o+69) fun l=>dr p fun b1 o1=>ldS h b1 (o1+70) fun l1=>dr p fun b2 o2=>ldS h b2 (o2+72) fun l2=>dr p fun b3 o3=>ldS h b3 (o3+73) fun l3=>par ((l.n:Int)=0) (Q (.tuple ⟨[]⟩) h) (dr p fun b4 o4=>st h b4 (o4+69) 1 [.slice none 0 0] fun h1=>dr p fun b5 o5=>st h1 b5 (o5+70) 1 [.slice none 0 0] fun h2=>dr p fun b6 o6=>st h2 b6 (o6+72) 1 [.slice none 0 0] fun h3=>dr p fun b7 o7=>st h3 b7 (o7+73) 1 [.slice none 0 0] fun h4=>∃ (I:Int→Hp→Prop) (m:Int→Hp→Nat),I 0 h4∧(∀ n:Int,∀ h5:Hp,I n h5→par (n < (l.n:Int)) (ix l.a n l.n fun b8 o8=>ldS h5 b8 (o8+n.toNat) fun l4=>ix l2.a n l2.n fun b9 o9=>ldI .i64 h5 b9 (o9+n.toNat) fun n1=>ix l3.a n l3.n fun b10 o10=>ldI .i64 h5 b10 (o10+n.toNat) fun n2=>dr p fun b11 o11=>ldI .i64 h5 b11 (o11+2) fun n3=>par (n3 < n2) (dr p fun b12 o12=>ldS h5 b12 (o12+69) fun l5=>appendD l5 77 1 24 [.slice none 0 0] 1 [.slice l4.a l4.n l4.c] h5 fun l6 h6=>dr p fun b13 o13=>st h6 b13 (o13+69) 1 [.slice l6.a l6.n l6.c] fun h7=>dr p fun b14 o14=>ldS h7 b14 (o14+70) fun l7=>ix l1.a n l1.n fun b15 o15=>ldS h7 b15 (o15+n.toNat) fun l8=>h7.at b14 (o14+70)=some (.slice l7.a l7.n l7.c)∧appendD l7 77 1 24 [.slice none 0 0] 1 [.slice l8.a l8.n l8.c] h7 fun l9 h8=>dr p fun b16 o16=>st h8 b16 (o16+70) 1 [.slice l9.a l9.n l9.c] fun h9=>dr p fun b17 o17=>ldS h9 b17 (o17+72) fun l10=>appendD l10 3 1 8 [.int .i64 0] 1 [.int .i64 n1] h9 fun l11 h10=>dr p fun b18 o18=>st h10 b18 (o18+72) 1 [.slice l11.a l11.n l11.c] fun h11=>dr p fun b19 o19=>ldS h11 b19 (o19+73) fun l12=>ix l3.a n l3.n fun b20 o20=>ldI .i64 h11 b20 (o20+n.toNat) fun n4=>h11.at b19 (o19+73)=some (.slice l12.a l12.n l12.c)∧appendD l12 3 1 8 [.int .i64 0] 1 [.int .i64 n4] h11 fun l13 h12=>dr p fun b21 o21=>st h12 b21 (o21+73) 1 [.slice l13.a l13.n l13.c] fun h13=>I (IntKind.wrap .i64 (n+1)) h13∧m (IntKind.wrap .i64 (n+1)) h13 < m n h5) (∃ J:Hp→Prop,(∀ h14:Hp,J h14→∃ (I1:Int→Hp→Prop) (m1:Int→Hp→Nat),I1 0 h14∧(∀ n5:Int,∀ h15:Hp,I1 n5 h15→par (n5 < (l4.n:Int)) (ix l4.a n5 l4.n fun b22 o22=>st h15 b22 (o22+n5.toNat*6) 6 [.int .u64 (IntKind.wrap .u64 (IntKind.wrap .i64 (n1+(IntKind.wrap .i64 (3*n5))))),.int .i64 0,.int .i64 0,.int .i64 0,.string ⟨#[]⟩,.string ⟨#[]⟩] fun h16=>I1 (IntKind.wrap .i64 (n5+1)) h16∧m1 (IntKind.wrap .i64 (n5+1)) h16 < m1 n5 h15) (dr p fun b23 o23=>ldS h15 b23 (o23+67) fun l14=>appendD l14 77 1 24 [.slice none 0 0] 1 [.slice l4.a l4.n l4.c] h15 fun l15 h17=>dr p fun b24 o24=>st h17 b24 (o24+67) 1 [.slice l15.a l15.n l15.c] fun h18=>dr p fun b25 o25=>ldS h18 b25 (o25+68) fun l16=>nw h18 (.cells ⟨[]⟩ 63 (0,0)) fun b26 h19=>h19.at b25 (o25+68)=some (.slice l16.a l16.n l16.c)∧∃ vs,h19.row l4.a (l4.n*6) vs∧(∀ v∈vs,Value.oneCell' v=true)∧appendD ⟨(some ⟨b26,0,none⟩),0,0⟩ 63 6 64 [.int .u64 0,.int .i64 0,.int .i64 0,.int .i64 0,.string ⟨#[]⟩,.string ⟨#[]⟩] l4.n vs h19 fun l17 h20=>h20.at b25 (o25+68)=some (.slice l16.a l16.n l16.c)∧h20.at b25 (o25+68)=some (.slice l16.a l16.n l16.c)∧appendD l16 77 1 24 [.slice none 0 0] 1 [.slice l17.a l17.n l17.c] h20 fun l18 h21=>dr p fun b27 o26=>st h21 b27 (o26+68) 1 [.slice l18.a l18.n l18.c] fun h22=>dr p fun b28 o27=>ldS h22 b28 (o27+71) fun l19=>appendD l19 77 1 24 [.slice none 0 0] 1 [.slice l4.a l4.n l4.c] h22 fun l20 h23=>dr p fun b29 o28=>st h23 b29 (o28+71) 1 [.slice l20.a l20.n l20.c] fun h24=>dr p fun b30 o29=>ldS h24 b30 (o29+74) fun l21=>appendD l21 3 1 8 [.int .i64 0] 1 [.int .i64 n1] h24 fun l22 h25=>dr p fun b31 o30=>st h25 b31 (o30+74) 1 [.slice l22.a l22.n l22.c] fun h26=>I (IntKind.wrap .i64 (n+1)) h26∧m (IntKind.wrap .i64 (n+1)) h26 < m n h5)))∧(dr p fun b32 o31=>ldB h5 b32 (o31+1) (dr p fun b33 o32=>st h5 b33 (o32+1) 1 [.bool true] fun h27=>J h27) (dr p fun b34 o33=>ldB h5 b34 o33 (dr p fun b35 o34=>st h5 b35 (o34+1) 1 [.bool false] fun h28=>J h28) (ix l1.a n l1.n fun b36 o35=>ldS h5 b36 (o35+n.toNat) fun l23=>T130 l4 l23 h5 fun r h29=>retB r (dr p fun b37 o36=>st h29 b37 (o36+1) 1 [.bool false] fun h30=>J h30) (dr p fun b38 o37=>st h29 b38 (o37+1) 1 [.bool true] fun h31=>J h31)))))) (Q (.tuple ⟨[]⟩) h5)))
def F179.T:=F179.G F130.T
theorem F179.gen (V T130 p):denF Tryz.prog [70,83,93,106,154,166,176,186] [(130,F130.W T130)] V [(510,.loop [(6,.int .i64)] []),(65319,.join [] []),(130636,.order [0,1,2,3,4,5,6,7,8]),(1045098,.order [0,1,2,3,4,5,6,7,8,9,10,11,12,13]),(1045114,.loop [(9,.int .i64)] []),(1045118,.order [0,1,2,3,4,6,5,7,8,9,10,11,12]),(4180398,.order [0,1,2,3,4,5,6,7,8,9,10,11,12,13])] Tryz.f179 [.v (.pointer p)]=F179.G T130 p:=by kernel_rfl
def F179.W (T179:Option Addr→PT) (args:List Value):PT:=match args with
 | [.pointer p]=>T179 p
 | _=>fun _ _=>False
def F179.V:List Value→PT:=F179.W F179.T
theorem F179.ok:FOk Tryz.prog 179 F179.V:=by
 refine ⟨⟨_,Tryz.func179,rfl,rfl⟩,fun args=>?_⟩
 unfold F179.V F179.W
 split
 ·exact denF_okE (GOk.cons F130.ok (GOk.nil)) noV_ok Tryz.func179 (F179.gen noV F130.T _)
 ·exact fun _ _ h=>h.elim
def F180.T (p:Option Addr):PT:=fun h Q=>
 dr p fun b o=>ldS h b (o+78) fun l=>dr p fun b1 o1=>ldS h b1 (o1+79) fun l1=>dr p fun b2 o2=>ldS h b2 (o2+81) fun l2=>dr p fun b3 o3=>ldS h b3 (o3+82) fun l3=>par ((l.n:Int)=0) (Q (.tuple ⟨[]⟩) h) (False)
theorem F180.den (V p):denF Tryz.prog [70,83,93,106,153,165,175,185] [] V [(63,.cut)] Tryz.f180 [.v (.pointer p)]=F180.T p:=by kernel_rfl
def F180.W (T180:Option Addr→PT) (args:List Value):PT:=match args with
 | [.pointer p]=>T180 p
 | _=>fun _ _=>False
def F180.V:List Value→PT:=F180.W F180.T
theorem F180.ok:FOk Tryz.prog 180 F180.V:=by
 refine ⟨⟨_,Tryz.func180,rfl,rfl⟩,fun args=>?_⟩
 unfold F180.V F180.W
 split
 ·exact denF_okE (GOk.nil) noV_ok Tryz.func180 (F180.den noV _)
 ·exact fun _ _ h=>h.elim
def F181.T (p:Option Addr):PT:=fun h Q=>
 dr p fun b o=>ldS h b (o+87) fun l=>dr p fun b1 o1=>ldS h b1 (o1+88) fun l1=>dr p fun b2 o2=>ldS h b2 (o2+90) fun l2=>dr p fun b3 o3=>ldS h b3 (o3+91) fun l3=>par ((l.n:Int)=0) (Q (.tuple ⟨[]⟩) h) (False)
theorem F181.den (V p):denF Tryz.prog [70,83,93,106,153,165,175,185] [] V [(63,.cut)] Tryz.f181 [.v (.pointer p)]=F181.T p:=by kernel_rfl
def F181.W (T181:Option Addr→PT) (args:List Value):PT:=match args with
 | [.pointer p]=>T181 p
 | _=>fun _ _=>False
def F181.V:List Value→PT:=F181.W F181.T
theorem F181.ok:FOk Tryz.prog 181 F181.V:=by
 refine ⟨⟨_,Tryz.func181,rfl,rfl⟩,fun args=>?_⟩
 unfold F181.V F181.W
 split
 ·exact denF_okE (GOk.nil) noV_ok Tryz.func181 (F181.den noV _)
 ·exact fun _ _ h=>h.elim
def F182.T (p:Option Addr):PT:=fun h Q=>
 dr p fun b o=>ldS h b (o+96) fun l=>dr p fun b1 o1=>ldS h b1 (o1+97) fun l1=>dr p fun b2 o2=>ldS h b2 (o2+99) fun l2=>dr p fun b3 o3=>ldS h b3 (o3+100) fun l3=>par ((l.n:Int)=0) (Q (.tuple ⟨[]⟩) h) (False)
theorem F182.den (V p):denF Tryz.prog [70,83,93,106,153,165,175,185] [] V [(63,.cut)] Tryz.f182 [.v (.pointer p)]=F182.T p:=by kernel_rfl
def F182.W (T182:Option Addr→PT) (args:List Value):PT:=match args with
 | [.pointer p]=>T182 p
 | _=>fun _ _=>False
def F182.V:List Value→PT:=F182.W F182.T
theorem F182.ok:FOk Tryz.prog 182 F182.V:=by
 refine ⟨⟨_,Tryz.func182,rfl,rfl⟩,fun args=>?_⟩
 unfold F182.V F182.W
 split
 ·exact denF_okE (GOk.nil) noV_ok Tryz.func182 (F182.den noV _)
 ·exact fun _ _ h=>h.elim
def F183.T (p:Option Addr):PT:=fun h Q=>
 dr p fun b o=>ldS h b (o+105) fun l=>dr p fun b1 o1=>ldS h b1 (o1+106) fun l1=>dr p fun b2 o2=>ldS h b2 (o2+108) fun l2=>dr p fun b3 o3=>ldS h b3 (o3+109) fun l3=>par ((l.n:Int)=0) (Q (.tuple ⟨[]⟩) h) (False)
theorem F183.den (V p):denF Tryz.prog [70,83,93,106,154,166,176,186] [] V [(63,.cut)] Tryz.f183 [.v (.pointer p)]=F183.T p:=by kernel_rfl
def F183.W (T183:Option Addr→PT) (args:List Value):PT:=match args with
 | [.pointer p]=>T183 p
 | _=>fun _ _=>False
def F183.V:List Value→PT:=F183.W F183.T
theorem F183.ok:FOk Tryz.prog 183 F183.V:=by
 refine ⟨⟨_,Tryz.func183,rfl,rfl⟩,fun args=>?_⟩
 unfold F183.V F183.W
 split
 ·exact denF_okE (GOk.nil) noV_ok Tryz.func183 (F183.den noV _)
 ·exact fun _ _ h=>h.elim
def F184.T (p:Option Addr):PT:=fun h Q=>
 dr p fun b o=>ldS h b (o+114) fun l=>dr p fun b1 o1=>ldS h b1 (o1+115) fun l1=>dr p fun b2 o2=>ldS h b2 (o2+117) fun l2=>dr p fun b3 o3=>ldS h b3 (o3+118) fun l3=>par ((l.n:Int)=0) (Q (.tuple ⟨[]⟩) h) (False)
theorem F184.den (V p):denF Tryz.prog [70,83,93,106,155,167,177,187] [] V [(63,.cut)] Tryz.f184 [.v (.pointer p)]=F184.T p:=by kernel_rfl
def F184.W (T184:Option Addr→PT) (args:List Value):PT:=match args with
 | [.pointer p]=>T184 p
 | _=>fun _ _=>False
def F184.V:List Value→PT:=F184.W F184.T
theorem F184.ok:FOk Tryz.prog 184 F184.V:=by
 refine ⟨⟨_,Tryz.func184,rfl,rfl⟩,fun args=>?_⟩
 unfold F184.V F184.W
 split
 ·exact denF_okE (GOk.nil) noV_ok Tryz.func184 (F184.den noV _)
 ·exact fun _ _ h=>h.elim
def F185.T (p:Option Addr):PT:=fun h Q=>
 dr p fun b o=>ldS h b (o+123) fun l=>dr p fun b1 o1=>ldS h b1 (o1+124) fun l1=>dr p fun b2 o2=>ldS h b2 (o2+126) fun l2=>dr p fun b3 o3=>ldS h b3 (o3+127) fun l3=>par ((l.n:Int)=0) (Q (.tuple ⟨[]⟩) h) (False)
theorem F185.den (V p):denF Tryz.prog [70,83,93,106,155,167,177,187] [] V [(63,.cut)] Tryz.f185 [.v (.pointer p)]=F185.T p:=by kernel_rfl
def F185.W (T185:Option Addr→PT) (args:List Value):PT:=match args with
 | [.pointer p]=>T185 p
 | _=>fun _ _=>False
def F185.V:List Value→PT:=F185.W F185.T
theorem F185.ok:FOk Tryz.prog 185 F185.V:=by
 refine ⟨⟨_,Tryz.func185,rfl,rfl⟩,fun args=>?_⟩
 unfold F185.V F185.W
 split
 ·exact denF_okE (GOk.nil) noV_ok Tryz.func185 (F185.den noV _)
 ·exact fun _ _ h=>h.elim
def F186.T (p:Option Addr):PT:=fun h Q=>
 dr p fun b o=>ldS h b (o+132) fun l=>dr p fun b1 o1=>ldS h b1 (o1+133) fun l1=>dr p fun b2 o2=>ldS h b2 (o2+135) fun l2=>dr p fun b3 o3=>ldS h b3 (o3+136) fun l3=>par ((l.n:Int)=0) (Q (.tuple ⟨[]⟩) h) (False)
theorem F186.den (V p):denF Tryz.prog [70,83,93,106,155,167,177,187] [] V [(63,.cut)] Tryz.f186 [.v (.pointer p)]=F186.T p:=by kernel_rfl
def F186.W (T186:Option Addr→PT) (args:List Value):PT:=match args with
 | [.pointer p]=>T186 p
 | _=>fun _ _=>False
def F186.V:List Value→PT:=F186.W F186.T
theorem F186.ok:FOk Tryz.prog 186 F186.V:=by
 refine ⟨⟨_,Tryz.func186,rfl,rfl⟩,fun args=>?_⟩
 unfold F186.V F186.W
 split
 ·exact denF_okE (GOk.nil) noV_ok Tryz.func186 (F186.den noV _)
 ·exact fun _ _ h=>h.elim
def F187.T (p:Option Addr):PT:=fun h Q=>
 dr p fun b o=>ldS h b (o+141) fun l=>dr p fun b1 o1=>ldS h b1 (o1+142) fun l1=>dr p fun b2 o2=>ldS h b2 (o2+144) fun l2=>dr p fun b3 o3=>ldS h b3 (o3+145) fun l3=>par ((l.n:Int)=0) (Q (.tuple ⟨[]⟩) h) (False)
theorem F187.den (V p):denF Tryz.prog [70,83,93,106,153,165,175,185] [] V [(63,.cut)] Tryz.f187 [.v (.pointer p)]=F187.T p:=by kernel_rfl
def F187.W (T187:Option Addr→PT) (args:List Value):PT:=match args with
 | [.pointer p]=>T187 p
 | _=>fun _ _=>False
def F187.V:List Value→PT:=F187.W F187.T
theorem F187.ok:FOk Tryz.prog 187 F187.V:=by
 refine ⟨⟨_,Tryz.func187,rfl,rfl⟩,fun args=>?_⟩
 unfold F187.V F187.W
 split
 ·exact denF_okE (GOk.nil) noV_ok Tryz.func187 (F187.den noV _)
 ·exact fun _ _ h=>h.elim
def F188.T (p:Option Addr):PT:=fun h Q=>
 dr p fun b o=>ldS h b (o+150) fun l=>dr p fun b1 o1=>ldS h b1 (o1+151) fun l1=>dr p fun b2 o2=>ldS h b2 (o2+153) fun l2=>dr p fun b3 o3=>ldS h b3 (o3+154) fun l3=>par ((l.n:Int)=0) (Q (.tuple ⟨[]⟩) h) (False)
theorem F188.den (V p):denF Tryz.prog [70,83,93,106,153,165,175,185] [] V [(63,.cut)] Tryz.f188 [.v (.pointer p)]=F188.T p:=by kernel_rfl
def F188.W (T188:Option Addr→PT) (args:List Value):PT:=match args with
 | [.pointer p]=>T188 p
 | _=>fun _ _=>False
def F188.V:List Value→PT:=F188.W F188.T
theorem F188.ok:FOk Tryz.prog 188 F188.V:=by
 refine ⟨⟨_,Tryz.func188,rfl,rfl⟩,fun args=>?_⟩
 unfold F188.V F188.W
 split
 ·exact denF_okE (GOk.nil) noV_ok Tryz.func188 (F188.den noV _)
 ·exact fun _ _ h=>h.elim
def F189.T (p:Option Addr):PT:=fun h Q=>
 dr p fun b o=>ldS h b (o+159) fun l=>dr p fun b1 o1=>ldS h b1 (o1+160) fun l1=>dr p fun b2 o2=>ldS h b2 (o2+162) fun l2=>dr p fun b3 o3=>ldS h b3 (o3+163) fun l3=>par ((l.n:Int)=0) (Q (.tuple ⟨[]⟩) h) (False)
theorem F189.den (V p):denF Tryz.prog [70,83,93,106,154,166,176,186] [] V [(63,.cut)] Tryz.f189 [.v (.pointer p)]=F189.T p:=by kernel_rfl
def F189.W (T189:Option Addr→PT) (args:List Value):PT:=match args with
 | [.pointer p]=>T189 p
 | _=>fun _ _=>False
def F189.V:List Value→PT:=F189.W F189.T
theorem F189.ok:FOk Tryz.prog 189 F189.V:=by
 refine ⟨⟨_,Tryz.func189,rfl,rfl⟩,fun args=>?_⟩
 unfold F189.V F189.W
 split
 ·exact denF_okE (GOk.nil) noV_ok Tryz.func189 (F189.den noV _)
 ·exact fun _ _ h=>h.elim
def F190.T (p:Option Addr):PT:=fun h Q=>
 dr p fun b o=>ldS h b (o+168) fun l=>dr p fun b1 o1=>ldS h b1 (o1+169) fun l1=>dr p fun b2 o2=>ldS h b2 (o2+171) fun l2=>dr p fun b3 o3=>ldS h b3 (o3+172) fun l3=>par ((l.n:Int)=0) (Q (.tuple ⟨[]⟩) h) (False)
theorem F190.den (V p):denF Tryz.prog [70,83,93,106,153,165,175,185] [] V [(63,.cut)] Tryz.f190 [.v (.pointer p)]=F190.T p:=by kernel_rfl
def F190.W (T190:Option Addr→PT) (args:List Value):PT:=match args with
 | [.pointer p]=>T190 p
 | _=>fun _ _=>False
def F190.V:List Value→PT:=F190.W F190.T
theorem F190.ok:FOk Tryz.prog 190 F190.V:=by
 refine ⟨⟨_,Tryz.func190,rfl,rfl⟩,fun args=>?_⟩
 unfold F190.V F190.W
 split
 ·exact denF_okE (GOk.nil) noV_ok Tryz.func190 (F190.den noV _)
 ·exact fun _ _ h=>h.elim
def F191.T (p:Option Addr):PT:=fun h Q=>
 ∃ (I:Int→Hp→Prop) (m:Int→Hp→Nat),I 0 h∧(∀ n:Int,∀ h1:Hp,I n h1→dr p fun b o=>ldS h1 b (o+8) fun l=>par (n < (l.n:Int)) (False) (dr p fun b1 o1=>st h1 b1 (o1+8) 1 [.slice none 0 0] fun h2=>dr p fun b2 o2=>st h2 b2 (o2+11) 1 [.slice none 0 0] fun h3=>Q (.tuple ⟨[]⟩) h3))
theorem F191.den (V p):denF Tryz.prog [40,48,60] [] V [(10,.loop [(2,.int .i64)] []),(41,.cut)] Tryz.f191 [.v (.pointer p)]=F191.T p:=by kernel_rfl
def F191.W (T191:Option Addr→PT) (args:List Value):PT:=match args with
 | [.pointer p]=>T191 p
 | _=>fun _ _=>False
def F191.V:List Value→PT:=F191.W F191.T
theorem F191.ok:FOk Tryz.prog 191 F191.V:=by
 refine ⟨⟨_,Tryz.func191,rfl,rfl⟩,fun args=>?_⟩
 unfold F191.V F191.W
 split
 ·exact denF_okE (GOk.nil) noV_ok Tryz.func191 (F191.den noV _)
 ·exact fun _ _ h=>h.elim
def F192.T (p:Option Addr):PT:=fun h Q=>
 ∃ (I:Int→Hp→Prop) (m:Int→Hp→Nat),I 0 h∧(∀ n:Int,∀ h1:Hp,I n h1→dr p fun b o=>ldS h1 b (o+17) fun l=>par (n < (l.n:Int)) (dr p fun b1 o1=>ldS h1 b1 (o1+20) fun l1=>ix l1.a n l1.n fun b2 o2=>ldI .i64 h1 b2 (o2+n.toNat) fun n1=>dr p fun b3 o3=>ldS h1 b3 (o3+17) fun l2=>ix l2.a n l2.n fun b4 o4=>ldS h1 b4 (o4+n.toNat) fun l3=>∃ (I1:Sl→Int→Hp→Prop) (m1:Sl→Int→Hp→Nat),I1 l3 0 h1∧(∀ l4:Sl,∀ n2:Int,∀ h2:Hp,I1 l4 n2 h2→par (n2 < 30) (appendD l4 3 1 8 [.int .i64 0] 1 [.int .i64 (IntKind.wrap .i64 ((IntKind.wrap .i64 (n1+6))+(IntKind.wrap .i64 (5*n2))))] h2 fun l5 h3=>I1 l5 (IntKind.wrap .i64 (n2+1)) h3∧m1 l5 (IntKind.wrap .i64 (n2+1)) h3 < m1 l4 n2 h2) (dr p fun b5 o5=>ldS h2 b5 (o5+13) fun l6=>appendD l6 25 1 24 [.slice none 0 0] 1 [.slice l4.a l4.n l4.c] h2 fun l7 h4=>dr p fun b6 o6=>st h4 b6 (o6+13) 1 [.slice l7.a l7.n l7.c] fun h5=>dr p fun b7 o7=>ldS h5 b7 (o7+14) fun l8=>nw h5 (.cells ⟨[]⟩ 3 (0,0)) fun b8 h6=>h6.at b7 (o7+14)=some (.slice l8.a l8.n l8.c)∧∃ vs,h6.row l4.a (l4.n*1) vs∧(∀ v∈vs,Value.oneCell' v=true)∧appendD ⟨(some ⟨b8,0,none⟩),0,0⟩ 3 1 8 [.int .i64 0] l4.n vs h6 fun l9 h7=>h7.at b7 (o7+14)=some (.slice l8.a l8.n l8.c)∧h7.at b7 (o7+14)=some (.slice l8.a l8.n l8.c)∧appendD l8 25 1 24 [.slice none 0 0] 1 [.slice l9.a l9.n l9.c] h7 fun l10 h8=>dr p fun b9 o8=>st h8 b9 (o8+14) 1 [.slice l10.a l10.n l10.c] fun h9=>I (IntKind.wrap .i64 (n+1)) h9∧m (IntKind.wrap .i64 (n+1)) h9 < m n h1))) (dr p fun b10 o9=>st h1 b10 (o9+17) 1 [.slice none 0 0] fun h10=>dr p fun b11 o10=>st h10 b11 (o10+20) 1 [.slice none 0 0] fun h11=>Q (.tuple ⟨[]⟩) h11))
theorem F192.den (V p):denF Tryz.prog [39,47,59] [] V [(10,.loop [(2,.int .i64)] []),(2639,.order [0,1,2,3,4,6,5,7,8,9,10,11,12]),(5274,.loop [(4,.sl),(5,.int .i64)] [])] Tryz.f192 [.v (.pointer p)]=F192.T p:=by kernel_rfl
def F192.W (T192:Option Addr→PT) (args:List Value):PT:=match args with
 | [.pointer p]=>T192 p
 | _=>fun _ _=>False
def F192.V:List Value→PT:=F192.W F192.T
theorem F192.ok:FOk Tryz.prog 192 F192.V:=by
 refine ⟨⟨_,Tryz.func192,rfl,rfl⟩,fun args=>?_⟩
 unfold F192.V F192.W
 split
 ·exact denF_okE (GOk.nil) noV_ok Tryz.func192 (F192.den noV _)
 ·exact fun _ _ h=>h.elim
def F193.T (p:Option Addr):PT:=fun h Q=>
 ∃ (I:Int→Hp→Prop) (m:Int→Hp→Nat),I 0 h∧(∀ n:Int,∀ h1:Hp,I n h1→dr p fun b o=>ldS h1 b (o+26) fun l=>par (n < (l.n:Int)) (False) (dr p fun b1 o1=>st h1 b1 (o1+26) 1 [.slice none 0 0] fun h2=>dr p fun b2 o2=>st h2 b2 (o2+29) 1 [.slice none 0 0] fun h3=>Q (.tuple ⟨[]⟩) h3))
theorem F193.den (V p):denF Tryz.prog [40,48,60] [] V [(10,.loop [(2,.int .i64)] []),(41,.cut)] Tryz.f193 [.v (.pointer p)]=F193.T p:=by kernel_rfl
def F193.W (T193:Option Addr→PT) (args:List Value):PT:=match args with
 | [.pointer p]=>T193 p
 | _=>fun _ _=>False
def F193.V:List Value→PT:=F193.W F193.T
theorem F193.ok:FOk Tryz.prog 193 F193.V:=by
 refine ⟨⟨_,Tryz.func193,rfl,rfl⟩,fun args=>?_⟩
 unfold F193.V F193.W
 split
 ·exact denF_okE (GOk.nil) noV_ok Tryz.func193 (F193.den noV _)
 ·exact fun _ _ h=>h.elim
def F194.T (p:Option Addr):PT:=fun h Q=>
 ∃ (I:Int→Hp→Prop) (m:Int→Hp→Nat),I 0 h∧(∀ n:Int,∀ h1:Hp,I n h1→dr p fun b o=>ldS h1 b (o+35) fun l=>par (n < (l.n:Int)) (False) (dr p fun b1 o1=>st h1 b1 (o1+35) 1 [.slice none 0 0] fun h2=>dr p fun b2 o2=>st h2 b2 (o2+38) 1 [.slice none 0 0] fun h3=>Q (.tuple ⟨[]⟩) h3))
theorem F194.den (V p):denF Tryz.prog [40,48,60] [] V [(10,.loop [(2,.int .i64)] []),(41,.cut)] Tryz.f194 [.v (.pointer p)]=F194.T p:=by kernel_rfl
def F194.W (T194:Option Addr→PT) (args:List Value):PT:=match args with
 | [.pointer p]=>T194 p
 | _=>fun _ _=>False
def F194.V:List Value→PT:=F194.W F194.T
theorem F194.ok:FOk Tryz.prog 194 F194.V:=by
 refine ⟨⟨_,Tryz.func194,rfl,rfl⟩,fun args=>?_⟩
 unfold F194.V F194.W
 split
 ·exact denF_okE (GOk.nil) noV_ok Tryz.func194 (F194.den noV _)
 ·exact fun _ _ h=>h.elim
def F195.T (p:Option Addr):PT:=fun h Q=>
 ∃ (I:Int→Hp→Prop) (m:Int→Hp→Nat),I 0 h∧(∀ n:Int,∀ h1:Hp,I n h1→dr p fun b o=>ldS h1 b (o+44) fun l=>par (n < (l.n:Int)) (False) (dr p fun b1 o1=>st h1 b1 (o1+44) 1 [.slice none 0 0] fun h2=>dr p fun b2 o2=>st h2 b2 (o2+47) 1 [.slice none 0 0] fun h3=>Q (.tuple ⟨[]⟩) h3))
theorem F195.den (V p):denF Tryz.prog [41,49,61] [] V [(10,.loop [(2,.int .i64)] []),(41,.cut)] Tryz.f195 [.v (.pointer p)]=F195.T p:=by kernel_rfl
def F195.W (T195:Option Addr→PT) (args:List Value):PT:=match args with
 | [.pointer p]=>T195 p
 | _=>fun _ _=>False
def F195.V:List Value→PT:=F195.W F195.T
theorem F195.ok:FOk Tryz.prog 195 F195.V:=by
 refine ⟨⟨_,Tryz.func195,rfl,rfl⟩,fun args=>?_⟩
 unfold F195.V F195.W
 split
 ·exact denF_okE (GOk.nil) noV_ok Tryz.func195 (F195.den noV _)
 ·exact fun _ _ h=>h.elim
def F196.T (p:Option Addr):PT:=fun h Q=>
 ∃ (I:Int→Hp→Prop) (m:Int→Hp→Nat),I 0 h∧(∀ n:Int,∀ h1:Hp,I n h1→dr p fun b o=>ldS h1 b (o+53) fun l=>par (n < (l.n:Int)) (False) (dr p fun b1 o1=>st h1 b1 (o1+53) 1 [.slice none 0 0] fun h2=>dr p fun b2 o2=>st h2 b2 (o2+56) 1 [.slice none 0 0] fun h3=>Q (.tuple ⟨[]⟩) h3))
theorem F196.den (V p):denF Tryz.prog [41,49,61] [] V [(10,.loop [(2,.int .i64)] []),(41,.cut)] Tryz.f196 [.v (.pointer p)]=F196.T p:=by kernel_rfl
def F196.W (T196:Option Addr→PT) (args:List Value):PT:=match args with
 | [.pointer p]=>T196 p
 | _=>fun _ _=>False
def F196.V:List Value→PT:=F196.W F196.T
theorem F196.ok:FOk Tryz.prog 196 F196.V:=by
 refine ⟨⟨_,Tryz.func196,rfl,rfl⟩,fun args=>?_⟩
 unfold F196.V F196.W
 split
 ·exact denF_okE (GOk.nil) noV_ok Tryz.func196 (F196.den noV _)
 ·exact fun _ _ h=>h.elim
def F197.T (p:Option Addr):PT:=fun h Q=>
 ∃ (I:Int→Hp→Prop) (m:Int→Hp→Nat),I 0 h∧(∀ n:Int,∀ h1:Hp,I n h1→dr p fun b o=>ldS h1 b (o+62) fun l=>par (n < (l.n:Int)) (False) (dr p fun b1 o1=>st h1 b1 (o1+62) 1 [.slice none 0 0] fun h2=>dr p fun b2 o2=>st h2 b2 (o2+65) 1 [.slice none 0 0] fun h3=>Q (.tuple ⟨[]⟩) h3))
theorem F197.den (V p):denF Tryz.prog [41,49,61] [] V [(10,.loop [(2,.int .i64)] []),(41,.cut)] Tryz.f197 [.v (.pointer p)]=F197.T p:=by kernel_rfl
def F197.W (T197:Option Addr→PT) (args:List Value):PT:=match args with
 | [.pointer p]=>T197 p
 | _=>fun _ _=>False
def F197.V:List Value→PT:=F197.W F197.T
theorem F197.ok:FOk Tryz.prog 197 F197.V:=by
 refine ⟨⟨_,Tryz.func197,rfl,rfl⟩,fun args=>?_⟩
 unfold F197.V F197.W
 split
 ·exact denF_okE (GOk.nil) noV_ok Tryz.func197 (F197.den noV _)
 ·exact fun _ _ h=>h.elim
def F198.T (p:Option Addr):PT:=fun h Q=>
 ∃ (I:Int→Hp→Prop) (m:Int→Hp→Nat),I 0 h∧(∀ n:Int,∀ h1:Hp,I n h1→dr p fun b o=>ldS h1 b (o+71) fun l=>par (n < (l.n:Int)) (dr p fun b1 o1=>ldS h1 b1 (o1+74) fun l1=>ix l1.a n l1.n fun b2 o2=>ldI .i64 h1 b2 (o2+n.toNat) fun n1=>dr p fun b3 o3=>ldS h1 b3 (o3+71) fun l2=>ix l2.a n l2.n fun b4 o4=>ldS h1 b4 (o4+n.toNat) fun l3=>∃ (I1:Sl→Int→Hp→Prop) (m1:Sl→Int→Hp→Nat),I1 l3 0 h1∧(∀ l4:Sl,∀ n2:Int,∀ h2:Hp,I1 l4 n2 h2→par (n2 < 30) (appendD l4 63 6 64 [.int .u64 0,.int .i64 0,.int .i64 0,.int .i64 0,.string ⟨#[]⟩,.string ⟨#[]⟩] 1 [.int .u64 (IntKind.wrap .u64 (IntKind.wrap .i64 ((IntKind.wrap .i64 (n1+6))+(IntKind.wrap .i64 (5*n2))))),.int .i64 0,.int .i64 0,.int .i64 0,.string ⟨#[]⟩,.string ⟨#[]⟩] h2 fun l5 h3=>I1 l5 (IntKind.wrap .i64 (n2+1)) h3∧m1 l5 (IntKind.wrap .i64 (n2+1)) h3 < m1 l4 n2 h2) (dr p fun b5 o5=>ldS h2 b5 (o5+67) fun l6=>appendD l6 77 1 24 [.slice none 0 0] 1 [.slice l4.a l4.n l4.c] h2 fun l7 h4=>dr p fun b6 o6=>st h4 b6 (o6+67) 1 [.slice l7.a l7.n l7.c] fun h5=>dr p fun b7 o7=>ldS h5 b7 (o7+68) fun l8=>nw h5 (.cells ⟨[]⟩ 63 (0,0)) fun b8 h6=>h6.at b7 (o7+68)=some (.slice l8.a l8.n l8.c)∧∃ vs,h6.row l4.a (l4.n*6) vs∧(∀ v∈vs,Value.oneCell' v=true)∧appendD ⟨(some ⟨b8,0,none⟩),0,0⟩ 63 6 64 [.int .u64 0,.int .i64 0,.int .i64 0,.int .i64 0,.string ⟨#[]⟩,.string ⟨#[]⟩] l4.n vs h6 fun l9 h7=>h7.at b7 (o7+68)=some (.slice l8.a l8.n l8.c)∧h7.at b7 (o7+68)=some (.slice l8.a l8.n l8.c)∧appendD l8 77 1 24 [.slice none 0 0] 1 [.slice l9.a l9.n l9.c] h7 fun l10 h8=>dr p fun b9 o8=>st h8 b9 (o8+68) 1 [.slice l10.a l10.n l10.c] fun h9=>I (IntKind.wrap .i64 (n+1)) h9∧m (IntKind.wrap .i64 (n+1)) h9 < m n h1))) (dr p fun b10 o9=>st h1 b10 (o9+71) 1 [.slice none 0 0] fun h10=>dr p fun b11 o10=>st h10 b11 (o10+74) 1 [.slice none 0 0] fun h11=>Q (.tuple ⟨[]⟩) h11))
theorem F198.den (V p):denF Tryz.prog [41,49,61] [] V [(10,.loop [(2,.int .i64)] []),(2639,.order [0,1,2,3,4,6,5,7,8,9,10,11,12]),(5274,.loop [(4,.sl),(5,.int .i64)] [])] Tryz.f198 [.v (.pointer p)]=F198.T p:=by kernel_rfl
def F198.W (T198:Option Addr→PT) (args:List Value):PT:=match args with
 | [.pointer p]=>T198 p
 | _=>fun _ _=>False
def F198.V:List Value→PT:=F198.W F198.T
theorem F198.ok:FOk Tryz.prog 198 F198.V:=by
 refine ⟨⟨_,Tryz.func198,rfl,rfl⟩,fun args=>?_⟩
 unfold F198.V F198.W
 split
 ·exact denF_okE (GOk.nil) noV_ok Tryz.func198 (F198.den noV _)
 ·exact fun _ _ h=>h.elim
def F199.T (p:Option Addr):PT:=fun h Q=>
 ∃ (I:Int→Hp→Prop) (m:Int→Hp→Nat),I 0 h∧(∀ n:Int,∀ h1:Hp,I n h1→dr p fun b o=>ldS h1 b (o+80) fun l=>par (n < (l.n:Int)) (False) (dr p fun b1 o1=>st h1 b1 (o1+80) 1 [.slice none 0 0] fun h2=>dr p fun b2 o2=>st h2 b2 (o2+83) 1 [.slice none 0 0] fun h3=>Q (.tuple ⟨[]⟩) h3))
theorem F199.den (V p):denF Tryz.prog [40,48,60] [] V [(10,.loop [(2,.int .i64)] []),(41,.cut)] Tryz.f199 [.v (.pointer p)]=F199.T p:=by kernel_rfl
def F199.W (T199:Option Addr→PT) (args:List Value):PT:=match args with
 | [.pointer p]=>T199 p
 | _=>fun _ _=>False
def F199.V:List Value→PT:=F199.W F199.T
theorem F199.ok:FOk Tryz.prog 199 F199.V:=by
 refine ⟨⟨_,Tryz.func199,rfl,rfl⟩,fun args=>?_⟩
 unfold F199.V F199.W
 split
 ·exact denF_okE (GOk.nil) noV_ok Tryz.func199 (F199.den noV _)
 ·exact fun _ _ h=>h.elim
def F200.T (p:Option Addr):PT:=fun h Q=>
 ∃ (I:Int→Hp→Prop) (m:Int→Hp→Nat),I 0 h∧(∀ n:Int,∀ h1:Hp,I n h1→dr p fun b o=>ldS h1 b (o+89) fun l=>par (n < (l.n:Int)) (False) (dr p fun b1 o1=>st h1 b1 (o1+89) 1 [.slice none 0 0] fun h2=>dr p fun b2 o2=>st h2 b2 (o2+92) 1 [.slice none 0 0] fun h3=>Q (.tuple ⟨[]⟩) h3))
theorem F200.den (V p):denF Tryz.prog [40,48,60] [] V [(10,.loop [(2,.int .i64)] []),(41,.cut)] Tryz.f200 [.v (.pointer p)]=F200.T p:=by kernel_rfl
def F200.W (T200:Option Addr→PT) (args:List Value):PT:=match args with
 | [.pointer p]=>T200 p
 | _=>fun _ _=>False
def F200.V:List Value→PT:=F200.W F200.T
theorem F200.ok:FOk Tryz.prog 200 F200.V:=by
 refine ⟨⟨_,Tryz.func200,rfl,rfl⟩,fun args=>?_⟩
 unfold F200.V F200.W
 split
 ·exact denF_okE (GOk.nil) noV_ok Tryz.func200 (F200.den noV _)
 ·exact fun _ _ h=>h.elim
def F201.T (p:Option Addr):PT:=fun h Q=>
 ∃ (I:Int→Hp→Prop) (m:Int→Hp→Nat),I 0 h∧(∀ n:Int,∀ h1:Hp,I n h1→dr p fun b o=>ldS h1 b (o+98) fun l=>par (n < (l.n:Int)) (False) (dr p fun b1 o1=>st h1 b1 (o1+98) 1 [.slice none 0 0] fun h2=>dr p fun b2 o2=>st h2 b2 (o2+101) 1 [.slice none 0 0] fun h3=>Q (.tuple ⟨[]⟩) h3))
theorem F201.den (V p):denF Tryz.prog [40,48,60] [] V [(10,.loop [(2,.int .i64)] []),(41,.cut)] Tryz.f201 [.v (.pointer p)]=F201.T p:=by kernel_rfl
def F201.W (T201:Option Addr→PT) (args:List Value):PT:=match args with
 | [.pointer p]=>T201 p
 | _=>fun _ _=>False
def F201.V:List Value→PT:=F201.W F201.T
theorem F201.ok:FOk Tryz.prog 201 F201.V:=by
 refine ⟨⟨_,Tryz.func201,rfl,rfl⟩,fun args=>?_⟩
 unfold F201.V F201.W
 split
 ·exact denF_okE (GOk.nil) noV_ok Tryz.func201 (F201.den noV _)
 ·exact fun _ _ h=>h.elim
def F202.T (p:Option Addr):PT:=fun h Q=>
 ∃ (I:Int→Hp→Prop) (m:Int→Hp→Nat),I 0 h∧(∀ n:Int,∀ h1:Hp,I n h1→dr p fun b o=>ldS h1 b (o+107) fun l=>par (n < (l.n:Int)) (False) (dr p fun b1 o1=>st h1 b1 (o1+107) 1 [.slice none 0 0] fun h2=>dr p fun b2 o2=>st h2 b2 (o2+110) 1 [.slice none 0 0] fun h3=>Q (.tuple ⟨[]⟩) h3))
theorem F202.den (V p):denF Tryz.prog [41,49,61] [] V [(10,.loop [(2,.int .i64)] []),(41,.cut)] Tryz.f202 [.v (.pointer p)]=F202.T p:=by kernel_rfl
def F202.W (T202:Option Addr→PT) (args:List Value):PT:=match args with
 | [.pointer p]=>T202 p
 | _=>fun _ _=>False
def F202.V:List Value→PT:=F202.W F202.T
theorem F202.ok:FOk Tryz.prog 202 F202.V:=by
 refine ⟨⟨_,Tryz.func202,rfl,rfl⟩,fun args=>?_⟩
 unfold F202.V F202.W
 split
 ·exact denF_okE (GOk.nil) noV_ok Tryz.func202 (F202.den noV _)
 ·exact fun _ _ h=>h.elim
def F203.T (p:Option Addr):PT:=fun h Q=>
 ∃ (I:Int→Hp→Prop) (m:Int→Hp→Nat),I 0 h∧(∀ n:Int,∀ h1:Hp,I n h1→dr p fun b o=>ldS h1 b (o+116) fun l=>par (n < (l.n:Int)) (False) (dr p fun b1 o1=>st h1 b1 (o1+116) 1 [.slice none 0 0] fun h2=>dr p fun b2 o2=>st h2 b2 (o2+119) 1 [.slice none 0 0] fun h3=>Q (.tuple ⟨[]⟩) h3))
theorem F203.den (V p):denF Tryz.prog [42,50,62] [] V [(10,.loop [(2,.int .i64)] []),(41,.cut)] Tryz.f203 [.v (.pointer p)]=F203.T p:=by kernel_rfl
def F203.W (T203:Option Addr→PT) (args:List Value):PT:=match args with
 | [.pointer p]=>T203 p
 | _=>fun _ _=>False
def F203.V:List Value→PT:=F203.W F203.T
theorem F203.ok:FOk Tryz.prog 203 F203.V:=by
 refine ⟨⟨_,Tryz.func203,rfl,rfl⟩,fun args=>?_⟩
 unfold F203.V F203.W
 split
 ·exact denF_okE (GOk.nil) noV_ok Tryz.func203 (F203.den noV _)
 ·exact fun _ _ h=>h.elim
def F204.T (p:Option Addr):PT:=fun h Q=>
 ∃ (I:Int→Hp→Prop) (m:Int→Hp→Nat),I 0 h∧(∀ n:Int,∀ h1:Hp,I n h1→dr p fun b o=>ldS h1 b (o+125) fun l=>par (n < (l.n:Int)) (False) (dr p fun b1 o1=>st h1 b1 (o1+125) 1 [.slice none 0 0] fun h2=>dr p fun b2 o2=>st h2 b2 (o2+128) 1 [.slice none 0 0] fun h3=>Q (.tuple ⟨[]⟩) h3))
theorem F204.den (V p):denF Tryz.prog [42,50,62] [] V [(10,.loop [(2,.int .i64)] []),(41,.cut)] Tryz.f204 [.v (.pointer p)]=F204.T p:=by kernel_rfl
def F204.W (T204:Option Addr→PT) (args:List Value):PT:=match args with
 | [.pointer p]=>T204 p
 | _=>fun _ _=>False
def F204.V:List Value→PT:=F204.W F204.T
theorem F204.ok:FOk Tryz.prog 204 F204.V:=by
 refine ⟨⟨_,Tryz.func204,rfl,rfl⟩,fun args=>?_⟩
 unfold F204.V F204.W
 split
 ·exact denF_okE (GOk.nil) noV_ok Tryz.func204 (F204.den noV _)
 ·exact fun _ _ h=>h.elim
def F205.T (p:Option Addr):PT:=fun h Q=>
 ∃ (I:Int→Hp→Prop) (m:Int→Hp→Nat),I 0 h∧(∀ n:Int,∀ h1:Hp,I n h1→dr p fun b o=>ldS h1 b (o+134) fun l=>par (n < (l.n:Int)) (False) (dr p fun b1 o1=>st h1 b1 (o1+134) 1 [.slice none 0 0] fun h2=>dr p fun b2 o2=>st h2 b2 (o2+137) 1 [.slice none 0 0] fun h3=>Q (.tuple ⟨[]⟩) h3))
theorem F205.den (V p):denF Tryz.prog [42,50,62] [] V [(10,.loop [(2,.int .i64)] []),(41,.cut)] Tryz.f205 [.v (.pointer p)]=F205.T p:=by kernel_rfl
def F205.W (T205:Option Addr→PT) (args:List Value):PT:=match args with
 | [.pointer p]=>T205 p
 | _=>fun _ _=>False
def F205.V:List Value→PT:=F205.W F205.T
theorem F205.ok:FOk Tryz.prog 205 F205.V:=by
 refine ⟨⟨_,Tryz.func205,rfl,rfl⟩,fun args=>?_⟩
 unfold F205.V F205.W
 split
 ·exact denF_okE (GOk.nil) noV_ok Tryz.func205 (F205.den noV _)
 ·exact fun _ _ h=>h.elim
def F206.T (p:Option Addr):PT:=fun h Q=>
 ∃ (I:Int→Hp→Prop) (m:Int→Hp→Nat),I 0 h∧(∀ n:Int,∀ h1:Hp,I n h1→dr p fun b o=>ldS h1 b (o+143) fun l=>par (n < (l.n:Int)) (False) (dr p fun b1 o1=>st h1 b1 (o1+143) 1 [.slice none 0 0] fun h2=>dr p fun b2 o2=>st h2 b2 (o2+146) 1 [.slice none 0 0] fun h3=>Q (.tuple ⟨[]⟩) h3))
theorem F206.den (V p):denF Tryz.prog [40,48,60] [] V [(10,.loop [(2,.int .i64)] []),(41,.cut)] Tryz.f206 [.v (.pointer p)]=F206.T p:=by kernel_rfl
def F206.W (T206:Option Addr→PT) (args:List Value):PT:=match args with
 | [.pointer p]=>T206 p
 | _=>fun _ _=>False
def F206.V:List Value→PT:=F206.W F206.T
theorem F206.ok:FOk Tryz.prog 206 F206.V:=by
 refine ⟨⟨_,Tryz.func206,rfl,rfl⟩,fun args=>?_⟩
 unfold F206.V F206.W
 split
 ·exact denF_okE (GOk.nil) noV_ok Tryz.func206 (F206.den noV _)
 ·exact fun _ _ h=>h.elim
def F207.T (p:Option Addr):PT:=fun h Q=>
 ∃ (I:Int→Hp→Prop) (m:Int→Hp→Nat),I 0 h∧(∀ n:Int,∀ h1:Hp,I n h1→dr p fun b o=>ldS h1 b (o+152) fun l=>par (n < (l.n:Int)) (False) (dr p fun b1 o1=>st h1 b1 (o1+152) 1 [.slice none 0 0] fun h2=>dr p fun b2 o2=>st h2 b2 (o2+155) 1 [.slice none 0 0] fun h3=>Q (.tuple ⟨[]⟩) h3))
theorem F207.den (V p):denF Tryz.prog [40,48,60] [] V [(10,.loop [(2,.int .i64)] []),(41,.cut)] Tryz.f207 [.v (.pointer p)]=F207.T p:=by kernel_rfl
def F207.W (T207:Option Addr→PT) (args:List Value):PT:=match args with
 | [.pointer p]=>T207 p
 | _=>fun _ _=>False
def F207.V:List Value→PT:=F207.W F207.T
theorem F207.ok:FOk Tryz.prog 207 F207.V:=by
 refine ⟨⟨_,Tryz.func207,rfl,rfl⟩,fun args=>?_⟩
 unfold F207.V F207.W
 split
 ·exact denF_okE (GOk.nil) noV_ok Tryz.func207 (F207.den noV _)
 ·exact fun _ _ h=>h.elim
def F208.T (p:Option Addr):PT:=fun h Q=>
 ∃ (I:Int→Hp→Prop) (m:Int→Hp→Nat),I 0 h∧(∀ n:Int,∀ h1:Hp,I n h1→dr p fun b o=>ldS h1 b (o+161) fun l=>par (n < (l.n:Int)) (False) (dr p fun b1 o1=>st h1 b1 (o1+161) 1 [.slice none 0 0] fun h2=>dr p fun b2 o2=>st h2 b2 (o2+164) 1 [.slice none 0 0] fun h3=>Q (.tuple ⟨[]⟩) h3))
theorem F208.den (V p):denF Tryz.prog [41,49,61] [] V [(10,.loop [(2,.int .i64)] []),(41,.cut)] Tryz.f208 [.v (.pointer p)]=F208.T p:=by kernel_rfl
def F208.W (T208:Option Addr→PT) (args:List Value):PT:=match args with
 | [.pointer p]=>T208 p
 | _=>fun _ _=>False
def F208.V:List Value→PT:=F208.W F208.T
theorem F208.ok:FOk Tryz.prog 208 F208.V:=by
 refine ⟨⟨_,Tryz.func208,rfl,rfl⟩,fun args=>?_⟩
 unfold F208.V F208.W
 split
 ·exact denF_okE (GOk.nil) noV_ok Tryz.func208 (F208.den noV _)
 ·exact fun _ _ h=>h.elim
def F209.T (p:Option Addr):PT:=fun h Q=>
 ∃ (I:Int→Hp→Prop) (m:Int→Hp→Nat),I 0 h∧(∀ n:Int,∀ h1:Hp,I n h1→dr p fun b o=>ldS h1 b (o+170) fun l=>par (n < (l.n:Int)) (False) (dr p fun b1 o1=>st h1 b1 (o1+170) 1 [.slice none 0 0] fun h2=>dr p fun b2 o2=>st h2 b2 (o2+173) 1 [.slice none 0 0] fun h3=>Q (.tuple ⟨[]⟩) h3))
theorem F209.den (V p):denF Tryz.prog [40,48,60] [] V [(10,.loop [(2,.int .i64)] []),(41,.cut)] Tryz.f209 [.v (.pointer p)]=F209.T p:=by kernel_rfl
def F209.W (T209:Option Addr→PT) (args:List Value):PT:=match args with
 | [.pointer p]=>T209 p
 | _=>fun _ _=>False
def F209.V:List Value→PT:=F209.W F209.T
theorem F209.ok:FOk Tryz.prog 209 F209.V:=by
 refine ⟨⟨_,Tryz.func209,rfl,rfl⟩,fun args=>?_⟩
 unfold F209.V F209.W
 split
 ·exact denF_okE (GOk.nil) noV_ok Tryz.func209 (F209.den noV _)
 ·exact fun _ _ h=>h.elim
@[reducible] def F146.G (T172 T173 T174 T175 T176 T177 T178 T179 T180 T181 T182 T183 T184 T185 T186 T187 T188 T189 T190:Option Addr→PT) (p:Option Addr):PT:=fun h Q=>
 T172 p h fun r h1=>T173 p h1 fun r1 h2=>T174 p h2 fun r2 h3=>T175 p h3 fun r3 h4=>T176 p h4 fun r4 h5=>T177 p h5 fun r5 h6=>T178 p h6 fun r6 h7=>T179 p h7 fun r7 h8=>T180 p h8 fun r8 h9=>T181 p h9 fun r9 h10=>T182 p h10 fun r10 h11=>T183 p h11 fun r11 h12=>T184 p h12 fun r12 h13=>T185 p h13 fun r13 h14=>T186 p h14 fun r14 h15=>T187 p h15 fun r15 h16=>T188 p h16 fun r16 h17=>T189 p h17 fun r17 h18=>T190 p h18 fun r18 h19=>Q (.tuple ⟨[]⟩) h19
def F146.T:=F146.G F172.T F173.T F174.T F175.T F176.T F177.T F178.T F179.T F180.T F181.T F182.T F183.T F184.T F185.T F186.T F187.T F188.T F189.T F190.T
theorem F146.gen (V T172 T173 T174 T175 T176 T177 T178 T179 T180 T181 T182 T183 T184 T185 T186 T187 T188 T189 T190 p):denF Tryz.prog [] [(172,F172.W T172),(173,F173.W T173),(174,F174.W T174),(175,F175.W T175),(176,F176.W T176),(177,F177.W T177),(178,F178.W T178),(179,F179.W T179),(180,F180.W T180),(181,F181.W T181),(182,F182.W T182),(183,F183.W T183),(184,F184.W T184),(185,F185.W T185),(186,F186.W T186),(187,F187.W T187),(188,F188.W T188),(189,F189.W T189),(190,F190.W T190)] V [] Tryz.f146 [.v (.pointer p)]=F146.G T172 T173 T174 T175 T176 T177 T178 T179 T180 T181 T182 T183 T184 T185 T186 T187 T188 T189 T190 p:=by kernel_rfl
def F146.W (T146:Option Addr→PT) (args:List Value):PT:=match args with
 | [.pointer p]=>T146 p
 | _=>fun _ _=>False
def F146.V:List Value→PT:=F146.W F146.T
theorem F146.ok:FOk Tryz.prog 146 F146.V:=by
 refine ⟨⟨_,Tryz.func146,rfl,rfl⟩,fun args=>?_⟩
 unfold F146.V F146.W
 split
 ·exact denF_okE (GOk.cons F172.ok (GOk.cons F173.ok (GOk.cons F174.ok (GOk.cons F175.ok (GOk.cons F176.ok (GOk.cons F177.ok (GOk.cons F178.ok (GOk.cons F179.ok (GOk.cons F180.ok (GOk.cons F181.ok (GOk.cons F182.ok (GOk.cons F183.ok (GOk.cons F184.ok (GOk.cons F185.ok (GOk.cons F186.ok (GOk.cons F187.ok (GOk.cons F188.ok (GOk.cons F189.ok (GOk.cons F190.ok (GOk.nil)))))))))))))))))))) noV_ok Tryz.func146 (F146.gen noV F172.T F173.T F174.T F175.T F176.T F177.T F178.T F179.T F180.T F181.T F182.T F183.T F184.T F185.T F186.T F187.T F188.T F189.T F190.T _)
 ·exact fun _ _ h=>h.elim
@[reducible] def F147.G (T191 T192 T193 T194 T195 T196 T197 T198 T199 T200 T201 T202 T203 T204 T205 T206 T207 T208 T209:Option Addr→PT) (p:Option Addr):PT:=fun h Q=>
 T191 p h fun r h1=>T192 p h1 fun r1 h2=>T193 p h2 fun r2 h3=>T194 p h3 fun r3 h4=>T195 p h4 fun r4 h5=>T196 p h5 fun r5 h6=>T197 p h6 fun r6 h7=>T198 p h7 fun r7 h8=>T199 p h8 fun r8 h9=>T200 p h9 fun r9 h10=>T201 p h10 fun r10 h11=>T202 p h11 fun r11 h12=>T203 p h12 fun r12 h13=>T204 p h13 fun r13 h14=>T205 p h14 fun r14 h15=>T206 p h15 fun r15 h16=>T207 p h16 fun r16 h17=>T208 p h17 fun r17 h18=>T209 p h18 fun r18 h19=>Q (.tuple ⟨[]⟩) h19
def F147.T:=F147.G F191.T F192.T F193.T F194.T F195.T F196.T F197.T F198.T F199.T F200.T F201.T F202.T F203.T F204.T F205.T F206.T F207.T F208.T F209.T
theorem F147.gen (V T191 T192 T193 T194 T195 T196 T197 T198 T199 T200 T201 T202 T203 T204 T205 T206 T207 T208 T209 p):denF Tryz.prog [] [(191,F191.W T191),(192,F192.W T192),(193,F193.W T193),(194,F194.W T194),(195,F195.W T195),(196,F196.W T196),(197,F197.W T197),(198,F198.W T198),(199,F199.W T199),(200,F200.W T200),(201,F201.W T201),(202,F202.W T202),(203,F203.W T203),(204,F204.W T204),(205,F205.W T205),(206,F206.W T206),(207,F207.W T207),(208,F208.W T208),(209,F209.W T209)] V [] Tryz.f147 [.v (.pointer p)]=F147.G T191 T192 T193 T194 T195 T196 T197 T198 T199 T200 T201 T202 T203 T204 T205 T206 T207 T208 T209 p:=by kernel_rfl
def F147.W (T147:Option Addr→PT) (args:List Value):PT:=match args with
 | [.pointer p]=>T147 p
 | _=>fun _ _=>False
def F147.V:List Value→PT:=F147.W F147.T
theorem F147.ok:FOk Tryz.prog 147 F147.V:=by
 refine ⟨⟨_,Tryz.func147,rfl,rfl⟩,fun args=>?_⟩
 unfold F147.V F147.W
 split
 ·exact denF_okE (GOk.cons F191.ok (GOk.cons F192.ok (GOk.cons F193.ok (GOk.cons F194.ok (GOk.cons F195.ok (GOk.cons F196.ok (GOk.cons F197.ok (GOk.cons F198.ok (GOk.cons F199.ok (GOk.cons F200.ok (GOk.cons F201.ok (GOk.cons F202.ok (GOk.cons F203.ok (GOk.cons F204.ok (GOk.cons F205.ok (GOk.cons F206.ok (GOk.cons F207.ok (GOk.cons F208.ok (GOk.cons F209.ok (GOk.nil)))))))))))))))))))) noV_ok Tryz.func147 (F147.gen noV F191.T F192.T F193.T F194.T F195.T F196.T F197.T F198.T F199.T F200.T F201.T F202.T F203.T F204.T F205.T F206.T F207.T F208.T F209.T _)
 ·exact fun _ _ h=>h.elim
@[reducible] def F82.G (T146 T147:Option Addr→PT) (p:Option Addr):PT:=fun h Q=>
 dr p fun b o=>ldI .i64 h b (o+3) fun n=>dr p fun b1 o1=>st h b1 (o1+3) 1 [.int .i64 (IntKind.wrap .i64 (n - 1))] fun h1=>dr p fun b2 o2=>ldI .i64 h1 b2 (o2+3) fun n1=>par ((0:Int) < n1) (Q (.tuple ⟨[]⟩) h1) (T146 p h1 fun r h2=>T147 p h2 fun r1 h3=>dr p fun b3 o3=>ldI .i64 h3 b3 (o3+2) fun n2=>dr p fun b4 o4=>st h3 b4 (o4+2) 1 [.int .i64 (IntKind.wrap .i64 (n2+1))] fun h4=>Q (.tuple ⟨[]⟩) h4)
def F82.T:=F82.G F146.T F147.T
theorem F82.gen (V T146 T147 p):denF Tryz.prog [] [(146,F146.W T146),(147,F147.W T147)] V [] Tryz.f82 [.v (.pointer p)]=F82.G T146 T147 p:=by kernel_rfl
def F82.W (T82:Option Addr→PT) (args:List Value):PT:=match args with
 | [.pointer p]=>T82 p
 | _=>fun _ _=>False
def F82.V:List Value→PT:=F82.W F82.T
theorem F82.ok:FOk Tryz.prog 82 F82.V:=by
 refine ⟨⟨_,Tryz.func82,rfl,rfl⟩,fun args=>?_⟩
 unfold F82.V F82.W
 split
 ·exact denF_okE (GOk.cons F146.ok (GOk.cons F147.ok (GOk.nil))) noV_ok Tryz.func82 (F82.gen noV F146.T F147.T _)
 ·exact fun _ _ h=>h.elim
@[reducible] def F19.G (T81:Option Addr→Int→PT) (T82:Option Addr→PT) (p:Option Addr) (l:Sl) (n:Int):PT:=fun h Q=>
 dr p fun b o=>ldI .i64 h b (o+3) fun n1=>dr p fun b1 o1=>st h b1 (o1+3) 1 [.int .i64 (IntKind.wrap .i64 (n1+1))] fun h1=>dr p fun b2 o2=>ldS h1 b2 (o2+15) fun l1=>appendD l1 25 1 24 [.slice none 0 0] 1 [.slice l.a l.n l.c] h1 fun l2 h2=>dr p fun b3 o3=>st h2 b3 (o3+15) 1 [.slice l2.a l2.n l2.c] fun h3=>dr p fun b4 o4=>ldS h3 b4 (o4+16) fun l3=>nw h3 (.cells ⟨[]⟩ 3 (0,0)) fun b5 h4=>h4.at b4 (o4+16)=some (.slice l3.a l3.n l3.c)∧∃ vs,h4.row l.a (l.n*1) vs∧(∀ v∈vs,Value.oneCell' v=true)∧appendD ⟨(some ⟨b5,0,none⟩),0,0⟩ 3 1 8 [.int .i64 0] l.n vs h4 fun l4 h5=>h5.at b4 (o4+16)=some (.slice l3.a l3.n l3.c)∧h5.at b4 (o4+16)=some (.slice l3.a l3.n l3.c)∧appendD l3 25 1 24 [.slice none 0 0] 1 [.slice l4.a l4.n l4.c] h5 fun l5 h6=>dr p fun b6 o5=>st h6 b6 (o5+16) 1 [.slice l5.a l5.n l5.c] fun h7=>dr p fun b7 o6=>ldS h7 b7 (o6+18) fun l6=>appendD l6 3 1 8 [.int .i64 0] 1 [.int .i64 n] h7 fun l7 h8=>dr p fun b8 o7=>st h8 b8 (o7+18) 1 [.slice l7.a l7.n l7.c] fun h9=>dr p fun b9 o8=>ldS h9 b9 (o8+19) fun l8=>dr p fun b10 o9=>ldI .i64 h9 b10 (o9+21) fun n2=>T81 p n2 h9 fun r h10=>retI .i64 r fun n3=>h10.at b9 (o8+19)=some (.slice l8.a l8.n l8.c)∧h10.at b9 (o8+19)=some (.slice l8.a l8.n l8.c)∧appendD l8 3 1 8 [.int .i64 0] 1 [.int .i64 n3] h10 fun l9 h11=>dr p fun b11 o10=>st h11 b11 (o10+19) 1 [.slice l9.a l9.n l9.c] fun h12=>dr p fun b12 o11=>ldI .i64 h12 b12 (o11+21) fun n4=>dr p fun b13 o12=>st h12 b13 (o12+21) 1 [.int .i64 (IntKind.wrap .i64 (n4+1))] fun h13=>T82 p h13 fun r1 h14=>Q (.tuple ⟨[]⟩) h14
def F19.T:=F19.G F81.T F82.T
theorem F19.gen (V T81 T82 p l n):denF Tryz.prog [19,31,41,56] [(81,F81.W T81),(82,F82.W T82)] V [(14,.order [0,1,2,3,4,6,5,7,8,9,10,11,12]),(62,.order [0,1,2,3,4,5,6,7,8,9,10,11,12,13,14,15])] Tryz.f19 [.v (.pointer p),.v (.slice l.a l.n l.c),.v (.int .i64 n)]=F19.G T81 T82 p l n:=by kernel_rfl
def F19.W (T19:Option Addr→Sl→Int→PT) (args:List Value):PT:=match args with
 | [.pointer p,.slice l_a l_n l_c,.int .i64 n]=>T19 p ⟨l_a,l_n,l_c⟩ n
 | _=>fun _ _=>False
def F19.V:List Value→PT:=F19.W F19.T
theorem F19.ok:FOk Tryz.prog 19 F19.V:=by
 refine ⟨⟨_,Tryz.func19,rfl,rfl⟩,fun args=>?_⟩
 unfold F19.V F19.W
 split
 ·exact denF_okE (GOk.cons F81.ok (GOk.cons F82.ok (GOk.nil))) noV_ok Tryz.func19 (F19.gen noV F81.T F82.T _ ⟨_,_,_⟩ _)
 ·exact fun _ _ h=>h.elim
@[reducible] def F90.G (T81:Option Addr→Int→PT) (T82:Option Addr→PT) (p:Option Addr) (l:Sl) (n:Int):PT:=fun h Q=>
 dr p fun b o=>ldI .i64 h b (o+3) fun n1=>dr p fun b1 o1=>st h b1 (o1+3) 1 [.int .i64 (IntKind.wrap .i64 (n1+1))] fun h1=>dr p fun b2 o2=>ldS h1 b2 (o2+69) fun l1=>appendD l1 77 1 24 [.slice none 0 0] 1 [.slice l.a l.n l.c] h1 fun l2 h2=>dr p fun b3 o3=>st h2 b3 (o3+69) 1 [.slice l2.a l2.n l2.c] fun h3=>dr p fun b4 o4=>ldS h3 b4 (o4+70) fun l3=>nw h3 (.cells ⟨[]⟩ 63 (0,0)) fun b5 h4=>h4.at b4 (o4+70)=some (.slice l3.a l3.n l3.c)∧∃ vs,h4.row l.a (l.n*6) vs∧(∀ v∈vs,Value.oneCell' v=true)∧appendD ⟨(some ⟨b5,0,none⟩),0,0⟩ 63 6 64 [.int .u64 0,.int .i64 0,.int .i64 0,.int .i64 0,.string ⟨#[]⟩,.string ⟨#[]⟩] l.n vs h4 fun l4 h5=>h5.at b4 (o4+70)=some (.slice l3.a l3.n l3.c)∧h5.at b4 (o4+70)=some (.slice l3.a l3.n l3.c)∧appendD l3 77 1 24 [.slice none 0 0] 1 [.slice l4.a l4.n l4.c] h5 fun l5 h6=>dr p fun b6 o5=>st h6 b6 (o5+70) 1 [.slice l5.a l5.n l5.c] fun h7=>dr p fun b7 o6=>ldS h7 b7 (o6+72) fun l6=>appendD l6 3 1 8 [.int .i64 0] 1 [.int .i64 n] h7 fun l7 h8=>dr p fun b8 o7=>st h8 b8 (o7+72) 1 [.slice l7.a l7.n l7.c] fun h9=>dr p fun b9 o8=>ldS h9 b9 (o8+73) fun l8=>dr p fun b10 o9=>ldI .i64 h9 b10 (o9+75) fun n2=>T81 p n2 h9 fun r h10=>retI .i64 r fun n3=>h10.at b9 (o8+73)=some (.slice l8.a l8.n l8.c)∧h10.at b9 (o8+73)=some (.slice l8.a l8.n l8.c)∧appendD l8 3 1 8 [.int .i64 0] 1 [.int .i64 n3] h10 fun l9 h11=>dr p fun b11 o10=>st h11 b11 (o10+73) 1 [.slice l9.a l9.n l9.c] fun h12=>dr p fun b12 o11=>ldI .i64 h12 b12 (o11+75) fun n4=>dr p fun b13 o12=>st h12 b13 (o12+75) 1 [.int .i64 (IntKind.wrap .i64 (n4+1))] fun h13=>T82 p h13 fun r1 h14=>Q (.tuple ⟨[]⟩) h14
def F90.T:=F90.G F81.T F82.T
theorem F90.gen (V T81 T82 p l n):denF Tryz.prog [19,31,41,56] [(81,F81.W T81),(82,F82.W T82)] V [(14,.order [0,1,2,3,4,6,5,7,8,9,10,11,12]),(62,.order [0,1,2,3,4,5,6,7,8,9,10,11,12,13,14,15])] Tryz.f90 [.v (.pointer p),.v (.slice l.a l.n l.c),.v (.int .i64 n)]=F90.G T81 T82 p l n:=by kernel_rfl
def F90.W (T90:Option Addr→Sl→Int→PT) (args:List Value):PT:=match args with
 | [.pointer p,.slice l_a l_n l_c,.int .i64 n]=>T90 p ⟨l_a,l_n,l_c⟩ n
 | _=>fun _ _=>False
def F90.V:List Value→PT:=F90.W F90.T
theorem F90.ok:FOk Tryz.prog 90 F90.V:=by
 refine ⟨⟨_,Tryz.func90,rfl,rfl⟩,fun args=>?_⟩
 unfold F90.V F90.W
 split
 ·exact denF_okE (GOk.cons F81.ok (GOk.cons F82.ok (GOk.nil))) noV_ok Tryz.func90 (F90.gen noV F81.T F82.T _ ⟨_,_,_⟩ _)
 ·exact fun _ _ h=>h.elim
@[reducible] def F23.G (T82:Option Addr→PT) (T90:Option Addr→Sl→Int→PT) (p:Option Addr) (n:Int) (l l1:Sl) (s:ByteArray) (b:Bool) (n1:Int):PT:=fun h Q=>
 dr p fun b1 o=>ldI .i64 h b1 (o+3) fun n2=>dr p fun b2 o1=>st h b2 (o1+3) 1 [.int .i64 (IntKind.wrap .i64 (n2+1))] fun h1=>T90 p l n1 h1 fun r h2=>T90 p l1 (IntKind.wrap .i64 (n1+1)) h2 fun r1 h3=>T82 p h3 fun r2 h4=>Q (.tuple ⟨[]⟩) h4
def F23.T:=F23.G F82.T F90.T
theorem F23.gen (V T82 T90 p n l l1 s b n1):denF Tryz.prog [4] [(82,F82.W T82),(90,F90.W T90)] V [] Tryz.f23 [.v (.pointer p),.v (.agg ⟨[.int .i64 n,.slice l.a l.n l.c,.slice l1.a l1.n l1.c,.string s,.bool b]⟩),.v (.int .i64 n1)]=F23.G T82 T90 p n l l1 s b n1:=by kernel_rfl
def F23.W (T23:Option Addr→Int→Sl→Sl→ByteArray→Bool→Int→PT) (args:List Value):PT:=match args with
 | [.pointer p,.agg ⟨[.int .i64 n,.slice l_a l_n l_c,.slice l1_a l1_n l1_c,.string s,.bool b]⟩,.int .i64 n1]=>T23 p n ⟨l_a,l_n,l_c⟩ ⟨l1_a,l1_n,l1_c⟩ s b n1
 | _=>fun _ _=>False
def F23.V:List Value→PT:=F23.W F23.T
theorem F23.ok:FOk Tryz.prog 23 F23.V:=by
 refine ⟨⟨_,Tryz.func23,rfl,rfl⟩,fun args=>?_⟩
 unfold F23.V F23.W
 split
 ·exact denF_okE (GOk.cons F82.ok (GOk.cons F90.ok (GOk.nil))) noV_ok Tryz.func23 (F23.gen noV F82.T F90.T _ _ ⟨_,_,_⟩ ⟨_,_,_⟩ _ _ _)
 ·exact fun _ _ h=>h.elim
def F50.T (p:Option Addr):PT:=fun h Q=>
 ∃ (I:Int→Hp→Prop) (m:Int→Hp→Nat),I 0 h∧(∀ n:Int,∀ h1:Hp,I n h1→dr p fun b o=>ldS h1 b (o+4) fun l=>par (n < (l.n:Int)) (False) (∃ (I1:Int→Hp→Prop) (m1:Int→Hp→Nat),I1 0 h1∧(∀ n1:Int,∀ h2:Hp,I1 n1 h2→dr p fun b1 o1=>ldS h2 b1 (o1+6) fun l1=>par (n1 < (l1.n:Int)) (False) (Q (.bool true) h2))))
theorem F50.den (V p):denF Tryz.prog [] [] V [(26,.loop [(3,.int .i64)] []),(58,.loop [(4,.int .i64)] []),(105,.cut),(233,.cut)] Tryz.f50 [.v (.pointer p)]=F50.T p:=by kernel_rfl
def F50.W (T50:Option Addr→PT) (args:List Value):PT:=match args with
 | [.pointer p]=>T50 p
 | _=>fun _ _=>False
def F50.V:List Value→PT:=F50.W F50.T
theorem F50.ok:FOk Tryz.prog 50 F50.V:=by
 refine ⟨⟨_,Tryz.func50,rfl,rfl⟩,fun args=>?_⟩
 unfold F50.V F50.W
 split
 ·exact denF_okE (GOk.nil) noV_ok Tryz.func50 (F50.den noV _)
 ·exact fun _ _ h=>h.elim
@[reducible] def F51.G (T124:Sl→Sl→PT) (p:Option Addr):PT:=fun h Q=>
 ∃ (I:Int→Hp→Prop) (m:Int→Hp→Nat),I 0 h∧(∀ n:Int,∀ h1:Hp,I n h1→dr p fun b o=>ldS h1 b (o+13) fun l=>par (n < (l.n:Int)) (dr p fun b1 o1=>ldS h1 b1 (o1+13) fun l1=>ix l1.a n l1.n fun b2 o2=>ldS h1 b2 (o2+n.toNat) fun l2=>dr p fun b3 o3=>ldS h1 b3 (o3+14) fun l3=>ix l3.a n l3.n fun b4 o4=>ldS h1 b4 (o4+n.toNat) fun l4=>T124 l2 l4 h1 fun r h2=>retB r (I (IntKind.wrap .i64 (n+1)) h2∧m (IntKind.wrap .i64 (n+1)) h2 < m n h1) (Q (.bool false) h2)) (∃ (I1:Int→Hp→Prop) (m1:Int→Hp→Nat),I1 0 h1∧(∀ n1:Int,∀ h3:Hp,I1 n1 h3→dr p fun b5 o5=>ldS h3 b5 (o5+15) fun l5=>par (n1 < (l5.n:Int)) (dr p fun b6 o6=>ldS h3 b6 (o6+15) fun l6=>ix l6.a n1 l6.n fun b7 o7=>ldS h3 b7 (o7+n1.toNat) fun l7=>dr p fun b8 o8=>ldS h3 b8 (o8+16) fun l8=>ix l8.a n1 l8.n fun b9 o9=>ldS h3 b9 (o9+n1.toNat) fun l9=>T124 l7 l9 h3 fun r1 h4=>retB r1 (I1 (IntKind.wrap .i64 (n1+1)) h4∧m1 (IntKind.wrap .i64 (n1+1)) h4 < m1 n1 h3) (Q (.bool false) h4)) (Q (.bool true) h3))))
def F51.T:=F51.G F124.T
theorem F51.gen (V T124 p):denF Tryz.prog [] [(124,F124.W T124)] V [(26,.loop [(3,.int .i64)] []),(58,.loop [(4,.int .i64)] []),(840,.order [0,1,2,3,4,5,6,7,8,9,10,11,12,13,14,15]),(1864,.order [0,1,2,3,4,5,6,7,8,9,10,11,12,13,14,15])] Tryz.f51 [.v (.pointer p)]=F51.G T124 p:=by kernel_rfl
def F51.W (T51:Option Addr→PT) (args:List Value):PT:=match args with
 | [.pointer p]=>T51 p
 | _=>fun _ _=>False
def F51.V:List Value→PT:=F51.W F51.T
theorem F51.ok:FOk Tryz.prog 51 F51.V:=by
 refine ⟨⟨_,Tryz.func51,rfl,rfl⟩,fun args=>?_⟩
 unfold F51.V F51.W
 split
 ·exact denF_okE (GOk.cons F124.ok (GOk.nil)) noV_ok Tryz.func51 (F51.gen noV F124.T _)
 ·exact fun _ _ h=>h.elim
def F52.T (p:Option Addr):PT:=fun h Q=>
 ∃ (I:Int→Hp→Prop) (m:Int→Hp→Nat),I 0 h∧(∀ n:Int,∀ h1:Hp,I n h1→dr p fun b o=>ldS h1 b (o+22) fun l=>par (n < (l.n:Int)) (False) (∃ (I1:Int→Hp→Prop) (m1:Int→Hp→Nat),I1 0 h1∧(∀ n1:Int,∀ h2:Hp,I1 n1 h2→dr p fun b1 o1=>ldS h2 b1 (o1+24) fun l1=>par (n1 < (l1.n:Int)) (False) (Q (.bool true) h2))))
theorem F52.den (V p):denF Tryz.prog [] [] V [(26,.loop [(3,.int .i64)] []),(58,.loop [(4,.int .i64)] []),(105,.cut),(233,.cut)] Tryz.f52 [.v (.pointer p)]=F52.T p:=by kernel_rfl
def F52.W (T52:Option Addr→PT) (args:List Value):PT:=match args with
 | [.pointer p]=>T52 p
 | _=>fun _ _=>False
def F52.V:List Value→PT:=F52.W F52.T
theorem F52.ok:FOk Tryz.prog 52 F52.V:=by
 refine ⟨⟨_,Tryz.func52,rfl,rfl⟩,fun args=>?_⟩
 unfold F52.V F52.W
 split
 ·exact denF_okE (GOk.nil) noV_ok Tryz.func52 (F52.den noV _)
 ·exact fun _ _ h=>h.elim
def F53.T (p:Option Addr):PT:=fun h Q=>
 ∃ (I:Int→Hp→Prop) (m:Int→Hp→Nat),I 0 h∧(∀ n:Int,∀ h1:Hp,I n h1→dr p fun b o=>ldS h1 b (o+31) fun l=>par (n < (l.n:Int)) (False) (∃ (I1:Int→Hp→Prop) (m1:Int→Hp→Nat),I1 0 h1∧(∀ n1:Int,∀ h2:Hp,I1 n1 h2→dr p fun b1 o1=>ldS h2 b1 (o1+33) fun l1=>par (n1 < (l1.n:Int)) (False) (Q (.bool true) h2))))
theorem F53.den (V p):denF Tryz.prog [] [] V [(26,.loop [(3,.int .i64)] []),(58,.loop [(4,.int .i64)] []),(105,.cut),(233,.cut)] Tryz.f53 [.v (.pointer p)]=F53.T p:=by kernel_rfl
def F53.W (T53:Option Addr→PT) (args:List Value):PT:=match args with
 | [.pointer p]=>T53 p
 | _=>fun _ _=>False
def F53.V:List Value→PT:=F53.W F53.T
theorem F53.ok:FOk Tryz.prog 53 F53.V:=by
 refine ⟨⟨_,Tryz.func53,rfl,rfl⟩,fun args=>?_⟩
 unfold F53.V F53.W
 split
 ·exact denF_okE (GOk.nil) noV_ok Tryz.func53 (F53.den noV _)
 ·exact fun _ _ h=>h.elim
def F54.T (p:Option Addr):PT:=fun h Q=>
 ∃ (I:Int→Hp→Prop) (m:Int→Hp→Nat),I 0 h∧(∀ n:Int,∀ h1:Hp,I n h1→dr p fun b o=>ldS h1 b (o+40) fun l=>par (n < (l.n:Int)) (False) (∃ (I1:Int→Hp→Prop) (m1:Int→Hp→Nat),I1 0 h1∧(∀ n1:Int,∀ h2:Hp,I1 n1 h2→dr p fun b1 o1=>ldS h2 b1 (o1+42) fun l1=>par (n1 < (l1.n:Int)) (False) (Q (.bool true) h2))))
theorem F54.den (V p):denF Tryz.prog [] [] V [(26,.loop [(3,.int .i64)] []),(58,.loop [(4,.int .i64)] []),(105,.cut),(233,.cut)] Tryz.f54 [.v (.pointer p)]=F54.T p:=by kernel_rfl
def F54.W (T54:Option Addr→PT) (args:List Value):PT:=match args with
 | [.pointer p]=>T54 p
 | _=>fun _ _=>False
def F54.V:List Value→PT:=F54.W F54.T
theorem F54.ok:FOk Tryz.prog 54 F54.V:=by
 refine ⟨⟨_,Tryz.func54,rfl,rfl⟩,fun args=>?_⟩
 unfold F54.V F54.W
 split
 ·exact denF_okE (GOk.nil) noV_ok Tryz.func54 (F54.den noV _)
 ·exact fun _ _ h=>h.elim
def F55.T (p:Option Addr):PT:=fun h Q=>
 ∃ (I:Int→Hp→Prop) (m:Int→Hp→Nat),I 0 h∧(∀ n:Int,∀ h1:Hp,I n h1→dr p fun b o=>ldS h1 b (o+49) fun l=>par (n < (l.n:Int)) (False) (∃ (I1:Int→Hp→Prop) (m1:Int→Hp→Nat),I1 0 h1∧(∀ n1:Int,∀ h2:Hp,I1 n1 h2→dr p fun b1 o1=>ldS h2 b1 (o1+51) fun l1=>par (n1 < (l1.n:Int)) (False) (Q (.bool true) h2))))
theorem F55.den (V p):denF Tryz.prog [] [] V [(26,.loop [(3,.int .i64)] []),(58,.loop [(4,.int .i64)] []),(105,.cut),(233,.cut)] Tryz.f55 [.v (.pointer p)]=F55.T p:=by kernel_rfl
def F55.W (T55:Option Addr→PT) (args:List Value):PT:=match args with
 | [.pointer p]=>T55 p
 | _=>fun _ _=>False
def F55.V:List Value→PT:=F55.W F55.T
theorem F55.ok:FOk Tryz.prog 55 F55.V:=by
 refine ⟨⟨_,Tryz.func55,rfl,rfl⟩,fun args=>?_⟩
 unfold F55.V F55.W
 split
 ·exact denF_okE (GOk.nil) noV_ok Tryz.func55 (F55.den noV _)
 ·exact fun _ _ h=>h.elim
def F56.T (p:Option Addr):PT:=fun h Q=>
 ∃ (I:Int→Hp→Prop) (m:Int→Hp→Nat),I 0 h∧(∀ n:Int,∀ h1:Hp,I n h1→dr p fun b o=>ldS h1 b (o+58) fun l=>par (n < (l.n:Int)) (False) (∃ (I1:Int→Hp→Prop) (m1:Int→Hp→Nat),I1 0 h1∧(∀ n1:Int,∀ h2:Hp,I1 n1 h2→dr p fun b1 o1=>ldS h2 b1 (o1+60) fun l1=>par (n1 < (l1.n:Int)) (False) (Q (.bool true) h2))))
theorem F56.den (V p):denF Tryz.prog [] [] V [(26,.loop [(3,.int .i64)] []),(58,.loop [(4,.int .i64)] []),(105,.cut),(233,.cut)] Tryz.f56 [.v (.pointer p)]=F56.T p:=by kernel_rfl
def F56.W (T56:Option Addr→PT) (args:List Value):PT:=match args with
 | [.pointer p]=>T56 p
 | _=>fun _ _=>False
def F56.V:List Value→PT:=F56.W F56.T
theorem F56.ok:FOk Tryz.prog 56 F56.V:=by
 refine ⟨⟨_,Tryz.func56,rfl,rfl⟩,fun args=>?_⟩
 unfold F56.V F56.W
 split
 ·exact denF_okE (GOk.nil) noV_ok Tryz.func56 (F56.den noV _)
 ·exact fun _ _ h=>h.elim
@[reducible] def F57.G (T130:Sl→Sl→PT) (p:Option Addr):PT:=fun h Q=>
 ∃ (I:Int→Hp→Prop) (m:Int→Hp→Nat),I 0 h∧(∀ n:Int,∀ h1:Hp,I n h1→dr p fun b o=>ldS h1 b (o+67) fun l=>par (n < (l.n:Int)) (dr p fun b1 o1=>ldS h1 b1 (o1+67) fun l1=>ix l1.a n l1.n fun b2 o2=>ldS h1 b2 (o2+n.toNat) fun l2=>dr p fun b3 o3=>ldS h1 b3 (o3+68) fun l3=>ix l3.a n l3.n fun b4 o4=>ldS h1 b4 (o4+n.toNat) fun l4=>T130 l2 l4 h1 fun r h2=>retB r (I (IntKind.wrap .i64 (n+1)) h2∧m (IntKind.wrap .i64 (n+1)) h2 < m n h1) (Q (.bool false) h2)) (∃ (I1:Int→Hp→Prop) (m1:Int→Hp→Nat),I1 0 h1∧(∀ n1:Int,∀ h3:Hp,I1 n1 h3→dr p fun b5 o5=>ldS h3 b5 (o5+69) fun l5=>par (n1 < (l5.n:Int)) (dr p fun b6 o6=>ldS h3 b6 (o6+69) fun l6=>ix l6.a n1 l6.n fun b7 o7=>ldS h3 b7 (o7+n1.toNat) fun l7=>dr p fun b8 o8=>ldS h3 b8 (o8+70) fun l8=>ix l8.a n1 l8.n fun b9 o9=>ldS h3 b9 (o9+n1.toNat) fun l9=>T130 l7 l9 h3 fun r1 h4=>retB r1 (I1 (IntKind.wrap .i64 (n1+1)) h4∧m1 (IntKind.wrap .i64 (n1+1)) h4 < m1 n1 h3) (Q (.bool false) h4)) (Q (.bool true) h3))))
def F57.T:=F57.G F130.T
theorem F57.gen (V T130 p):denF Tryz.prog [] [(130,F130.W T130)] V [(26,.loop [(3,.int .i64)] []),(58,.loop [(4,.int .i64)] []),(840,.order [0,1,2,3,4,5,6,7,8,9,10,11,12,13,14,15]),(1864,.order [0,1,2,3,4,5,6,7,8,9,10,11,12,13,14,15])] Tryz.f57 [.v (.pointer p)]=F57.G T130 p:=by kernel_rfl
def F57.W (T57:Option Addr→PT) (args:List Value):PT:=match args with
 | [.pointer p]=>T57 p
 | _=>fun _ _=>False
def F57.V:List Value→PT:=F57.W F57.T
theorem F57.ok:FOk Tryz.prog 57 F57.V:=by
 refine ⟨⟨_,Tryz.func57,rfl,rfl⟩,fun args=>?_⟩
 unfold F57.V F57.W
 split
 ·exact denF_okE (GOk.cons F130.ok (GOk.nil)) noV_ok Tryz.func57 (F57.gen noV F130.T _)
 ·exact fun _ _ h=>h.elim
def F58.T (p:Option Addr):PT:=fun h Q=>
 ∃ (I:Int→Hp→Prop) (m:Int→Hp→Nat),I 0 h∧(∀ n:Int,∀ h1:Hp,I n h1→dr p fun b o=>ldS h1 b (o+76) fun l=>par (n < (l.n:Int)) (False) (∃ (I1:Int→Hp→Prop) (m1:Int→Hp→Nat),I1 0 h1∧(∀ n1:Int,∀ h2:Hp,I1 n1 h2→dr p fun b1 o1=>ldS h2 b1 (o1+78) fun l1=>par (n1 < (l1.n:Int)) (False) (Q (.bool true) h2))))
theorem F58.den (V p):denF Tryz.prog [] [] V [(26,.loop [(3,.int .i64)] []),(58,.loop [(4,.int .i64)] []),(105,.cut),(233,.cut)] Tryz.f58 [.v (.pointer p)]=F58.T p:=by kernel_rfl
def F58.W (T58:Option Addr→PT) (args:List Value):PT:=match args with
 | [.pointer p]=>T58 p
 | _=>fun _ _=>False
def F58.V:List Value→PT:=F58.W F58.T
theorem F58.ok:FOk Tryz.prog 58 F58.V:=by
 refine ⟨⟨_,Tryz.func58,rfl,rfl⟩,fun args=>?_⟩
 unfold F58.V F58.W
 split
 ·exact denF_okE (GOk.nil) noV_ok Tryz.func58 (F58.den noV _)
 ·exact fun _ _ h=>h.elim
def F59.T (p:Option Addr):PT:=fun h Q=>
 ∃ (I:Int→Hp→Prop) (m:Int→Hp→Nat),I 0 h∧(∀ n:Int,∀ h1:Hp,I n h1→dr p fun b o=>ldS h1 b (o+85) fun l=>par (n < (l.n:Int)) (False) (∃ (I1:Int→Hp→Prop) (m1:Int→Hp→Nat),I1 0 h1∧(∀ n1:Int,∀ h2:Hp,I1 n1 h2→dr p fun b1 o1=>ldS h2 b1 (o1+87) fun l1=>par (n1 < (l1.n:Int)) (False) (Q (.bool true) h2))))
theorem F59.den (V p):denF Tryz.prog [] [] V [(26,.loop [(3,.int .i64)] []),(58,.loop [(4,.int .i64)] []),(105,.cut),(233,.cut)] Tryz.f59 [.v (.pointer p)]=F59.T p:=by kernel_rfl
def F59.W (T59:Option Addr→PT) (args:List Value):PT:=match args with
 | [.pointer p]=>T59 p
 | _=>fun _ _=>False
def F59.V:List Value→PT:=F59.W F59.T
theorem F59.ok:FOk Tryz.prog 59 F59.V:=by
 refine ⟨⟨_,Tryz.func59,rfl,rfl⟩,fun args=>?_⟩
 unfold F59.V F59.W
 split
 ·exact denF_okE (GOk.nil) noV_ok Tryz.func59 (F59.den noV _)
 ·exact fun _ _ h=>h.elim
def F60.T (p:Option Addr):PT:=fun h Q=>
 ∃ (I:Int→Hp→Prop) (m:Int→Hp→Nat),I 0 h∧(∀ n:Int,∀ h1:Hp,I n h1→dr p fun b o=>ldS h1 b (o+94) fun l=>par (n < (l.n:Int)) (False) (∃ (I1:Int→Hp→Prop) (m1:Int→Hp→Nat),I1 0 h1∧(∀ n1:Int,∀ h2:Hp,I1 n1 h2→dr p fun b1 o1=>ldS h2 b1 (o1+96) fun l1=>par (n1 < (l1.n:Int)) (False) (Q (.bool true) h2))))
theorem F60.den (V p):denF Tryz.prog [] [] V [(26,.loop [(3,.int .i64)] []),(58,.loop [(4,.int .i64)] []),(105,.cut),(233,.cut)] Tryz.f60 [.v (.pointer p)]=F60.T p:=by kernel_rfl
def F60.W (T60:Option Addr→PT) (args:List Value):PT:=match args with
 | [.pointer p]=>T60 p
 | _=>fun _ _=>False
def F60.V:List Value→PT:=F60.W F60.T
theorem F60.ok:FOk Tryz.prog 60 F60.V:=by
 refine ⟨⟨_,Tryz.func60,rfl,rfl⟩,fun args=>?_⟩
 unfold F60.V F60.W
 split
 ·exact denF_okE (GOk.nil) noV_ok Tryz.func60 (F60.den noV _)
 ·exact fun _ _ h=>h.elim
def F61.T (p:Option Addr):PT:=fun h Q=>
 ∃ (I:Int→Hp→Prop) (m:Int→Hp→Nat),I 0 h∧(∀ n:Int,∀ h1:Hp,I n h1→dr p fun b o=>ldS h1 b (o+103) fun l=>par (n < (l.n:Int)) (False) (∃ (I1:Int→Hp→Prop) (m1:Int→Hp→Nat),I1 0 h1∧(∀ n1:Int,∀ h2:Hp,I1 n1 h2→dr p fun b1 o1=>ldS h2 b1 (o1+105) fun l1=>par (n1 < (l1.n:Int)) (False) (Q (.bool true) h2))))
theorem F61.den (V p):denF Tryz.prog [] [] V [(26,.loop [(3,.int .i64)] []),(58,.loop [(4,.int .i64)] []),(105,.cut),(233,.cut)] Tryz.f61 [.v (.pointer p)]=F61.T p:=by kernel_rfl
def F61.W (T61:Option Addr→PT) (args:List Value):PT:=match args with
 | [.pointer p]=>T61 p
 | _=>fun _ _=>False
def F61.V:List Value→PT:=F61.W F61.T
theorem F61.ok:FOk Tryz.prog 61 F61.V:=by
 refine ⟨⟨_,Tryz.func61,rfl,rfl⟩,fun args=>?_⟩
 unfold F61.V F61.W
 split
 ·exact denF_okE (GOk.nil) noV_ok Tryz.func61 (F61.den noV _)
 ·exact fun _ _ h=>h.elim
def F62.T (p:Option Addr):PT:=fun h Q=>
 ∃ (I:Int→Hp→Prop) (m:Int→Hp→Nat),I 0 h∧(∀ n:Int,∀ h1:Hp,I n h1→dr p fun b o=>ldS h1 b (o+112) fun l=>par (n < (l.n:Int)) (False) (∃ (I1:Int→Hp→Prop) (m1:Int→Hp→Nat),I1 0 h1∧(∀ n1:Int,∀ h2:Hp,I1 n1 h2→dr p fun b1 o1=>ldS h2 b1 (o1+114) fun l1=>par (n1 < (l1.n:Int)) (False) (Q (.bool true) h2))))
theorem F62.den (V p):denF Tryz.prog [] [] V [(26,.loop [(3,.int .i64)] []),(58,.loop [(4,.int .i64)] []),(105,.cut),(233,.cut)] Tryz.f62 [.v (.pointer p)]=F62.T p:=by kernel_rfl
def F62.W (T62:Option Addr→PT) (args:List Value):PT:=match args with
 | [.pointer p]=>T62 p
 | _=>fun _ _=>False
def F62.V:List Value→PT:=F62.W F62.T
theorem F62.ok:FOk Tryz.prog 62 F62.V:=by
 refine ⟨⟨_,Tryz.func62,rfl,rfl⟩,fun args=>?_⟩
 unfold F62.V F62.W
 split
 ·exact denF_okE (GOk.nil) noV_ok Tryz.func62 (F62.den noV _)
 ·exact fun _ _ h=>h.elim
def F63.T (p:Option Addr):PT:=fun h Q=>
 ∃ (I:Int→Hp→Prop) (m:Int→Hp→Nat),I 0 h∧(∀ n:Int,∀ h1:Hp,I n h1→dr p fun b o=>ldS h1 b (o+121) fun l=>par (n < (l.n:Int)) (False) (∃ (I1:Int→Hp→Prop) (m1:Int→Hp→Nat),I1 0 h1∧(∀ n1:Int,∀ h2:Hp,I1 n1 h2→dr p fun b1 o1=>ldS h2 b1 (o1+123) fun l1=>par (n1 < (l1.n:Int)) (False) (Q (.bool true) h2))))
theorem F63.den (V p):denF Tryz.prog [] [] V [(26,.loop [(3,.int .i64)] []),(58,.loop [(4,.int .i64)] []),(105,.cut),(233,.cut)] Tryz.f63 [.v (.pointer p)]=F63.T p:=by kernel_rfl
def F63.W (T63:Option Addr→PT) (args:List Value):PT:=match args with
 | [.pointer p]=>T63 p
 | _=>fun _ _=>False
def F63.V:List Value→PT:=F63.W F63.T
theorem F63.ok:FOk Tryz.prog 63 F63.V:=by
 refine ⟨⟨_,Tryz.func63,rfl,rfl⟩,fun args=>?_⟩
 unfold F63.V F63.W
 split
 ·exact denF_okE (GOk.nil) noV_ok Tryz.func63 (F63.den noV _)
 ·exact fun _ _ h=>h.elim
def F64.T (p:Option Addr):PT:=fun h Q=>
 ∃ (I:Int→Hp→Prop) (m:Int→Hp→Nat),I 0 h∧(∀ n:Int,∀ h1:Hp,I n h1→dr p fun b o=>ldS h1 b (o+130) fun l=>par (n < (l.n:Int)) (False) (∃ (I1:Int→Hp→Prop) (m1:Int→Hp→Nat),I1 0 h1∧(∀ n1:Int,∀ h2:Hp,I1 n1 h2→dr p fun b1 o1=>ldS h2 b1 (o1+132) fun l1=>par (n1 < (l1.n:Int)) (False) (Q (.bool true) h2))))
theorem F64.den (V p):denF Tryz.prog [] [] V [(26,.loop [(3,.int .i64)] []),(58,.loop [(4,.int .i64)] []),(105,.cut),(233,.cut)] Tryz.f64 [.v (.pointer p)]=F64.T p:=by kernel_rfl
def F64.W (T64:Option Addr→PT) (args:List Value):PT:=match args with
 | [.pointer p]=>T64 p
 | _=>fun _ _=>False
def F64.V:List Value→PT:=F64.W F64.T
theorem F64.ok:FOk Tryz.prog 64 F64.V:=by
 refine ⟨⟨_,Tryz.func64,rfl,rfl⟩,fun args=>?_⟩
 unfold F64.V F64.W
 split
 ·exact denF_okE (GOk.nil) noV_ok Tryz.func64 (F64.den noV _)
 ·exact fun _ _ h=>h.elim
def F65.T (p:Option Addr):PT:=fun h Q=>
 ∃ (I:Int→Hp→Prop) (m:Int→Hp→Nat),I 0 h∧(∀ n:Int,∀ h1:Hp,I n h1→dr p fun b o=>ldS h1 b (o+139) fun l=>par (n < (l.n:Int)) (False) (∃ (I1:Int→Hp→Prop) (m1:Int→Hp→Nat),I1 0 h1∧(∀ n1:Int,∀ h2:Hp,I1 n1 h2→dr p fun b1 o1=>ldS h2 b1 (o1+141) fun l1=>par (n1 < (l1.n:Int)) (False) (Q (.bool true) h2))))
theorem F65.den (V p):denF Tryz.prog [] [] V [(26,.loop [(3,.int .i64)] []),(58,.loop [(4,.int .i64)] []),(105,.cut),(233,.cut)] Tryz.f65 [.v (.pointer p)]=F65.T p:=by kernel_rfl
def F65.W (T65:Option Addr→PT) (args:List Value):PT:=match args with
 | [.pointer p]=>T65 p
 | _=>fun _ _=>False
def F65.V:List Value→PT:=F65.W F65.T
theorem F65.ok:FOk Tryz.prog 65 F65.V:=by
 refine ⟨⟨_,Tryz.func65,rfl,rfl⟩,fun args=>?_⟩
 unfold F65.V F65.W
 split
 ·exact denF_okE (GOk.nil) noV_ok Tryz.func65 (F65.den noV _)
 ·exact fun _ _ h=>h.elim
def F66.T (p:Option Addr):PT:=fun h Q=>
 ∃ (I:Int→Hp→Prop) (m:Int→Hp→Nat),I 0 h∧(∀ n:Int,∀ h1:Hp,I n h1→dr p fun b o=>ldS h1 b (o+148) fun l=>par (n < (l.n:Int)) (False) (∃ (I1:Int→Hp→Prop) (m1:Int→Hp→Nat),I1 0 h1∧(∀ n1:Int,∀ h2:Hp,I1 n1 h2→dr p fun b1 o1=>ldS h2 b1 (o1+150) fun l1=>par (n1 < (l1.n:Int)) (False) (Q (.bool true) h2))))
theorem F66.den (V p):denF Tryz.prog [] [] V [(26,.loop [(3,.int .i64)] []),(58,.loop [(4,.int .i64)] []),(105,.cut),(233,.cut)] Tryz.f66 [.v (.pointer p)]=F66.T p:=by kernel_rfl
def F66.W (T66:Option Addr→PT) (args:List Value):PT:=match args with
 | [.pointer p]=>T66 p
 | _=>fun _ _=>False
def F66.V:List Value→PT:=F66.W F66.T
theorem F66.ok:FOk Tryz.prog 66 F66.V:=by
 refine ⟨⟨_,Tryz.func66,rfl,rfl⟩,fun args=>?_⟩
 unfold F66.V F66.W
 split
 ·exact denF_okE (GOk.nil) noV_ok Tryz.func66 (F66.den noV _)
 ·exact fun _ _ h=>h.elim
def F67.T (p:Option Addr):PT:=fun h Q=>
 ∃ (I:Int→Hp→Prop) (m:Int→Hp→Nat),I 0 h∧(∀ n:Int,∀ h1:Hp,I n h1→dr p fun b o=>ldS h1 b (o+157) fun l=>par (n < (l.n:Int)) (False) (∃ (I1:Int→Hp→Prop) (m1:Int→Hp→Nat),I1 0 h1∧(∀ n1:Int,∀ h2:Hp,I1 n1 h2→dr p fun b1 o1=>ldS h2 b1 (o1+159) fun l1=>par (n1 < (l1.n:Int)) (False) (Q (.bool true) h2))))
theorem F67.den (V p):denF Tryz.prog [] [] V [(26,.loop [(3,.int .i64)] []),(58,.loop [(4,.int .i64)] []),(105,.cut),(233,.cut)] Tryz.f67 [.v (.pointer p)]=F67.T p:=by kernel_rfl
def F67.W (T67:Option Addr→PT) (args:List Value):PT:=match args with
 | [.pointer p]=>T67 p
 | _=>fun _ _=>False
def F67.V:List Value→PT:=F67.W F67.T
theorem F67.ok:FOk Tryz.prog 67 F67.V:=by
 refine ⟨⟨_,Tryz.func67,rfl,rfl⟩,fun args=>?_⟩
 unfold F67.V F67.W
 split
 ·exact denF_okE (GOk.nil) noV_ok Tryz.func67 (F67.den noV _)
 ·exact fun _ _ h=>h.elim
def F68.T (p:Option Addr):PT:=fun h Q=>
 ∃ (I:Int→Hp→Prop) (m:Int→Hp→Nat),I 0 h∧(∀ n:Int,∀ h1:Hp,I n h1→dr p fun b o=>ldS h1 b (o+166) fun l=>par (n < (l.n:Int)) (False) (∃ (I1:Int→Hp→Prop) (m1:Int→Hp→Nat),I1 0 h1∧(∀ n1:Int,∀ h2:Hp,I1 n1 h2→dr p fun b1 o1=>ldS h2 b1 (o1+168) fun l1=>par (n1 < (l1.n:Int)) (False) (Q (.bool true) h2))))
theorem F68.den (V p):denF Tryz.prog [] [] V [(26,.loop [(3,.int .i64)] []),(58,.loop [(4,.int .i64)] []),(105,.cut),(233,.cut)] Tryz.f68 [.v (.pointer p)]=F68.T p:=by kernel_rfl
def F68.W (T68:Option Addr→PT) (args:List Value):PT:=match args with
 | [.pointer p]=>T68 p
 | _=>fun _ _=>False
def F68.V:List Value→PT:=F68.W F68.T
theorem F68.ok:FOk Tryz.prog 68 F68.V:=by
 refine ⟨⟨_,Tryz.func68,rfl,rfl⟩,fun args=>?_⟩
 unfold F68.V F68.W
 split
 ·exact denF_okE (GOk.nil) noV_ok Tryz.func68 (F68.den noV _)
 ·exact fun _ _ h=>h.elim
@[reducible] def F10.G (T50 T51 T52 T53 T54 T55 T56 T57 T58 T59 T60 T61 T62 T63 T64 T65 T66 T67 T68:Option Addr→PT) (p:Option Addr):PT:=fun h Q=>
 dr p fun b o=>ldB h b (o+1) (Q (.bool false) h) (T50 p h fun r h1=>retB r (T51 p h1 fun r1 h2=>retB r1 (T52 p h2 fun r2 h3=>retB r2 (T53 p h3 fun r3 h4=>retB r3 (T54 p h4 fun r4 h5=>retB r4 (T55 p h5 fun r5 h6=>retB r5 (T56 p h6 fun r6 h7=>retB r6 (T57 p h7 fun r7 h8=>retB r7 (T58 p h8 fun r8 h9=>retB r8 (T59 p h9 fun r9 h10=>retB r9 (T60 p h10 fun r10 h11=>retB r10 (T61 p h11 fun r11 h12=>retB r11 (T62 p h12 fun r12 h13=>retB r12 (T63 p h13 fun r13 h14=>retB r13 (T64 p h14 fun r14 h15=>retB r14 (T65 p h15 fun r15 h16=>retB r15 (T66 p h16 fun r16 h17=>retB r16 (T67 p h17 fun r17 h18=>retB r17 (T68 p h18 fun r18 h19=>retB r18 (Q (.bool true) h19) (Q (.bool false) h19)) (Q (.bool false) h18)) (Q (.bool false) h17)) (Q (.bool false) h16)) (Q (.bool false) h15)) (Q (.bool false) h14)) (Q (.bool false) h13)) (Q (.bool false) h12)) (Q (.bool false) h11)) (Q (.bool false) h10)) (Q (.bool false) h9)) (Q (.bool false) h8)) (Q (.bool false) h7)) (Q (.bool false) h6)) (Q (.bool false) h5)) (Q (.bool false) h4)) (Q (.bool false) h3)) (Q (.bool false) h2)) (Q (.bool false) h1))
def F10.T:=F10.G F50.T F51.T F52.T F53.T F54.T F55.T F56.T F57.T F58.T F59.T F60.T F61.T F62.T F63.T F64.T F65.T F66.T F67.T F68.T
theorem F10.gen (V T50 T51 T52 T53 T54 T55 T56 T57 T58 T59 T60 T61 T62 T63 T64 T65 T66 T67 T68 p):denF Tryz.prog [] [(50,F50.W T50),(51,F51.W T51),(52,F52.W T52),(53,F53.W T53),(54,F54.W T54),(55,F55.W T55),(56,F56.W T56),(57,F57.W T57),(58,F58.W T58),(59,F59.W T59),(60,F60.W T60),(61,F61.W T61),(62,F62.W T62),(63,F63.W T63),(64,F64.W T64),(65,F65.W T65),(66,F66.W T66),(67,F67.W T67),(68,F68.W T68)] V [] Tryz.f10 [.v (.pointer p)]=F10.G T50 T51 T52 T53 T54 T55 T56 T57 T58 T59 T60 T61 T62 T63 T64 T65 T66 T67 T68 p:=by kernel_rfl
def F10.W (T10:Option Addr→PT) (args:List Value):PT:=match args with
 | [.pointer p]=>T10 p
 | _=>fun _ _=>False
def F10.V:List Value→PT:=F10.W F10.T
theorem F10.ok:FOk Tryz.prog 10 F10.V:=by
 refine ⟨⟨_,Tryz.func10,rfl,rfl⟩,fun args=>?_⟩
 unfold F10.V F10.W
 split
 ·exact denF_okE (GOk.cons F50.ok (GOk.cons F51.ok (GOk.cons F52.ok (GOk.cons F53.ok (GOk.cons F54.ok (GOk.cons F55.ok (GOk.cons F56.ok (GOk.cons F57.ok (GOk.cons F58.ok (GOk.cons F59.ok (GOk.cons F60.ok (GOk.cons F61.ok (GOk.cons F62.ok (GOk.cons F63.ok (GOk.cons F64.ok (GOk.cons F65.ok (GOk.cons F66.ok (GOk.cons F67.ok (GOk.cons F68.ok (GOk.nil)))))))))))))))))))) noV_ok Tryz.func10 (F10.gen noV F50.T F51.T F52.T F53.T F54.T F55.T F56.T F57.T F58.T F59.T F60.T F61.T F62.T F63.T F64.T F65.T F66.T F67.T F68.T _)
 ·exact fun _ _ h=>h.elim
end Go.Eng.YtbjnlacacapjiaaGreatDoor
end
section
namespace Go.Eng
def bef (st:Bool) (sc:Nat→Int) (i j:Nat):Prop:=if st=true∧(i=0∨j=0)∧i≠j then i < j else (sc j < sc i∨(sc i=sc j∧i < j))
def want (st:Bool) (sc:Nat→Int) (i:Nat):Prop:=1000≤sc i∨(i=0∧st=true)
theorem bef_asym {st:Bool} {sc:Nat→Int} {i j:Nat} (h:bef st sc i j) (k:bef st sc j i):False:=by
 unfold bef at h k
 by_cases c:st=true∧(i=0∨j=0)∧i≠j
 ·rw [if_pos c] at h
  rw [if_pos ⟨c.1,c.2.1.symm,fun e=>c.2.2 e.symm⟩] at k
  omega
 ·rw [if_neg c] at h
  rw [if_neg (fun d=>c ⟨d.1,d.2.1.symm,fun e=>d.2.2 e.symm⟩)] at k
  omega
structure IsOrder (n:Nat) (st:Bool) (sc:Nat→Int) (o:List Nat):Prop where
 nd:o.Nodup
 mem:∀ i,i∈o↔i < n∧want st sc i
 pw:o.Pairwise (bef st sc)
theorem pw_unique {R:Nat→Nat→Prop} (asy:∀ i j,R i j→R j i→False):∀ {l m:List Nat},l.Nodup→m.Nodup→(∀ i,i∈l↔i∈m)→l.Pairwise R→m.Pairwise R→l=m
 | [],[],_,_,_,_,_=>rfl
 | [],b::m,_,_,h,_,_=>by have:=(h b).2 List.mem_cons_self; cases this
 | a::l,[],_,_,h,_,_=>by have:=(h a).1 List.mem_cons_self; cases this
 | a::l,b::m,nl,nm,h,pl,pm=>by
  obtain ⟨n1,n2⟩:=List.nodup_cons.1 nl
  obtain ⟨n3,n4⟩:=List.nodup_cons.1 nm
  obtain ⟨p1,p2⟩:=List.pairwise_cons.1 pl
  obtain ⟨p3,p4⟩:=List.pairwise_cons.1 pm
  have hab:a=b:=by
   rcases List.mem_cons.1 ((h a).1 List.mem_cons_self) with e | e
   ·exact e
   ·rcases List.mem_cons.1 ((h b).2 List.mem_cons_self) with e' | e'
    ·exact e'.symm
    ·exact (asy _ _ (p1 b e') (p3 a e)).elim
  subst hab
  rw [pw_unique asy n2 n4 (fun i=>?_) p2 p4]
  constructor
  ·intro hi
   rcases List.mem_cons.1 ((h i).1 (List.mem_cons_of_mem _ hi)) with e | e
   ·subst e; exact absurd hi n1
   ·exact e
  ·intro hi
   rcases List.mem_cons.1 ((h i).2 (List.mem_cons_of_mem _ hi)) with e | e
   ·subst e; exact absurd hi n3
   ·exact e
theorem IsOrder.one {n:Nat} {st:Bool} {sc:Nat→Int} {o p:List Nat} (h:IsOrder n st sc o) (k:IsOrder n st sc p):o=p:=
 pw_unique (fun _ _=>bef_asym) h.nd k.nd (fun i=>by rw [h.mem,k.mem]) h.pw k.pw
structure Sel (n:Nat) (st:Bool) (sc z:Nat→Int) (o:List Nat):Prop where
 nd:o.Nodup
 mem:∀ i∈o,i < n∧want st sc i
 pw:o.Pairwise (bef st sc)
 z:∀ i,i < n→z i=if i∈o then 0 else sc i
 s0:st=true→0 < n→0∈o
 lo:∀ i∈o,∀ j,j < n→j∉o→want st sc j→bef st sc i j
end Go.Eng
end
section
set_option maxRecDepth 100000
namespace Go.Eng.YtbjnlacacapjiaaGreatDoor
def tabsI (xs:List (Sl×List Tab)) (n:Int):List Tab:=if n < 0 then [] else match xs[n.toNat]? with | some x=>x.2 | none=>[]
theorem tabsI_nat (xs:List (Sl×List Tab)) {i:Nat} {x:Sl×List Tab} (hx:xs[i]?=some x):tabsI xs (i:Int)=x.2:=by
 unfold tabsI
 rw [if_neg (by omega),Int.toNat_natCast,hx]
theorem tabsI_out (xs:List (Sl×List Tab)) {n:Int} (hn:n < 0∨(xs.length:Int)≤n):tabsI xs n=[]:=by
 unfold tabsI
 split
 ·rfl
 ·rw [List.getElem?_eq_none (by omega)]
def overM (from_ to:ByteArray) (l:List Tab):List Tab:=l.filter fun t=>!blB t.greatest from_ && !blB to t.least
def weightW (l:List Tab):Int:=l.foldl (fun n t=>IntKind.wrap .i64 (n+t.weight)) 0
def nV3 (l:List Int):List Value:=l.map fun n=>.int .i64 n
theorem nV3_len (l:List Int):(nV3 l).length=l.length:=List.length_map _
theorem tb_new {h:Hp} {r:Sl} {ts:List Tab} (B:TB h r ts):r.n=ts.length:=by have:=B.len; rw [tabV_len] at this; omega
section
variable {g h h':Hp} {vb:Nat} {ls:Sl} {xs:List (Sl×List Tab)} {Q:Value→Hp→Prop} {n n1 n2 n3 n4 n5 n6 n7 n8 n9 n10 n11 n12 n13 n14 n15 n16 n17 n18 n19 n20 n21 n22 n23 n24 n25 n26:Int}
theorem tables_s (V:Ver g h vb ls xs) (hs:∀ x∈xs,x.2.length≤60000) {n:Int} (hQ:∀ h' r,Keep h h'→TB h' r (tabsI xs n)→NewN h r→Q (.slice r.a r.n r.c) h'):F73.T (some ⟨vb,0,none⟩) n h Q:=by
 unfold F73.T F73.G
 have hl:=V.L.len
 refine has_spec V.v (fun c0 c1=>⟨true,rfl,fun _=>?_,fun h0=>(by cases h0)⟩) (fun hc=>⟨false,rfl,fun h0=>(by cases h0),fun _=>?_⟩)
 ·obtain ⟨i,rfl⟩:=Int.eq_ofNat_of_zero_le c0
  have hi:i < xs.length:=by omega
  have hx:xs[i]?=some xs[i]:=List.getElem?_eq_getElem hi
  generalize xs[i]=x at hx
  rw [tabsI_nat xs hx] at hQ
  have hm:=List.mem_of_getElem? hx
  have hxs:=hs x hm
  obtain ⟨b,ha,hat⟩:=V.L.rd hx
  have T:=V.L.t x hm
  refine ⟨vb,0,rfl,ls,at_of V.v 0,b,0,ha,⟨c0,c1⟩,x.1,by rw [Nat.zero_add,Int.toNat_natCast]; exact hat,tabV x.2,Buf.row T,tab_one _,?_⟩
  refine append_buf (Buf.nil h 6 63) rfl (by rw [tabV_len,T.n]) (by have:=T.n; dsimp only; omega) fun r h2 B2 _ U2=>?_
  obtain ⟨K2,N2⟩:=NewN.upd (Keep.refl h) (NewN.nil h) U2
  exact hQ h2 r K2 (by unfold TB; simpa using B2) N2
 ·rw [tabsI_out xs (by omega)] at hQ
  exact hQ h ⟨none,0,0⟩ (Keep.refl h) (Buf.nil _ _ _) (NewN.nil _)
theorem weight_s (V:Ver g h vb ls xs) (hs:∀ x∈xs,x.2.length≤60000) {n:Int} (hl:(tabsI xs n).length≤60000) (hQ:∀ h',Keep h h'→Q (.int .i64 (weightW (tabsI xs n))) h'):F76.T (some ⟨vb,0,none⟩) n h Q:=by
 unfold F76.T F76.G
 refine tables_s V hs fun h1 l K1 B1 _=>⟨l,rfl,?_⟩
 have hn:=tb_new B1
 refine ⟨fun w i h2=>h2=h1∧∃ P R,tabsI xs n=P++R∧i=(P.length:Int)∧w=weightW P,fun _ i _=>(tabsI xs n).length - i.toNat,⟨rfl,[],_,rfl,rfl,rfl⟩,?_⟩
 rintro w i h2 ⟨rfl,P,R,e,rfl,rfl⟩
 have e2:=congrArg List.length e
 rw [List.length_append] at e2
 refine ⟨fun hlt=>?_,fun hge=>?_⟩
 ·rcases R with _ | ⟨t,R⟩
  ·exact absurd hlt (by simp at e2; omega)
  rw [List.length_cons] at e2
  have hr:=B1.row
  rw [e] at hr
  refine tab_rd hr rfl fun b o=>?_
  rw [next_i (n:=70000) (by omega) (by omega)]
  refine ⟨⟨rfl,P++[t],R,by rw [e]; simp,by simp,?_⟩,by dsimp only; omega⟩
  unfold weightW
  rw [List.foldl_append]; rfl
 ·have hR:R=[]:=List.eq_nil_of_length_eq_zero (by omega)
  subst hR
  rw [List.append_nil] at e
  rw [e] at hQ
  exact hQ h2 K1
theorem over_s (V:Ver g h vb ls xs) (hs:∀ x∈xs,x.2.length≤60000) {n:Int} {s s1:ByteArray} (hl:(tabsI xs n).length≤60000) (hQ:∀ h' r,Keep h h'→TB h' r (overM s s1 (tabsI xs n))→NewN h r→Q (.slice r.a r.n r.c) h'):F84.T (some ⟨vb,0,none⟩) n s s1 h Q:=by
 unfold F84.T F84.G
 refine tables_s V hs fun h1 l K1 B1 _=>⟨l,rfl,?_⟩
 have hn:=tb_new B1
 refine ⟨fun l1 i h2=>∃ P R,tabsI xs n=P++R∧i=(P.length:Int)∧Keep h1 h2∧TB h2 l1 (overM s s1 P)∧NewN h1 l1,fun _ i _=>(tabsI xs n).length - i.toNat,⟨[],_,rfl,rfl,Keep.refl _,Buf.nil _ _ _,NewN.nil _⟩,?_⟩
 rintro l1 i h2 ⟨P,R,e,rfl,K2,B2,N2⟩
 have e2:=congrArg List.length e
 rw [List.length_append] at e2
 refine ⟨fun hlt=>?_,fun hge=>?_⟩
 ·rcases R with _ | ⟨t,R⟩
  ·exact absurd hlt (by simp at e2; omega)
  rw [List.length_cons] at e2
  have hr:=(B1.keep K2).row
  rw [e] at hr
  have hn1:=tb_new B2
  have hfl:(overM s s1 P).length≤P.length:=List.length_filter_le _ _
  refine tab_rd hr rfl fun b o=>?_
  rw [next_i (n:=70000) (by omega) (by omega)]
  have skip:(blB t.greatest s=true∨blB s1 t.least=true)→(∃ P_1 R_1,tabsI xs n=P_1++R_1∧((P.length+1:Nat):Int)=(P_1.length:Int)∧Keep h1 h2∧TB h2 l1 (overM s s1 P_1)∧NewN h1 l1):=fun hc=>by
   refine ⟨P++[t],R,by rw [e]; simp,by simp,K2,?_,N2⟩
   have:overM s s1 (P++[t])=overM s s1 P:=by
    unfold overM
    rw [List.filter_append]
    have:([t]:List Tab).filter (fun t=>!blB t.greatest s && !blB s1 t.least)=[]:=by
     rcases hc with hc | hc <;> simp [hc]
    rw [this,List.append_nil]
   rw [this]; exact B2
  refine ⟨fun hlt1=>⟨skip (.inl (blB_t.2 ((sLt_bl _ _).1 hlt1))),by dsimp only; omega⟩,fun hge1=>⟨fun hle=>?_,fun hgt=>⟨skip (.inr ?_),by dsimp only; omega⟩⟩⟩
  ·refine append_buf (us:=t.cells) B2 rfl rfl (by omega) fun l3 h3 B3 _ U3=>?_
   obtain ⟨K3,N3⟩:=NewN.upd K2 N2 U3
   refine ⟨⟨P++[t],R,by rw [e]; simp,by simp,K3,?_,N3⟩,by dsimp only; omega⟩
   have:overM s s1 (P++[t])=overM s s1 P++[t]:=by
    unfold overM
    rw [List.filter_append]
    have h1:blB t.greatest s=false:=by
     cases hb:blB t.greatest s with
     | false=>rfl
     | true=>exact absurd ((sLt_bl _ _).2 (blB_t.1 hb)) hge1
    have h2:blB s1 t.least=false:=by
     cases hb:blB s1 t.least with
     | false=>rfl
     | true=>exact absurd (blB_t.1 hb) (sle.1 hle)
    congr 1
    simp [h1,h2]
   rw [this]
   unfold TB
   rw [tabV_app]
   have:tabV [t]=t.cells:=by unfold tabV; simp
   rw [this]
   exact B3
  ·cases hb:blB s1 t.least with
   | true=>rfl
   | false=>exact absurd (sle.2 fun hbl=>by rw [blB_t.2 hbl] at hb; cases hb) hgt
 ·have hR:R=[]:=List.eq_nil_of_length_eq_zero (by omega)
  subst hR
  rw [List.append_nil] at e
  rw [e] at hQ
  exact hQ h2 l1 (K1.trans K2) B2 (N2.mono K1.dom)
theorem last_s (V:Ver g h vb ls xs) (h1:1≤xs.length) (h5:xs.length≤5) (hn:n8=(xs.length:Int)) (hQ:Q (.int .i64 ((xs.length:Int) - 1)) h):F74.T n n1 n2 n3 n4 n5 n6 n7 n8 n9 n10 n11 n12 n13 n14 n15 n16 n17 n18 n19 n20 n21 n22 n23 n24 n25 n26 (some ⟨vb,0,none⟩) h Q:=by
 unfold F74.T F74.G
 refine levels_spec V ⟨_,rfl,?_⟩
 have:iMin n8 (xs.length:Int)=(xs.length:Int):=by unfold iMin; rw [hn]; split <;> rfl
 rw [this,wrap_i64 (by omega) (by omega)]
 exact hQ
theorem share_s {a b:Int} (ha:0≤a∧a≤9000000000000000) (hb:b≠0) (hQ:Q (.int .i64 (Int.tdiv (1000*a) b)) h):F75.T a b h Q:=by
 refine ⟨fun h0=>absurd h0 hb,fun _=>⟨hb,?_⟩⟩
 rw [wrap_i64 (n:=1000*a) (by omega) (by omega)]
 have h1:(Int.tdiv (1000*a) b).natAbs≤(1000*a).natAbs:=by
  rw [Int.natAbs_tdiv]; exact Nat.div_le_self _ _
 rw [wrap_i64 (by omega) (by omega)]
 exact hQ
structure CfOk (c5 c7 c8 c9 c10 c12:Int):Prop where
 trig:1≤c5∧c5≤16
 stop:2≤c7∧c5≤c7∧c7≤16
 lv:3≤c8∧c8≤5
 base:4096≤c9∧c9≤16777216
 mult:2≤c10∧c10≤10
 fan:1≤c12∧c12≤16
def limit (base mult:Int):Nat→Int
 | 0=>base
 | i+1=>limit base mult i*mult
theorem limit_bd {base mult:Int} (hb:4096≤base∧base≤16777216) (hm:2≤mult∧mult≤10):∀ i,i≤4→4096≤limit base mult i∧limit base mult i≤16777216*10 ^ i
 | 0,_=>by unfold limit; omega
 | i+1,hi=>by
  obtain ⟨h1,h2⟩:=limit_bd hb hm i (by omega)
  unfold limit
  constructor
  ·have:=Int.mul_le_mul h1 hm.1 (by omega) (by omega); omega
  ·have:=Int.mul_le_mul h2 hm.2 (by omega) (by
    have:(0:Int)≤16777216*10 ^ i:=by
     have:(0:Int)≤10 ^ i:=Int.pow_nonneg (by decide)
     omega
    exact this)
   rw [Int.pow_succ]
   have e:16777216*(10 ^ i*10)=16777216*10 ^ i*(10:Int):=by rw [Int.mul_assoc]
   rw [e]; exact this
def scoreM (trig base mult:Int) (xs:List (Sl×List Tab)) (i:Nat):Int:=
 if i=0 then Int.tdiv (1000*((tabsI xs 0).length:Int)) trig else Int.tdiv (1000*weightW (tabsI xs (i:Int))) (limit base mult (i - 1))
structure PkOk (xs:List (Sl×List Tab)):Prop where
 len:3≤xs.length∧xs.length≤5
 sz:∀ x∈xs,x.2.length≤60000
 w:∀ i,0≤weightW (tabsI xs i)∧weightW (tabsI xs i)≤9000000000000000
theorem PkOk.tl {xs:List (Sl×List Tab)} (P:PkOk xs) (n:Int):(tabsI xs n).length≤60000:=by
 unfold tabsI
 split
 ·simp
 ·split
  ·next x hx=>exact P.sz x (List.mem_of_getElem? hx)
  ·simp
theorem scores_s (V:Ver g h vb ls xs) (P:PkOk xs) (O:CfOk n5 n7 n8 n9 n10 n12) (h8:n8=(xs.length:Int)) (hQ:∀ h' r,Keep h h'→Buf h' r 1 3 (nV3 ((List.range (xs.length - 1)).map (scoreM n5 n9 n10 xs)))→NewN h r→Q (.slice r.a r.n r.c) h'):F16.T n n1 n2 n3 n4 n5 n6 n7 n8 n9 n10 n11 n12 n13 n14 n15 n16 n17 n18 n19 n20 n21 n22 n23 n24 n25 n26 (some ⟨vb,0,none⟩) h Q:=by
 have hx:=P.len
 unfold F16.T F16.G
 refine last_s V (by omega) (by omega) h8 ⟨_,rfl,?_⟩
 have hmx:iMax ((xs.length:Int) - 1) 0=(xs.length:Int) - 1:=by unfold iMax; rw [if_neg (by omega)]
 rw [hmx]
 refine ⟨fun l lim i h2=>∃ k:Nat,i=(k:Int)∧k≤xs.length - 1∧lim=limit n9 n10 (k - 1)∧Keep h h2∧Buf h2 l 1 3 (nV3 ((List.range k).map (scoreM n5 n9 n10 xs)))∧NewN h l,fun _ _ i _=>xs.length - i.toNat,⟨0,rfl,Nat.zero_le _,rfl,Keep.refl _,Buf.nil _ _ _,NewN.nil _⟩,?_⟩
 rintro l lim i h2 ⟨k,rfl,hk,rfl,K2,B2,N2⟩
 have hln:l.n=k:=by have:=B2.len; rw [nV3_len,List.length_map,List.length_range] at this; omega
 have V2:=V.keep K2
 have snoc:nV3 ((List.range (k+1)).map (scoreM n5 n9 n10 xs))=nV3 ((List.range k).map (scoreM n5 n9 n10 xs))++[.int .i64 (scoreM n5 n9 n10 xs k)]:=by
  rw [List.range_succ,List.map_append]; unfold nV3; rw [List.map_append]; rfl
 refine ⟨fun hlt=>⟨fun h0=>?_,fun h0=>?_⟩,fun hge=>?_⟩
 ·have hk0:k=0:=by omega
  subst hk0
  refine tables_s V2 P.sz fun h3 l1 K3 B3 _=>⟨l1,rfl,?_⟩
  have h0l:=P.tl 0
  have hl1:=tb_new B3
  rw [hl1]
  refine share_s ⟨by omega,by omega⟩ (by have:=O.trig; omega) ⟨_,rfl,?_⟩
  refine append_buf (us:=[.int .i64 (Int.tdiv (1000*((tabsI xs 0).length:Int)) n5)]) (B2.keep K3) rfl rfl (by omega) fun l2 h5 B5 _ U5=>?_
  obtain ⟨K5,N5⟩:=NewN.upd (K2.trans K3) N2 U5
  rw [next_i (n:=100) (by omega) (by omega)]
  refine ⟨⟨1,rfl,by omega,rfl,K5,?_,N5⟩,by dsimp only; omega⟩
  rw [snoc]; exact B5
 ·have hk0:k≠0:=by omega
  have hL:=limit_bd O.base O.mult (k - 1) (by omega)
  have hL2:=limit_bd O.base O.mult k (by omega)
  have hp:(10:Int) ^ k≤10000:=by
   have:k=1∨k=2∨k=3∨k=4:=by omega
   rcases this with rfl | rfl | rfl | rfl <;> decide
  have hlk:limit n9 n10 (k - 1)*n10=limit n9 n10 k:=by
   obtain ⟨j,rfl⟩:∃ j,k=j+1:=⟨k - 1,by omega⟩
   rfl
  refine weight_s V2 P.sz (P.tl _) fun h3 K3=>⟨_,rfl,?_⟩
  refine share_s (P.w _) (by omega) ⟨_,rfl,?_⟩
  refine append_buf (us:=[.int .i64 (Int.tdiv (1000*weightW (tabsI xs (k:Int))) (limit n9 n10 (k - 1)))]) (B2.keep K3) rfl rfl (by omega) fun l2 h5 B5 _ U5=>?_
  obtain ⟨K5,N5⟩:=NewN.upd (K2.trans K3) N2 U5
  rw [next_i (n:=100) (by omega) (by omega),hlk,wrap_i64 (by omega) (by omega)]
  refine ⟨⟨k+1,rfl,by omega,by rw [Nat.add_sub_cancel],K5,?_,N5⟩,by dsimp only; omega⟩
  rw [snoc]
  have:scoreM n5 n9 n10 xs k=Int.tdiv (1000*weightW (tabsI xs (k:Int))) (limit n9 n10 (k - 1)):=by unfold scoreM; rw [if_neg hk0]
  rw [this]; exact B5
 ·have hk2:k=xs.length - 1:=by omega
  subst hk2
  exact hQ h2 l K2 B2 N2
theorem stopped_s (V:Ver g h vb ls xs) (P:PkOk xs) (hQ:∀ h',Keep h h'→Q (.bool (decide (n7≤((tabsI xs 0).length:Int)))) h'):F77.T n n1 n2 n3 n4 n5 n6 n7 n8 n9 n10 n11 n12 n13 n14 n15 n16 n17 n18 n19 n20 n21 n22 n23 n24 n25 n26 (some ⟨vb,0,none⟩) h Q:=by
 unfold F77.T F77.G
 refine tables_s V P.sz fun h1 l K1 B1 _=>⟨l,rfl,?_⟩
 rw [tb_new B1]
 refine ⟨fun hc=>?_,fun hc=>?_⟩
 ·have:=hQ h1 K1; rw [decide_eq_true hc] at this; exact this
 ·have:=hQ h1 K1; rw [decide_eq_false hc] at this; exact this
theorem cmp_s {a b:Int} (hQ:∀ c:Int,(c < 0↔a < b)→Q (.int .i64 c) h):F80.T a b h Q:=by
 unfold F80.T F80.G
 have hn:∀ (x:Int) (K:Value→Hp→Prop),K (.bool false) h→F145.T x h K:=fun x K hK=>by
  unfold F145.T
  first
   | exact ⟨fun hne=>absurd rfl hne,fun _=>hK⟩
   | exact ⟨fun _=>hK,fun hne=>absurd rfl hne⟩
   | exact hK
 refine hn _ _ ⟨false,rfl,fun e=>(by cases e),fun _=>hn _ _ ⟨false,rfl,fun e=>(by cases e),fun _=>⟨fun hlt=>hQ _ ⟨fun _=>hlt,fun _=>by decide⟩,fun hge=>⟨fun hgt=>hQ _ ⟨fun h=>absurd h (by decide),fun h=>by omega⟩,fun hle=>hQ _ ⟨fun h=>absurd h (by decide),fun h=>by omega⟩⟩⟩⟩⟩
theorem cfg_rd {t b:Nat} (hb:h b=some (.cells ⟨[.int .i64 n,.int .i64 n1,.int .i64 n2,.int .i64 n3,.int .i64 n4,.int .i64 n5,.int .i64 n6,.int .i64 n7,.int .i64 n8,.int .i64 n9,.int .i64 n10,.int .i64 n11,.int .i64 n12,.int .i64 n13,.int .i64 n14,.int .i64 n15,.int .i64 n16,.int .i64 n17,.int .i64 n18,.int .i64 n19,.int .i64 n20,.int .i64 n21,.int .i64 n22,.int .i64 n23,.int .i64 n24,.int .i64 n25,.int .i64 n26]⟩ t (0,0))) {K:Int→Int→Int→Int→Int→Int→Int→Int→Int→Int→Int→Int→Int→Int→Int→Int→Int→Int→Int→Int→Int→Int→Int→Int→Int→Int→Int→Prop} (hK:K n n1 n2 n3 n4 n5 n6 n7 n8 n9 n10 n11 n12 n13 n14 n15 n16 n17 n18 n19 n20 n21 n22 n23 n24 n25 n26):∃ m0:Int,h.at b 0=some (.int .i64 m0)∧∃ m1:Int,h.at b 1=some (.int .i64 m1)∧∃ m2:Int,h.at b 2=some (.int .i64 m2)∧∃ m3:Int,h.at b 3=some (.int .i64 m3)∧∃ m4:Int,h.at b 4=some (.int .i64 m4)∧∃ m5:Int,h.at b 5=some (.int .i64 m5)∧∃ m6:Int,h.at b 6=some (.int .i64 m6)∧∃ m7:Int,h.at b 7=some (.int .i64 m7)∧∃ m8:Int,h.at b 8=some (.int .i64 m8)∧∃ m9:Int,h.at b 9=some (.int .i64 m9)∧∃ m10:Int,h.at b 10=some (.int .i64 m10)∧∃ m11:Int,h.at b 11=some (.int .i64 m11)∧∃ m12:Int,h.at b 12=some (.int .i64 m12)∧∃ m13:Int,h.at b 13=some (.int .i64 m13)∧∃ m14:Int,h.at b 14=some (.int .i64 m14)∧∃ m15:Int,h.at b 15=some (.int .i64 m15)∧∃ m16:Int,h.at b 16=some (.int .i64 m16)∧∃ m17:Int,h.at b 17=some (.int .i64 m17)∧∃ m18:Int,h.at b 18=some (.int .i64 m18)∧∃ m19:Int,h.at b 19=some (.int .i64 m19)∧∃ m20:Int,h.at b 20=some (.int .i64 m20)∧∃ m21:Int,h.at b 21=some (.int .i64 m21)∧∃ m22:Int,h.at b 22=some (.int .i64 m22)∧∃ m23:Int,h.at b 23=some (.int .i64 m23)∧∃ m24:Int,h.at b 24=some (.int .i64 m24)∧∃ m25:Int,h.at b 25=some (.int .i64 m25)∧∃ m26:Int,h.at b 26=some (.int .i64 m26)∧K m0 m1 m2 m3 m4 m5 m6 m7 m8 m9 m10 m11 m12 m13 m14 m15 m16 m17 m18 m19 m20 m21 m22 m23 m24 m25 m26:=
 ⟨n,at_of hb 0,n1,at_of hb 1,n2,at_of hb 2,n3,at_of hb 3,n4,at_of hb 4,n5,at_of hb 5,n6,at_of hb 6,n7,at_of hb 7,n8,at_of hb 8,n9,at_of hb 9,n10,at_of hb 10,n11,at_of hb 11,n12,at_of hb 12,n13,at_of hb 13,n14,at_of hb 14,n15,at_of hb 15,n16,at_of hb 16,n17,at_of hb 17,n18,at_of hb 18,n19,at_of hb 19,n20,at_of hb 20,n21,at_of hb 21,n22,at_of hb 22,n23,at_of hb 23,n24,at_of hb 24,n25,at_of hb 25,n26,at_of hb 26,hK⟩
end
end Go.Eng.YtbjnlacacapjiaaGreatDoor
end
section
set_option maxRecDepth 100000
namespace Go.Eng.YtbjnlacacapjiaaGreatDoor
def iV (w:List Nat):List Value:=w.map fun i:Nat=>Value.int .i64 (i:Int)
theorem iV_len (w:List Nat):(iV w).length=w.length:=List.length_map _
def lessC (st:Bool) (sc:Nat→Int) (i j:Nat):Prop:=if st=true∧(i=0∨j=0)∧i≠j then i < j else sc j < sc i
theorem lessC_bef {st:Bool} {sc:Nat→Int} {i j:Nat} (h:lessC st sc i j):bef st sc i j:=by
 unfold lessC at h
 unfold bef
 split
 ·next c=>rw [if_pos c] at h; exact h
 ·next c=>rw [if_neg c] at h; exact .inl h
theorem not_less_bef {st:Bool} {sc:Nat→Int} {i j:Nat} (hij:j < i) (h:¬ lessC st sc i j):bef st sc j i:=by
 unfold lessC at h
 unfold bef
 by_cases c:st=true∧(i=0∨j=0)∧i≠j
 ·rw [if_pos c] at h
  rw [if_pos ⟨c.1,c.2.1.symm,fun e=>c.2.2 e.symm⟩]
  exact hij
 ·rw [if_neg c] at h
  rw [if_neg (fun d=>c ⟨d.1,d.2.1.symm,fun e=>d.2.2 e.symm⟩)]
  omega
theorem bef_trans {st:Bool} {sc:Nat→Int} {i j k:Nat} (h:bef st sc i j) (g:bef st sc j k):bef st sc i k:=by
 unfold bef at h g ⊢
 cases st with
 | false=>simp at h g ⊢; omega
 | true=>
  simp only [true_and] at h g ⊢
  by_cases h0:i=0 <;> by_cases h1:j=0 <;> by_cases h2:k=0
  all_goals simp only [h0,h1,h2,true_or,or_true,or_self,ne_eq,not_true_eq_false,not_false_eq_true,and_true,and_false,true_and,false_and,if_true,if_false] at h g ⊢
  all_goals first | omega | (simp_all; done) | skip
  all_goals (repeat' split at h) <;> (repeat' split at g) <;> (repeat' split) <;> omega
section
variable {g h h' H0:Hp} {vb b b1 b2:Nat} {ls l sl:Sl} {xs:List (Sl×List Tab)} {Q:Value→Hp→Prop} {n n1 n2 n3 n4 n5 n6 n7 n8 n9 n10 n11 n12 n13 n14 n15 n16 n17 n18 n19 n20 n21 n22 n23 n24 n25 n26:Int}
structure Env (g h:Hp) (vb b b1 b2:Nat) (ls sl:Sl) (xs:List (Sl×List Tab)) (sc:List Int) (n n1 n2 n3 n4 n5 n6 n7 n8 n9 n10 n11 n12 n13 n14 n15 n16 n17 n18 n19 n20 n21 n22 n23 n24 n25 n26:Int):Prop where
 V:Ver g h vb ls xs
 c:h b=some (.cells ⟨[.int .i64 n,.int .i64 n1,.int .i64 n2,.int .i64 n3,.int .i64 n4,.int .i64 n5,.int .i64 n6,.int .i64 n7,.int .i64 n8,.int .i64 n9,.int .i64 n10,.int .i64 n11,.int .i64 n12,.int .i64 n13,.int .i64 n14,.int .i64 n15,.int .i64 n16,.int .i64 n17,.int .i64 n18,.int .i64 n19,.int .i64 n20,.int .i64 n21,.int .i64 n22,.int .i64 n23,.int .i64 n24,.int .i64 n25,.int .i64 n26]⟩ 68 (0,0))
 p:h b1=some (.cells ⟨[.pointer (some ⟨vb,0,none⟩)]⟩ 71 (0,0))
 s:h b2=some (.cells ⟨[.slice sl.a sl.n sl.c]⟩ 25 (0,0))
 r:Buf h sl 1 3 (nV3 sc)
theorem Env.keep {sc:List Int} (E:Env g h vb b b1 b2 ls sl xs sc n n1 n2 n3 n4 n5 n6 n7 n8 n9 n10 n11 n12 n13 n14 n15 n16 n17 n18 n19 n20 n21 n22 n23 n24 n25 n26) (K:Keep h h'):Env g h' vb b b1 b2 ls sl xs sc n n1 n2 n3 n4 n5 n6 n7 n8 n9 n10 n11 n12 n13 n14 n15 n16 n17 n18 n19 n20 n21 n22 n23 n24 n25 n26:=⟨E.V.keep K,K _ _ E.c,K _ _ E.p,K _ _ E.s,E.r.keep K⟩
theorem sc_rd {sc:List Int} (B:Buf h sl 1 3 (nV3 sc)) {i:Nat} (hi:i < sc.length):∃ b,sl.a=some ⟨b,0,none⟩∧((0:Int)≤(i:Int)∧(i:Int) < (sl.n:Int))∧h.at b (0+((i:Int)).toNat)=some (.int .i64 (sc[i]?.getD 0)):=by
 have hl:=B.len
 rw [nV3_len] at hl
 obtain ⟨b,ha,hat,_⟩:=buf_set B (k:=i) (by rw [nV3_len]; exact hi)
 refine ⟨b,ha,⟨by omega,by omega⟩,?_⟩
 rw [Int.toNat_natCast,Nat.zero_add,hat]
 unfold nV3
 rw [List.getElem?_map,List.getElem?_eq_getElem hi]
 rfl
theorem cmp56_s {sc:List Int} (P:PkOk xs) (E:Env g h vb b b1 b2 ls sl xs sc n n1 n2 n3 n4 n5 n6 n7 n8 n9 n10 n11 n12 n13 n14 n15 n16 n17 n18 n19 n20 n21 n22 n23 n24 n25 n26) {i j:Nat} (hi:i < sc.length) (hj:j < sc.length) (hQ:∀ h' (c:Int),Keep h h'→(c < 0↔lessC (decide (n7≤((tabsI xs 0).length:Int))) (fun k=>sc[k]?.getD 0) i j)→Q (.int .i64 c) h'):F79.T (i:Int) (j:Int) b 0 b1 0 b2 0 h Q:=by
 have key:∀ h1,Keep h h1→¬ (decide (n7≤((tabsI xs 0).length:Int))=true∧(i=0∨j=0)∧i≠j)→∃ l:Sl,h1.at b2 0=some (.slice l.a l.n l.c)∧∃ b3 o3,(l.a:Option Addr)=some ⟨b3,o3,none⟩∧((0:Int)≤(j:Int)∧(j:Int) < (l.n:Int))∧∃ n2:Int,h1.at b3 (o3+(j:Int).toNat)=some (.int .i64 n2)∧∃ l1:Sl,h1.at b2 0=some (.slice l1.a l1.n l1.c)∧∃ b4 o4,(l1.a:Option Addr)=some ⟨b4,o4,none⟩∧((0:Int)≤(i:Int)∧(i:Int) < (l1.n:Int))∧∃ n3:Int,h1.at b4 (o4+(i:Int).toNat)=some (.int .i64 n3)∧F80.T n2 n3 h1 fun r h2=>∃ n4:Int,r=.int .i64 n4∧Q (.int .i64 n4) h2:=by
  intro h1 K1 hc
  have E1:=E.keep K1
  obtain ⟨b3,ha3,hr3,hat3⟩:=sc_rd E1.r hj
  obtain ⟨b4,ha4,hr4,hat4⟩:=sc_rd E1.r hi
  refine ⟨sl,at_of E1.s 0,b3,0,ha3,hr3,_,hat3,sl,at_of E1.s 0,b4,0,ha4,hr4,_,hat4,cmp_s fun c hcc=>⟨c,rfl,hQ h1 c K1 ?_⟩⟩
  unfold lessC
  rw [if_neg hc]
  exact hcc
 have special:∀ (J:Hp→Prop),(∀ h1,Keep h h1→¬ (decide (n7≤((tabsI xs 0).length:Int))=true∧(i=0∨j=0)∧i≠j)→J h1)→(i=0∨j=0)→(i:Int)≠(j:Int)→F77.T n n1 n2 n3 n4 n5 n6 n7 n8 n9 n10 n11 n12 n13 n14 n15 n16 n17 n18 n19 n20 n21 n22 n23 n24 n25 n26 (some ⟨vb,0,none⟩) h fun r1 h3=>∃ b5:Bool,r1=.bool b5∧parB b5 (F80.T (i:Int) (j:Int) h3 fun r2 h4=>∃ n32:Int,r2=.int .i64 n32∧Q (.int .i64 n32) h4) (J h3):=by
  intro J hJ h0 hne
  refine stopped_s E.V P fun h1 K1=>⟨_,rfl,fun hs=>?_,fun hs=>hJ h1 K1 fun c=>(by rw [c.1] at hs; cases hs)⟩
  refine cmp_s fun c hcc=>⟨c,rfl,hQ h1 c K1 ?_⟩
  unfold lessC
  rw [if_pos ⟨hs,h0,fun e=>hne (by rw [e])⟩,hcc]
  omega
 unfold F79.T F79.G
 refine ⟨fun h1=>Keep h h1∧¬ (decide (n7≤((tabsI xs 0).length:Int))=true∧(i=0∨j=0)∧i≠j),fun h1 hJ=>key h1 hJ.1 hJ.2,fun h0=>⟨fun he=>⟨Keep.refl _,fun c=>c.2.2 (by omega)⟩,fun he=>?_⟩,fun h0=>⟨fun h1=>⟨fun he=>⟨Keep.refl _,fun c=>c.2.2 (by omega)⟩,fun he=>?_⟩,fun h1=>⟨Keep.refl _,fun c=>by omega⟩⟩⟩
 ·exact cfg_rd E.c ⟨some ⟨vb,0,none⟩,at_of E.p 0,special _ (fun h1 a c=>⟨a,c⟩) (.inl (by omega)) he⟩
 ·exact cfg_rd E.c ⟨some ⟨vb,0,none⟩,at_of E.p 0,special _ (fun h1 a c=>⟨a,c⟩) (.inr (by omega)) he⟩
theorem ib_rd {w:List Nat} {P R:List Nat} {a:Nat} (B:Buf h l 1 3 (iV w)) (e:w=P++a::R):∃ b,l.a=some ⟨b,0,none⟩∧((0:Int)≤(P.length:Int)∧(P.length:Int) < (l.n:Int))∧h.at b (0+((P.length:Int)).toNat)=some (.int .i64 (a:Int))∧h.canW b (0+((P.length:Int)).toNat) 1∧∀ c:Nat,Upd h (h.wr b (0+((P.length:Int)).toNat) [.int .i64 (c:Int)]) l l∧Buf (h.wr b (0+((P.length:Int)).toNat) [.int .i64 (c:Int)]) l 1 3 (iV (P++c::R)):=by
 subst e
 have hl:=B.len
 rw [iV_len,List.length_append,List.length_cons] at hl
 obtain ⟨b,ha,hat,hc,hw⟩:=buf_set B (k:=P.length) (by rw [iV_len,List.length_append,List.length_cons]; omega)
 rw [Int.toNat_natCast,Nat.zero_add]
 refine ⟨b,ha,⟨by omega,by omega⟩,?_,hc,fun c=>?_⟩
 ·rw [hat]
  unfold iV
  rw [List.getElem?_map,List.getElem?_append_right (Nat.le_refl _),Nat.sub_self]
  rfl
 ·obtain ⟨U,B'⟩:=hw (.int .i64 (c:Int))
  refine ⟨U,?_⟩
  have:(iV (P++a::R)).set P.length (.int .i64 (c:Int))=iV (P++c::R):=by
   unfold iV
   rw [List.map_append,List.map_append,List.set_append_right _ _ (by rw [List.length_map]; exact Nat.le_refl _),List.length_map,Nat.sub_self]
   rfl
  rw [← this]; exact B'
theorem pw_ins {R:Nat→Nat→Prop} (tr:∀ {i j k},R i j→R j k→R i k) {P S:List Nat} {x:Nat} (h:(P++S).Pairwise R) (h1:P=[]∨∃ P' y,P=P'++[y]∧R y x) (h2:∀ s∈S,R x s):(P++x::S).Pairwise R:=by
 obtain ⟨p1,p2,p3⟩:=List.pairwise_append.1 h
 refine List.pairwise_append.2 ⟨p1,List.pairwise_cons.2 ⟨h2,p2⟩,fun a ha c hc=>?_⟩
 rcases List.mem_cons.1 hc with rfl | hc
 ·rcases h1 with rfl | ⟨P',y,rfl,hy⟩
  ·cases ha
  ·rcases List.mem_append.1 ha with ha | ha
   ·have:=(List.pairwise_append.1 p1).2.2 a ha y (by simp)
    exact tr this hy
   ·rw [List.mem_singleton.1 ha]; exact hy
 ·exact p3 a ha c hc
theorem ins_s {sc:List Int} {w:List Nat} (Pk:PkOk xs) (E:Env g H0 vb b b1 b2 ls sl xs sc n n1 n2 n3 n4 n5 n6 n7 n8 n9 n10 n11 n12 n13 n14 n15 n16 n17 n18 n19 n20 n21 n22 n23 n24 n25 n26) (K:Keep H0 h) (N:NewN H0 l) (B:Buf h l 1 3 (iV w)) (hw:w.length≤20) (hlt:∀ a∈w,a < sc.length) (rise:w.Pairwise (· < ·))
  (hQ:∀ h' w',Keep H0 h'→Buf h' l 1 3 (iV w')→w'.Perm w→w'.Pairwise (bef (decide (n7≤((tabsI xs 0).length:Int))) (fun k=>sc[k]?.getD 0))→Q (.tuple ⟨[]⟩) h'):F170.T l 0 (w.length:Int) b 0 b1 0 b2 0 h Q:=by
 generalize hst:decide (n7≤((tabsI xs 0).length:Int))=st at hQ
 unfold F170.T F170.G
 rw [show IntKind.wrap .i64 ((0:Int)+1)=1 from rfl]
 rcases w with _ | ⟨m0,M0⟩
 ·refine ⟨fun n g=>n=1∧g=h,fun _ _=>0,⟨rfl,rfl⟩,?_⟩
  rintro n g' ⟨rfl,rfl⟩
  exact ⟨fun hlt=>absurd hlt (by simp),fun _=>hQ g' [] K B (List.Perm.refl _) List.Pairwise.nil⟩
 simp only [List.length_cons] at hw
 refine ⟨fun n h1=>∃ D R,Keep H0 h1∧Buf h1 l 1 3 (iV (D++R))∧(D++R).Perm (m0::M0)∧D.Pairwise (bef st (fun k=>sc[k]?.getD 0))∧R.Pairwise (· < ·)∧(∀ d∈D,∀ r∈R,d < r)∧n=(D.length:Int)∧D.length+R.length=M0.length+1,fun n _=>((M0.length+1:Nat) - n).toNat,⟨[m0],M0,K,B,List.Perm.refl _,List.pairwise_singleton _ _,(List.pairwise_cons.1 rise).2,fun d hd r hr=>by rw [List.mem_singleton.1 hd]; exact (List.pairwise_cons.1 rise).1 r hr,rfl,by simp; omega⟩,?_⟩
 rintro n h1 ⟨D,R,K1,B1,hp,hs,hR,hDR,rfl,hlen⟩
 refine ⟨fun hlt1=>?_,fun hge=>?_⟩
 ·rcases R with _ | ⟨x,R⟩
  ·simp at hlt1 hlen; omega
  simp only [List.length_cons] at hlen
  rw [wr64 (x:=(D.length:Int)+1) (by omega) (by omega)]
  have hxm:x∈m0::M0:=hp.subset (by simp)
  obtain ⟨r1,r2⟩:=List.pairwise_cons.1 hR
  have out:∀ {h2:Hp} {P S':List Nat},Keep H0 h2→Buf h2 l 1 3 (iV (P++x::(S'++R)))→P++S'=D→(P++x::S').Pairwise (bef st (fun k=>sc[k]?.getD 0))→(∃ D_1 R,Keep H0 h2∧Buf h2 l 1 3 (iV (D_1++R))∧(D_1++R).Perm (m0::M0)∧D_1.Pairwise (bef st (fun k=>sc[k]?.getD 0))∧R.Pairwise (· < ·)∧(∀ d∈D_1,∀ r∈R,d < r)∧((D.length:Int)+1)=(D_1.length:Int)∧D_1.length+R.length=M0.length+1):=by
   intro h2 P S' K2 B2 hD hpw
   refine ⟨P++x::S',R,K2,by simpa using B2,?_,hpw,r2,fun d hd r hr=>?_,by rw [← hD]; simp; omega,by rw [← hD] at hlen; simp at hlen ⊢; omega⟩
   ·refine List.Perm.trans ?_ hp
    rw [← hD]
    have e1:(P++x::S'++R)=P++([x]++S'++R):=by simp
    have e2:(P++S'++x::R)=P++(S'++[x]++R):=by simp
    rw [e1,e2]
    exact ((List.perm_append_comm (l₁:=[x]) (l₂:=S')).append_right R).append_left P
   ·rcases List.mem_append.1 hd with hd | hd
    ·exact hDR d (by rw [← hD]; simp [hd]) r (List.mem_cons_of_mem _ hr)
    ·rcases List.mem_cons.1 hd with rfl | hd
     ·exact r1 r hr
     ·exact hDR d (by rw [← hD]; simp [hd]) r (List.mem_cons_of_mem _ hr)
  refine ⟨fun n3 h2=>∃ P S',Keep H0 h2∧Buf h2 l 1 3 (iV (P++x::(S'++R)))∧P++S'=D∧(∀ s∈S',bef st (fun k=>sc[k]?.getD 0) x s)∧n3=(P.length:Int),fun n3 _=>n3.toNat,⟨D,[],K1,B1,by simp,fun s hs=>(by cases hs),rfl⟩,?_⟩
  rintro n3 h2 ⟨P,S',K2,B2,hD,hb,rfl⟩
  have hDl:P.length+S'.length=D.length:=by rw [← hD]; simp
  refine ⟨fun hlt2=>?_,fun hge2=>?_⟩
  ·have hP:P≠[]:=fun e=>by subst e; simp at hlt2
   obtain ⟨P',y,rfl⟩:=snoc_of hP
   have hyD:y∈D:=by rw [← hD]; simp
   have hym:y∈m0::M0:=hp.subset (by simp [hyD])
   have hyx:y < x:=hDR y hyD x (by simp)
   simp only [List.length_append,List.length_singleton] at hDl hlt2
   have hi1:(((P'++[y]).length:Nat):Int)=(P'.length:Int)+1:=by simp
   have hw1:IntKind.wrap .i64 ((((P'++[y]).length:Nat):Int) - 1)=(P'.length:Int):=by rw [hi1,wr64 (by omega) (by omega)]; omega
   rw [hw1]
   obtain ⟨ba,a1,a2,a3,a4,a5⟩:=ib_rd B2 (P:=P'++[y]) (a:=x) (R:=S'++R) rfl
   obtain ⟨bb,c1,c2,c3,c4,c5⟩:=ib_rd B2 (P:=P') (a:=y) (R:=x::(S'++R)) (by simp)
   have hbb:bb=ba:=by rw [a1] at c1; simp only [Option.some.injEq,Addr.mk.injEq,and_true] at c1; exact c1.symm
   subst hbb
   refine ⟨_,0,a1,a2,_,a3,_,0,c1,c2,_,c3,?_⟩
   refine cmp56_s Pk (E.keep K2) (hlt x hxm) (hlt y hym) fun h3 c K3 hc=>⟨c,rfl,fun hneg=>?_,fun hpos=>?_⟩
   ·rw [hst] at hc
    have hl:=hc.1 hneg
    have B3:=B2.keep K3
    have K03:=K2.trans K3
    obtain ⟨bd,d1,d2,d3,d4,d5⟩:=ib_rd B3 (P:=P') (a:=y) (R:=x::(S'++R)) (by simp)
    have hbd:bd=bb:=by rw [a1] at d1; simp only [Option.some.injEq,Addr.mk.injEq,and_true] at d1; exact d1.symm
    subst hbd
    obtain ⟨be,e1,e2,e3,e4,e5⟩:=ib_rd B3 (P:=P'++[y]) (a:=x) (R:=S'++R) rfl
    have hbe:be=bd:=by rw [a1] at e1; simp only [Option.some.injEq,Addr.mk.injEq,and_true] at e1; exact e1.symm
    subst hbe
    obtain ⟨U4,B4⟩:=e5 y
    obtain ⟨K04,_⟩:=NewN.upd K03 N U4
    obtain ⟨bf,f1,f2,f3,f4,f5⟩:=ib_rd B4 (P:=P') (a:=y) (R:=y::(S'++R)) (by simp)
    have hbf:bf=be:=by rw [a1] at f1; simp only [Option.some.injEq,Addr.mk.injEq,and_true] at f1; exact f1.symm
    subst hbf
    obtain ⟨U5,B5⟩:=f5 x
    obtain ⟨K05,_⟩:=NewN.upd K04 N U5
    refine ⟨_,0,d1,d2,_,d3,_,0,e1,e2,_,e3,_,0,e1,e2,e4,_,0,f1,f2,f4,?_⟩
    refine ⟨⟨P',y::S',K05,by simpa using B5,by rw [← hD]; simp,fun s hs=>?_,rfl⟩,by rw [hi1]; dsimp only; omega⟩
    rcases List.mem_cons.1 hs with rfl | hs
    ·exact lessC_bef hl
    ·exact hb s hs
   ·rw [hst] at hc
    have hnl:¬ lessC st (fun k=>sc[k]?.getD 0) x y:=fun h=>hpos (hc.2 h)
    refine ⟨out (K2.trans K3) (B2.keep K3) hD (pw_ins (R:=bef st (fun k=>sc[k]?.getD 0)) bef_trans (by rw [hD]; exact hs) (.inr ⟨P',y,rfl,not_less_bef hyx hnl⟩) hb),by dsimp only; omega⟩
  ·have hP:P=[]:=List.eq_nil_of_length_eq_zero (by omega)
   subst hP
   exact ⟨out K2 B2 hD (pw_ins (R:=bef st (fun k=>sc[k]?.getD 0)) bef_trans (by rw [hD]; exact hs) (.inl rfl) hb),by dsimp only; omega⟩
 ·have hR0:R=[]:=by
   have:R.length=0:=by simp only [List.length_cons] at hge; omega
   exact List.eq_nil_of_length_eq_zero this
  subst hR0
  rw [List.append_nil] at hp B1
  exact hQ h1 D K1 B1 hp hs
theorem order_s (V:Ver g h vb ls xs) (P:PkOk xs) (O:CfOk n5 n7 n8 n9 n10 n12) (h8:n8=(xs.length:Int)) (hQ:∀ h' r o,Keep h h'→Buf h' r 1 3 (iV o)→NewN h r→IsOrder (xs.length - 1) (decide (n7≤((tabsI xs 0).length:Int))) (scoreM n5 n9 n10 xs) o→Q (.slice r.a r.n r.c) h'):F17.T n n1 n2 n3 n4 n5 n6 n7 n8 n9 n10 n11 n12 n13 n14 n15 n16 n17 n18 n19 n20 n21 n22 n23 n24 n25 n26 (some ⟨vb,0,none⟩) h Q:=by
 have hx:=P.len
 unfold F17.T F17.G
 intro b hb b1 hb1
 have K0:=Keep.new hb (.cells ⟨[.int .i64 n,.int .i64 n1,.int .i64 n2,.int .i64 n3,.int .i64 n4,.int .i64 n5,.int .i64 n6,.int .i64 n7,.int .i64 n8,.int .i64 n9,.int .i64 n10,.int .i64 n11,.int .i64 n12,.int .i64 n13,.int .i64 n14,.int .i64 n15,.int .i64 n16,.int .i64 n17,.int .i64 n18,.int .i64 n19,.int .i64 n20,.int .i64 n21,.int .i64 n22,.int .i64 n23,.int .i64 n24,.int .i64 n25,.int .i64 n26]⟩ 68 (0,0))
 have x0:=new_at h b (.cells ⟨[.int .i64 n,.int .i64 n1,.int .i64 n2,.int .i64 n3,.int .i64 n4,.int .i64 n5,.int .i64 n6,.int .i64 n7,.int .i64 n8,.int .i64 n9,.int .i64 n10,.int .i64 n11,.int .i64 n12,.int .i64 n13,.int .i64 n14,.int .i64 n15,.int .i64 n16,.int .i64 n17,.int .i64 n18,.int .i64 n19,.int .i64 n20,.int .i64 n21,.int .i64 n22,.int .i64 n23,.int .i64 n24,.int .i64 n25,.int .i64 n26]⟩ 68 (0,0))
 generalize h.new b (.cells ⟨[.int .i64 n,.int .i64 n1,.int .i64 n2,.int .i64 n3,.int .i64 n4,.int .i64 n5,.int .i64 n6,.int .i64 n7,.int .i64 n8,.int .i64 n9,.int .i64 n10,.int .i64 n11,.int .i64 n12,.int .i64 n13,.int .i64 n14,.int .i64 n15,.int .i64 n16,.int .i64 n17,.int .i64 n18,.int .i64 n19,.int .i64 n20,.int .i64 n21,.int .i64 n22,.int .i64 n23,.int .i64 n24,.int .i64 n25,.int .i64 n26]⟩ 68 (0,0))=k0 at K0 x0 hb1 ⊢
 have K1:=Keep.new hb1 (.cells ⟨[.pointer (some ⟨vb,0,none⟩)]⟩ 71 (0,0))
 have x1:=new_at k0 b1 (.cells ⟨[.pointer (some ⟨vb,0,none⟩)]⟩ 71 (0,0))
 generalize k0.new b1 (.cells ⟨[.pointer (some ⟨vb,0,none⟩)]⟩ 71 (0,0))=k1 at K1 x1 ⊢
 have y0:=K1 _ _ x0
 have K01:=K0.trans K1
 refine cfg_rd y0 ⟨some ⟨vb,0,none⟩,at_of x1 0,?_⟩
 refine scores_s (V.keep K01) P O h8 fun h1 l K2 B2 N2=>⟨l,rfl,fun b2 hb2=>?_⟩
 rw [new_wr]
 have x3:=new_at h1 b2 (.cells ⟨[.slice none 0 0]⟩ 25 (0,0))
 refine ⟨canW_new x3 (by simp),l,?_⟩
 have e3:(setL (⟨[.slice none 0 0]⟩:Array Value).toList 0 [.slice l.a l.n l.c]).toArray=⟨[.slice l.a l.n l.c]⟩:=rfl
 rw [e3]
 have K3:=Keep.new hb2 (.cells ⟨[.slice l.a l.n l.c]⟩ 25 (0,0))
 have x4:=new_at h1 b2 (.cells ⟨[.slice l.a l.n l.c]⟩ 25 (0,0))
 generalize h1.new b2 (.cells ⟨[.slice l.a l.n l.c]⟩ 25 (0,0))=H0 at K3 x4 ⊢
 clear x3 e3
 refine ⟨at_of x4 0,?_⟩
 have K03:=K01.trans (K2.trans K3)
 have E:Env g H0 vb b b1 b2 ls l xs ((List.range (xs.length - 1)).map (scoreM n5 n9 n10 xs)) n n1 n2 n3 n4 n5 n6 n7 n8 n9 n10 n11 n12 n13 n14 n15 n16 n17 n18 n19 n20 n21 n22 n23 n24 n25 n26:=⟨V.keep K03,(K2.trans K3) _ _ y0,(K2.trans K3) _ _ x1,x4,B2.keep K3⟩
 have hscl:((List.range (xs.length - 1)).map (scoreM n5 n9 n10 xs)).length=xs.length - 1:=by simp
 have hln:l.n=xs.length - 1:=by have:=B2.len; rw [nV3_len,hscl] at this; omega
 have hsc:∀ i,i < xs.length - 1→((List.range (xs.length - 1)).map (scoreM n5 n9 n10 xs))[i]?.getD 0=scoreM n5 n9 n10 xs i:=fun i hi=>by
  rw [List.getElem?_map,List.getElem?_range hi]; rfl
 generalize hst:decide (n7≤((tabsI xs 0).length:Int))=st at hQ
 refine ⟨fun l2 n h2=>∃ (k:Nat) (w:List Nat),n=(k:Int)∧k≤xs.length - 1∧Keep H0 h2∧NewN H0 l2∧Buf h2 l2 1 3 (iV w)∧w.Pairwise (· < ·)∧∀ i,i∈w↔i < k∧want st (scoreM n5 n9 n10 xs) i,fun _ n _=>xs.length - n.toNat,⟨0,[],rfl,Nat.zero_le _,Keep.refl _,NewN.nil _,Buf.nil _ _ _,List.Pairwise.nil,fun i=>⟨fun hi=>(by cases hi),fun hi=>(by omega)⟩⟩,?_⟩
 rintro l2 n h2 ⟨k,w,rfl,hk,Kh,Nh,Bh,hpw,hmem⟩
 have hwl:w.length≤k:=by
  have:w.Nodup:=hpw.imp fun h=>Nat.ne_of_lt h
  have h2:=List.Nodup.length_le_of_subset this (l₂:=List.range k) (fun i hi=>List.mem_range.2 ((hmem i).1 hi).1)
  rwa [List.length_range] at h2
 have hl2:l2.n=w.length:=by have:=Bh.len; rw [iV_len] at this; omega
 refine ⟨fun hlt=>?_,fun hge=>?_⟩
 ·have hk1:k < xs.length - 1:=by omega
  obtain ⟨b3,a1,a2,a3⟩:=sc_rd (E.keep Kh).r (i:=k) (by rw [hscl]; exact hk1)
  rw [hsc k hk1] at a3
  rw [next_i (n:=100) (by omega) (by omega)]
  have add:want st (scoreM n5 n9 n10 xs) k→∀ {h3:Hp} {l3:Sl},Keep H0 h3→NewN H0 l3→Buf h3 l3 1 3 (iV w++[.int .i64 (k:Int)])→(∃ (k_1:Nat) (w:List Nat),((k+1:Nat):Int)=(k_1:Int)∧k_1≤xs.length - 1∧Keep H0 h3∧NewN H0 l3∧Buf h3 l3 1 3 (iV w)∧w.Pairwise (· < ·)∧∀ i,i∈w↔i < k_1∧want st (scoreM n5 n9 n10 xs) i):=fun hw {h3} {l3} K3 N3 B3=>by
   refine ⟨k+1,w++[k],rfl,by omega,K3,N3,by unfold iV at B3 ⊢; rw [List.map_append]; exact B3,?_,fun i=>?_⟩
   ·refine List.pairwise_append.2 ⟨hpw,List.pairwise_singleton _ _,fun x hx y hy=>?_⟩
    rw [List.mem_singleton.1 hy]; exact ((hmem x).1 hx).1
   ·rw [List.mem_append,List.mem_singleton,hmem]
    constructor
    ·rintro (⟨h,h'⟩ | rfl)
     ·exact ⟨by omega,h'⟩
     ·exact ⟨by omega,hw⟩
    ·rintro ⟨h,h'⟩
     by_cases hik:i=k
     ·exact .inr hik
     ·exact .inl ⟨by omega,h'⟩
  have skip:¬ want st (scoreM n5 n9 n10 xs) k→∀ {h3:Hp},Keep h2 h3→(∃ (k_1:Nat) (w:List Nat),((k+1:Nat):Int)=(k_1:Int)∧k_1≤xs.length - 1∧Keep H0 h3∧NewN H0 l2∧Buf h3 l2 1 3 (iV w)∧w.Pairwise (· < ·)∧∀ i,i∈w↔i < k_1∧want st (scoreM n5 n9 n10 xs) i):=fun hw {h3} K3=>by
   refine ⟨k+1,w,rfl,by omega,Kh.trans K3,Nh,Bh.keep K3,hpw,fun i=>?_⟩
   rw [hmem]
   constructor
   ·rintro ⟨h,h'⟩; exact ⟨by omega,h'⟩
   ·rintro ⟨h,h'⟩
    have hik:i≠k:=by rintro rfl; exact hw h'
    exact ⟨by omega,h'⟩
  refine ⟨b3,0,a1,a2,_,a3,fun hw=>?_,fun hw=>⟨fun h0=>?_,fun h0=>⟨skip (fun hh=>hh.elim hw fun hh=>h0 (by omega)) (Keep.refl _),by dsimp only; omega⟩⟩⟩
  ·refine append_buf (us:=[.int .i64 (k:Int)]) Bh rfl rfl (by omega) fun l3 h3 B3 _ U3=>?_
   obtain ⟨K4,N4⟩:=NewN.upd Kh Nh U3
   exact ⟨add (.inl hw) K4 N4 B3,by dsimp only; omega⟩
  ·refine cfg_rd (E.keep Kh).c ⟨some ⟨vb,0,none⟩,at_of (E.keep Kh).p 0,?_⟩
   refine stopped_s (E.keep Kh).V P fun h3 K4=>⟨_,rfl,fun hs=>?_,fun hs=>?_⟩
   ·rw [hst] at hs
    refine append_buf (us:=[.int .i64 (k:Int)]) (Bh.keep K4) rfl rfl (by omega) fun l3 h5 B5 _ U5=>?_
    obtain ⟨K5,N5⟩:=NewN.upd (Kh.trans K4) Nh U5
    exact ⟨add (.inr ⟨by omega,hs⟩) K5 N5 B5,by dsimp only; omega⟩
   ·rw [hst] at hs
    exact ⟨skip (fun hh=>hh.elim hw fun hh=>by rw [hh.2] at hs; cases hs) K4,by dsimp only; omega⟩
 ·have hk2:k=xs.length - 1:=by omega
  subst hk2
  unfold F78.T F144.T F78.G F144.G
  rw [hl2]
  refine ⟨fun a c h3=>a=0∧c=20∧h3=h2,fun _ _ _=>0,⟨rfl,rfl,rfl⟩,?_⟩
  rintro a c h3 ⟨rfl,rfl,rfl⟩
  refine ⟨fun hle=>absurd hle (by omega),fun _=>?_⟩
  refine ins_s P E Kh Nh Bh (by omega) (fun i hi=>by rw [hscl]; exact ((hmem i).1 hi).1) hpw fun h4 w' K4 B4 hperm hpw'=>?_
  refine ⟨fun a h5=>a=20∧h5=h4,fun _ _=>0,⟨rfl,rfl⟩,?_⟩
  rintro a h5 ⟨rfl,rfl⟩
  refine ⟨fun hlt=>absurd hlt (by omega),fun _=>?_⟩
  rw [hst] at hpw'
  show Q (.slice l2.a w.length l2.c) h5
  rw [← hl2]
  refine hQ h5 l2 w' (K03.trans K4) B4 (Nh.mono K03.dom) ⟨?_,fun i=>?_,?_⟩
  ·exact (hperm.nodup_iff).2 (hpw.imp fun h=>Nat.ne_of_lt h)
  ·rw [hperm.mem_iff,hmem]
  ·refine hpw'.imp_of_mem fun {x y} hx hy hb=>?_
   have hx':=((hmem x).1 (hperm.mem_iff.1 hx)).1
   have hy':=((hmem y).1 (hperm.mem_iff.1 hy)).1
   unfold bef at hb ⊢
   dsimp only at hb
   rw [hsc x hx',hsc y hy'] at hb
   exact hb
end
end Go.Eng.YtbjnlacacapjiaaGreatDoor
end
section
set_option maxRecDepth 100000
namespace Go.Eng.YtbjnlacacapjiaaGreatDoor
def hullM (l:List Tab):ByteArray×ByteArray:=match l with
 | []=>(⟨#[]⟩,⟨#[]⟩)
 | t::_=>l.foldl (fun p u=>(sMin p.1 u.least,sMax p.2 u.greatest)) (t.least,t.greatest)
def behindM (l:List Tab) (key:ByteArray):Tab:=match l.find? fun t=>blB key t.least with
 | some t=>t
 | none=>l.head?.getD zT
structure Jb where
 lv:Int
 up:List Tab
 lo:List Tab
 cut:ByteArray
 mv:Bool
def inputsM (fan:Int) (xs:List (Sl×List Tab)) (ptrs:List ByteArray) (level:Int):Option Jb:=
 if level < 0∨(xs.length:Int) - 1≤level then none else if tabsI xs level=[] then none else
 if level=0 then some ⟨0,tabsI xs 0,overM (hullM (tabsI xs 0)).1 (hullM (tabsI xs 0)).2 (tabsI xs 1),⟨#[]⟩,false⟩ else
 let t:=behindM (tabsI xs level) (ptrs[level.toNat]?.getD ⟨#[]⟩)
 let lo:=overM t.least t.greatest (tabsI xs (level+1))
 let mv:=decide (lo=[]∧level+1≠(xs.length:Int) - 1)
 match lo[fan.toNat]? with
 | some c=>some ⟨level,[t],lo.take fan.toNat,c.least,mv⟩
 | none=>some ⟨level,[t],lo,⟨#[]⟩,mv⟩
theorem not_bl_nil (a:ByteArray):¬ Bl a ⟨#[]⟩:=by
 intro h
 have h1:=(sLt_bl _ _).2 h
 unfold sLt at h1
 have e:(ByteArray.mk #[]).toList=[]:=by rw [ByteArray.toList,ByteArray.toList.loop]; rfl
 rw [e] at h1
 cases hl:a.toList with
 | nil=>rw [hl] at h1; simp [Op.bytesLess] at h1
 | cons x l=>rw [hl] at h1; simp [Op.bytesLess] at h1
theorem buf_cap {h:Hp} {s:Sl} {sz t k c:Nat} {A B:List Value} (Bf:Buf h s sz t (A++B)) (hA:A.length=k*sz) (hk:k≤s.n) (hc:k≤c) (hcc:c≤s.c) (h0:s.a=none→c=0):Buf h ⟨s.a,k,c⟩ sz t A:=by
 refine ⟨hA,hc,?_⟩
 rcases Bf.own with ⟨h1,h2⟩ | ⟨b,cc,f,h1,h2,h3,h4,h5⟩
 ·exact .inl ⟨h1,h0 h1⟩
 ·refine .inr ⟨b,cc,f,h1,h2,Nat.le_trans (Nat.mul_le_mul_right _ hcc) h3,h4,?_⟩
  have:=congrArg (List.take A.length) h5
  rw [List.take_take,List.take_left' rfl,List.length_append,Nat.min_eq_left (Nat.le_add_right _ _)] at this
  exact this
theorem add_zero_a (a:Option Addr):a.map (·.add 0)=a:=by
 cases a with
 | none=>rfl
 | some a=>simp [Addr.add]
theorem cut0 (s:Sl) (sz:Nat) (k c:Int):Sl.cut s sz 0 k c=⟨s.a,k.toNat,c.toNat⟩:=by
 unfold Sl.cut
 have h0:(0:Int).toNat*sz=0:=by simp
 rw [h0,add_zero_a]
 simp
section
variable {g h h':Hp} {vb:Nat} {ls l:Sl} {xs:List (Sl×List Tab)} {Q:Value→Hp→Prop} {n n1 n2 n3 n4 n5 n6 n7 n8 n9 n10 n11 n12 n13 n14 n15 n16 n17 n18 n19 n20 n21 n22 n23 n24 n25 n26:Int}
theorem hull_s {ts:List Tab} (B:h.row l.a (l.n*6) (tabV ts)) (hl:ts.length≤60000) (hne:ts≠[]) (hQ:Q (.tuple ⟨[.string (hullM ts).1,.string (hullM ts).2]⟩) h):F83.T l h Q:=by
 have hn:l.n=ts.length:=by have:=B.1; rw [tabV_len] at this; omega
 rcases ts with _ | ⟨t,ts⟩
 ·exact absurd rfl hne
 have e0:(0:Int)=((([]:List Tab).length:Nat):Int):=rfl
 unfold F83.T
 obtain ⟨b,o,ha,hr,_,g0,_,g1,_,g2,_,g3,s4,g4,s5,g5,hk⟩:=tab_rd (P:=[]) (R:=ts) (t:=t) (l:=l) (h:=h) B (i:=0) rfl (K:=fun b o a c d e s s1=>s=t.least∧s1=t.greatest) (fun _ _=>⟨rfl,rfl⟩)
 obtain ⟨rfl,rfl⟩:=hk
 refine ⟨b,o,ha,hr,_,g4,b,o,ha,hr,_,g5,g5,?_⟩
 refine ⟨fun s2 s3 n h1=>h1=h∧∃ P R,t::ts=P++R∧n=(P.length:Int)∧(s2,s3)=P.foldl (fun p u=>(sMin p.1 u.least,sMax p.2 u.greatest)) (t.least,t.greatest),fun _ _ n _=>(t::ts).length - n.toNat,⟨rfl,[],_,rfl,rfl,rfl⟩,?_⟩
 rintro s2 s3 n h1 ⟨rfl,P,R,e,rfl,es⟩
 have e2:=congrArg List.length e
 rw [List.length_append] at e2
 refine ⟨fun hlt=>?_,fun hge=>?_⟩
 ·rcases R with _ | ⟨u,R⟩
  ·exact absurd hlt (by simp at e2 hn; omega)
  rw [List.length_cons] at e2
  have B':=B
  rw [e] at B'
  refine tab_rd B' rfl fun b o=>?_
  simp only [List.length_cons] at hl e2
  rw [next_i (n:=70000) (by omega) (by omega)]
  refine ⟨⟨rfl,P++[u],R,by rw [e]; simp,by simp,?_⟩,by dsimp only; simp only [List.length_cons]; omega⟩
  rw [List.foldl_append,← es]; rfl
 ·have hR:R=[]:=List.eq_nil_of_length_eq_zero (by omega)
  subst hR
  rw [List.append_nil] at e
  have:hullM (t::ts)=(s2,s3):=by rw [es,← e]; rfl
  rw [this] at hQ
  exact hQ
theorem behind_s {ts:List Tab} {key:ByteArray} (B:h.row l.a (l.n*6) (tabV ts)) (hl:ts.length≤60000) (hne:ts≠[]) (hQ:Q (.agg ⟨(behindM ts key).cells⟩) h):F85.T l key h Q:=by
 have hn:l.n=ts.length:=by have:=B.1; rw [tabV_len] at this; omega
 unfold F85.T
 refine ⟨fun n n1 n2 n3 n4 s1 s2 h1=>h1=h∧∃ P R,ts=P++R∧n=(P.length:Int)∧([.int .u64 n1,.int .i64 n2,.int .i64 n3,.int .i64 n4,.string s1,.string s2]:List Value)=(match P.find? fun t=>blB key t.least with | some t=>t.cells | none=>zT.cells),fun n _ _ _ _ _ _ _=>ts.length - n.toNat,⟨rfl,[],_,rfl,rfl,rfl⟩,?_⟩
 rintro n n1 n2 n3 n4 s1 s2 h1 ⟨rfl,P,R,e,rfl,es⟩
 have e2:=congrArg List.length e
 rw [List.length_append] at e2
 have nz:∀ t:Tab,blB key t.least=true→t.cells≠zT.cells:=fun t ht hc=>by
  have:t.least=⟨#[]⟩:=by simp [Tab.cells,zT] at hc; exact hc.2.2.2.2.1
  rw [this] at ht
  exact not_bl_nil _ (blB_t.1 ht)
 refine ⟨fun hlt=>?_,fun hge=>?_⟩
 ·rcases R with _ | ⟨u,R⟩
  ·exact absurd hlt (by simp at e2; omega)
  rw [List.length_cons] at e2
  have B':=B
  rw [e] at B'
  refine tab_rd B' rfl fun b o=>?_
  rw [next_i (n:=70000) (by omega) (by omega)]
  refine ⟨fun hle=>⟨⟨rfl,P++[u],R,by rw [e]; simp,by simp,?_⟩,by dsimp only; omega⟩,fun hgt=>⟨fun hz=>⟨⟨rfl,P++[u],R,by rw [e]; simp,by simp,?_⟩,by dsimp only; omega⟩,fun hz=>⟨⟨rfl,P++[u],R,by rw [e]; simp,by simp,?_⟩,by dsimp only; omega⟩⟩⟩
  ·rw [List.find?_append]
   have hb:blB key u.least=false:=by
    cases hb:blB key u.least with
    | false=>rfl
    | true=>exact absurd (blB_t.1 hb) (sle.1 hle)
   rw [es]
   cases hf:P.find? fun t=>blB key t.least with
   | some t=>rfl
   | none=>simp [hb]
  ·rw [List.find?_append]
   have hb:blB key u.least=true:=by
    cases hb:blB key u.least with
    | true=>rfl
    | false=>exact absurd (sle.2 fun hbl=>by rw [blB_t.2 hbl] at hb; cases hb) hgt
   cases hf:P.find? fun t=>blB key t.least with
   | some t=>
    rw [hf] at es
    have ht:blB key t.least=true:=by have:=List.find?_some hf; simpa using this
    exact absurd (es.symm.trans hz) (nz t ht)
   | none=>simp [hb,Tab.cells]
  ·rw [List.find?_append,es]
   cases hf:P.find? fun t=>blB key t.least with
   | some t=>rfl
   | none=>rw [hf] at es; exact absurd es hz
 ·have hR:R=[]:=List.eq_nil_of_length_eq_zero (by omega)
  subst hR
  rw [List.append_nil] at e
  subst e
  refine ⟨fun hz=>?_,fun hz=>?_⟩
  ·rcases ts with _ | ⟨t,ts⟩
   ·exact absurd rfl hne
   refine tab_rd (P:=[]) (R:=ts) (t:=t) B (i:=0) rfl fun b o=>?_
   have:behindM (t::ts) key=t:=by
    unfold behindM
    cases hf:(t::ts).find? fun t=>blB key t.least with
    | some u=>
     rw [hf] at es
     have hu:blB key u.least=true:=by have:=List.find?_some hf; simpa using this
     exact absurd (es.symm.trans hz) (nz u hu)
    | none=>rfl
   rw [this] at hQ
   exact hQ
  ·cases hf:ts.find? fun t=>blB key t.least with
   | some u=>
    have:behindM ts key=u:=by unfold behindM; rw [hf]
    rw [this] at hQ
    rw [hf] at es
    rw [es]; exact hQ
   | none=>rw [hf] at es; exact absurd es hz
theorem pointer_s {ptrs:List ByteArray} {i:Nat} (B:h.row l.a l.n (ptrV ptrs)) (hQ:Q (.string (ptrs[i]?.getD ⟨#[]⟩)) h):F86.T l (i:Int) h Q:=by
 have hn:l.n=ptrs.length:=by have:=B.1; rw [ptrV_length] at this; omega
 refine ⟨fun hlt=>?_,fun hge=>?_⟩
 ·obtain ⟨b,o,ha,hat⟩:=row_get B (i:=i) (by omega)
  have hi:i < ptrs.length:=by omega
  refine ⟨b,o,ha,⟨by omega,hlt⟩,ptrs[i],?_,?_⟩
  ·rw [Int.toNat_natCast,hat i (by omega)]
   unfold ptrV
   rw [List.getElem?_map,List.getElem?_eq_getElem hi]; rfl
  ·rw [List.getElem?_eq_getElem hi] at hQ; exact hQ
 ·rw [List.getElem?_eq_none (by omega)] at hQ; exact hQ
theorem tb_at {ts:List Tab} {k:Nat} {t:Tab} (B:TB h l ts) (hk:ts[k]?=some t):∃ b o,(l.a:Option Addr)=some ⟨b,o,none⟩∧((0:Int)≤(k:Int)∧(k:Int) < (l.n:Int))∧h.at b ((o+((k:Int)).toNat*6)+4)=some (.string t.least):=by
 obtain ⟨P,R,rfl,rfl⟩:∃ P R,ts=P++t::R∧P.length=k:=by
  have hkl:=(List.getElem?_eq_some_iff.1 hk)
  refine ⟨ts.take k,ts.drop (k+1),?_,by rw [List.length_take]; have:=hkl.1; omega⟩
  have e:=List.take_append_drop k ts
  rw [List.drop_eq_getElem_cons hkl.1,hkl.2] at e
  exact e.symm
 obtain ⟨b,o,h1,h2,_,_,_,_,_,_,_,_,s,h3,_,_,rfl⟩:=tab_rd B.row (i:=(P.length:Int)) rfl (K:=fun b o a c d e s s1=>s=t.least) (fun _ _=>rfl)
 exact ⟨b,o,h1,h2,h3⟩
theorem inputs_s {ptrs:List ByteArray} {level:Int} (V:Ver g h vb ls xs) (P:PkOk xs) (O:CfOk n5 n7 n8 n9 n10 n12) (h8:n8=(xs.length:Int)) (B:h.row l.a l.n (ptrV ptrs)) (hlv:level < 9223372036854775808)
  (hN:inputsM n12 xs ptrs level=none→∀ h',Keep h h'→Q (.tuple ⟨[.agg ⟨[.int .i64 0,.slice none 0 0,.slice none 0 0,.string ⟨#[]⟩,.bool false]⟩,.bool false]⟩) h')
  (hS:∀ j,inputsM n12 xs ptrs level=some j→∀ h' l1 l2,Keep h h'→TB h' l1 j.up→NewN h l1→TB h' l2 j.lo→NewN h l2→Off l1 l2→Off l2 l1→Q (.tuple ⟨[.agg ⟨[.int .i64 j.lv,.slice l1.a l1.n l1.c,.slice l2.a l2.n l2.c,.string j.cut,.bool j.mv]⟩,.bool true]⟩) h'):F20.T n n1 n2 n3 n4 n5 n6 n7 n8 n9 n10 n11 n12 n13 n14 n15 n16 n17 n18 n19 n20 n21 n22 n23 n24 n25 n26 (some ⟨vb,0,none⟩) l level h Q:=by
 have hx:=P.len
 have hmx:iMax n12 0=n12:=by unfold iMax; rw [if_neg (by have:=O.fan; omega)]
 obtain ⟨fan,rfl⟩:=Int.eq_ofNat_of_zero_le (show 0≤n12 by have:=O.fan; omega)
 have hf1:1≤fan:=by have:=O.fan; omega
 unfold F20.T F20.G
 rw [hmx]
 refine ⟨fun hneg=>hN (by unfold inputsM; rw [if_pos (.inl hneg)]) h (Keep.refl _),fun hpos=>?_⟩
 refine last_s V (by omega) (by omega) h8 ⟨_,rfl,fun hle=>hN (by unfold inputsM; rw [if_pos (.inr hle)]) h (Keep.refl _),fun hlt=>?_⟩
 have c1:¬ (level < 0∨(xs.length:Int) - 1≤level):=fun h=>h.elim hpos hlt
 refine tables_s V P.sz fun h2 l1 K2 B2 N2=>⟨l1,rfl,?_⟩
 have hl1:=tb_new B2
 have htl:=P.tl level
 refine ⟨fun h0=>hN (by unfold inputsM; rw [if_neg c1,if_pos (List.eq_nil_of_length_eq_zero (by omega))]) h2 K2,fun h0=>?_⟩
 have c2:tabsI xs level≠[]:=fun e=>h0 (by rw [hl1,e]; rfl)
 refine ⟨fun hl0=>?_,fun hl0=>?_⟩
 ·subst hl0
  refine hull_s B2.row htl c2 ⟨_,_,rfl,?_⟩
  refine over_s (V.keep K2) P.sz (P.tl 1) fun h4 l2 K4 B4 N4=>⟨l2,rfl,?_⟩
  have hj:inputsM (fan:Int) xs ptrs 0=some ⟨0,tabsI xs 0,overM (hullM (tabsI xs 0)).1 (hullM (tabsI xs 0)).2 (tabsI xs 1),⟨#[]⟩,false⟩:=by
   unfold inputsM; rw [if_neg c1,if_neg c2,if_pos rfl]
  exact hS _ hj h4 l1 l2 (K2.trans K4) (Buf.keep K4 B2) N2 B4 (N4.mono K2.dom) (N4.off B2).1 (N4.off B2).2
 ·obtain ⟨i,rfl⟩:=Int.eq_ofNat_of_zero_le (show 0≤level by omega)
  refine pointer_s (K2.row B) ⟨_,rfl,?_⟩
  refine behind_s B2.row htl c2 ⟨_,_,_,_,_,_,rfl,fun b hb=>?_⟩
  generalize ht:behindM (tabsI xs (i:Int)) (ptrs[i]?.getD ⟨#[]⟩)=t
  have K3:=Keep.new hb (.cells ⟨t.cells⟩ 63 (0,0))
  have x3:=new_at h2 b (.cells ⟨t.cells⟩ 63 (0,0))
  have B3:TB (h2.new b (.cells ⟨t.cells⟩ 63 (0,0))) ⟨some ⟨b,0,none⟩,1,1⟩ [t]:=by
   unfold TB
   have e:tabV [t]=t.cells:=by unfold tabV; simp
   rw [e]
   refine ⟨rfl,Nat.le_refl _,.inr ⟨b,_,_,rfl,x3,Nat.le_refl 6,fun j hj=>by omega,?_⟩⟩
   exact List.take_length
  have N3:NewN h2 ⟨some ⟨b,0,none⟩,1,1⟩:=.inr ⟨b,rfl,hb⟩
  have hw1:IntKind.wrap .i64 ((i:Int)+1)=(i:Int)+1:=wrap_i64 (by omega) (by omega)
  show F84.T (some ⟨vb,0,none⟩) (IntKind.wrap .i64 ((i:Int)+1)) t.least t.greatest (h2.new b (.cells ⟨t.cells⟩ 63 (0,0))) _
  rw [hw1]
  generalize h2.new b (.cells ⟨t.cells⟩ 63 (0,0))=h3 at K3 B3 ⊢
  have K23:=K2.trans K3
  refine over_s (V.keep K23) P.sz (P.tl _) fun h7 l3 K7 B7 N7=>⟨l3,rfl,?_⟩
  have hl3:=tb_new B7
  generalize hlo:overM t.least t.greatest (tabsI xs ((i:Int)+1))=lo at B7 hl3
  have hcap:=B7.cap
  have N7':NewN h l3:=N7.mono K23.dom
  have B37:TB h7 ⟨some ⟨b,0,none⟩,1,1⟩ [t]:=Buf.keep K7 B3
  have N3':NewN h ⟨some ⟨b,0,none⟩,1,1⟩:=N3.mono K2.dom
  have K27:=K23.trans K7
  have hLB:lo.length≤60000:=by rw [← hlo]; exact Nat.le_trans (List.length_filter_le _ _) (P.tl _)
  have off3:=N7.off B3
  have hj:inputsM (fan:Int) xs ptrs (i:Int)=match lo[fan]? with
    | some c=>some ⟨(i:Int),[t],lo.take fan,c.least,decide (lo=[]∧(i:Int)+1≠(xs.length:Int) - 1)⟩
    | none=>some ⟨(i:Int),[t],lo,⟨#[]⟩,decide (lo=[]∧(i:Int)+1≠(xs.length:Int) - 1)⟩:=by
   subst hlo; subst ht
   unfold inputsM
   rw [if_neg c1,if_neg c2,if_neg hl0]
   rfl
  have fin:∀ mvb:Bool,decide (lo=[]∧(i:Int)+1≠(xs.length:Int) - 1)=mvb→par ((fan:Int) < (l3.n:Int)) (∃ b1 o,(l3.a:Option Addr)=some ⟨b1,o,none⟩∧((0:Int)≤(fan:Int)∧(fan:Int) < (l3.n:Int))∧∃ s5:ByteArray,h7.at b1 ((o+(fan:Int).toNat*6)+4)=some (.string s5)∧Sl.okCut l3 0 (fan:Int) (fan:Int)∧Q (.tuple ⟨[.agg ⟨[.int .i64 (i:Int),.slice (some ⟨b,0,none⟩) 1 1,.slice (Sl.cut l3 6 0 (fan:Int) (fan:Int)).a (Sl.cut l3 6 0 (fan:Int) (fan:Int)).n (Sl.cut l3 6 0 (fan:Int) (fan:Int)).c,.string s5,.bool mvb]⟩,.bool true]⟩) h7) (Q (.tuple ⟨[.agg ⟨[.int .i64 (i:Int),.slice (some ⟨b,0,none⟩) 1 1,.slice l3.a l3.n l3.c,.string ⟨#[]⟩,.bool mvb]⟩,.bool true]⟩) h7):=by
   intro mvb hmv
   rw [hmv] at hj
   refine ⟨fun hlt=>?_,fun hge=>?_⟩
   ·have hk:fan < lo.length:=by omega
    have hc:lo[fan]?=some lo[fan]:=List.getElem?_eq_getElem hk
    rw [hc] at hj
    obtain ⟨b1,o,g1,g2,g3⟩:=tb_at B7 hc
    have hcap:=B7.cap
    refine ⟨b1,o,g1,g2,_,g3,⟨by omega,by omega,by omega⟩,?_⟩
    rw [cut0]
    refine hS _ hj h7 ⟨some ⟨b,0,none⟩,1,1⟩ ⟨l3.a,fan,fan⟩ K27 B37 N3' ?_ N7' off3.1 off3.2
    have e:tabV lo=tabV (lo.take fan)++tabV (lo.drop fan):=by rw [← tabV_app,List.take_append_drop]
    unfold TB at B7
    rw [e] at B7
    exact buf_cap B7 (by rw [tabV_len,List.length_take,Nat.min_eq_left (Nat.le_of_lt hk)]) (by omega) (Nat.le_refl _) (by omega) (fun h0=>by rw [h0] at g1; cases g1)
   ·have hc:lo[fan]?=none:=List.getElem?_eq_none (by omega)
    rw [hc] at hj
    exact hS _ hj h7 ⟨some ⟨b,0,none⟩,1,1⟩ l3 K27 B37 N3' B7 N7' off3.1 off3.2
  refine ⟨fun h0=>?_,fun h0=>fin false ?_⟩
  ·have hlo0:lo=[]:=List.eq_nil_of_length_eq_zero (by omega)
   refine last_s (V.keep K27) (by omega) (by omega) h8 ⟨_,rfl,fun he=>fin false ?_,fun he=>fin true ?_⟩
   ·exact decide_eq_false fun hc=>hc.2 he
   ·exact decide_eq_true ⟨hlo0,he⟩
  ·exact decide_eq_false fun hc=>h0 (by rw [hl3,hc.1]; rfl)
end
end Go.Eng.YtbjnlacacapjiaaGreatDoor
end
