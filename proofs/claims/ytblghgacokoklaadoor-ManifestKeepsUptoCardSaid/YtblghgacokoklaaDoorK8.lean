
/-
  Proved: the law ManifestKeeps answers true, whatever the levels, the edits, the roots and the place, and what it was handed reads behind the call as it read before; the card ties what the package's table holds at the start to the program's text. Of the two forms the narrower one (arguments of bulk at most 1048576) is handed in; the proof does not use the bound.
-/
import Derived.Test.YtblghgacokoklaaDoorK7
import Derived.Test.YtblghgacokoklaaDoorK5
import Derived.Test.YtblghgacokoklaaDoorK4
import Derived.ChangeSlices
import Derived.Below
import Derived.Test.YtblghgacokoklaaDoorRows
import Derived.Test.YtblghgacokoklaaDoorCards
import Derived.Test.YtblghgacokoklaaDoorTie
import Derived.WalkKit
import Derived.ProofKit
import Derived.OpenShut
import Derived.ShutString
import Derived.ChangeOld
import Derived.SizedLaws
import Derived.LaidMore
import Derived.Stop.Joined
import Derived.SevenTiedAt
import Derived.Deep.DeepHandedRow
set_option linter.unusedSimpArgs false
set_option linter.unusedVariables false
set_option maxRecDepth 100000
open Go.IntKind (wrap)
open List (length_append length_map getElem?_eq_getElem getElem?_map length_singleton getElem?_append_left length_take length_nil mem_append mem_singleton)
section
namespace Go.Eng
def gOff(g h:Hp)(z:Lb)(i:Nat):Hp:=λb=>if z b=i then g b else h b
section
variable{g h h':Hp}{z:Lb}{i j:Nat}{m:Mem}
theorem gOff_k(K:Keep g (on h z i)):Keep (gOff g h z i) h:=λb x e=>by
 unfold gOff at e
 by_cases hz:z b=i
 ·rw[if_pos hz] at e;exact(on_s (K b x e)).2
 ·rw[if_neg hz] at e;exact e
theorem off_gOff:Keep (off h z i) (gOff g h z i):=λb x e=>by
 obtain⟨e1,e2⟩:=off_s e
 unfold gOff;rw[if_neg e1];exact e2
theorem g_gOff(K:Keep g (on h z i)):Keep g (gOff g h z i):=λb x e=>by
 unfold gOff;rw[if_pos (on_s (K b x e)).1];exact e
theorem Mine.innP(O:Mine g (on h z i) m):Mine (gOff g h z i) h m:=
 ⟨gOff_k O.keep,λk x e=>(O.buf k x e).keep on_k,λk x e=>by
  rcases (O.buf k x e).own with⟨ha,_⟩|⟨b,c,f,ha,hb,_⟩
  ·exact .inl ha
  ·refine .inr ⟨b,ha,?_⟩
   unfold gOff
   rw[if_pos (on_s hb).1]
   rcases O.new k x e with n|⟨b',e',n⟩
   ·rw[n] at ha;cases ha
   ·rw[ha] at e'
    simp only[Option.some.injEq,Addr.mk.injEq,and_true] at e'
    rw[e'];exact n,O.off⟩
theorem lab_gOff{b:Nat}(e:gOff g h z i b=none):lab h z i b=i:=by
 unfold gOff at e
 cases e2:h b with
 |none=>exact lab_n e2
 |some x=>
  rw[lab_s e2]
  apply Classical.byContradiction
  intro hn
  rw[if_neg hn,e2] at e;cases e
theorem Mine.outP(Kg:Keep g (on h z i))(O:Mine (gOff g h z i) h' m):Mine g (on h' (lab h z i) i) m:=by
 have gn:∀ b,gOff g h z i b=none->g b=none:=λb n=>(g_gOff Kg).dom b n
 refine⟨λb x e=>?_,λk x e=>?_,λk x e=>(O.new k x e).imp id λ⟨b,a,n⟩=>⟨b,a,gn b n⟩,O.off⟩
 ·obtain⟨e1,e2⟩:=on_s (Kg b x e)
  rw[on_i (by rw[lab_s e2];exact e1)]
  exact O.keep b x (g_gOff Kg b x e)
 ·rcases (O.buf k x e).own with⟨ha,hc⟩|⟨b,c,f,ha,hb,y⟩
  ·exact⟨(O.buf k x e).len,(O.buf k x e).cap,.inl ⟨ha,hc⟩⟩
  ·rcases O.new k x e with n|⟨b',e',n⟩
   ·rw[n] at ha;cases ha
   ·rw[ha] at e'
    simp only[Option.some.injEq,Addr.mk.injEq,and_true] at e'
    subst e'
    exact⟨(O.buf k x e).len,(O.buf k x e).cap,.inr ⟨b,c,f,ha,by rw[on_i (lab_gOff n)];exact hb,y⟩⟩
end
end Go.Eng
end
section
namespace Go.Eng.YtblghgacokoklaaDoor
def Mv1(g h g' h':Hp):Prop:=Keep g' h'/\∀ b x,g b=none->h b=some x->g' b=none/\h' b=some x
theorem Mv1.buf{g h g' h':Hp}(M:Mv1 g h g' h'){s:Sl}{sz t:Nat}{vs:List Value}(N:NewN g s)(B:Buf h s sz t vs):NewN g' s/\Buf h' s sz t vs:=by
 rcases B.own with⟨ha,hc⟩|⟨b,c,f,ha,hb,x⟩
 ·exact⟨.inl ha,B.len,B.cap,.inl ⟨ha,hc⟩⟩
 ·rcases N with n|⟨b',e,n⟩
  ·rw[ha] at n;cases n
  ·rw[ha] at e
   simp only[Option.some.injEq,Addr.mk.injEq,and_true] at e
   subst e
   obtain⟨n1,h1⟩:=M.2 b _ n hb
   exact⟨.inr ⟨b,ha,n1⟩,B.len,B.cap,.inr ⟨b,c,f,ha,h1,x⟩⟩
section
variable{g h g' h':Hp}{z:Lb}{i j:Nat}{sb vb pm cm:Nat}{ps ls:Sl}{xs:List (Sl×List Tab)}{ptrs:List ByteArray}{m:Mem}
theorem SetA.mv(M:Mv1 g h g' h')(hp:g pm=none)(S:SetA g h sb vb pm cm ps ls xs ptrs):SetA g' h' sb vb pm cm ps ls xs ptrs:=by
 have L:=S.V.L
 have v:=M.2 _ _ S.V.nv S.V.v
 have s:=M.2 _ _ S.ns S.s
 obtain⟨c,hc⟩:=S.m
 have mm:=M.2 _ _ hp hc
 obtain⟨es,c2,h2,h3⟩:=S.c
 have n:=M.2 _ _ S.nc h2
 have p:=M.buf S.np S.p
 exact⟨⟨⟨M.1,(M.buf L.nl L.l).1,(M.buf L.nl L.l).2,λx hx=>(M.buf (L.n x hx) (L.t x hx)).2,λx hx=>(M.buf (L.n x hx) (L.t x hx)).1,L.d⟩,v.1,v.2⟩,s.1,s.2,p.1,p.2,⟨c,mm.2⟩,n.1,⟨es,c2,n.2,h3⟩,S.ne⟩
def since(h h':Hp):Lb:=λb=>match h b with|some _=>0|none=>match h' b with|some _=>1|none=>0
theorem since_1{b:Nat}{x:Obj}(e:h b=none)(e':h' b=some x):since h h' b=1:=by unfold since;rw[e];dsimp only;rw[e']
theorem SetA.since(hp:h pm=none)(S:SetA h h' sb vb pm cm ps ls xs ptrs){h2:Hp}(K:Keep h' h2):SetA emp (on h2 (since h h') 1) sb vb pm cm ps ls xs ptrs:=
 S.mv ⟨λ_ _ e=>(by cases e),λb x n e=>⟨rfl,by rw[on_i (since_1 n e)];exact K b x e⟩⟩ hp
theorem since_on{h2:Hp}{b:Nat}{x:Obj}(e:h2 b=some x)(n:h b=some x\/h' b=none):on h2 (Go.Eng.YtblghgacokoklaaDoor.since h h') 0 b=some x:=by
 rw[on_i ?_];exact e
 unfold Go.Eng.YtblghgacokoklaaDoor.since
 rcases n with n|n
 ·rw[n]
 ·cases e2:h b with
  |some y=>rfl
  |none=>dsimp only;rw[n]
theorem SetA.inn(S:SetA emp (on h z i) sb vb pm cm ps ls xs ptrs):SetA (off h z i) h sb vb pm cm ps ls xs ptrs:=
 S.mv ⟨off_k,λb x _ e=>⟨off_i (on_s e).1,(on_s e).2⟩⟩ rfl
theorem SetA.zpm(S:SetA emp (on h z i) sb vb pm cm ps ls xs ptrs):z pm=i:=by
 obtain⟨c,hc⟩:=S.m
 exact(on_s hc).1
theorem SetA.outN(S:SetA (off h z i) h' sb vb pm cm ps ls xs ptrs)(hz:z pm=i):SetA emp (on h' (lab h z i) i) sb vb pm cm ps ls xs ptrs:=
 S.mv ⟨λ_ _ e=>(by cases e),λb x n e=>⟨rfl,by
  have:lab h z i b=i:=by
   cases e2:h b with
   |none=>exact lab_n e2
   |some w=>
    rw[lab_s e2]
    apply Classical.byContradiction
    intro hne
    rw[off_n hne,e2] at n;cases n
  rw[on_i this];exact e⟩⟩ (off_i hz)
def ext(g H H':Hp):Hp:=λb=>match H b with|none=>H' b|some _=>g b
theorem Mine.ext{H H':Hp}(O:Mine g H m)(K:Keep H H'):Mine (ext g H H') H' m/\Keep g (Go.Eng.YtblghgacokoklaaDoor.ext g H H'):=by
 have kg:Keep g (Go.Eng.YtblghgacokoklaaDoor.ext g H H'):=λb x e=>by
  unfold Go.Eng.YtblghgacokoklaaDoor.ext;rw[O.keep b x e];exact e
 refine⟨⟨λb x e=>?_,λk x e=>(O.buf k x e).keep K,λk x e=>?_,O.off⟩,kg⟩
 ·unfold Go.Eng.YtblghgacokoklaaDoor.ext at e
  cases e2:H b with
  |none=>rw[e2] at e;exact e
  |some y=>rw[e2] at e;exact K b x (O.keep b x e)
 ·rcases O.new k x e with n|⟨b,ha,n⟩
  ·exact .inl n
  ·refine .inr ⟨b,ha,?_⟩
   rcases (O.buf k x e).own with⟨ha',_⟩|⟨b',c,f,ha',hb,_⟩
   ·rw[ha] at ha';cases ha'
   ·rw[ha] at ha'
    simp only[Option.some.injEq,Addr.mk.injEq,and_true] at ha'
    subst ha'
    unfold Go.Eng.YtblghgacokoklaaDoor.ext
    rw[hb];exact n
theorem ext_buf{H H':Hp}{r:Sl}{sz t:Nat}{vs:List Value}(B:Buf H' r sz t vs)(N:NewN H r):Buf (ext g H H') r sz t vs:=by
 rcases B.own with⟨ha,hc⟩|⟨b,c,f,ha,hb,x⟩
 ·exact⟨B.len,B.cap,.inl ⟨ha,hc⟩⟩
 ·rcases N with n|⟨b',e,n⟩
  ·rw[ha] at n;cases n
  ·rw[ha] at e
   simp only[Option.some.injEq,Addr.mk.injEq,and_true] at e
   subst e
   exact⟨B.len,B.cap,.inr ⟨b,c,f,ha,by unfold ext;rw[n];exact hb,x⟩⟩
theorem on_grow(K:Keep h h'):Keep (on h z i) (on h' (lab h z i) i):=λb x e=>by
 obtain⟨e1,e2⟩:=on_s e
 rw[on_i (by rw[lab_s e2];exact e1)];exact K b x e2
theorem on_buf{r:Sl}{sz t:Nat}{vs:List Value}(B:Buf h' r sz t vs)(N:NewN h r):Buf (on h' (lab h z i) i) r sz t vs/\NewN (on h z i) r:=by
 rcases B.own with⟨ha,hc⟩|⟨b,c,f,ha,hb,x⟩
 ·exact⟨⟨B.len,B.cap,.inl ⟨ha,hc⟩⟩,.inl ha⟩
 ·rcases N with n|⟨b',e,n⟩
  ·rw[ha] at n;cases n
  ·rw[ha] at e
   simp only[Option.some.injEq,Addr.mk.injEq,and_true] at e
   subst e
   exact⟨⟨B.len,B.cap,.inr ⟨b,c,f,ha,by rw[on_i (lab_n n)];exact hb,x⟩⟩,.inr ⟨b,ha,by unfold on;split<;>first|exact n|rfl⟩⟩
structure KSt(g h:Hp)(z:Lb)(m:Mem)(sb vb pm cm:Nat)(ps ls:Sl)(xs:List (Sl×List Tab))(ptrs:List ByteArray):Prop where
 S:SetA emp (on h z 1) sb vb pm cm ps ls xs ptrs
 O:Mine g (on h z 0) m
theorem KSt.gk(X:KSt g h z m sb vb pm cm ps ls xs ptrs):Keep g h:=X.O.keep.trans on_k
theorem KSt.gx(X:KSt g h z m sb vb pm cm ps ls xs ptrs):Keep g (off h z 1):=λb x e=>by
 obtain⟨e1,e2⟩:=on_s (X.O.keep b x e)
 rw[off_n (by rw[e1];decide)];exact e2
theorem KSt.call(X:KSt g h z m sb vb pm cm ps ls xs ptrs)(K:Keep h h'):∃ g',Keep g g'/\KSt g' h' (lab h z 0) m sb vb pm cm ps ls xs ptrs/\∀ r sz t vs,Buf h' r sz t vs->NewN h r->Buf g' r sz t vs:=by
 obtain⟨O1,K1⟩:=Mine.ext X.O (on_grow K)
 refine⟨_,K1,⟨?_,O1⟩,λr sz t vs B N=>?_⟩
 ·rw[on_lab (off_k.trans K) (by decide)];exact X.S
 ·obtain⟨B1,N1⟩:=on_buf (z:=z) (i:=0) B N
  exact ext_buf B1 N1
theorem KSt.add{k:Key}{s:Sl}{sz t:Nat}{vs:List Value}(X:KSt g h z m sb vb pm cm ps ls xs ptrs)(hk:m k=none)(K:Keep h h')(N:NewN h s)(B:Buf h' s sz t vs):KSt g h' (lab h z 0) (m.put k ⟨s,sz,t,vs⟩) sb vb pm cm ps ls xs ptrs:=by
 obtain⟨B1,N1⟩:=on_buf (z:=z) (i:=0) B N
 refine⟨?_,X.O.add hk (on_grow K) N1 B1⟩
 rw[on_lab (off_k.trans K) (by decide)];exact X.S
theorem KSt.write{k:Key}{x:Bf}{s':Sl}{sz t:Nat}{vs:List Value}(X:KSt g h z m sb vb pm cm ps ls xs ptrs)(hk:m k=some x)(U:Upd h h' x.s s')(B:Buf h' s' sz t vs):KSt g h' (lab h z 0) (m.put k ⟨s',sz,t,vs⟩) sb vb pm cm ps ls xs ptrs:=by
 have O1:=(X.O.innP).write hk U B
 refine⟨?_,Mine.outP X.O.keep O1⟩
 rw[on_lab (off_gOff.trans O1.keep) (by decide)];exact X.S
theorem KSt.set{vb':Nat}{ls':Sl}{xs':List (Sl×List Tab)}{ptrs':List ByteArray}(X:KSt g h z m sb vb pm cm ps ls xs ptrs)(S:SetA (off h z 1) h' sb vb' pm cm ps ls' xs' ptrs'):KSt g h' (lab h z 1) m sb vb' pm cm ps ls' xs' ptrs':=
 ⟨S.outN X.S.zpm,by rw[on_lab S.V.L.k (by decide)];exact X.O⟩
end
end Go.Eng.YtblghgacokoklaaDoor
end
section
namespace Go.Eng.YtblghgacokoklaaDoor
theorem pieceB_ok{k:Int}(hk:0<=k/\k<256){p:List Int}(hp:okB8 p):okB8 (pieceB k p):=okB8_app (fourB_ok _) (bodyB_ok hk hp)
theorem piecesB_ok:∀ (f p:Nat) (b:Bool) (r:List Int),okB8 r->okB8 (piecesB f p b r)
 |0,_,_,_,_=>λc hc=>by cases hc
 |f+1,p,b,r,h=>by
  unfold piecesB
  split
  ·exact pieceB_ok (by cases b<;>decide) h
  ·exact okB8_app (pieceB_ok (by cases b<;>decide) λc hc=>h c (List.mem_of_mem_take hc)) (piecesB_ok f 0 false _ λc hc=>h c (List.mem_of_mem_drop hc))
theorem appB_ok(a:Nat){r:List Int}(h:okB8 r):okB8 (appB a r):=by
 unfold appB
 split
 ·refine okB8_app (λc hc=>?_) (piecesB_ok _ _ _ _ h)
  rw[List.eq_of_mem_replicate hc];decide
 ·exact piecesB_ok _ _ _ _ h
theorem layL_ok:∀ (rs:List (List Int)) (a:Nat),(∀ r∈rs,okB8 r)->okB8 (layL a rs)
 |[],_,_=>λc hc=>by cases hc
 |r::rs,a,h=>by
  rw[layL]
  exact okB8_app (appB_ok a (h r List.mem_cons_self)) (layL_ok rs _ λx hx=>h x (List.mem_cons_of_mem _ hx))
section
variable{k:Nat}{Es:List Edit}{lvs:List Lv}
theorem bytesE_ok(hE:∀ e∈Es,Good e/\e.size<=10000):okB8 (bytesE Es):=layL_ok _ 0 λr hr=>(puts_mem hE hr).2
theorem bytesE_len(hE:∀ e∈Es,Good e/\e.size<=10000):(bytesE Es).length<=160000000*Es.length:=by
 have h1:=puts_len Es hE
 have h2:=bytes_len (a:=0) (Es.flatMap putS) [] λr hr=>by have:=(puts_mem hE hr).1;omega
 rw[bytesF_lay,List.nil_append,length_nil,Nat.add_zero] at h2
 unfold bytesE
 omega
theorem edEnd_all:edEnd Es Es.length=(bytesE Es).length:=by rw[edEnd_take Es (Nat.le_refl _),List.take_length]
theorem edEnd_pos(hE:∀ e∈Es,Good e/\e.size<=10000){i:Nat}(hi:i<Es.length):1<=edEnd Es (i+1):=by
 have h1:=at_succ hi
 have h2:=put_len (hE _ (List.getElem_mem hi)).1
 have h3:=at_mono Es (show i+1<=Es.length from hi)
 have h4:at' Es Es.length=(Es.flatMap putS).length:=by unfold at';rw[List.take_length]
 have:=endAt_ge (Es.flatMap putS) 0 (at' Es (i+1)) (by omega)
 unfold edEnd
 omega
def bndV(Es:List Edit):List Value:=(List.range Es.length).map λi=>.int .i64 (edEnd Es (i+1):Int)
theorem bndV_len:(bndV Es).length=Es.length:=by simp[bndV]
theorem bndV_get{i:Nat}(h:i<Es.length):(bndV Es)[i]?=some (.int .i64 (edEnd Es (i+1):Int)):=by
 unfold bndV
 rw[getElem?_map,List.getElem?_range h]
 rfl
theorem bndV_snoc(e:Edit):bndV (Es++[e])=bndV Es++[.int .i64 ((bytesE (Es++[e])).length:Int)]:=by
 unfold bndV
 rw[length_append,length_singleton,List.range_succ,List.map_append,List.map_singleton]
 congr 1
 ·refine List.map_congr_left λi hi=>?_
  rw[List.mem_range] at hi
  rw[edEnd_take _ (by rw[length_append];omega),edEnd_take _ (by omega),List.take_append_of_le_length (by omega)]
 ·rw[edEnd_take _ (by rw[length_append,length_singleton];omega),List.take_of_length_le (by rw[length_append,length_singleton];omega)]
def rtC(e:Edit):List Value:=[.int .u64 e.log,.int .u64 e.next,.int .u64 e.seq,.int .u64 0]
def rtV(Es:List Edit):List Value:=Es.flatMap rtC
theorem rtV_len:(rtV Es).length=Es.length*4:=flat_length rtC 4 (λ_=>rfl) Es
theorem rtV_snoc(e:Edit):rtV (Es++[e])=rtV Es++rtC e:=by unfold rtV;simp
structure Chn(k:Nat)(Es:List Edit)(lvs:List Lv):Prop where
 n:lvs.length=Es.length
 good:∀ e∈Es,Good e/\e.size<=10000
 lv:∀ lv∈lvs,lv.length=k/\Hulls lv/\totL lv<=1000000
 first:∀ e lv,Es[0]?=some e->lvs[0]?=some lv->∀ d lw,Res (List.replicate k []) e d lw->d=0/\lw=lv
 next:∀ (i:Nat) e lv lw,Es[i+1]?=some e->lvs[i]?=some lv->lvs[i+1]?=some lw->Res lv e 0 lw
theorem Chn.one{e:Edit}{lv:Lv}(G:Good e)(hs:e.size<=10000)(hk:lv.length=k)(hu:Hulls lv)(ht:totL lv<=1000000)(hr:∀ d lw,Res (List.replicate k []) e d lw->d=0/\lw=lv):Chn k [e] [lv]:=by
 refine⟨rfl,λx hx=>?_,λx hx=>?_,λe' lv' h1 h2=>?_,λi e' lv' lw h1 _ _=>by simp at h1⟩
 ·rw[mem_singleton] at hx;subst hx;exact⟨G,hs⟩
 ·rw[mem_singleton] at hx;subst hx;exact⟨hk,hu,ht⟩
 ·cases h1;cases h2;exact hr
theorem Chn.snoc{e:Edit}{lv lw:Lv}(C:Chn k Es lvs)(G:Good e)(hs:e.size<=10000)(hl:lvs.getLast?=some lv)(R:Res lv e 0 lw)(hk:lw.length=k)(hu:Hulls lw)(ht:totL lw<=1000000):Chn k (Es++[e]) (lvs++[lw]):=by
 have hn:=C.n
 have hne:lvs≠[]:=λe0=>by rw[e0] at hl;cases hl
 have hp:0<lvs.length:=List.length_pos_iff.2 hne
 refine⟨by rw[length_append,length_append,hn];rfl,λx hx=>?_,λx hx=>?_,λe' lv' h1 h2=>?_,λi e' lv' lw' h1 h2 h3=>?_⟩
 ·rcases mem_append.1 hx with hx|hx
  ·exact C.good x hx
  ·rw[mem_singleton] at hx;subst hx;exact⟨G,hs⟩
 ·rcases mem_append.1 hx with hx|hx
  ·exact C.lv x hx
  ·rw[mem_singleton] at hx;subst hx;exact⟨hk,hu,ht⟩
 ·rw[getElem?_append_left (by omega)] at h1 h2
  exact C.first e' lv' h1 h2
 ·rcases Nat.lt_or_ge (i+1) Es.length with h|h
  ·rw[getElem?_append_left h] at h1
   rw[getElem?_append_left (by omega)] at h2 h3
   exact C.next i e' lv' lw' h1 h2 h3
  ·have hi:i+1=Es.length:=by
    have:=(List.getElem?_eq_some_iff.1 h1).1
    rw[length_append,length_singleton] at this;omega
   rw[List.getElem?_append_right (by omega),hi,Nat.sub_self] at h1
   rw[getElem?_append_left (by omega)] at h2
   rw[List.getElem?_append_right (by omega),show i+1-lvs.length=0 by omega] at h3
   cases h1;cases h3
   rw[List.getLast?_eq_getElem?,show lvs.length-1=i by omega,h2] at hl
   cases hl
   exact R
def stAt(k:Nat)(lvs:List Lv):Nat->Lv
 |0=>List.replicate k []
 |i+1=>lvs.getD i []
theorem stAt_get{i:Nat}{lv:Lv}(h:lvs[i]?=some lv):stAt k lvs (i+1)=lv:=by
 show lvs.getD i []=lv
 rw[List.getD_eq_getElem?_getD,h];rfl
theorem Chn.step(C:Chn k Es lvs){i:Nat}(hi:i<Es.length)(d:Int)(lw:Lv)(R:Res (stAt k lvs i) Es[i] d lw):d=0/\lw=stAt k lvs (i+1):=by
 have hn:=C.n
 have e1:Es[i]?=some Es[i]:=getElem?_eq_getElem hi
 have e2:lvs[i]?=some lvs[i]:=getElem?_eq_getElem (by omega)
 rw[stAt_get e2]
 cases i with
 |zero=>exact C.first _ _ e1 e2 d lw R
 |succ i=>
  have e3:lvs[i]?=some lvs[i]:=getElem?_eq_getElem (by omega)
  rw[stAt_get e3] at R
  have R0:=C.next i _ _ _ e1 e3 e2
  obtain⟨q1,q2⟩:=R0.one (C.lv _ (List.mem_of_getElem? e3)).2.1 R
  subst q1
  exact⟨rfl,(q2 rfl).symm⟩
theorem Chn.tot(C:Chn k Es lvs){i:Nat}(hi:i<Es.length):totL (stAt k lvs i)+Es[i].inn.length<=4000000:=by
 have hn:=C.n
 have h1:=(C.good _ (List.getElem_mem hi)).2
 have h2:Es[i].out.length+Es[i].inn.length<=10000:=h1
 cases i with
 |zero=>
  have:totL (stAt k lvs 0)=0:=by
   show totL (List.replicate k [])=0
   unfold totL;simp
  omega
 |succ i=>
  have e3:lvs[i]?=some lvs[i]:=getElem?_eq_getElem (by omega)
  rw[stAt_get e3]
  have:=(C.lv _ (List.mem_of_getElem? e3)).2.2
  omega
def okTab(t:Tab):Prop:=okU t.num/\0<=t.weight/\t.weight<=9223372036854775807/\0<=t.bytes/\t.bytes<=9223372036854775807/\0<=t.entries/\t.entries<=9223372036854775807/\t.least.size<=64/\t.greatest.size<=64
theorem wholeM_mem:∀ (i:Nat) (lv:Lv) (p:Placed),p∈wholeM i lv->∃ j t,j<lv.length/\(∃ l∈lv,t∈l)/\p=plc ((i+j:Nat):Int) t
 |_,[],p,h=>by simp[wholeM] at h
 |i,l::lv,p,h=>by
  rw[wholeM] at h
  rcases mem_append.1 h with h|h
  ·obtain⟨t,ht,rfl⟩:=List.mem_map.1 h
   exact⟨0,t,by simp,⟨l,List.mem_cons_self,ht⟩,rfl⟩
  ·obtain⟨j,t,hj,⟨l',hl',ht⟩,rfl⟩:=wholeM_mem (i+1) lv p h
   exact⟨j+1,t,by simpa using hj,⟨l',List.mem_cons_of_mem _ hl',ht⟩,by rw[show i+1+j=i+(j+1) by omega]⟩
theorem whole_good{lv:Lv}{a b c:Int}{ptrs:List ByteArray}(ha:okU a)(hb:okU b)(hc:okU c)(h5:lv.length<=5)(hp:∀ l∈lv,∀ t∈l,okTab t)(hq:∀ p∈ptrs,p.size<=64)(hn:ptrs.length<=5):Good ⟨a,b,c,[],wholeM 0 lv,ptrs⟩:=by
 refine⟨ha,hb,hc,λp h=>(by cases h),λp h=>?_,hq,hn⟩
 obtain⟨j,t,hj,⟨l,hl,ht⟩,rfl⟩:=wholeM_mem 0 lv p h
 obtain⟨o1,o2,o3,o4,o5,o6,o7,o8,o9⟩:=hp l hl t ht
 exact⟨by show(0:Int)<=((0+j:Nat):Int);omega,by show((0+j:Nat):Int)<=4;omega,o1,o2,o3,o4,o5,o6,o7,o8,o9⟩
theorem DGood.tab{p:Placed}(D:DGood p):okTab p.tab:=⟨D.num,D.w0,D.w1,D.b0,D.b1,D.e0,D.e1,D.least,D.greatest⟩
end
end Go.Eng.YtblghgacokoklaaDoor
end
section
namespace Go.Eng.YtblghgacokoklaaDoor
theorem bytes_one{h:Hp}{b a:Nat}{e:Edit}{l l1 l2:Sl}{Q:Value->Hp->Prop}(T:TabC h)(B:Buf h ⟨some ⟨b,0,none⟩,1,1⟩ 6 65 (edV [⟨e,l,l1,l2⟩]))(E:EdAt h e l l1 l2)(c1:l.n<=l.c)(c2:l1.n<=l1.c)(G:Good e)(hs:e.size<=20000)(ha:a<=2000000000000)
  (hQ:∀ (l':Sl) h',Buf h' l' 1 5 (bv (layL a (putS e)))->Keep h h'->NewN h l'->Q (.slice l'.a l'.n l'.c) h'):F23.T (a:Int) ⟨some ⟨b,0,none⟩,1,1⟩ h Q:=by
 have hs':e.out.length+e.inn.length<=20000:=hs
 have hp:=G.nptr
 refine bytes_spec (L:=[⟨e,l,l1,l2⟩]) T ⟨B.row,λx hx=>?_,λx hx=>?_,λx hx=>?_,?_⟩ (by omega) λl' h' B' K' N'=>hQ l' h' ?_ K' N'
 ·rw[mem_singleton] at hx;subst hx;exact E
 ·rw[mem_singleton] at hx;subst hx;exact⟨c1,c2⟩
 ·rw[mem_singleton] at hx;subst hx;exact G.valid
 ·rw[parts_cons];show 1+e.out.length+e.inn.length+e.ptr.length+0<=100000;omega
 ·rw[Int.toNat_natCast,bytesF_lay,List.nil_append,length_nil,Nat.add_zero,List.flatMap_cons,List.flatMap_nil,List.append_nil] at B'
  exact B'
def TabsF(g:Hp)(s:Sl)(lv:Lv):Prop:=∃ ss:List Sl,g.row s.a s.n (slV ss)/\ss.length=lv.length/\∀ (j:Nat) x y,ss[j]?=some x->lv[j]?=some y->g.row x.a (x.n*6) (tabV y)
theorem TabsF.keep{g g':Hp}{s:Sl}{lv:Lv}(K:Keep g g')(T:TabsF g s lv):TabsF g' s lv:=by
 obtain⟨ss,a,b,c⟩:=T
 exact⟨ss,K.row a,b,λj x y e1 e2=>K.row (c j x y e1 e2)⟩
structure Lay(gb g h:Hp)(z:Lb)(m:Mem)(sb vb pm cm:Nat)(ps ls:Sl)(xs:List (Sl×List Tab))(ptrs:List ByteArray)(k:Nat)(Es:List Edit)(lvs:List Lv)(l l1 l2 l3 l4:Sl):Prop where
 X:KSt g h z m sb vb pm cm ps ls xs ptrs
 K:Keep gb g
 m0:m (0,0,0)=some ⟨l,1,5,bv (bytesE Es)⟩
 m1:m (0,0,1)=some ⟨l1,1,3,bndV Es⟩
 m2:∃ ws:List Sl,m (0,0,2)=some ⟨l2,1,38,slV ws⟩/\ws.length=Es.length/\∀ (i:Nat) s lv,ws[i]?=some s->lvs[i]?=some lv->TabsF g s lv
 m3:∃ qs:List Sl,m (0,0,3)=some ⟨l3,1,63,slV qs⟩/\qs.length=Es.length/\∀ (i:Nat) s e,qs[i]?=some s->Es[i]?=some e->g.row s.a s.n (ptrV e.ptr)
 m4:m (0,0,4)=some ⟨l4,4,72,rtV Es⟩
 C:Chn k Es lvs
 last:lvs.getLast?=some (xs.map (·.2))
 kk:ptrs.length=k/\xs.length=k/\1<=k/\k<=5
theorem snoc_each{α β:Type}{A:List α}{B:List β}{a:α}{b:β}{P:α->β->Prop}(hl:A.length=B.length)(h:∀ (i:Nat) x y,A[i]?=some x->B[i]?=some y->P x y)(hab:P a b):∀ (i:Nat) x y,(A++[a])[i]?=some x->(B++[b])[i]?=some y->P x y:=by
 intro i x y e1 e2
 rcases Nat.lt_or_ge i A.length with hi|hi
 ·rw[getElem?_append_left hi] at e1
  rw[getElem?_append_left (by omega)] at e2
  exact h i x y e1 e2
 ·have hi2:i=A.length:=by
   have:=(List.getElem?_eq_some_iff.1 e1).1
   rw[length_append,length_singleton] at this;omega
  subst hi2
  rw[List.getElem?_append_right (Nat.le_refl _),Nat.sub_self] at e1
  rw[List.getElem?_append_right (by omega),show A.length-B.length=0 by omega] at e2
  cases e1;cases e2;exact hab
section
variable{gb g h h1:Hp}{z z1:Lb}{m:Mem}{sb vb vb1 pm cm k i:Nat}{ps ls ls1:Sl}{xs xs1:List (Sl×List Tab)}{ptrs ptrs1:List ByteArray}{Es:List Edit}{lvs:List Lv}{l l1 l2 l3 l4 le la lb lc:Sl}{L:List EdS}{e:Edit}
theorem TabsN.f{h':Hp}{r:Sl}{lv:Lv}(T:TabsN h h' r lv)(F:∀ r sz t vs,Buf h' r sz t vs->NewN h r->Buf g r sz t vs):TabsF g r lv:=by
 obtain⟨n,ss,a,b,c⟩:=T
 refine⟨ss,row_one (F _ _ _ _ b n),a,λj x y e1 e2=>?_⟩
 obtain⟨c1,c2⟩:=c j x y e1 e2
 exact(F _ _ _ _ c1 c2).row
theorem lay_more{KK:Sl->Sl->Sl->Sl->Sl->Hp->Prop}(Y:Lay gb g h z m sb vb pm cm ps ls xs ptrs k Es lvs l l1 l2 l3 l4)(X1:KSt g h1 z1 m sb vb1 pm cm ps ls1 xs1 e.ptr)(T:TabC gb)(hr:gb.row le.a (le.n*6) (edV L))(hi:i<L.length)(he:L[i].e=e)(E:EdAt gb e L[i].a L[i].b L[i].c)(c1:L[i].a.n<=L[i].a.c)(c2:L[i].b.n<=L[i].b.c)
  (G:Good e) (hs:e.size<=10000) (hle:Es.length<=100) (R:Res (xs.map (·.2)) e 0 (xs1.map (·.2))) (ht:totL (xs1.map (·.2))<=1000000)
  (hK:∀ g' h' z' m' l l1 l2 l3 l4,Lay gb g' h' z' m' sb vb1 pm cm ps ls1 xs1 e.ptr k (Es++[e]) (lvs++[xs1.map (·.2)]) l l1 l2 l3 l4->KK l l1 l2 l3 l4 h') :
  nw h1 (.cells ⟨[.int .u64 L[i].e.log,.int .u64 L[i].e.next,.int .u64 L[i].e.seq,.slice L[i].a.a L[i].a.n L[i].a.c,.slice L[i].b.a L[i].b.n L[i].b.c,.slice L[i].c.a L[i].c.n L[i].c.c]⟩ 65 (0,0)) λb14 h34=>F23.T (l.n:Int) ⟨(some ⟨b14,0,none⟩),1,1⟩ h34 λr22 h35=>retS r22 λl35=>∃ vs,h35.row l35.a (l35.n*1) vs/\(∀ v∈vs,Value.oneCell' v=true)/\appendD l 5 1 1 [.int .u8 0] l35.n vs h35 λl36 h36=>appendD l1 3 1 8 [.int .i64 0] 1 [.int .i64 (l36.n:Int)] h36 λl37 h37=>F33.T (some ⟨sb,0,none⟩) h37 λr23 h38=>retS r23 λl38=>appendD l2 38 1 24 [.slice none 0 0] 1 [.slice l38.a l38.n l38.c] h38 λl39 h39=>F34.T (some ⟨sb,0,none⟩) h39 λr24 h40=>retS r24 λl40=>appendD l3 63 1 24 [.slice none 0 0] 1 [.slice l40.a l40.n l40.c] h40 λl41 h41=>ix le.a (i:Int) le.n λb15 o9=>ldI .u64 h41 b15 (o9+(i:Int).toNat*6) λn43=>ix le.a (i:Int) le.n λb16 o10=>ldI .u64 h41 b16 ((o10+(i:Int).toNat*6)+1) λn44=>ix le.a (i:Int) le.n λb17 o11=>ldI .u64 h41 b17 ((o11+(i:Int).toNat*6)+2) λn45=>appendD l4 72 4 32 [.int .u64 0,.int .u64 0,.int .u64 0,.int .u64 0] 1 [.int .u64 n43,.int .u64 n44,.int .u64 n45,.int .u64 0] h41 λl42 h42=>KK l36 l37 l39 l41 l42 h42:=by
 subst he
 intro b14 hb14
 have Kn:=Keep.new hb14 (.cells ⟨[.int .u64 L[i].e.log,.int .u64 L[i].e.next,.int .u64 L[i].e.seq,.slice L[i].a.a L[i].a.n L[i].a.c,.slice L[i].b.a L[i].b.n L[i].b.c,.slice L[i].c.a L[i].c.n L[i].c.c]⟩ 65 (0,0))
 have Bx:Buf (h1.new b14 (.cells ⟨[.int .u64 L[i].e.log,.int .u64 L[i].e.next,.int .u64 L[i].e.seq,.slice L[i].a.a L[i].a.n L[i].a.c,.slice L[i].b.a L[i].b.n L[i].b.c,.slice L[i].c.a L[i].c.n L[i].c.c]⟩ 65 (0,0))) ⟨some ⟨b14,0,none⟩,1,1⟩ 6 65 (edV [⟨L[i].e,L[i].a,L[i].b,L[i].c⟩]):=buf_new _ rfl
 generalize h1.new b14 (.cells ⟨[.int .u64 L[i].e.log,.int .u64 L[i].e.next,.int .u64 L[i].e.seq,.slice L[i].a.a L[i].a.n L[i].a.c,.slice L[i].b.a L[i].b.n L[i].b.c,.slice L[i].c.a L[i].c.n L[i].c.c]⟩ 65 (0,0))=h34 at Kn Bx ⊢
 have K34:Keep gb h34:=(Y.K.trans X1.gk).trans Kn
 have ok:=bytesE_len Y.C.good
 have hl:l.n=(bytesE Es).length:=by have:=(Y.X.O.buf _ _ Y.m0).len;rw[bv_length] at this;dsimp only at this;omega
 obtain⟨k1,k2,k3,k4⟩:=Y.kk
 have hEl:Es.length=lvs.length:=Y.C.n.symm
 have hpl:=R.lens
 have hx1:xs1.length=k:=by have:=hpl.2;rw[length_map,length_map] at this;omega
 have hpp:L[i].e.ptr.length=k:=by have:=hpl.1;rw[length_map] at this;omega
 rw[hl]
 refine bytes_one (T.keep K34) Bx (E.keep K34) c1 c2 G (by omega) (by omega) λl35 h35 B35 K35 N35=>⟨l35,rfl,_,by rw[Nat.mul_one];exact buf_bytes B35,bv_one _,?_⟩
 have hl35:l35.n=(layL (bytesE Es).length (putS L[i].e)).length:=by have:=B35.len;rw[bv_length] at this;omega
 have ok2:=bytesE_len (Es:=Es++[L[i].e]) λx hx=>by
  rcases mem_append.1 hx with hx|hx
  ·exact Y.C.good x hx
  ·rw[mem_singleton] at hx;subst hx;exact⟨G,hs⟩
 have e2:=bytesE_snoc Es L[i].e
 have e2l:=congrArg List.length e2
 rw[length_append] at e2l
 rw[length_append,length_singleton] at ok2
 obtain⟨g2,Kg2,X2,_⟩:=X1.call (Kn.trans K35)
 refine append_buf ((X2.O.buf _ _ Y.m0).keep on_k) rfl (by rw[bv_length];omega) (by(try dsimp only);omega) λl36 h36 B36 hn36 U36=>?_
 dsimp only at B36 hn36 U36
 rw[<- bv_append,<- e2] at B36
 have hl36:l36.n=(bytesE (Es++[L[i].e])).length:=by have:=B36.len;rw[bv_length] at this;omega
 have X3:=X2.write Y.m0 U36 B36
 have q1:(m.put (0,0,0) ⟨l36,1,5,bv (bytesE (Es++[L[i].e]))⟩) (0,0,1)=some ⟨l1,1,3,bndV Es⟩:=by rw[put_ne _ _ (by decide)];exact Y.m1
 have hl1:l1.n=Es.length:=by have:=(Y.X.O.buf _ _ Y.m1).len;dsimp only at this;rw[bndV_len] at this;omega
 refine append_buf ((X3.O.buf _ _ q1).keep on_k) rfl rfl (by(try dsimp only);omega) λl37 h37 B37 hn37 U37=>?_
 dsimp only at B37 U37
 rw[hl36,<- bndV_snoc] at B37
 have X4:=X3.write q1 U37 B37
 refine tables_all X4.S.inn (by omega) (by omega) λh38 l38 K38 T38=>⟨l38,rfl,?_⟩
 obtain⟨g5,Kg5,X5,F5⟩:=X4.call K38
 have W5:=T38.f F5
 obtain⟨ws,m2,hws,hw⟩:=Y.m2
 have q2:((m.put (0,0,0) ⟨l36,1,5,bv (bytesE (Es++[L[i].e]))⟩).put (0,0,1) ⟨l37,1,3,bndV (Es++[L[i].e])⟩) (0,0,2)=some ⟨l2,1,38,slV ws⟩:=by rw[put_ne _ _ (by decide),put_ne _ _ (by decide)];exact m2
 have hl2:l2.n=Es.length:=by have:=(Y.X.O.buf _ _ m2).len;dsimp only at this;rw[slV_length] at this;omega
 refine append_buf ((X5.O.buf _ _ q2).keep on_k) rfl rfl (by(try dsimp only);omega) λl39 h39 B39 hn39 U39=>?_
 dsimp only at B39 U39
 have B39':Buf h39 l39 1 38 (slV (ws++[l38])):=by rw[slV_append];exact B39
 have X6:=X5.write q2 U39 B39'
 refine pointers_spec X6.S.inn (by omega) λh40 l40 K40 B40 N40=>⟨l40,rfl,?_⟩
 obtain⟨g7,Kg7,X7,F7⟩:=X6.call K40
 have P7:=row_one (F7 _ _ _ _ B40 N40)
 obtain⟨qs,m3,hqs,hq⟩:=Y.m3
 have q3:(((m.put (0,0,0) ⟨l36,1,5,bv (bytesE (Es++[L[i].e]))⟩).put (0,0,1) ⟨l37,1,3,bndV (Es++[L[i].e])⟩).put (0,0,2) ⟨l39,1,38,slV (ws++[l38])⟩) (0,0,3)=some ⟨l3,1,63,slV qs⟩:=by rw[put_ne _ _ (by decide),put_ne _ _ (by decide),put_ne _ _ (by decide)];exact m3
 have hl3:l3.n=Es.length:=by have:=(Y.X.O.buf _ _ m3).len;dsimp only at this;rw[slV_length] at this;omega
 refine append_buf ((X7.O.buf _ _ q3).keep on_k) rfl rfl (by(try dsimp only);omega) λl41 h41 B41 hn41 U41=>?_
 dsimp only at B41 U41
 have B41':Buf h41 l41 1 63 (slV (qs++[l40])):=by rw[slV_append];exact B41
 have X8:=X7.write q3 U41 B41'
 have Kb7:Keep gb g7:=((Y.K.trans Kg2).trans Kg5).trans Kg7
 obtain⟨b,o,hb,hin,d0,d1,d2,_⟩:=ed_cells ((Kb7.trans X8.gk).row hr) hi
 refine⟨b,o,hb,hin,_,d0,b,o,hb,hin,_,d1,b,o,hb,hin,_,d2,?_⟩
 have q4:((((m.put (0,0,0) ⟨l36,1,5,bv (bytesE (Es++[L[i].e]))⟩).put (0,0,1) ⟨l37,1,3,bndV (Es++[L[i].e])⟩).put (0,0,2) ⟨l39,1,38,slV (ws++[l38])⟩).put (0,0,3) ⟨l41,1,63,slV (qs++[l40])⟩) (0,0,4)=some ⟨l4,4,72,rtV Es⟩:=by rw[put_ne _ _ (by decide),put_ne _ _ (by decide),put_ne _ _ (by decide),put_ne _ _ (by decide)];exact Y.m4
 have hl4:l4.n=Es.length:=by have:=(Y.X.O.buf _ _ Y.m4).len;dsimp only at this;rw[rtV_len] at this;omega
 refine append_buf ((X8.O.buf _ _ q4).keep on_k) rfl rfl (by(try dsimp only);omega) λl42 h42 B42 hn42 U42=>?_
 dsimp only at B42 U42
 have B42':Buf h42 l42 4 72 (rtV (Es++[L[i].e])):=by rw[rtV_snoc];exact B42
 have X9:=X8.write q4 U42 B42'
 refine hK g7 h42 _ _ _ _ _ _ _ ⟨X9,Kb7,?_,?_,⟨ws++[l38],?_,by simp[hws],snoc_each (by rw[hws,hEl]) (λi s lv e1 e2=>(hw i s lv e1 e2).keep ((Kg2.trans Kg5).trans Kg7)) (W5.keep Kg7)⟩,⟨qs++[l40],?_,by simp[hqs],snoc_each hqs (λi s lv e1 e2=>((Kg2.trans Kg5).trans Kg7).row (hq i s lv e1 e2)) P7⟩,put_self _ _ _,Y.C.snoc G hs Y.last R (by rw[length_map];exact hx1) ?_ ht,by simp,hpp,hx1,k3,k4⟩
 ·rw[put_ne _ _ (by decide),put_ne _ _ (by decide),put_ne _ _ (by decide),put_ne _ _ (by decide)];exact put_self _ _ _
 ·rw[put_ne _ _ (by decide),put_ne _ _ (by decide),put_ne _ _ (by decide)];exact put_self _ _ _
 ·rw[put_ne _ _ (by decide),put_ne _ _ (by decide)];exact put_self _ _ _
 ·rw[put_ne _ _ (by decide)];exact put_self _ _ _
 ·obtain⟨_,l2',hS,_,_,hH⟩:=R.ok
  exact hS.hulls (hH (Y.C.lv _ (List.mem_of_getLast? Y.last)).2.1)
end
end Go.Eng.YtblghgacokoklaaDoor
end
section
namespace Go.Eng.YtblghgacokoklaaDoor
section
variable{gb g h:Hp}{z:Lb}{sb vb pm cm k:Nat}{ps ls:Sl}{xs:List (Sl×List Tab)}{ptrs:List ByteArray}{n1 n2 n3 n4:Int}
theorem lay_first{KK:Sl->Nat->Nat->Nat->Nat->Hp->Prop}(X:KSt g h z (λ_=>none) sb vb pm cm ps ls xs ptrs)(Kb:Keep gb g)(T:TabC gb)(kk:ptrs.length=k/\xs.length=k/\1<=k/\k<=5)(o1:okU n1)(o2:okU n2)(o3:okU n3)(V:LvOk okTab (xs.map (·.2)))(ht:totL (xs.map (·.2))<=10000)(hp:∀ p∈ptrs,p.size<=64)
  (hK:∀ g' h' z' m' e l b2 b3 b4 b5,Lay gb g' h' z' m' sb vb pm cm ps ls xs ptrs k [e] [xs.map (·.2)] l ⟨some ⟨b2,0,none⟩,1,1⟩ ⟨some ⟨b3,0,none⟩,1,1⟩ ⟨some ⟨b4,0,none⟩,1,1⟩ ⟨some ⟨b5,0,none⟩,1,1⟩->KK l b2 b3 b4 b5 h') :
  F32.T (some ⟨sb,0,none⟩) n1 n2 n3 n4 h λr8 h10=>∃ n12 n13 n14:Int,∃ l8 l9 l10:Sl,r8=.agg ⟨[.int .u64 n12,.int .u64 n13,.int .u64 n14,.slice l8.a l8.n l8.c,.slice l9.a l9.n l9.c,.slice l10.a l10.n l10.c]⟩/\nw h10 (.cells ⟨[.int .u64 n12,.int .u64 n13,.int .u64 n14,.slice l8.a l8.n l8.c,.slice l9.a l9.n l9.c,.slice l10.a l10.n l10.c]⟩ 65 (0,0)) λb1 h11=>F23.T 0 ⟨(some ⟨b1,0,none⟩),1,1⟩ h11 λr9 h12=>retS r9 λl11=>nw h12 (.cells ⟨[.int .i64 (l11.n:Int)]⟩ 3 (0,0)) λb2 h13=>F33.T (some ⟨sb,0,none⟩) h13 λr10 h14=>retS r10 λl12=>nw h14 (.cells ⟨[.slice l12.a l12.n l12.c]⟩ 38 (0,0)) λb3 h15=>F34.T (some ⟨sb,0,none⟩) h15 λr11 h16=>retS r11 λl13=>nw h16 (.cells ⟨[.slice l13.a l13.n l13.c]⟩ 63 (0,0)) λb4 h17=>nw h17 (.cells ⟨[.int .u64 n1,.int .u64 n2,.int .u64 n3,.int .u64 0]⟩ 72 (0,0)) λb5 h18=>KK l11 b2 b3 b4 b5 h18:=by
 obtain⟨k1,k2,k3,k5⟩:=kk
 have hxk:(xs.map (·.2)).length=k:=by rw[length_map];exact k2
 refine whole_spec X.S.inn (by omega) (by omega) (by omega) λh10 l8 l9 l10 K10 E10 c8 c9=>⟨_,_,_,l8,l9,l10,rfl,λb1 hb1=>?_⟩
 have G:Good ⟨n1,n2,n3,[],wholeM 0 (xs.map (·.2)),ptrs⟩:=whole_good o1 o2 o3 (by omega) V.p hp (by omega)
 have hs:(⟨n1,n2,n3,[],wholeM 0 (xs.map (·.2)),ptrs⟩:Edit).size<=10000:=by
  show 0+(wholeM 0 (xs.map (·.2))).length<=10000
  rw[wholeM_len];omega
 have hwr:∀ d lw,Res (List.replicate k []) ⟨n1,n2,n3,[],wholeM 0 (xs.map (·.2)),ptrs⟩ d lw->d=0/\lw=xs.map (·.2):=λd lw R=>by
  rw[<- hxk] at R
  exact whole_res V (by omega) R
 have ee:EdAt h10 ⟨n1,n2,n3,[],wholeM 0 (xs.map (·.2)),ptrs⟩ l8 l9 l10:=E10
 generalize he:(⟨n1,n2,n3,[],wholeM 0 (xs.map (·.2)),ptrs⟩:Edit)=e at G hs hwr ee
 obtain⟨f1,f2,f3,f4⟩:n1=e.log/\n2=e.next/\n3=e.seq/\ptrs=e.ptr:=by subst he;exact⟨rfl,rfl,rfl,rfl⟩
 subst f1 f2 f3
 have Kn:=Keep.new hb1 (.cells ⟨[.int .u64 e.log,.int .u64 e.next,.int .u64 e.seq,.slice l8.a l8.n l8.c,.slice l9.a l9.n l9.c,.slice l10.a l10.n l10.c]⟩ 65 (0,0))
 have Bx:Buf (h10.new b1 (.cells ⟨[.int .u64 e.log,.int .u64 e.next,.int .u64 e.seq,.slice l8.a l8.n l8.c,.slice l9.a l9.n l9.c,.slice l10.a l10.n l10.c]⟩ 65 (0,0))) ⟨some ⟨b1,0,none⟩,1,1⟩ 6 65 (edV [⟨e,l8,l9,l10⟩]):=buf_new _ rfl
 generalize h10.new b1 (.cells ⟨[.int .u64 e.log,.int .u64 e.next,.int .u64 e.seq,.slice l8.a l8.n l8.c,.slice l9.a l9.n l9.c,.slice l10.a l10.n l10.c]⟩ 65 (0,0))=h11 at Kn Bx ⊢
 obtain⟨g1,Kg1,X1,_⟩:=X.call (K10.trans Kn)
 have K11:Keep gb h11:=(Kb.trans Kg1).trans X1.gk
 refine bytes_one (a:=0) (T.keep K11) Bx (ee.keep Kn) c8 c9 G (by omega) (by omega) λl11 h12 B12 K12 N12=>⟨l11,rfl,λb2 hb2=>?_⟩
 have eB:bytesE [e]=layL 0 (putS e):=by unfold bytesE;simp
 rw[<- eB] at B12
 have hl11:l11.n=(bytesE [e]).length:=by have:=B12.len;rw[bv_length] at this;omega
 have X2:=X1.add (k:=(0,0,0)) rfl K12 N12 B12
 have Kb2:=Keep.new hb2 (.cells ⟨[.int .i64 (l11.n:Int)]⟩ 3 (0,0))
 have B2:Buf (h12.new b2 (.cells ⟨[.int .i64 (l11.n:Int)]⟩ 3 (0,0))) ⟨some ⟨b2,0,none⟩,1,1⟩ 1 3 (bndV [e]):=by
  have:bndV [e]=[.int .i64 (l11.n:Int)]:=by
   have:=bndV_snoc (Es:=[]) e
   rw[List.nil_append] at this
   rw[this,hl11];rfl
  rw[this];exact buf_new _ rfl
 generalize h12.new b2 (.cells ⟨[.int .i64 (l11.n:Int)]⟩ 3 (0,0))=h13 at Kb2 B2 ⊢
 have X3:=X2.add (k:=(0,0,1)) rfl Kb2 (.inr ⟨b2,rfl,hb2⟩) B2
 refine tables_all X3.S.inn (by omega) (by omega) λh14 l12 K14 T14=>⟨l12,rfl,λb3 hb3=>?_⟩
 obtain⟨g4,Kg4,X4,F4⟩:=X3.call K14
 have W4:=T14.f F4
 have Kb3:=Keep.new hb3 (.cells ⟨[.slice l12.a l12.n l12.c]⟩ 38 (0,0))
 have B3:Buf (h14.new b3 (.cells ⟨[.slice l12.a l12.n l12.c]⟩ 38 (0,0))) ⟨some ⟨b3,0,none⟩,1,1⟩ 1 38 (slV [l12]):=buf_new _ rfl
 generalize h14.new b3 (.cells ⟨[.slice l12.a l12.n l12.c]⟩ 38 (0,0))=h15 at Kb3 B3 ⊢
 have X5:=X4.add (k:=(0,0,2)) rfl Kb3 (.inr ⟨b3,rfl,hb3⟩) B3
 refine pointers_spec X5.S.inn (by omega) λh16 l13 K16 B16 N16=>⟨l13,rfl,λb4 hb4=>?_⟩
 obtain⟨g6,Kg6,X6,F6⟩:=X5.call K16
 have P6:=row_one (F6 _ _ _ _ B16 N16)
 have Kb4:=Keep.new hb4 (.cells ⟨[.slice l13.a l13.n l13.c]⟩ 63 (0,0))
 have B4:Buf (h16.new b4 (.cells ⟨[.slice l13.a l13.n l13.c]⟩ 63 (0,0))) ⟨some ⟨b4,0,none⟩,1,1⟩ 1 63 (slV [l13]):=buf_new _ rfl
 generalize h16.new b4 (.cells ⟨[.slice l13.a l13.n l13.c]⟩ 63 (0,0))=h17 at Kb4 B4 ⊢
 have X7:=X6.add (k:=(0,0,3)) rfl Kb4 (.inr ⟨b4,rfl,hb4⟩) B4
 intro b5 hb5
 have Kb5:=Keep.new hb5 (.cells ⟨[.int .u64 e.log,.int .u64 e.next,.int .u64 e.seq,.int .u64 0]⟩ 72 (0,0))
 have B5:Buf (h17.new b5 (.cells ⟨[.int .u64 e.log,.int .u64 e.next,.int .u64 e.seq,.int .u64 0]⟩ 72 (0,0))) ⟨some ⟨b5,0,none⟩,1,1⟩ 4 72 (rtV [e]):=buf_new _ rfl
 generalize h17.new b5 (.cells ⟨[.int .u64 e.log,.int .u64 e.next,.int .u64 e.seq,.int .u64 0]⟩ 72 (0,0))=h18 at Kb5 B5 ⊢
 have X8:=X7.add (k:=(0,0,4)) rfl Kb5 (.inr ⟨b5,rfl,hb5⟩) B5
 have one:∀ {α β:Type} {a:α} {b:β} {P:α->β->Prop},P a b->∀ (i:Nat) x y,[a][i]?=some x->[b][i]?=some y->P x y:=by
  intro α β a b P hab i x y e1 e2
  cases i with
  |zero=>cases e1;cases e2;exact hab
  |succ i=>simp at e1
 refine hK g6 h18 _ _ e _ _ _ _ _ ⟨X8,(((Kb.trans Kg1).trans Kg4).trans Kg6),rfl,rfl,⟨[l12],rfl,rfl,one (W4.keep Kg6)⟩,⟨[l13],rfl,rfl,one (by rw[<- f4];exact P6)⟩,rfl,Chn.one G hs hxk V.hu (by omega) hwr,rfl,k1,k2,k3,k5⟩
end
end Go.Eng.YtblghgacokoklaaDoor
end
section
namespace Go.Eng.YtblghgacokoklaaDoor
theorem okPtr_none'(h:Hp)(p:Option Addr):okPtr h p none:=λa b _ e=>by cases e
structure Laid(hF:Hp)(k:Nat)(Es:List Edit)(lvs:List Lv)(l14 l15 l16 l17 l18:Sl):Prop where
 C:Chn k Es lvs
 ne:0<Es.length
 le:Es.length<=100
 k1:1<=k
 k5:k<=5
 T:TabC hF
 b:hF.row l14.a l14.n (bv (bytesE Es))
 bc:l14.n<=l14.c
 e:hF.row l15.a l15.n (bndV Es)
 r:hF.row l18.a (l18.n*4) (rtV Es)
 w:∃ ws:List Sl,hF.row l16.a l16.n (slV ws)/\ws.length=Es.length/\∀ (i:Nat) s lv,ws[i]?=some s->lvs[i]?=some lv->TabsF hF s lv
 p:∃ qs:List Sl,hF.row l17.a l17.n (slV qs)/\qs.length=Es.length/\∀ (i:Nat) s e,qs[i]?=some s->Es[i]?=some e->hF.row s.a s.n (ptrV e.ptr)
section
variable{hF h:Hp}{k:Nat}{Es:List Edit}{lvs:List Lv}{l14 l15 l16 l17 l18:Sl}{n5:Int}{Q:Value->Hp->Prop}
theorem reads_tail{c:Prop}{IM:Int->Hp->Prop}(Y:Laid hF k Es lvs l14 l15 l16 l17 l18)(hn:iI n5)(K:Keep hF h)(hI:∀ r:Nat,r<=(bytesE Es).length->IM (r:Int) h) :
  par c (F28.T n5 (wrap .i64 ((l14.n:Int)+1)) h λr h'=>retI .i64 r λn=>IM n h') (F28.T n5 (l15.n:Int) h λr h'=>retI .i64 r λn=>ix l15.a n l15.n λb o=>ldI .i64 h' b (o+n.toNat) λn25=>IM (wrap .i64 (n25-1)) h'):=by
 have hbl:=bytesE_len Y.C.good
 have hle:=Y.le
 have hne:=Y.ne
 have h14:l14.n=(bytesE Es).length:=by have:=Y.b.1;rw[bv_length] at this;exact this.symm
 have h15:l15.n=Es.length:=by have:=Y.e.1;rw[bndV_len] at this;exact this.symm
 have w:wrap .i64 ((l14.n:Int)+1)=(((bytesE Es).length+1:Nat):Int):=by rw[wrap_i64 (by omega) (by omega)];omega
 rw[w]
 refine⟨λ_=>place_spec hn (by omega) λr r0 r1=>⟨r,rfl,?_⟩,λ_=>place_spec hn (by omega) λr r0 r1=>⟨r,rfl,?_⟩⟩
 ·obtain⟨r',rfl⟩:=Int.eq_ofNat_of_zero_le r0
  exact hI r' (by omega)
 ·obtain⟨r',rfl⟩:=Int.eq_ofNat_of_zero_le r0
  have hr':r'<Es.length:=by omega
  obtain⟨b,o,ha,hat⟩:=row_get (K.row Y.e) (i:=r') (by omega)
  have hp:=edEnd_pos Y.C.good hr'
  have hm:=edEnd_mono Es (show r'+1<=Es.length from hr')
  rw[edEnd_all] at hm
  refine⟨b,o,ha,⟨r0,r1⟩,_,by rw[Int.toNat_natCast,hat r' (by omega)];exact bndV_get hr',?_⟩
  have w2:wrap .i64 ((edEnd Es (r'+1):Int)-1)=((edEnd Es (r'+1)-1:Nat):Int):=by rw[wrap_i64 (by omega) (by omega)];omega
  dsimp only
  rw[w2]
  exact hI _ (by omega)
theorem lay_reads(Y:Laid hF k Es lvs l14 l15 l16 l17 l18)(hn:iI n5)(hQ:∀ h',Keep hF h'->Q (.bool true) h') :
  ∃ (I1:Int->Int->Hp->Prop) (m1:Int->Int->Hp->Nat),I1 (l14.n:Int) 0 hF/\(∀ n15 n16:Int,∀ h20:Hp,I1 n15 n16 h20->par (n16<3) (∃ J1:Int->Hp->Prop,(∀ n17:Int,∀ h21:Hp,J1 n17 h21->Sl.okCut l14 0 n15 (l14.c:Int)/\F35.T (Sl.cut l14 1 0 n15 (l14.c:Int)) (k:Int) h21 λr12 h22=>∃ p1:Option Addr,∃ n18 n19:Int,∃ n20 n21 n22:Int,r12=.tuple ⟨[.pointer p1,.agg ⟨[.int .u64 n18,.int .u64 n19,.int .u64 n20,.int .u64 n21]⟩,.int .i64 n22]⟩/\par (n17<0) (okPtr h22 p1 none/\par ((p1:Option Addr)=none) (par (n22=140) (par (([.int .u64 n18,.int .u64 n19,.int .u64 n20,.int .u64 n21]:List Value)=[.int .u64 0,.int .u64 0,.int .u64 0,.int .u64 0]) (par (n16=0) (F28.T n5 (wrap .i64 ((l14.n:Int)+1)) h22 λr13 h23=>retI .i64 r13 λn23=>I1 n23 (wrap .i64 (n16+1)) h23/\m1 n23 (wrap .i64 (n16+1)) h23<m1 n15 n16 h20) (F28.T n5 (l15.n:Int) h22 λr14 h24=>retI .i64 r14 λn24=>ix l15.a n24 l15.n λb6 o1=>ldI .i64 h24 b6 (o1+n24.toNat) λn25=>I1 (wrap .i64 (n25-1)) (wrap .i64 (n16+1)) h24/\m1 (wrap .i64 (n25-1)) (wrap .i64 (n16+1)) h24<m1 n15 n16 h20)) (Q (.bool false) h22)) (Q (.bool false) h22)) (Q (.bool false) h22)) (okPtr h22 p1 none/\par ((p1:Option Addr)=none) (Q (.bool false) h22) (par (n22=0) (ix l18.a n17 l18.n λb7 o2=>ldI .u64 h22 b7 (o2+n17.toNat*4) λn26=>ldI .u64 h22 b7 ((o2+n17.toNat*4)+1) λn27=>ldI .u64 h22 b7 ((o2+n17.toNat*4)+2) λn28=>ldI .u64 h22 b7 ((o2+n17.toNat*4)+3) λn29=>par (([.int .u64 n18,.int .u64 n19,.int .u64 n20,.int .u64 n21]:List Value)=[.int .u64 n26,.int .u64 n27,.int .u64 n28,.int .u64 n29]) (ix l16.a n17 l16.n λb8 o3=>ldS h22 b8 (o3+n17.toNat) λl19=>F33.T p1 h22 λr15 h25=>retS r15 λl20=>h25.at b8 (o3+n17.toNat)=some (.slice l19.a l19.n l19.c)/\F36.T l20 l19 h25 λr16 h26=>retB r16 (ix l17.a n17 l17.n λb9 o4=>ldS h26 b9 (o4+n17.toNat) λl21=>F34.T p1 h26 λr17 h27=>retS r17 λl22=>h27.at b9 (o4+n17.toNat)=some (.slice l21.a l21.n l21.c)/\F37.T l22 l21 h27 λr18 h28=>retB r18 (par (n16=0) (F28.T n5 (wrap .i64 ((l14.n:Int)+1)) h28 λr19 h29=>retI .i64 r19 λn30=>I1 n30 (wrap .i64 (n16+1)) h29/\m1 n30 (wrap .i64 (n16+1)) h29<m1 n15 n16 h20) (F28.T n5 (l15.n:Int) h28 λr20 h30=>retI .i64 r20 λn31=>ix l15.a n31 l15.n λb10 o5=>ldI .i64 h30 b10 (o5+n31.toNat) λn32=>I1 (wrap .i64 (n32-1)) (wrap .i64 (n16+1)) h30/\m1 (wrap .i64 (n32-1)) (wrap .i64 (n16+1)) h30<m1 n15 n16 h20)) (Q (.bool false) h28)) (Q (.bool false) h26)) (Q (.bool false) h22)) (Q (.bool false) h22))))/\(∃ (I2:Int->Hp->Prop) (m2:Int->Hp->Nat),I2 (-1) h20/\(∀ n33:Int,∀ h31:Hp,I2 n33 h31->par ((wrap .i64 (n33+1))<(l15.n:Int)) (ix l15.a (wrap .i64 (n33+1)) l15.n λb11 o6=>ldI .i64 h31 b11 (o6+((wrap .i64 (n33+1))).toNat) λn34=>par (n34<=n15) (I2 (wrap .i64 (n33+1)) h31/\m2 (wrap .i64 (n33+1)) h31<m2 n33 h31) (J1 n33 h31)) (J1 n33 h31)))) (Q (.bool true) h20)):=by
 have hbl:=bytesE_len Y.C.good
 have hle:=Y.le
 have hne:=Y.ne
 have hCn:=Y.C.n
 have h14:l14.n=(bytesE Es).length:=by have:=Y.b.1;rw[bv_length] at this;exact this.symm
 have h15:l15.n=Es.length:=by have:=Y.e.1;rw[bndV_len] at this;exact this.symm
 have h18:l18.n=Es.length:=by have:=Y.r.1;rw[rtV_len] at this;omega
 have hbc:=Y.bc
 refine⟨λn15 n16 h20=>∃ n kk:Nat,n15=(n:Int)/\n<=(bytesE Es).length/\n16=(kk:Int)/\kk<=3/\Keep hF h20,λ_ n16 _=>3-n16.toNat,⟨l14.n,0,rfl,by omega,rfl,by omega,Keep.refl _⟩,?_⟩
 rintro n15 n16 h20 ⟨n,kk,rfl,hn',rfl,hk3,K20⟩
 refine⟨λhlt=>?_,λ_=>hQ h20 K20⟩
 have wk:wrap .i64 ((kk:Int)+1)=((kk+1:Nat):Int):=by rw[wrap_i64 (by omega) (by omega)];omega
 refine⟨λn17 h21=>∃ v:Nat,n17=(v:Int)-1/\v<=Es.length/\edEnd Es v<=n/\(v=Es.length\/n<edEnd Es (v+1))/\Keep hF h21,?_,?_⟩
 ·rintro n17 h21 ⟨v,rfl,hv,hv1,hv2,K21⟩
  obtain⟨w,hw1,hw2,hw3⟩:=get_cut (λe he=>(Y.C.good e he).1) hn' hv hv1 hv2 (Nat.lt_succ_self n)
  rw[hw2] at hw3
  have hbs:((bytesE Es).take n).length=n:=by rw[length_take];omega
  have rc:=cut_mid (K21.row Y.b) (i:=0) (j:=n) (m:=l14.c) (Nat.zero_le _) (by omega) hbc
  rw[bv_cut,List.drop_zero,Nat.sub_zero,show((0:Nat):Int)=0 from rfl] at rc
  have hrl:=puts_len Es Y.C.good
  refine⟨⟨by omega,by omega,by omega,by omega⟩,?_⟩
  refine read_s (Y.T.keep K21) rc (by simp[Sl.cut];omega) (λc hc=>bytesE_ok Y.C.good c (List.mem_of_mem_take hc)) (by omega) Y.k1 Y.k5 (by rw[hbs];exact hw2) (λr hr=>puts_mem Y.C.good (List.mem_of_mem_take hr)) (by rw[length_take];omega) hw3 (λe he=>?_) (st:=stAt k lvs) rfl (λi hi d lw R=>?_) (λi hi=>?_) (λe0 h22 K22=>?_) (λe he h22 sb vb pm cm ps ls xs S exs hxk hpk=>?_)
  ·have:=(Y.C.good e (List.mem_of_mem_take he)).2
   have h2:e.out.length+e.inn.length<=10000:=this
   omega
  ·rw[length_take] at hi
   rw[List.getElem_take] at R
   exact Y.C.step (by omega) d lw R
  ·rw[length_take] at hi
   rw[List.getElem_take]
   exact Y.C.tot (by omega)
  ·have hv0:v=0:=by
    have:=congrArg List.length e0
    rw[length_take,length_nil] at this;omega
   subst hv0
   refine⟨none,0,0,0,0,140,rfl,λ_=>⟨okPtr_none' _ _,λ_=>⟨λ_=>⟨λ_=>?_,λh0=>absurd rfl h0⟩,λh0=>absurd rfl h0⟩,λh0=>absurd rfl h0⟩,λh0=>absurd (by decide) h0⟩
   refine reads_tail Y hn (K21.trans K22) λr hr=>?_
   rw[wk]
   exact⟨⟨r,kk+1,rfl,hr,rfl,by omega,K21.trans K22⟩,by dsimp only;omega⟩
  ·obtain⟨v,rfl⟩:∃ v',v=v'+1:=by
    cases v with
    |zero=>rw[List.take_zero] at he;cases he
    |succ v=>exact⟨v,rfl⟩
   have ev:((v+1:Nat):Int)-1=(v:Int):=by omega
   rw[ev]
   have hv':v<Es.length:=by omega
   have ee:Es[v]?=some e:=by
    rw[List.take_succ_eq_append_getElem hv',List.getLast?_append,List.getLast?_singleton] at he
    rw[getElem?_eq_getElem hv']
    simpa using he
   have elv:lvs[v]?=some lvs[v]:=getElem?_eq_getElem (by omega)
   have exs':xs.map (·.2)=lvs[v]:=by
    rw[exs,length_take,show min (v+1) Es.length=v+1 by omega]
    exact stAt_get elv
   obtain⟨q1,q2,q3⟩:=Y.C.lv _ (List.mem_of_getElem? elv)
   have K22:Keep h21 h22:=S.V.L.k
   have KF:=K21.trans K22
   refine⟨some ⟨sb,0,none⟩,e.log,e.next,e.seq,0,0,rfl,λh0=>absurd h0 (by omega),λ_=>⟨okPtr_none' _ _,λh0=>(by cases h0),λ_=>⟨λ_=>?_,λh0=>absurd rfl h0⟩⟩⟩
   obtain⟨b7,o2,ha7,hat7⟩:=row_get (KF.row Y.r) (i:=v*4) (by omega)
   have c7:∀ j,j<4->h22.at b7 ((o2+(v:Int).toNat*4)+j)=(rtC Es[v])[j]?:=λj hj=>by
    rw[Int.toNat_natCast,Nat.add_assoc,hat7 _ (by omega)]
    exact flat_get rtC 4 (λ_=>rfl) Es v j hv' hj
   have e7:Es[v]=e:=by rw[getElem?_eq_getElem hv'] at ee;exact Option.some.inj ee
   rw[e7] at c7
   refine⟨b7,o2,ha7,⟨by omega,by omega⟩,_,c7 0 (by decide),_,c7 1 (by decide),_,c7 2 (by decide),_,c7 3 (by decide),λ_=>?_,λh0=>absurd rfl h0⟩
   obtain⟨ws,rw_,hws,hw⟩:=Y.w
   have h16:l16.n=ws.length:=by have:=rw_.1;rw[slV_length] at this;exact this.symm
   obtain⟨b8,o3,ha8,hat8⟩:=row_get (KF.row rw_) (i:=v) (by omega)
   have c8:h22.at b8 (o3+(v:Int).toNat)=some (.slice (ws[v]'(by omega)).a (ws[v]'(by omega)).n (ws[v]'(by omega)).c):=by
    rw[Int.toNat_natCast,hat8 v (by omega)];exact slV_get (by omega)
   refine⟨b8,o3,ha8,⟨by omega,by omega⟩,_,c8,?_⟩
   refine tables_all S (by have:=Y.k5;omega) (by rw[exs'];omega) λh25 l20 K25 T25=>⟨l20,rfl,K25.at c8,?_⟩
   obtain⟨ss,a1,a2,a3⟩:=(hw v _ _ (getElem?_eq_getElem (by omega)) elv).keep (KF.trans K25)
   obtain⟨_,tt,t1,t2,t3⟩:=T25
   rw[exs'] at t1 t3
   refine levels_same (row_one t2) a1 t1 a2 (λi x y e1 e2=>(t3 i x y e1 e2).1.row) a3 (by rw[q1];exact Y.k5) (by omega) ⟨true,rfl,λ_=>?_,λh0=>(by cases h0)⟩
   obtain⟨qs,rq,hqs,hq⟩:=Y.p
   have h17:l17.n=qs.length:=by have:=rq.1;rw[slV_length] at this;exact this.symm
   obtain⟨b9,o4,ha9,hat9⟩:=row_get ((KF.trans K25).row rq) (i:=v) (by omega)
   have c9:h25.at b9 (o4+(v:Int).toNat)=some (.slice (qs[v]'(by omega)).a (qs[v]'(by omega)).n (qs[v]'(by omega)).c):=by
    rw[Int.toNat_natCast,hat9 v (by omega)];exact slV_get (by omega)
   refine⟨b9,o4,ha9,⟨by omega,by omega⟩,_,c9,?_⟩
   refine pointers_spec (S.keep K25) (by have:=Y.k5;omega) λh27 l22 K27 B27 N27=>⟨l22,rfl,K27.at c9,?_⟩
   refine texts_eq (row_one B27) ((KF.trans K25).trans K27 |>.row (hq v _ _ (getElem?_eq_getElem (by omega)) ee)) (by have:=Y.k5;omega) (λ_=>⟨true,rfl,λ_=>?_,λh0=>(by cases h0)⟩) (λh0=>absurd rfl h0)
   refine reads_tail Y hn ((KF.trans K25).trans K27) λr hr=>?_
   rw[wk]
   exact⟨⟨r,kk+1,rfl,hr,rfl,by omega,(KF.trans K25).trans K27⟩,by dsimp only;omega⟩
 ·refine⟨λn33 h31=>∃ v:Nat,n33=(v:Int)-1/\v<=Es.length/\edEnd Es v<=n/\Keep hF h31,λn33 _=>Es.length-(n33+1).toNat,⟨0,rfl,Nat.zero_le _,by rw[edEnd_zero];omega,K20⟩,?_⟩
  rintro n33 h31 ⟨v,rfl,hv,hv1,K31⟩
  have wv:wrap .i64 ((v:Int)-1+1)=(v:Int):=by rw[wrap_i64 (by omega) (by omega)];omega
  rw[wv]
  refine⟨λhl=>?_,λhg=>⟨v,rfl,hv,hv1,.inl (by omega),K31⟩⟩
  have hv':v<Es.length:=by omega
  obtain⟨b,o,ha,hat⟩:=row_get (K31.row Y.e) (i:=v) (by omega)
  refine⟨b,o,ha,⟨by omega,by omega⟩,_,by rw[Int.toNat_natCast,hat v (by omega)];exact bndV_get hv',λhle2=>?_,λhgt=>⟨v,rfl,hv,hv1,.inr (by omega),K31⟩⟩
  exact⟨⟨v+1,by omega,by omega,by omega,K31⟩,by dsimp only;omega⟩
end
end Go.Eng.YtblghgacokoklaaDoor
end
section
namespace Go.Eng.YtblghgacokoklaaDoor
theorem since_buf{h4 h5 h7:Hp}{r:Sl}{sz t:Nat}{vs:List Value}(K:Keep h4 h5)(B:Buf h7 r sz t vs)(N:NewN h5 r):Buf (on h7 (since h4 h5) 0) r sz t vs:=by
 rcases B.own with⟨ha,hc⟩|⟨b,c,f,ha,hb,x⟩
 ·exact⟨B.len,B.cap,.inl ⟨ha,hc⟩⟩
 ·rcases N with n|⟨b',e,n⟩
  ·rw[ha] at n;cases n
  ·rw[ha] at e
   simp only[Option.some.injEq,Addr.mk.injEq,and_true] at e
   subst e
   exact⟨B.len,B.cap,.inr ⟨b,c,f,ha,since_on hb (.inr n),x⟩⟩
theorem since_keep{h4 h5 h7:Hp}(K:Keep h4 h7):Keep h4 (on h7 (since h4 h5) 0):=λb x e=>since_on (K b x e) (.inl e)
theorem three_at{g h4 h5 h6 h7:Hp}{x:EdS}(K:Keep h4 h5)(K7:Keep h6 h7)(T:Three h6 x)(N:(x.a.a=none\/New h5 x.a)/\(x.b.a=none\/New h5 x.b)/\(x.c.a=none\/New h5 x.c)):EdAt (on h7 (since h4 h5) 0) x.e x.a x.b x.c:=
 ⟨(since_buf K (T.a.keep K7) N.1).row,(since_buf K (T.b.keep K7) N.2.1).row,row_one (since_buf K (T.c.keep K7) N.2.2)⟩
section
variable{gb g h:Hp}{z:Lb}{m:Mem}{sb vb pm cm k:Nat}{ps ls:Sl}{xs:List (Sl×List Tab)}{ptrs:List ByteArray}{Es:List Edit}{lvs:List Lv}{l l1 l2 l3 l4:Sl}
theorem Lay.laid(Y:Lay gb g h z m sb vb pm cm ps ls xs ptrs k Es lvs l l1 l2 l3 l4)(T:TabC gb)(h0:0<Es.length)(hle:Es.length<=100):Laid h k Es lvs l l1 l2 l3 l4:=by
 have B:=λ{kk x} (e:m kk=some x)=>(Y.X.O.buf kk x e).keep on_k
 obtain⟨ws,m2,a1,a2⟩:=Y.m2
 obtain⟨qs,m3,b1,b2⟩:=Y.m3
 exact⟨Y.C,h0,hle,Y.kk.2.2.1,Y.kk.2.2.2,T.keep (Y.K.trans Y.X.gk),buf_bytes (B Y.m0),(B Y.m0).cap,row_one (B Y.m1),(B Y.m4).row,⟨ws,row_one (B m2),a1,λi s lv e1 e2=>(a2 i s lv e1 e2).keep Y.X.gk⟩,⟨qs,row_one (B m3),b1,λi s e e1 e2=>Y.X.gk.row (b2 i s e e1 e2)⟩⟩
end
theorem keeps_law{h:Hp}{l l1:Sl}{L M:List EdS}{n n1 n2 n3 n4 n5:Int}{Q:Value->Hp->Prop}(T:TabC h)(A:Args h l L)(A':Args h l1 M)(hn:iI n)(hn5:iI n5)(o1:okU n1)(o2:okU n2)(o3:okU n3)(hQ:∀ h',Keep h h'->Q (.bool true) h'):F5.T n l l1 n1 n2 n3 n4 n5 h Q:=by
 unfold F5.T F5.G
 refine known_spec λh1 K1=>⟨true,rfl,λ_=>?_,λh0=>(by cases h0)⟩
 refine few_spec (A.keep K1) (λh2 K2 hpL=>⟨true,rfl,λ_=>?_,λh0=>(by cases h0)⟩) (λh2 K2=>⟨false,rfl,λh0=>(by cases h0),λ_=>hQ h2 (K1.trans K2)⟩)
 refine few_spec (A'.keep (K1.trans K2)) (λh3 K3 hpM=>⟨true,rfl,λ_=>?_,λh0=>(by cases h0)⟩) (λh3 K3=>⟨false,rfl,λh0=>(by cases h0),λ_=>hQ h3 ((K1.trans K2).trans K3)⟩)
 have K03:=(K1.trans K2).trans K3
 refine place_spec hn (by decide) λr r0 r3=>⟨r,rfl,?_⟩
 obtain⟨k,hk⟩:∃ k:Nat,3+r=(k:Int):=⟨(3+r).toNat,by omega⟩
 have k1:1<=k:=by omega
 have k5:k<=5:=by omega
 have ew:wrap .i64 (3+r)=(k:Int):=by rw[hk,wrap_i64 (by omega) (by omega)]
 (try dsimp only)
 rw[ew]
 refine new_spec0 rfl k1 k5 λh5 sb vb pm cm ps ls xs S hpm exs=>⟨_,rfl,okPtr_none' _ _,λh0=>(by cases h0),λ_=>?_⟩
 have K5:Keep h3 h5:=S.V.L.k
 refine right_spec ((A.keep K03).keep K5) hpL λh6 l2 L1 W1 hl1 hq1 hg1=>⟨l2,rfl,?_⟩
 refine right_spec (((A'.keep K03).keep K5).keep W1.K) hpM λh7 l3 L2 W2 hl2 hq2 hg2=>⟨l3,rfl,?_⟩
 have K67:=W2.K
 have K37:Keep h3 h7:=(K5.trans W1.K).trans K67
 have T7:TabC (on h7 (since h3 h5) 0):=(T.keep K03).keep (since_keep K37)
 have R1:(on h7 (since h3 h5) 0).row l2.a (l2.n*6) (edV L1):=(since_buf K5 (W1.B.keep K67) W1.N1).row
 have R2:(on h7 (since h3 h5) 0).row l3.a (l3.n*6) (edV L2):=(since_buf K5 W2.B (W2.N1.imp id λ⟨b,e,q⟩=>⟨b,e,W1.K.dom b q⟩)).row
 have E1:∀ y∈L1,EdAt (on h7 (since h3 h5) 0) y.e y.a y.b y.c:=λy hy=>three_at (g:=h3) K5 K67 (W1.T y hy) (W1.N y hy)
 have dn:∀ s:Sl,(s.a=none\/New h6 s)->(s.a=none\/New h5 s):=λs N=>N.imp id λ⟨b,e,q⟩=>⟨b,e,W1.K.dom b q⟩
 have E2:∀ y∈L2,EdAt (on h7 (since h3 h5) 0) y.e y.a y.b y.c:=λy hy=>three_at (g:=h3) K5 (Keep.refl h7) (W2.T y hy) (by obtain⟨a,b,c⟩:=W2.N y hy;exact⟨dn _ a,dn _ b,dn _ c⟩)
 have X0:KSt (on h7 (since h3 h5) 0) h7 (since h3 h5) (λ_=>none) sb vb pm cm ps ls xs (List.replicate k ⟨#[]⟩):=⟨S.since hpm (W1.K.trans K67),Mine.start _⟩
 have K07:Keep h (on h7 (since h3 h5) 0):=K03.trans (since_keep K37)
 generalize on h7 (since h3 h5) 0=gb at T7 R1 R2 E1 E2 X0 K07
 generalize since h3 h5=z0 at X0
 have h2n:=ed_n W1.B
 have h3n:=ed_n W2.B
 have t0:totL (List.replicate k ([]:List Tab))=0:=by unfold totL;simp
 refine⟨λn7 h8=>∃ (P R:List EdS) (z:Lb) (vb:Nat) (ls:Sl) (xs:List (Sl×List Tab)) (ptrs:List ByteArray),L1=P++R/\n7=(P.length:Int)/\KSt gb h8 z (λ_=>none) sb vb pm cm ps ls xs ptrs/\(ptrs.length=k/\xs.length=k)/\LvOk okTab (xs.map (·.2))/\totL (xs.map (·.2))+parts R<=10000/\∀ p∈ptrs,p.size<=64,λn7 _=>L1.length-n7.toNat,⟨[],L1,z0,vb,ls,xs,_,rfl,rfl,X0,⟨by simp,by have:=congrArg List.length exs;simpa using this⟩,by rw[exs];exact LvOk.new _ _,by rw[exs,t0];omega,λp hp=>by rw[List.eq_of_mem_replicate hp];decide⟩,?_⟩
 rintro n7 h8 ⟨P,R,z,vb1,ls1,xs1,ptrs1,eP,rfl,X,⟨p1,p2⟩,V,ht,hp64⟩
 have hlP:=congrArg List.length eP
 rw[length_append] at hlP
 refine⟨λhlt=>?_,λhge=>?_⟩
 ·rcases R with _|⟨x,R⟩
  ·exact absurd hlt (by simp at hlP;omega)
  rw[List.length_cons] at hlP
  rw[parts_cons] at ht
  have hi:P.length<L1.length:=by omega
  have hx:L1[P.length]=x:=by simp[eP]
  have hxm:x∈L1:=by rw[<- hx];exact List.getElem_mem hi
  obtain⟨b,o,ha,hin,c0,c1,c2,c3,c4,c5⟩:=ed_cells (X.gk.row R1) hi
  rw[hx] at c0 c1 c2 c3 c4 c5
  refine⟨b,o,ha,hin,_,c0,_,c1,_,c2,_,c3,_,c4,_,c5,?_⟩
  obtain⟨G,hsz⟩:=hg1 x hxm
  refine apply_spec X.S.inn ((E1 x hxm).keep X.gx) (by omega) (by omega) (by omega) (by omega) (by omega) λh9 c r vb' ls' xs' ptrs' C' S' R' g1 g2=>⟨r,c,rfl,?_⟩
  have X':=X.set S'
  rw[next_i (n:=1000000) (by omega) (by omega)]
  refine⟨?_,by dsimp only;omega⟩
  by_cases hc:c=0
  ·subst hc
   obtain rfl:=g1 rfl
   obtain⟨q1,q2⟩:=R'.lens
   rw[length_map,length_map] at q2
   rw[length_map] at q1
   refine⟨P++[x],R,_,vb',ls',xs',x.e.ptr,by rw[eP];simp,by simp,X',⟨by omega,by omega⟩,V.step (λp hp=>(G.inn p hp).tab) R',?_,G.ptr⟩
   obtain⟨_,l2',hS,hT,_,_⟩:=R'.ok
   rw[hS.totL];omega
  ·obtain⟨rfl,rfl⟩:=g2 hc
   exact⟨P++[x],R,_,vb',ls',xs',ptrs',by rw[eP];simp,by simp,X',⟨p1,p2⟩,V,by omega,hp64⟩
 ·refine lay_first X (Keep.refl gb) T7 ⟨p1,p2,k1,k5⟩ o1 o2 o3 V (by omega) hp64 λg' h18 z' m' e l11 b2 b3 b4 b5 Y=>?_
  refine⟨λl14 l15 l16 l17 l18 h19=>∃ Es lvs,Laid h19 k Es lvs l14 l15 l16 l17 l18/\Keep h h19,?_,?_⟩
  ·rintro l14 l15 l16 l17 l18 h19 ⟨Es,lvs,Y5,K19⟩
   exact lay_reads Y5 hn5 λh' K'=>hQ h' (K19.trans K')
  ·refine⟨λa b c d f n35 h32=>∃ (i:Nat) (g:Hp) (z:Lb) (m:Mem) (vb:Nat) (ls:Sl) (xs:List (Sl×List Tab)) (ptrs:List ByteArray) (Es:List Edit) (lvs:List Lv),n35=(i:Int)/\i<=L2.length/\i<=12/\Lay gb g h32 z m sb vb pm cm ps ls xs ptrs k Es lvs a b c d f/\0<Es.length/\Es.length<=i+1/\totL (xs.map (·.2))<=20000*(i+1),λ_ _ _ _ _ n35 _=>L2.length-n35.toNat,⟨0,g',z',m',vb1,ls1,xs1,ptrs1,_,_,rfl,Nat.zero_le _,Nat.zero_le _,Y,by simp,by simp,by omega⟩,?_⟩
   rintro l23 l24 l25 l26 l27 n35 h32 ⟨i,g,z3,m3,vb3,ls3,xs3,ptrs3,Es,lvs,rfl,hi,hi12,Y3,he0,hei,ht3⟩
   have fin:∃ Es lvs,Laid h32 k Es lvs l23 l24 l25 l26 l27/\Keep h h32:=⟨Es,lvs,Y3.laid T7 he0 (by omega),(K07.trans Y3.K).trans Y3.X.gk⟩
   obtain⟨y1,y2,y3,y4⟩:=Y3.kk
   refine⟨λhlt=>⟨λh12=>?_,λ_=>fin⟩,λ_=>fin⟩
   have ia:i<L2.length:=by omega
   have hxm:=List.getElem_mem ia
   obtain⟨G,hsz⟩:=hg2 _ hxm
   have hsz':L2[i].e.out.length+L2[i].e.inn.length<=10000:=hsz
   obtain⟨b,o,ha,hin,c0,c1,c2,c3,c4,c5⟩:=ed_cells ((Y3.K.trans Y3.X.gk).row R2) ia
   refine⟨b,o,ha,hin,_,c0,_,c1,_,c2,_,c3,_,c4,_,c5,?_⟩
   refine apply_spec Y3.X.S.inn ((E2 _ hxm).keep (Y3.K.trans Y3.X.gx)) (by omega) (by omega) (by omega) (by omega) (by omega) λh33 c r vb' ls' xs' ptrs' C' S' R' g1 g2=>⟨r,c,rfl,?_⟩
   have X':=Y3.X.set S'
   have wi:wrap .i64 ((i:Int)+1)=((i+1:Nat):Int):=next_i (n:=1000000) (by omega) (by omega)
   rw[wi]
   refine⟨λhc=>?_,λhc=>?_⟩
   ·subst hc
    obtain rfl:=g1 rfl
    obtain⟨b',o',ha',hin',d0,d1,d2,d3,d4,d5⟩:=ed_cells ((Y3.K.trans X'.gk).row R2) ia
    refine⟨b',o',ha',hin',_,d0,_,d1,_,d2,_,d3,_,d4,_,d5,?_⟩
    have ht':totL (xs'.map (·.2))<=20000*(i+1+1):=by
     obtain⟨_,l2',hS,hT,_,_⟩:=R'.ok
     rw[hS.totL];omega
    refine lay_more Y3 X' T7 R2 ia rfl (E2 _ hxm) (W2.T _ hxm).a.cap (W2.T _ hxm).b.cap G hsz (by omega) R' (by omega) λg4 h4 z4 m4 a b c d f Y4=>?_
    exact⟨⟨i+1,g4,z4,m4,vb',ls',xs',_,_,_,rfl,ia,by omega,Y4,by simp,by simp;omega,ht'⟩,by dsimp only;omega⟩
   ·obtain⟨rfl,rfl⟩:=g2 hc
    exact⟨⟨i+1,g,_,m3,vb',ls',xs',ptrs',Es,lvs,rfl,ia,by omega,⟨X',Y3.K,Y3.m0,Y3.m1,Y3.m2,Y3.m3,Y3.m4,Y3.C,Y3.last,Y3.kk⟩,he0,by omega,by omega⟩,by dsimp only;omega⟩
end Go.Eng.YtblghgacokoklaaDoor
end
section
namespace Go.Eng.YtblghgacokoklaaDoor
open Go.ChangeShapes Go.WideShapes Go.RowKit
def wh(W:World):Hp:=λb=>W.heap[b]?
theorem own_wh(W:World):Own (λ_=>none) (wh W) W:=⟨λ_ _ h=>h,λ_ _ h=>(by cases h),λ_=>.inr rfl⟩
theorem below_of{W W':World}{h':Hp}(hw:Wr W W')(ho:Own (λ_=>none) h' W')(K:Keep (wh W) h'):Below W.heap.size W W':=by
 refine⟨hw.os,hw.tape,hw.output,hw.size,λk hk=>?_⟩
 have h1:wh W k=some W.heap[k]:=by unfold wh;exact Array.getElem?_eq_getElem hk
 have h2:=ho.hh k _ (K k _ h1)
 rw[h2,Array.getElem?_eq_getElem hk]
theorem cell_at{W:World}{b o:Nat}{v:Value}(h:W.cell? ⟨b,o,none⟩=some v):(wh W).at b o=some v:=by
 unfold World.cell? at h
 unfold Hp.at wh
 cases hb:W.heap[b]? with
 |none=>rw[hb] at h;cases h
 |some x=>
  rw[hb] at h
  cases x with
  |cells c t f=>simpa using h
  |_=>cases h
theorem spot_none{W:World}{a:Addr}{v:Value}(h:W.cell? (a.add 0)=some v):a=⟨a.block,a.off,none⟩:=by
 obtain⟨b,o,p⟩:=a
 cases p with
 |none=>rfl
 |some p=>
  exfalso
  unfold World.cell? at h
  simp only[Addr.add,if_pos] at h
  cases hb:W.heap[b]? with
  |none=>rw[hb] at h;cases h
  |some x=>
   rw[hb] at h
   cases x with
   |cells c t f=>simp at h
   |_=>cases h
theorem row_of_cells{W:World}{a:Addr}{n:Nat}{vs:List Value}(hl:vs.length=n)(h:∀ i,(hi:i<n)->W.cell? (a.add i)=vs[i]?):(wh W).row (some a) n vs:=by
 refine⟨hl,?_⟩
 by_cases h0:n=0
 ·exact .inl h0
 right
 have hz:=h 0 (by omega)
 rw[getElem?_eq_getElem (by omega)] at hz
 have ha:=spot_none hz
 refine⟨a.block,a.off,by rw[<- ha],λj hj=>?_⟩
 have hj':=h j hj
 rw[getElem?_eq_getElem (by omega)] at hj' ⊢
 rw[ha,addr_add] at hj'
 exact cell_at hj'
section
variable{H:Type}{enc:TypeId×Value->H}{P:Program}{W:World}{base:Nat}{held:Bool}
end
end Go.Eng.YtblghgacokoklaaDoor
end
section
namespace Go.Eng.YtblghgacokoklaaDoor
open Go.ChangeShapes Go.WideShapes Go.RowKit Go.Proofs
theorem add_add'(a:Addr)(m n:Nat):(a.add m).add n=a.add (m+n):=by
 unfold Addr.add
 by_cases h1:m=0
 ·subst h1;simp
 ·by_cases h2:n=0
  ·subst h2;simp[h1]
  ·simp[h1,h2,Nat.add_assoc]
theorem wf_u64{n:Int}(h:(Lit.int .u64 n).wf=true):okU n:=by
 simp[Lit.wf,IntKind.min,IntKind.max,IntKind.signed,IntKind.bits] at h
 exact⟨by omega,by omega⟩
theorem wf_i64{n:Int}(h:(Lit.int .i64 n).wf=true):iI n:=by
 simp[Lit.wf,IntKind.min,IntKind.max,IntKind.signed,IntKind.bits] at h
 exact⟨by omega,by omega⟩
section
variable{H:Type}{enc:TypeId×Value->H}{P:Program}{W:World}{base:Nat}{held:Bool}
theorem slice_rows{α:Type}{t e:TypeId}{fuel:Nat}{s:Sl}{y:DataW H×List MemPlace}(sz:Nat)(f:α->List Value)(ok:α->Prop)(hsz:0<sz)(ht:P.underlying t=some (.slice e))(hc:P.cellsOf e=sz)(hf:∀ x,(f x).length=sz)
  (each:∀ (fuel:Nat) (cs:List Value) (z:DataW H×List MemPlace),cs.length=sz->DataW.trod enc P W base (λ_=>true) held fuel e cs=some z->∃ a,cs=f a/\ok a)
  (h:DataW.trod enc P W base (λ_=>true) held fuel t [.slice s.a s.n s.c]=some y):∃ l:List α,(wh W).row s.a (s.n*sz) (l.flatMap f)/\s.n<=s.c/\s.c<=maxLen/\l.length=s.n/\∀ a∈l,ok a:=by
 rcases DataW.trod_slice ht h with⟨hcs,_⟩|⟨x,len,cap,elems,rest,n,_,hcs,_,hb,hl,hm,hlen,hel,_,_⟩
 ·simp only[List.cons.injEq,Value.slice.injEq,and_true] at hcs
  obtain⟨h1,h2,h3⟩:=hcs
  exact⟨[],by rw[h1,h2];exact⟨by simp,.inl (by simp)⟩,by omega,by omega,by rw[h2];rfl,λa ha=>(by cases ha)⟩
 ·simp only[List.cons.injEq,Value.slice.injEq,and_true] at hcs
  obtain⟨h1,h2,h3⟩:=hcs
  have ea:∀ i:Fin len,∃ a:α,(∀ j,j<sz->W.cell? (x.add (i.1*sz+j))=(f a)[j]?)/\ok a:=by
   rintro⟨i,hi⟩
   have q:=hel i hi
   rw[hc,getElem?_eq_getElem (by omega),Option.bind_eq_some_iff] at q
   obtain⟨cs',hcs',hy⟩:=q
   obtain⟨_,hcl,hcell⟩:=World.cells?_some hcs'
   obtain⟨a,rfl,hok⟩:=each _ _ _ hcl hy
   refine⟨a,λj hj=>?_,hok⟩
   rw[<- hcell j hj,add_add']
  obtain⟨g,hg⟩:=Classical.axiomOfChoice ea
  refine⟨List.ofFn g,?_,by omega,by omega,by rw[List.length_ofFn];omega,λa ha=>?_⟩
  ·rw[h1,h2]
   have hll:((List.ofFn g).flatMap f).length=len*sz:=by
    have:∀ l:List α,(l.flatMap f).length=l.length*sz:=λl=>flat_length f sz hf l
    rw[this,List.length_ofFn]
   refine row_of_cells hll λk hk=>?_
   have hi:k / sz<len:=Nat.div_lt_of_lt_mul (by rw[Nat.mul_comm];exact hk)
   have hj:k % sz<sz:=Nat.mod_lt _ hsz
   have hkk:k=k / sz*sz+k % sz:=by rw[Nat.mul_comm];exact(Nat.div_add_mod k sz).symm
   have q:=(hg ⟨k / sz,hi⟩).1 (k % sz) hj
   have q2:=flat_get f sz hf (List.ofFn g) (k / sz) (k % sz) (by rw[List.length_ofFn];exact hi) hj
   simp only at q
   rw[<- hkk] at q q2
   rw[q,q2]
   simp
  ·obtain⟨i,rfl⟩:=(List.mem_ofFn ..).1 ha
   exact(hg i).2
end
section
variable{H:Type}{enc:TypeId×Value->H}{W:World}{base:Nat}{held:Bool}
theorem c3:Tryd.prog.cellsOf 3=1:=by kernel_rfl
theorem c55:Tryd.prog.cellsOf 22=1:=by kernel_rfl
theorem c9:Tryd.prog.cellsOf 9=1:=by kernel_rfl
theorem c85:Tryd.prog.cellsOf 106=6:=by kernel_rfl
theorem c87:Tryd.prog.cellsOf 108=7:=by kernel_rfl
theorem c89:Tryd.prog.cellsOf 104=2:=by kernel_rfl
theorem c60:Tryd.prog.cellsOf 65=6:=by kernel_rfl
theorem c56:Tryd.prog.cellsOf 61=1:=by kernel_rfl
theorem c57:Tryd.prog.cellsOf 62=1:=by kernel_rfl
theorem c58:Tryd.prog.cellsOf 63=1:=by kernel_rfl
theorem int_cell{fuel:Nat}{c:Value}{x:Option (DataW H×List MemPlace)}(h:DataW.trod enc Tryd.prog W base (λ_=>true) held fuel 3 [c]=x)(hx:x.isSome):∃ n,c=.int .i64 n/\iI n:=by
 obtain⟨y,rfl⟩:=Option.isSome_iff_exists.1 hx
 obtain⟨n,hn,_,hw⟩:=DataW.trod_int Tryd.underlying3 h
 exact⟨n,by simpa using hn,wf_i64 hw⟩
theorem num_cell{fuel:Nat}{c:Value}{x:Option (DataW H×List MemPlace)}(h:DataW.trod enc Tryd.prog W base (λ_=>true) held fuel 22 [c]=x)(hx:x.isSome):∃ n,c=.int .u64 n/\okU n:=by
 obtain⟨y,rfl⟩:=Option.isSome_iff_exists.1 hx
 obtain⟨n,hn,_,hw⟩:=DataW.trod_int Tryd.underlying22 h
 exact⟨n,by simpa using hn,wf_u64 hw⟩
theorem str_cell {fuel : Nat} {c : Value} {x : Option (DataW H × List MemPlace)} (h : DataW.trod enc Tryd.prog W base (fun _ => true) held fuel 9 [c] = x) (hx : x.isSome) : ∃ s : ByteArray, c = .string s ∧ s.size ≤ 9223372036854775807 := by
  obtain ⟨y, rfl⟩ := Option.isSome_iff_exists.1 hx
  obtain ⟨s, hn, _, hw⟩ := DataW.trod_string Tryd.underlying9 h
  exact ⟨s, by simpa using hn, by have : maxLen = 9223372036854775807 := by decide
                                  omega⟩
theorem some_at{xs:List (DataW H×List MemPlace)}{n i:Nat}(h:xs.length=n)(hi:i<n):(xs[i]?).isSome:=by
 rw[getElem?_eq_getElem (by omega)];rfl
theorem place_each(fuel:Nat)(cs:List Value)(z:DataW H×List MemPlace)(hl:cs.length=2)(h:DataW.trod enc Tryd.prog W base (λ_=>true) held fuel 104 cs=some z):∃ p:Place,cs=p.cells/\iI p.lv/\okU p.num:=by
 obtain⟨xs,n,_,_,_,hxs,hf⟩:=DataW.trod_struct Tryd.underlying104 h
 rcases cs with _|⟨a0,_|⟨a1,_|⟨a2,cs⟩⟩⟩
 ·cases hl
 ·cases hl
 ·have f0:DataW.trod enc Tryd.prog W base (λ_=>true) held n 3 (([a0,a1].drop 0).take (Tryd.prog.cellsOf 3))=xs[0]?:=hf 0 _ rfl
  rw[c3] at f0
  have f1:DataW.trod enc Tryd.prog W base (λ_=>true) held n 22 (([a0,a1].drop 1).take (Tryd.prog.cellsOf 22))=xs[1]?:=hf 1 _ rfl
  rw[c55] at f1
  obtain⟨n0,rfl,g0⟩:=int_cell (c:=a0) f0 (some_at hxs (by decide))
  obtain⟨n1,rfl,g1⟩:=num_cell (c:=a1) f1 (some_at hxs (by decide))
  exact⟨⟨n0,n1⟩,rfl,g0,g1⟩
 ·simp at hl
theorem placed_each(fuel:Nat)(cs:List Value)(z:DataW H×List MemPlace)(hl:cs.length=7)(h:DataW.trod enc Tryd.prog W base (λ_=>true) held fuel 108 cs=some z):∃ p:Placed,cs=p.cells/\iI p.lv/\okU p.num/\iI p.weight/\iI p.bytes/\iI p.entries/\p.least.size<=9223372036854775807/\p.greatest.size<=9223372036854775807:=by
 obtain⟨xs,n,_,_,_,hxs,hf⟩:=DataW.trod_struct Tryd.underlying108 h
 rcases cs with _|⟨a0,_|⟨a1,_|⟨a2,_|⟨a3,_|⟨a4,_|⟨a5,_|⟨a6,_|⟨a7,cs⟩⟩⟩⟩⟩⟩⟩⟩
 case cons.cons.cons.cons.cons.cons.cons.nil=>
  have f0:DataW.trod enc Tryd.prog W base (λ_=>true) held n 3 (([a0,a1,a2,a3,a4,a5,a6].drop 0).take (Tryd.prog.cellsOf 3))=xs[0]?:=hf 0 _ rfl
  rw[c3] at f0
  have f1:DataW.trod enc Tryd.prog W base (λ_=>true) held n 106 (([a0,a1,a2,a3,a4,a5,a6].drop 1).take (Tryd.prog.cellsOf 106))=xs[1]?:=hf 1 _ rfl
  rw[c85] at f1
  obtain⟨n0,rfl,g0⟩:=int_cell (c:=a0) f0 (some_at hxs (by decide))
  obtain⟨y,hy⟩:=Option.isSome_iff_exists.1 (some_at hxs (i:=1) (by decide))
  rw[hy] at f1
  have f1:DataW.trod enc Tryd.prog W base (λ_=>true) held n 106 [a1,a2,a3,a4,a5,a6]=some y:=f1
  obtain⟨ys,m,_,_,_,hys,hg⟩:=DataW.trod_struct Tryd.underlying106 f1
  have e0:DataW.trod enc Tryd.prog W base (λ_=>true) held m 22 (([a1,a2,a3,a4,a5,a6].drop 0).take (Tryd.prog.cellsOf 22))=ys[0]?:=hg 0 _ rfl
  rw[c55] at e0
  have e1:DataW.trod enc Tryd.prog W base (λ_=>true) held m 3 (([a1,a2,a3,a4,a5,a6].drop 1).take (Tryd.prog.cellsOf 3))=ys[1]?:=hg 1 _ rfl
  rw[c3] at e1
  have e2:DataW.trod enc Tryd.prog W base (λ_=>true) held m 3 (([a1,a2,a3,a4,a5,a6].drop 2).take (Tryd.prog.cellsOf 3))=ys[2]?:=hg 2 _ rfl
  rw[c3] at e2
  have e3:DataW.trod enc Tryd.prog W base (λ_=>true) held m 3 (([a1,a2,a3,a4,a5,a6].drop 3).take (Tryd.prog.cellsOf 3))=ys[3]?:=hg 3 _ rfl
  rw[c3] at e3
  have e4:DataW.trod enc Tryd.prog W base (λ_=>true) held m 9 (([a1,a2,a3,a4,a5,a6].drop 4).take (Tryd.prog.cellsOf 9))=ys[4]?:=hg 4 _ rfl
  rw[c9] at e4
  have e5:DataW.trod enc Tryd.prog W base (λ_=>true) held m 9 (([a1,a2,a3,a4,a5,a6].drop 5).take (Tryd.prog.cellsOf 9))=ys[5]?:=hg 5 _ rfl
  rw[c9] at e5
  obtain⟨n1,rfl,g1⟩:=num_cell (c:=a1) e0 (some_at hys (by decide))
  obtain⟨n2,rfl,g2⟩:=int_cell (c:=a2) e1 (some_at hys (by decide))
  obtain⟨n3,rfl,g3⟩:=int_cell (c:=a3) e2 (some_at hys (by decide))
  obtain⟨n4,rfl,g4⟩:=int_cell (c:=a4) e3 (some_at hys (by decide))
  obtain⟨s5,rfl,g5⟩:=str_cell (c:=a5) e4 (some_at hys (by decide))
  obtain⟨s6,rfl,g6⟩:=str_cell (c:=a6) e5 (some_at hys (by decide))
  exact⟨⟨n0,n1,n2,n3,n4,s5,s6⟩,rfl,g0,g1,g2,g3,g4,g5,g6⟩
 all_goals simp at hl
theorem text_each(fuel:Nat)(cs:List Value)(z:DataW H×List MemPlace)(hl:cs.length=1)(h:DataW.trod enc Tryd.prog W base (λ_=>true) held fuel 9 cs=some z):∃ s:ByteArray,cs=[Value.string s]/\s.size<=9223372036854775807:=by
 rcases cs with _|⟨a0,_|⟨a1,cs⟩⟩
 ·cases hl
 ·obtain⟨s,rfl,hs⟩:=str_cell h rfl
  exact⟨s,rfl,hs⟩
 ·simp at hl
theorem slice_cell{t e:TypeId}{fuel:Nat}{c:Value}{x:Option (DataW H×List MemPlace)}(ht:Tryd.prog.underlying t=some (.slice e))(h:DataW.trod enc Tryd.prog W base (λ_=>true) held fuel t [c]=x)(hx:x.isSome):∃ s:Sl,c=.slice s.a s.n s.c/\∃ y,DataW.trod enc Tryd.prog W base (λ_=>true) held fuel t [.slice s.a s.n s.c]=some y:=by
 obtain⟨y,rfl⟩:=Option.isSome_iff_exists.1 hx
 rcases DataW.trod_slice ht h with⟨hcs,_⟩|⟨a,len,cap,_,_,_,_,hcs,_,_,_,_,_,_,_,_⟩
 ·simp only[List.cons.injEq,and_true] at hcs
  subst hcs
  exact⟨⟨none,0,0⟩,rfl,y,h⟩
 ·simp only[List.cons.injEq,and_true] at hcs
  subst hcs
  exact⟨⟨some a,len,cap⟩,rfl,y,h⟩
theorem flat_one:∀ p:List ByteArray,p.flatMap (λs:ByteArray=>[Value.string s])=ptrV p
 |[]=>rfl
 |a::l=>by
  rw[List.flatMap_cons,flat_one l]
  rfl
theorem edit_each(fuel:Nat)(cs:List Value)(z:DataW H×List MemPlace)(hl:cs.length=6)(h:DataW.trod enc Tryd.prog W base (λ_=>true) held fuel 65 cs=some z) :
  ∃ x:EdS,cs=x.cells/\EdAt (wh W) x.e x.a x.b x.c/\Raw x.e/\x.e.out.length<=9223372036854775807/\x.e.inn.length<=9223372036854775807/\x.e.ptr.length<=9223372036854775807:=by
 obtain⟨xs,n,_,_,_,hxs,hf⟩:=DataW.trod_struct Tryd.underlying65 h
 rcases cs with _|⟨a0,_|⟨a1,_|⟨a2,_|⟨a3,_|⟨a4,_|⟨a5,_|⟨a6,cs⟩⟩⟩⟩⟩⟩⟩
 case cons.cons.cons.cons.cons.cons.nil=>
  have f0:DataW.trod enc Tryd.prog W base (λ_=>true) held n 22 (([a0,a1,a2,a3,a4,a5].drop 0).take (Tryd.prog.cellsOf 22))=xs[0]?:=hf 0 _ rfl
  rw[c55] at f0
  have f1:DataW.trod enc Tryd.prog W base (λ_=>true) held n 22 (([a0,a1,a2,a3,a4,a5].drop 1).take (Tryd.prog.cellsOf 22))=xs[1]?:=hf 1 _ rfl
  rw[c55] at f1
  have f2:DataW.trod enc Tryd.prog W base (λ_=>true) held n 22 (([a0,a1,a2,a3,a4,a5].drop 2).take (Tryd.prog.cellsOf 22))=xs[2]?:=hf 2 _ rfl
  rw[c55] at f2
  have f3:DataW.trod enc Tryd.prog W base (λ_=>true) held n 61 (([a0,a1,a2,a3,a4,a5].drop 3).take (Tryd.prog.cellsOf 61))=xs[3]?:=hf 3 _ rfl
  rw[c56] at f3
  have f4:DataW.trod enc Tryd.prog W base (λ_=>true) held n 62 (([a0,a1,a2,a3,a4,a5].drop 4).take (Tryd.prog.cellsOf 62))=xs[4]?:=hf 4 _ rfl
  rw[c57] at f4
  have f5:DataW.trod enc Tryd.prog W base (λ_=>true) held n 63 (([a0,a1,a2,a3,a4,a5].drop 5).take (Tryd.prog.cellsOf 63))=xs[5]?:=hf 5 _ rfl
  rw[c58] at f5
  obtain⟨n0,rfl,g0⟩:=num_cell (c:=a0) f0 (some_at hxs (by decide))
  obtain⟨n1,rfl,g1⟩:=num_cell (c:=a1) f1 (some_at hxs (by decide))
  obtain⟨n2,rfl,g2⟩:=num_cell (c:=a2) f2 (some_at hxs (by decide))
  obtain⟨s3,rfl,y3,h3⟩:=slice_cell (c:=a3) Tryd.underlying61 f3 (some_at hxs (by decide))
  obtain⟨s4,rfl,y4,h4⟩:=slice_cell (c:=a4) Tryd.underlying62 f4 (some_at hxs (by decide))
  obtain⟨s5,rfl,y5,h5⟩:=slice_cell (c:=a5) Tryd.underlying63 f5 (some_at hxs (by decide))
  obtain⟨o,r3,_,m3,l3,k3⟩:=slice_rows 2 Place.cells (λp=>iI p.lv/\okU p.num) (by decide) Tryd.underlying61 c89 (λ_=>rfl) place_each h3
  obtain⟨i,r4,_,m4,l4,k4⟩:=slice_rows 7 Placed.cells (λp=>iI p.lv/\okU p.num/\iI p.weight/\iI p.bytes/\iI p.entries/\p.least.size<=9223372036854775807/\p.greatest.size<=9223372036854775807) (by decide) Tryd.underlying62 c87 (λ_=>rfl) placed_each h4
  obtain⟨p,r5,_,m5,l5,k5⟩:=slice_rows 1 (λs:ByteArray=>[Value.string s]) (λs=>s.size<=9223372036854775807) (by decide) Tryd.underlying63 c9 (λ_=>rfl) text_each h5
  have hmax:maxLen=9223372036854775807:=by decide
  have e5:p.flatMap (λs:ByteArray=>[Value.string s])=ptrV p:=flat_one p
  rw[e5,Nat.mul_one] at r5
  exact⟨⟨⟨n0,n1,n2,o,i,p⟩,s3,s4,s5⟩,rfl,⟨r3,r4,r5⟩,⟨g0,g1,g2,k3,k4,k5⟩,by show o.length<=_;omega,by show i.length<=_;omega,by show p.length<=_;omega⟩
 all_goals simp at hl
theorem open_edits{a:Option Addr}{len cap:Nat}{d:DataW H}{ps:List MemPlace}(h:DataW.Trod enc Tryd.prog W base (λ_=>true) held 55 (.slice a len cap) d ps):∃ L,Args (wh W) ⟨a,len,cap⟩ L:=by
 obtain⟨fuel,hf0⟩:=h
 have hf1:DataW.trod enc Tryd.prog W base (λ_=>true) held fuel 55 [.slice (⟨a,len,cap⟩:Sl).a (⟨a,len,cap⟩:Sl).n (⟨a,len,cap⟩:Sl).c]=some (d,ps):=hf0
 obtain⟨L,r,_,_,_,k⟩:=slice_rows 6 EdS.cells (λx=>EdAt (wh W) x.e x.a x.b x.c/\Raw x.e/\x.e.out.length<=9223372036854775807/\x.e.inn.length<=9223372036854775807/\x.e.ptr.length<=9223372036854775807) (by decide) Tryd.underlying55 c60 (λ_=>rfl) edit_each hf1
 exact⟨L,r,λx hx=>(k x hx).1,λx hx=>(k x hx).2.1,λx hx=>(k x hx).2.2⟩
end
end Go.Eng.YtblghgacokoklaaDoor
end
section
namespace Go.Proofs.YtblghgacokoklaaDoor.manifestKeeps
open Go.ChangeShapes Go.WideShapes Go.ChangeAt Go.RowKit Go.Eng Go.Eng.YtblghgacokoklaaDoor
theorem own:ownKnob Tryd.prog.godebug=none:=by kernel_rfl
theorem laidOut:laidOutB Tryd.prog=true:=by kernel_rfl
theorem gNib : Tryd.prog.globalNamed "scree/codec.nibbles" = some 0 := by kernel_rfl
theorem tNib:(Tryd.prog.globals[0]?).map (·.type)=some 198:=by kernel_rfl
theorem cNib:Tryd.prog.cellsOf 198=16:=by kernel_rfl
theorem c32:Tryd.prog.cellsOf 133=1:=by kernel_rfl
theorem datum:Rows.laid_scree_codec_nibbles (H:=Unit)=.agg (nibL.map λn:Nat=>.lit (.int .u32 (n:Int))):=rfl
theorem tab_of_laid {W : World} (h : laidMetH Tryd.prog [("scree/codec.nibbles", Rows.laid_scree_codec_nibbles)] W) : TabC (wh W) := by
 rw[MakeChecks.laidMetH_plain _ _ _ (by kernel_rfl)] at h
 obtain⟨ps,⟨g0,t0,cs0,f0,p0,q0,hg0,ht0,hv0,hd0,_,_⟩,_⟩:=h
 obtain rfl:=Option.some.inj (gNib.symm.trans hg0)
 obtain rfl:=Option.some.inj (tNib.symm.trans ht0)
 obtain⟨xs,m,rfl,hx,hlen,hn,hel⟩:=DataW.trod_array Tryd.underlying198 hd0
 rw[cNib] at hlen
 rw[datum] at hx
 simp only[Prod.mk.injEq,DataW.agg.injEq] at hx
 intro i hi
 have h1:=hel i hi
 rw[c32,Nat.mul_one,getElem?_eq_getElem (by omega)] at h1
 have hil:i<cs0.toList.length:=by omega
 have e1:(cs0.toList.drop i).take 1=[cs0.toList[i]]:=by
  rw[List.drop_eq_getElem_cons hil];rfl
 rw[e1] at h1
 obtain⟨n,e2,e3,_⟩:=DataW.trod_int Tryd.underlying133 h1
 have e4:(xs.map (·.1))[i]?=some (.lit (.int .u32 ((nib i:Nat):Int))):=by
  rw[<- hx.1,getElem?_map,nib_tab i hi];rfl
 rw[getElem?_map,getElem?_eq_getElem (by omega)] at e4
 simp only[Option.map_some,Option.some.injEq] at e4
 rw[e3] at e4
 simp only[DataW.lit.injEq,Lit.int.injEq,true_and] at e4
 subst e4
 refine cell_at ?_
 rw[World.var?_cell hg0 hv0 i,<- Array.getElem?_toList,getElem?_eq_getElem hil]
 simp only[List.cons.injEq,and_true] at e2
 rw[e2]
theorem walk{W:World}{n n1 n2 n3 n4 n5:Int}{l l1:Sl}{L M:List EdS}(T:TabC (wh W))(A:Args (wh W) l L)(A':Args (wh W) l1 M)(hn:iI n)(hn5:iI n5)(o1:okU n1)(o2:okU n2)(o3:okU n3) :
  Calls Tryd.prog 5 #[.int .i64 n,.slice l.a l.n l.c,.slice l1.a l1.n l1.c,.agg ⟨[.int .u64 n1,.int .u64 n2,.int .u64 n3,.int .u64 n4]⟩,.int .i64 n5] W λe W'=>e=.returned (.bool true)/\Below W.heap.size W W':=by
 have hT:F5.T n l l1 n1 n2 n3 n4 n5 (wh W) (λv h'=>v=.bool true/\Keep (wh W) h'):=keeps_law T A A' hn hn5 o1 o2 o3 λh' K=>⟨rfl,K⟩
 have hV:F5.V [.int .i64 n,.slice l.a l.n l.c,.slice l1.a l1.n l1.c,.agg ⟨[.int .u64 n1,.int .u64 n2,.int .u64 n3,.int .u64 n4]⟩,.int .i64 n5] (wh W) (λv h'=>v=.bool true/\Keep (wh W) h'):=hT
 refine(F5.ok.2 _ (wh W) _ hV (λ_=>none) W (own_wh W)).mono λe W' ⟨v,h',he,ho,hw,hv,K⟩=>?_
 subst hv
 exact⟨he,below_of hw ho K⟩
theorem c72:Tryd.prog.cellsOf 72=4:=by kernel_rfl
section
variable{H:Type}{enc:TypeId×Value->H}{W:World}{base:Nat}{held:Bool}
theorem roots_each(fuel:Nat)(cs:List Value)(z:DataW H×List MemPlace)(hl:cs.length=4)(h:DataW.trod enc Tryd.prog W base (λ_=>true) held fuel 72 cs=some z):∃ n0 n1 n2 n3:Int,cs=[.int .u64 n0,.int .u64 n1,.int .u64 n2,.int .u64 n3]/\okU n0/\okU n1/\okU n2:=by
 obtain⟨xs,n,_,_,_,hxs,hf⟩:=DataW.trod_struct Tryd.underlying72 h
 rcases cs with _|⟨a0,_|⟨a1,_|⟨a2,_|⟨a3,_|⟨a4,cs⟩⟩⟩⟩⟩
 case cons.cons.cons.cons.nil=>
  have f0:DataW.trod enc Tryd.prog W base (λ_=>true) held n 22 (([a0,a1,a2,a3].drop 0).take (Tryd.prog.cellsOf 22))=xs[0]?:=hf 0 _ rfl
  have f1:DataW.trod enc Tryd.prog W base (λ_=>true) held n 22 (([a0,a1,a2,a3].drop 1).take (Tryd.prog.cellsOf 22))=xs[1]?:=hf 1 _ rfl
  have f2:DataW.trod enc Tryd.prog W base (λ_=>true) held n 22 (([a0,a1,a2,a3].drop 2).take (Tryd.prog.cellsOf 22))=xs[2]?:=hf 2 _ rfl
  have f3:DataW.trod enc Tryd.prog W base (λ_=>true) held n 22 (([a0,a1,a2,a3].drop 3).take (Tryd.prog.cellsOf 22))=xs[3]?:=hf 3 _ rfl
  rw[c55] at f0 f1 f2 f3
  obtain⟨n0,rfl,g0⟩:=num_cell (c:=a0) f0 (some_at hxs (by decide))
  obtain⟨n1,rfl,g1⟩:=num_cell (c:=a1) f1 (some_at hxs (by decide))
  obtain⟨n2,rfl,g2⟩:=num_cell (c:=a2) f2 (some_at hxs (by decide))
  obtain⟨n3,rfl,_⟩:=num_cell (c:=a3) f3 (some_at hxs (by decide))
  exact⟨n0,n1,n2,n3,rfl,g0,g1,g2⟩
 all_goals simp at hl
end
theorem contract(H:Type)(enc:TypeId×Value->H)(W:World)(base:Nat)(args:Array Value)(ds gs:List (DataW H))(before:List MemPlace)
  (hval:∀ (j:Nat) t v,Tryd.f5.params[j]?=some t->args[j]?=some v->Value.okWide Tryd.prog W .any base t v)
  (hW : DataW.Whole enc Tryd.prog Tryd.f5.params.toList Rows.manifestKeepsSpec.vars false W args.toList ds gs before) (hL : laidMetH Tryd.prog [("scree/codec.nibbles", Rows.laid_scree_codec_nibbles)] W) :
  Calls Tryd.prog 5 args W λe W'=>∃ v,e=.returned v/\Rows.manifestKeepsSpec.post enc Tryd.prog Tryd.f5 false true false false W args v W':=by
 have hW':=hW
 obtain⟨p,q,hA0,hV,rfl,hfz,hnd⟩:=hW
 have hA:DataW.TrodAll enc Tryd.prog W 0 (λ_=>true) true Tryd.f5.params.toList args.toList ds p:=hA0
 rw[Tryd.params5] at hA hval
 obtain⟨v0,vs0,d0,ds0,p0,q0,hargs,rfl,rfl,h0,r0⟩:=trodAll_cons hA
 obtain⟨v1,vs1,d1,ds1,p1,q1,rfl,rfl,rfl,h1,r1⟩:=trodAll_cons r0
 obtain⟨v2,vs2,d2,ds2,p2,q2,rfl,rfl,rfl,h2,r2⟩:=trodAll_cons r1
 obtain⟨v3,vs3,d3,ds3,p3,q3,rfl,rfl,rfl,h3,r3⟩:=trodAll_cons r2
 obtain⟨v4,vs4,d4,ds4,p4,q4,rfl,rfl,rfl,h4,r4⟩:=trodAll_cons r3
 obtain⟨rfl,rfl,rfl⟩:=trodAll_nil r4
 obtain rfl:args=#[v0,v1,v2,v3,v4]:=by cases args;simp_all
 obtain⟨rfl,rfl⟩:=trodVars_none hV
 obtain⟨a0,rfl,rfl,rfl,w0⟩:=open_int Tryd.underlying3 (hval 0 3 v0 rfl rfl) h0
 obtain⟨a1,len1,cap1,rfl⟩:=okWide_slice Tryd.underlying55 (hval 1 55 v1 rfl rfl)
 obtain⟨a2,len2,cap2,rfl⟩:=okWide_slice Tryd.underlying55 (hval 2 55 v2 rfl rfl)
 obtain⟨cs,rfl,hcs⟩:=okWide_struct Tryd.underlying72 (hval 3 72 v3 rfl rfl)
 obtain⟨a4,rfl,rfl,rfl,w4⟩:=open_int Tryd.underlying3 (hval 4 3 v4 rfl rfl) h4
 have k1:=h1
 have k2:=h2
 have k3:=h3
 have lt1:∀ x∈p1,x.block<W.heap.size:=by obtain⟨m,hm⟩:=k1;exact DataW.trod_lt m _ _ _ hm
 have lt2:∀ x∈p2,x.block<W.heap.size:=by obtain⟨m,hm⟩:=k2;exact DataW.trod_lt m _ _ _ hm
 have lt3:∀ x∈p3,x.block<W.heap.size:=by obtain⟨m,hm⟩:=k3;exact DataW.trod_lt m _ _ _ hm
 obtain⟨L,A⟩:=open_edits h1
 obtain⟨M,A'⟩:=open_edits h2
 obtain⟨n0,n1,n2,n3,hcs2,o1,o2,o3⟩:∃ n0 n1 n2 n3:Int,cs.toList=[.int .u64 n0,.int .u64 n1,.int .u64 n2,.int .u64 n3]/\okU n0/\okU n1/\okU n2:=by
  obtain⟨m,hm⟩:=h3
  exact roots_each m _ _ (by rw[Array.length_toList,hcs,c72]) hm
 obtain rfl:cs=⟨[.int .u64 n0,.int .u64 n1,.int .u64 n2,.int .u64 n3]⟩:=Array.ext' hcs2
 clear hA0
 refine(walk (tab_of_laid hL) A A' (wf_i64 w0) (wf_i64 w4) o1 o2 o3).mono λe W' ⟨he,bel⟩=>?_
 subst he
 exact⟨_,rfl,_,_,_,[],_,[],hW',trodAll_mk1 (shut_bool Tryd.underlying4 _),(trodAll_cons_mk (shut_int Tryd.underlying3 w0) (trodAll_cons_mk (Below.trod laidOut (by kernel_rfl) (of_decide_eq_true (by kernel_rfl)) k1 bel lt1) (trodAll_cons_mk (Below.trod laidOut (by kernel_rfl) (of_decide_eq_true (by kernel_rfl)) k2 bel lt2) (trodAll_cons_mk (Below.trod laidOut (by kernel_rfl) (of_decide_eq_true (by kernel_rfl)) k3 bel lt3) (trodAll_cons_mk (shut_int Tryd.underlying3 w4) trodAll_mk0))))),rfl,bel.frame _,λh=>by cases h⟩
abbrev wit:Array Value:=#[.int .i64 0,.slice none 0 0,.slice none 0 0,.agg #[.int .u64 0,.int .u64 0,.int .u64 0,.int .u64 0],.int .i64 0]
theorem laid_met (os : Os) : laidMet Tryd.prog [("scree/codec.nibbles", Rows.laid_scree_codec_nibbles)] ((World.doorLaid Tryd.prog 14 os).forCall (fun _ _ => 0) ⟨#[], wit, []⟩).memory :=
 laidMet_of_run' 8 (by kernel_rfl) (by kernel_rfl)
theorem reads(os:Os){H:Type}(enc:TypeId×Value->H):∃ places,DataW.whole enc Tryd.prog ((World.doorLaid Tryd.prog 14 os).forCall (λ_ _=>0) ⟨#[],wit,[]⟩).memory Tryd.f5.params.toList Rows.manifestKeepsSpec.vars false wit.toList 8=some ([.lit (.int .i64 0),.nil,.nil,.agg [.lit (.int .u64 0),.lit (.int .u64 0),.lit (.int .u64 0),.lit (.int .u64 0)],.lit (.int .i64 0)],[],places):=
 ⟨[],by kernel_rfl⟩
theorem liftedUpto(os:Os)(started:os.Started)(H:Type)(enc:TypeId×Value->H)(F:Stop.Interp) :
  ReturnsInHanded {} Tryd.checked os 5 .any ((Rows.OpenSpec.upto Rows.manifestKeepsSpec).preRow enc Tryd.prog Tryd.f5 Rows.manifestKeepsUptoRow.domain false Rows.manifestKeepsUptoRow.laid) (((Rows.OpenSpec.upto Rows.manifestKeepsSpec).at F).post enc Tryd.prog Tryd.f5 false true false false):=by
 obtain⟨places,hx⟩:=reads os enc
 refine returnsInHanded_of_row (C:=Tryd.checked) (s:=Rows.OpenSpec.upto Rows.manifestKeepsSpec) own started (by kernel_rfl) Tryd.func5
  (witness_row_at (enc:=enc) (C:=Tryd.checked) false (World.doorLaid Tryd.prog 14 os) wit rfl (by kernel_rfl) (by kernel_rfl) (by kernel_rfl)
   (OpenSpec.preRow_of_cond 8 hx (by kernel_rfl) (λk hk=>by cases hk;kernel_rfl) (by kernel_rfl) (laid_met os))) ?_
 intro W base args ds gs before hval hW _ _ _ hL _ _
 exact contract H enc W base args ds gs before hval hW hL
theorem saidUpto:Rows.ManifestKeepsUptoSaid:=
 OpenClaim.holds_of_cond 5 Tryd.f5 rfl rfl rfl rfl rfl rfl rfl ⟨rfl,rfl,rfl,rfl,rfl⟩ rfl rfl rfl rfl rfl (by kernel_rfl) Tryd.func5 (by kernel_rfl)
  (of_decide_eq_true (by kernel_rfl)) (by unfold Func.isWrapper;first|(rw[if_pos (by decide +kernel)];kernel_rfl)|(rw[if_neg (by decide +kernel)];exact⟨rfl,rfl⟩))
  (λos started H enc _ F=>by rw[OpenClaim.pre_eq_preRow];exact liftedUpto os started H enc F)
theorem plain (f : FuncId) (fn : Func) (hf : Tryd.pinned.checked.prog.funcNamed "scree/screelaw14.ManifestKeeps" = some f) (hfn : Tryd.pinned.checked.prog.funcs[f]? = some fn) :
  false=Tryd.pinned.checked.prog.looks []/\∀ (j:Nat) t,fn.params[j]?=some t->Tryd.pinned.checked.prog.wantsStandIn t=false:=by
 obtain rfl : f = 5 := Option.some.inj ((show Tryd.prog.funcNamed "scree/screelaw14.ManifestKeeps" = some 5 by kernel_rfl).symm.trans hf) |>.symm
 obtain rfl:fn=Tryd.f5:=(Option.some.inj (Tryd.func5.symm.trans hfn)).symm
 refine⟨by kernel_rfl,λj t ht=>?_⟩
 rw[Tryd.params5] at ht
 have hm:t∈[3,55,55,72,3]:=by simpa using Array.mem_of_getElem? ht
 have hall:([3,55,55,72,3].all λu=>!Tryd.prog.wantsStandIn u)=true:=by kernel_rfl
 exact(show Tryd.prog.wantsStandIn t=false by simpa using List.all_eq_true.1 hall t hm)
theorem proved:Rows.ManifestKeepsUptoCardSaid:=
 Claim7.holds_tied_plain_at .later [] _ _ _ _ saidUpto (λ_ h=>by cases h) (by kernel_rfl) (λ_ h=>by cases h) manifestKeepsUpto_row_tie rfl ⟨rfl,rfl⟩ (by kernel_rfl) rfl plain (by kernel_rfl)
#print axioms proved
end Go.Proofs.YtblghgacokoklaaDoor.manifestKeeps
end
