/-
  JOINED.
-/
import Derived.Test.YtekflkpnpibneaaGreatDoorK2
import Derived.Test.YtekflkpnpibneaaGreatDoorProg
import Derived.Test.YtekflkpnpibneaaGreatDoorK5
set_option linter.unusedSimpArgs false
set_option linter.unusedVariables false
set_option maxRecDepth 100000
open Go.IntKind (wrap)
open List (length_append length_map length_cons getElem?_map map_append getElem?_append_left getElem?_append_right length_take length_set getElem?_set_ne getElem?_set_self append_nil)
section
namespace Go.Eng
def NewB(g:Hp)(s:Sl):Prop:=s.a=none\/∃ b,s.a=some ⟨b,0,none⟩/\g b=none
theorem NewB.mono{g h:Hp}(d:∀ k,h k=none->g k=none){s:Sl}(N:NewB h s):NewB g s:=N.imp id λ⟨b,e,n⟩=>⟨b,e,d b n⟩
theorem NewB.off{g:Hp}{s r:Sl}{sz t:Nat}{vs:List Value}(N:NewB g s)(B:Buf g r sz t vs):Off r s/\Off s r:=by
 rcases B.own with⟨ha,_⟩|⟨b,c,f,ha,hb,_⟩
 ·exact⟨λk o o' e=>(by rw[ha] at e;cases e),λk o o' _ e=>(by rw[ha] at e;cases e)⟩
 ·rcases N with hn|⟨b',hb',hn⟩
  ·exact⟨λk o o' _ e=>(by rw[hn] at e;cases e),λk o o' e=>(by rw[hn] at e;cases e)⟩
  ·have:b≠b':=λe=>by rw[e,hn] at hb;cases hb
   refine⟨λk o o' e1 e2=>this ?_,λk o o' e1 e2=>this ?_⟩
   ·rw[ha] at e1;rw[hb'] at e2
    simp only[Option.some.injEq,Addr.mk.injEq] at e1 e2
    rw[e1.1,e2.1]
   ·rw[hb'] at e1;rw[ha] at e2
    simp only[Option.some.injEq,Addr.mk.injEq] at e1 e2
    rw[e1.1,e2.1]
theorem keepB{g h h':Hp}(K:Keep g h){s s':Sl}(N:NewB g s)(U:Upd h h' s s'):Keep g h':=λk x e=>U.keep k x (λo hs=>by
 rcases N with hn|⟨b,hb,hn⟩
 ·rw[hn] at hs;cases hs
 ·rw[hb] at hs
  simp only[Option.some.injEq,Addr.mk.injEq] at hs
  rw[<- hs.1,hn] at e;cases e) (K k x e)
theorem newB{g h h':Hp}(K:Keep g h){s s':Sl}(N:NewB g s)(U:Upd h h' s s'):NewB g s':=by
 rcases U.at_ with h0|⟨b,hb,hn⟩
 ·unfold NewB;rw[h0];exact N
 ·exact .inr ⟨b,hb,K.dom b hn⟩
structure Bf where
 s:Sl
 sz:Nat
 t:Nat
 vs:List Value
abbrev Key:=Nat×Nat×Nat
abbrev Mem:=Key->Option Bf
structure Mine(h0 h:Hp)(m:Mem):Prop where
 keep:Keep h0 h
 buf:∀ k x,m k=some x->Buf h x.s x.sz x.t x.vs
 new:∀ k x,m k=some x->NewB h0 x.s
 off:∀ k k' x x',k≠k'->m k=some x->m k'=some x'->Off x.s x'.s
def Mem.put(m:Mem)(k:Key)(x:Bf):Mem:=λj=>if j=k then some x else m j
theorem put_self(m:Mem)(k:Key)(x:Bf):(m.put k x) k=some x:=if_pos rfl
theorem put_ne(m:Mem){k j:Key}(x:Bf)(h:j≠k):(m.put k x) j=m j:=if_neg h
theorem Mine.keepH{h0 h h':Hp}{m:Mem}(O:Mine h0 h m)(K:Keep h h'):Mine h0 h' m:=⟨O.keep.trans K,λk x e=>(O.buf k x e).keep K,O.new,O.off⟩
theorem Mine.base{g h0 h:Hp}{m:Mem}(K:Keep g h0)(O:Mine h0 h m):Mine g h m:=⟨K.trans O.keep,O.buf,λk x e=>(O.new k x e).mono K.dom,O.off⟩
theorem Mine.start(h:Hp):Mine h h (λ_=>none):=⟨Keep.refl h,λ_ _ e=>(by cases e),λ_ _ e=>(by cases e),λ_ _ _ _ _ e=>(by cases e)⟩
theorem Mine.of_eq{h0 h:Hp}{m m':Mem}(O:Mine h0 h m)(e:∀ k,m' k=m k):Mine h0 h m':=by
 have:m'=m:=funext e
 rw[this];exact O
theorem Mine.sub{h0 h:Hp}{m m':Mem}(O:Mine h0 h m)(e:∀ k x,m' k=some x->m k=some x):Mine h0 h m':=
 ⟨O.keep,λk x h=>O.buf k x (e k x h),λk x h=>O.new k x (e k x h),λk k' x x' n h h'=>O.off k k' x x' n (e k x h) (e k' x' h')⟩
theorem Mine.write{h0 h h':Hp}{m:Mem}{k:Key}{x:Bf}{s':Sl}{sz t:Nat}{vs:List Value}(O:Mine h0 h m)(hk:m k=some x)(U:Upd h h' x.s s')(B:Buf h' s' sz t vs):Mine h0 h' (m.put k ⟨s',sz,t,vs⟩):=by
 have N:=O.new k x hk
 have off1:∀ j y,j≠k->m j=some y->Off y.s s'/\Off s' y.s:=λj y hj e=>by
  have o1:=O.off j k y x hj e hk
  have o2:=O.off k j x y (Ne.symm hj) hk e
  rcases U.at_ with h0'|hn
  ·exact⟨λb p q e1 e2=>o1 b p q e1 (by rw[<- h0'];exact e2),λb p q e1 e2=>o2 b p q (by rw[<- h0'];exact e1) e2⟩
  ·exact NewB.off (.inr hn) (O.buf j y e)
 refine⟨keepB O.keep N U,λj y e=>?_,λj y e=>?_,λj j' y y' hne e e'=>?_⟩
 ·unfold Mem.put at e
  by_cases hj:j=k
  ·rw[if_pos hj] at e;cases e;exact B
  ·rw[if_neg hj] at e
   exact(O.buf j y e).upd U (O.off j k y x hj e hk)
 ·unfold Mem.put at e
  by_cases hj:j=k
  ·rw[if_pos hj] at e;cases e;exact newB O.keep N U
  ·rw[if_neg hj] at e;exact O.new j y e
 ·unfold Mem.put at e e'
  by_cases hj:j=k
  ·rw[if_pos hj] at e;cases e
   rw[if_neg (λc=>hne (by rw[hj,c]))] at e'
   exact(off1 j' y' (λc=>hne (by rw[hj,c])) e').2
  ·rw[if_neg hj] at e
   by_cases hj':j'=k
   ·rw[if_pos hj'] at e';cases e'
    exact(off1 j y hj e).1
   ·rw[if_neg hj'] at e'
    exact O.off j j' y y' hne e e'
theorem Mine.add{h0 h h':Hp}{m:Mem}{k:Key}{s:Sl}{sz t:Nat}{vs:List Value}(O:Mine h0 h m)(hk:m k=none)(K:Keep h h')(N:NewB h s)(B:Buf h' s sz t vs):Mine h0 h' (m.put k ⟨s,sz,t,vs⟩):=by
 refine⟨O.keep.trans K,λj y e=>?_,λj y e=>?_,λj j' y y' hne e e'=>?_⟩
 ·unfold Mem.put at e
  by_cases hj:j=k
  ·rw[if_pos hj] at e;cases e;exact B
  ·rw[if_neg hj] at e;exact(O.buf j y e).keep K
 ·unfold Mem.put at e
  by_cases hj:j=k
  ·rw[if_pos hj] at e;cases e;exact N.mono O.keep.dom
  ·rw[if_neg hj] at e;exact O.new j y e
 ·unfold Mem.put at e e'
  by_cases hj:j=k
  ·rw[if_pos hj] at e;cases e
   rw[if_neg (λc=>hne (by rw[hj,c]))] at e'
   exact(N.off (O.buf j' y' e')).2
  ·rw[if_neg hj] at e
   by_cases hj':j'=k
   ·rw[if_pos hj'] at e';cases e'
    exact(N.off (O.buf j y e)).1
   ·rw[if_neg hj'] at e'
    exact O.off j j' y y' hne e e'
theorem buf_new{h:Hp}{b t sz n:Nat}(vs:List Value)(hl:vs.length=n*sz):Buf (h.new b (.cells ⟨vs⟩ t (0,0))) ⟨some ⟨b,0,none⟩,n,n⟩ sz t vs:=
 ⟨hl,Nat.le_refl _,.inr ⟨b,_,(0,0),rfl,by unfold Hp.new;rw[if_pos rfl],by show n*sz<=vs.length;omega,λj _=>by simp,by show vs.take vs.length=vs;exact List.take_length⟩⟩
theorem buf_wr{h:Hp}{s:Sl}{sz t:Nat}{A U V B:List Value}(Bf:Buf h s sz t (A++(U++B)))(hu:U.length=V.length)(h0:0<U.length):∃ b,s.a=some ⟨b,0,none⟩/\h.canW b A.length V.length/\Upd h (h.wr b A.length V) s s/\Buf (h.wr b A.length V) s sz t (A++(V++B)):=by
 have app:∀ (V A U B:List Value),U.length=V.length->setL (A++(U++B)) A.length V=A++(V++B):=λV=>by
  induction V with
  |nil=>intro A U B h;have:U=[]:=List.eq_nil_of_length_eq_zero h;subst this;rfl
  |cons v V ih=>
   intro A U B h
   rcases U with _|⟨u,U⟩
   ·cases h
   unfold setL
   have e:(A++(u::U++B)).set A.length v=(A++[v])++(U++B):=by simp
   have l:A.length+1=(A++[v]).length:=by simp
   rw[e,l,ih (A++[v]) U B (by simpa using h)]
   simp
 have slen:∀ (vs c:List Value) (o:Nat),(setL c o vs).length=c.length:=λvs=>by
  induction vs with
  |nil=>intro c o;rfl
  |cons v vs ih=>intro c o;unfold setL;rw[ih,length_set]
 have hlen0:(A++(U++B)).length=A.length+(U.length+B.length):=by simp
 have hlen1:(A++(V++B)).length=A.length+(U.length+B.length):=by simp[hu]
 rcases Bf.own with⟨ha,hc⟩|⟨b,c,f,ha,hb,hsz,hf,ht⟩
 ·have h1:=Bf.len
  have h2:=Bf.cap
  have:s.n=0:=by omega
  rw[this,Nat.zero_mul] at h1
  omega
 ·have hcl:(A++(U++B)).length<=c.size:=by
   rw[Bf.len]
   exact Nat.le_trans (Nat.mul_le_mul_right _ Bf.cap) hsz
  have hct:c.toList=A++(U++(B++c.toList.drop (A++(U++B)).length)):=by
   have:=List.take_append_drop (A++(U++B)).length c.toList
   rw[ht] at this
   rw[<- this]
   simp
  have wrs:(h.wr b A.length V) b=some (.cells (setL c.toList A.length V).toArray t f):=by unfold Hp.wr;rw[if_pos rfl,hb]
  refine⟨b,ha,⟨c,t,f,hb,by omega,λj h1 h2=>hf j (by omega)⟩,⟨λj x hj e=>?_,.inl rfl,λj e=>?_⟩,⟨by rw[hlen1,<- hlen0];exact Bf.len,Bf.cap,.inr ⟨b,(setL c.toList A.length V).toArray,f,ha,wrs,?_,?_,?_⟩⟩⟩
  ·have hjb:j≠b:=λq=>hj 0 (by rw[q];exact ha)
   unfold Hp.wr
   rw[if_neg hjb]
   exact e
  ·unfold Hp.wr at e
   by_cases hjb:j=b
   ·rw[if_pos hjb,hb] at e;cases e
   ·rw[if_neg hjb] at e;exact e
  ·simp only[List.size_toArray,slen,Array.length_toList];exact hsz
  ·intro j hj
   simp only[List.size_toArray,slen,Array.length_toList] at hj
   exact hf j hj
  ·show((setL c.toList A.length V).take (A++(V++B)).length)=A++(V++B)
   rw[hct,app V A U _ hu,show A++(V++(B++c.toList.drop (A++(U++B)).length))=(A++(V++B))++c.toList.drop (A++(U++B)).length by simp,List.take_left' rfl]
theorem buf_wr1{h:Hp}{s:Sl}{sz t k:Nat}{vs:List Value}(B:Buf h s sz t vs)(hk:k<vs.length)(v:Value):∃ b,s.a=some ⟨b,0,none⟩/\h.canW b k 1/\Upd h (h.wr b k [v]) s s/\Buf (h.wr b k [v]) s sz t (vs.set k v):=by
 have e:vs=vs.take k++([vs[k]]++vs.drop (k+1)):=by
  have e:=List.take_append_drop k vs
  rw[List.drop_eq_getElem_cons hk] at e
  exact e.symm
 have lt:(vs.take k).length=k:=by rw[length_take];omega
 have e2:vs.set k v=vs.take k++([v]++vs.drop (k+1)):=by
  rw[List.set_eq_take_append_cons_drop,if_pos hk];rfl
 have B':Buf h s sz t (vs.take k++([vs[k]]++vs.drop (k+1))):=by rw[<- e];exact B
 obtain⟨b,ha,hc,U,Bw⟩:=buf_wr (V:=[v]) B' rfl (by simp)
 rw[lt] at hc U Bw
 rw[<- e2] at Bw
 exact⟨b,ha,hc,U,Bw⟩
theorem buf_at{h:Hp}{s:Sl}{sz t k:Nat}{vs:List Value}(B:Buf h s sz t vs)(hk:k<vs.length):∃ b,s.a=some ⟨b,0,none⟩/\h.at b (0+k)=vs[k]?:=by
 rcases B.own with⟨ha,hc⟩|⟨b,c,f,ha,hb,hsz,hf,ht⟩
 ·have h1:=B.len
  have h2:=B.cap
  have:s.n=0:=by omega
  rw[this,Nat.zero_mul] at h1
  omega
 ·refine⟨b,ha,?_⟩
  unfold Hp.at
  rw[hb,Nat.zero_add]
  show c[k]?=_
  rw[<- ht,List.getElem?_take,if_pos hk,Array.getElem?_toList]
def markL(mk:Nat->List Value)(k:Nat):List Value:=(List.range k).flatMap mk
theorem markL_succ(mk:Nat->List Value)(k:Nat):markL mk (k+1)=markL mk k++mk k:=by unfold markL;rw[List.range_succ,List.flatMap_append];simp
theorem flatL{α:Type}(f:α->List Value)(sz:Nat)(hf:∀ x,(f x).length=sz):∀ l:List α,(l.flatMap f).length=l.length*sz
 |[]=>by simp
 |x::l=>by rw[List.flatMap_cons,length_append,hf,flatL f sz hf l,length_cons,Nat.add_mul];omega
theorem markL_len{mk:Nat->List Value}{sz:Nat}(h:∀ j,(mk j).length=sz)(k:Nat):(markL mk k).length=k*sz:=by
 unfold markL;rw[flatL mk sz h,List.length_range]
theorem flatG{α:Type}(f:α->List Value)(sz:Nat)(hf:∀ x,(f x).length=sz):∀ (l:List α) (i c:Nat) (hi:i<l.length),c<sz->(l.flatMap f)[i*sz+c]?=(f l[i])[c]?
 |[],i,c,hi,_=>absurd hi (by simp)
 |x::l,0,c,_,hc=>by rw[List.flatMap_cons,getElem?_append_left (by rw[hf];omega)];simp
 |x::l,i+1,c,hi,hc=>by
  rw[List.flatMap_cons,getElem?_append_right (by rw[hf,Nat.add_mul];omega),hf,show(i+1)*sz+c-sz=i*sz+c by rw[Nat.add_mul];omega]
  exact flatG f sz hf l i c (by simpa using hi) hc
theorem mark_at{mk:Nat->List Value}{sz m:Nat}(hm:∀ j,(mk j).length=sz){us:List Value}{n:Nat}(hus:us.length=n*sz){j c:Nat}(hj:j<m)(hc:c<sz):(us++markL mk m)[(n+j)*sz+c]?=(mk j)[c]?:=by
 have h2:(n+j)*sz=n*sz+j*sz:=Nat.add_mul _ _ _
 rw[getElem?_append_right (by omega),show(n+j)*sz+c-us.length=j*sz+c by omega]
 unfold markL
 rw[flatG mk sz hm (List.range m) j c (by rw[List.length_range];exact hj) hc,List.getElem_range]
theorem nx_i{k n:Nat}(hk:k<n)(hn:n<9223372036854775807):wrap .i64 ((k:Int)+1)=((k+1:Nat):Int):=by rw[wrap_i64 (by omega) (by omega)];omega
@[reducible] def layTailT(pb slot tw ti t sz bytes M:Nat)(z:List Value)(G:Int->Hp->(List Value->Hp->Prop)->Prop)(n0:Nat)(l1:Sl)(h2:Hp)(Q:Value->Hp->Prop):Prop:=
 ∃ (I:Sl->Int->Hp->Prop) (m:Sl->Int->Hp->Nat),I l1 0 h2/\(∀ l2:Sl,∀ n1:Int,∀ h3:Hp,I l2 n1 h3->par (n1<(M:Int)) (G n1 h3 λus h4=>appendD l2 t sz bytes z 1 us h4 λl3 h5=>I l3 (wrap .i64 (n1+1)) h5/\m l3 (wrap .i64 (n1+1)) h5<m l2 n1 h3) (dr (some ⟨pb,0,none⟩) λb1 o=>ldS h3 b1 (o+slot) λl4=>appendD l4 tw 1 24 [.slice none 0 0] 1 [.slice l2.a l2.n l2.c] h3 λl5 h6=>dr (some ⟨pb,0,none⟩) λb2 o1=>st h6 b2 (o1+slot) 1 [.slice l5.a l5.n l5.c] λh7=>dr (some ⟨pb,0,none⟩) λb3 o2=>ldS h7 b3 (o2+(slot+1)) λl6=>appendD l6 ti 1 8 [.int .i64 0] 1 [.int .i64 (n0:Int)] h7 λl7 h8=>dr (some ⟨pb,0,none⟩) λb4 o3=>st h8 b4 (o3+(slot+1)) 1 [.slice l7.a l7.n l7.c] λh9=>Sl.okCut l2 0 (n0:Int) (l2.n:Int)/\Q (.slice (Sl.cut l2 sz 0 (n0:Int) (l2.n:Int)).a (Sl.cut l2 sz 0 (n0:Int) (l2.n:Int)).n (Sl.cut l2 sz 0 (n0:Int) (l2.n:Int)).c) h9))
@[reducible] def layT(pb slot tw ti t sz bytes M:Nat)(z:List Value)(G:Int->Hp->(List Value->Hp->Prop)->Prop)(l:Sl)(h:Hp)(Q:Value->Hp->Prop):Prop:=
 nw h (.cells ⟨[]⟩ t (0,0)) λb h1=>∃ vs,h1.row l.a (l.n*sz) vs/\(∀ v∈vs,Value.oneCell' v=true)/\appendD ⟨(some ⟨b,0,none⟩),0,0⟩ t sz bytes z l.n vs h1 λl1 h2=>layTailT pb slot tw ti t sz bytes M z G l.n l1 h2 Q
@[reducible] def holdRT(pb slot:Nat)(BODY:Nat->Nat->Int->Int->Hp->(Hp->Prop)->Prop)(h:Hp)(Q:Value->Hp->Prop):Prop:=
 ∃ (I:Int->Hp->Prop) (m:Int->Hp->Nat),I 0 h/\(∀ n:Int,∀ h1:Hp,I n h1->dr (some ⟨pb,0,none⟩) λb o=>ldS h1 b (o+slot) λl=>par (n<(l.n:Int)) (dr (some ⟨pb,0,none⟩) λb1 o1=>ldS h1 b1 (o1+(slot+1)) λl1=>ix l1.a n l1.n λb2 o2=>ldI .i64 h1 b2 (o2+n.toNat) λn1=>∃ (I1:Int->Hp->Prop) (m1:Int->Hp->Nat),I1 n1 h1/\(∀ n2:Int,∀ h2:Hp,I1 n2 h2->dr (some ⟨pb,0,none⟩) λb3 o3=>ldS h2 b3 (o3+slot) λl2=>ix l2.a n l2.n λb4 o4=>ldS h2 b4 (o4+n.toNat) λl3=>par (n2<(l3.n:Int)) (dr (some ⟨pb,0,none⟩) λb5 o5=>ldS h2 b5 (o5+slot) λl4=>ix l4.a n l4.n λb6 o6=>ldS h2 b6 (o6+n.toNat) λl5=>ix l5.a n2 l5.n λb7 o7=>BODY b7 o7 n2 n1 h2 λh3=>I1 (wrap .i64 (n2+1)) h3/\m1 (wrap .i64 (n2+1)) h3<m1 n2 h2) (I (wrap .i64 (n+1)) h2/\m (wrap .i64 (n+1)) h2<m n h1))) (Q (.bool true) h1))
theorem lay_tail{h0 h2:Hp}{m:Mem}{kr kw kn kd:Key}{n0 pb slot R tr tw ti t sz bytes M:Nat}{mk:Nat->List Value}{z us ws ns cs:List Value}{G:Int->Hp->(List Value->Hp->Prop)->Prop}{w n l1:Sl}{Q:Value->Hp->Prop}
  (hG:∀ (j:Nat) h K,K (mk j) h->G (j:Int) h K) (hmk:∀ j,(mk j).length=sz) (hz:z.length=sz)
  (O1:Mine h0 h2 (m.put kd ⟨l1,sz,t,us⟩)) (er:m kr=some ⟨⟨some ⟨pb,0,none⟩,1,1⟩,R,tr,cs⟩) (ew:m kw=some ⟨w,1,tw,ws⟩) (en:m kn=some ⟨n,1,ti,ns⟩) (nd1:kd≠kr) (nd2:kd≠kw) (nd3:kd≠kn)
  (n1:kw≠kr) (n2:kn≠kr) (n3:kw≠kn) (hslot:slot+1<R) (hw:cs[slot]?=some (.slice w.a w.n w.c)) (hn:cs[slot+1]?=some (.slice n.a n.n n.c))
  (hn1:l1.n=n0) (hs1:∃ b,l1.a=some ⟨b,0,none⟩) (hb:(n0+M)*bytes<=140737488355328) (hM:M<=100000) (hb0:0<bytes) (hws:ws.length<=4000000000000) (hns:ns.length<=4000000000000)
  (hQ:∀ h' w' n' s,Mine h0 h' ((((m.put kd ⟨s,sz,t,us++markL mk M⟩).put kw ⟨w',1,tw,ws++[.slice s.a s.n s.c]⟩).put kn ⟨n',1,ti,ns++[.int .i64 (n0:Int)]⟩).put kr ⟨⟨some ⟨pb,0,none⟩,1,1⟩,R,tr,(cs.set slot (.slice w'.a w'.n w'.c)).set (slot+1) (.slice n'.a n'.n n'.c)⟩)->s.n=n0+M->s.n<=s.c->(∃ b,s.a=some ⟨b,0,none⟩) ->
   Q (.slice (Sl.cut s sz 0 (n0:Int) (s.n:Int)).a (Sl.cut s sz 0 (n0:Int) (s.n:Int)).n (Sl.cut s sz 0 (n0:Int) (s.n:Int)).c) h') :
  layTailT pb slot tw ti t sz bytes M z G n0 l1 h2 Q:=by
 have mulle:∀ x:Nat,x<=n0+M->x*bytes<=140737488355328:=λx hx=>Nat.le_trans (Nat.mul_le_mul_right _ hx) hb
 have hlM:n0+M<=140737488355328:=Nat.le_trans (Nat.le_mul_of_pos_right _ hb0) hb
 have put2:∀ (x y:Bf),(m.put kd x).put kd y=m.put kd y:=λx y=>funext λj=>by
  unfold Mem.put;by_cases hj:j=kd
  ·rw[if_pos hj,if_pos hj]
  ·rw[if_neg hj,if_neg hj,if_neg hj]
 refine⟨λl2 n1 h3=>∃ j:Nat,n1=(j:Int)/\j<=M/\Mine h0 h3 (m.put kd ⟨l2,sz,t,us++markL mk j⟩)/\l2.n=n0+j/\∃ b,l2.a=some ⟨b,0,none⟩,λ_ n1 _=>M-n1.toNat,⟨0,rfl,Nat.zero_le _,by simpa[markL] using O1,hn1,hs1⟩,?_⟩
 rintro l2 n1 h3 ⟨j,rfl,hj,O2,l2n,ba⟩
 have B2:Buf h3 l2 sz t (us++markL mk j):=O2.buf kd _ (put_self _ _ _)
 refine⟨λhlt=>hG _ _ _ ?_,λhge=>?_⟩
 ·have w3:wrap .i64 ((j:Int)+1)=((j+1:Nat):Int):=nx_i (n:=M) (by omega) (by omega)
  refine append_buf B2 hz (by rw[hmk,Nat.one_mul]) (mulle _ (by omega)) λl3 h4 B4 hn4 U4=>?_
  rw[w3]
  have O4:=O2.write (put_self _ _ _) U4 B4
  rw[put2] at O4
  refine⟨⟨j+1,rfl,by omega,?_,by omega,?_⟩,by dsimp only;omega⟩
  ·rw[markL_succ,<- List.append_assoc]
   exact O4
  ·obtain⟨b',hb'⟩:=ba
   rcases U4.at_ with h0'|⟨c',e',_⟩
   ·exact⟨b',by rw[h0'];exact hb'⟩
   ·exact⟨c',e'⟩
 ·have hjM:j=M:=by omega
  subst hjM
  have er2:(m.put kd ⟨l2,sz,t,us++markL mk j⟩) kr=some ⟨⟨some ⟨pb,0,none⟩,1,1⟩,R,tr,cs⟩:=by rw[put_ne _ _ (Ne.symm nd1)];exact er
  have ew2:(m.put kd ⟨l2,sz,t,us++markL mk j⟩) kw=some ⟨w,1,tw,ws⟩:=by rw[put_ne _ _ (Ne.symm nd2)];exact ew
  have en2:(m.put kd ⟨l2,sz,t,us++markL mk j⟩) kn=some ⟨n,1,ti,ns⟩:=by rw[put_ne _ _ (Ne.symm nd3)];exact en
  have BR:=O2.buf kr _ er2
  have BW:=O2.buf kw _ ew2
  have hcl:cs.length=R:=by have:=BR.len;simpa using this
  have hwn:w.n=ws.length:=by have:=BW.len;simp only[Nat.mul_one] at this;omega
  obtain⟨b1,hb1,g1⟩:=buf_at BR (k:=slot) (by show slot<cs.length;omega)
  cases hb1
  refine⟨pb,0,rfl,w,by rw[g1];exact hw,?_⟩
  refine append_buf BW rfl rfl (by omega) λl5 h6 B5 hn5 U5=>?_
  have O5:=O2.write ew2 U5 B5
  have er5:((m.put kd ⟨l2,sz,t,us++markL mk j⟩).put kw ⟨l5,1,tw,ws++[.slice l2.a l2.n l2.c]⟩) kr=some ⟨⟨some ⟨pb,0,none⟩,1,1⟩,R,tr,cs⟩:=by rw[put_ne _ _ (Ne.symm n1)];exact er2
  obtain⟨b2,hb2,c2,U6,B6⟩:=buf_wr1 (O5.buf kr _ er5) (k:=slot) (by show slot<cs.length;omega) (.slice l5.a l5.n l5.c)
  cases hb2
  have O6:=O5.write er5 U6 B6
  refine⟨pb,0,rfl,?_⟩
  dsimp only
  rw[Nat.zero_add]
  refine⟨c2,pb,0,rfl,?_⟩
  generalize h6.wr pb slot [.slice l5.a l5.n l5.c]=h7 at U6 B6 O6 ⊢
  have en6:(((m.put kd ⟨l2,sz,t,us++markL mk j⟩).put kw ⟨l5,1,tw,ws++[.slice l2.a l2.n l2.c]⟩).put kr ⟨⟨some ⟨pb,0,none⟩,1,1⟩,R,tr,cs.set slot (.slice l5.a l5.n l5.c)⟩) kn=some ⟨n,1,ti,ns⟩:=by rw[put_ne _ _ n2,put_ne _ _ (Ne.symm n3)];exact en2
  have BN:=O6.buf kn _ en6
  have hnn:n.n=ns.length:=by have:=BN.len;simp only[Nat.mul_one] at this;omega
  obtain⟨b3,hb3,g3⟩:=buf_at B6 (k:=slot+1) (by rw[length_set];show slot+1<cs.length;omega)
  cases hb3
  refine⟨n,by rw[g3,getElem?_set_ne (by omega)];exact hn,?_⟩
  refine append_buf BN rfl rfl (by omega) λl7 h8 B7 hn7 U7=>?_
  have O7:=O6.write en6 U7 B7
  have er7:((((m.put kd ⟨l2,sz,t,us++markL mk j⟩).put kw ⟨l5,1,tw,ws++[.slice l2.a l2.n l2.c]⟩).put kr ⟨⟨some ⟨pb,0,none⟩,1,1⟩,R,tr,cs.set slot (.slice l5.a l5.n l5.c)⟩).put kn ⟨l7,1,ti,ns++[.int .i64 (n0:Int)]⟩) kr=some ⟨⟨some ⟨pb,0,none⟩,1,1⟩,R,tr,cs.set slot (.slice l5.a l5.n l5.c)⟩:=by rw[put_ne _ _ (Ne.symm n2)];exact put_self _ _ _
  obtain⟨b4,hb4,c4,U8,B8⟩:=buf_wr1 (O7.buf kr _ er7) (k:=slot+1) (by show slot+1<(cs.set slot _).length;rw[length_set];omega) (.slice l7.a l7.n l7.c)
  cases hb4
  have O8:=O7.write er7 U8 B8
  refine⟨pb,0,rfl,?_⟩
  dsimp only
  rw[Nat.zero_add]
  have cap2:=B2.cap
  refine⟨c4,⟨by decide,by omega,by omega,by omega⟩,?_⟩
  refine hQ _ l5 l7 l2 (O8.of_eq λk=>?_) l2n cap2 ba
  unfold Mem.put
  by_cases h1:k=kr
  ·rw[if_pos h1,if_pos h1]
  ·rw[if_neg h1,if_neg h1]
   by_cases h2:k=kn
   ·rw[if_pos h2,if_pos h2]
   ·rw[if_neg h2,if_neg h2,if_neg h1]
theorem lay_own{h0 h:Hp}{m:Mem}{kr kw kn kd:Key}{pb slot R tr tw ti t sz bytes M:Nat}{mk:Nat->List Value}{z us ws ns cs:List Value}{G:Int->Hp->(List Value->Hp->Prop)->Prop}{w n l:Sl}{Q:Value->Hp->Prop}
  (hG:∀ (j:Nat) h K,K (mk j) h->G (j:Int) h K) (hmk:∀ j,(mk j).length=sz) (hz:z.length=sz) (hone:∀ v∈us,Value.oneCell' v=true)
  (O:Mine h0 h m) (er:m kr=some ⟨⟨some ⟨pb,0,none⟩,1,1⟩,R,tr,cs⟩) (ew:m kw=some ⟨w,1,tw,ws⟩) (en:m kn=some ⟨n,1,ti,ns⟩) (ed:m kd=none)
  (n1:kw≠kr) (n2:kn≠kr) (n3:kw≠kn) (hslot:slot+1<R) (hw:cs[slot]?=some (.slice w.a w.n w.c)) (hn:cs[slot+1]?=some (.slice n.a n.n n.c))
  (hr:h.row l.a (l.n*sz) us) (hb:(l.n+M)*bytes<=140737488355328) (hM:M<=100000) (hb0:0<bytes) (hws:ws.length<=4000000000000) (hns:ns.length<=4000000000000)
  (hQ:∀ h' w' n' s,Mine h0 h' ((((m.put kd ⟨s,sz,t,us++markL mk M⟩).put kw ⟨w',1,tw,ws++[.slice s.a s.n s.c]⟩).put kn ⟨n',1,ti,ns++[.int .i64 (l.n:Int)]⟩).put kr ⟨⟨some ⟨pb,0,none⟩,1,1⟩,R,tr,(cs.set slot (.slice w'.a w'.n w'.c)).set (slot+1) (.slice n'.a n'.n n'.c)⟩)->s.n=l.n+M->s.n<=s.c->(∃ b,s.a=some ⟨b,0,none⟩) ->
   Q (.slice (Sl.cut s sz 0 (l.n:Int) (s.n:Int)).a (Sl.cut s sz 0 (l.n:Int) (s.n:Int)).n (Sl.cut s sz 0 (l.n:Int) (s.n:Int)).c) h') :
  layT pb slot tw ti t sz bytes M z G l h Q:=by
 intro b hbn
 have hus:=hr.1
 have nd1:kd≠kr:=λe=>by rw[e,er] at ed;cases ed
 have nd2:kd≠kw:=λe=>by rw[e,ew] at ed;cases ed
 have nd3:kd≠kn:=λe=>by rw[e,en] at ed;cases ed
 have k0:=Keep.new hbn (.cells ⟨[]⟩ t (0,0))
 have B0:=buf_new (h:=h) (b:=b) (t:=t) (sz:=sz) (n:=0) [] (by simp)
 have O0:=O.add ed k0 (.inr ⟨b,rfl,hbn⟩) B0
 have r0:=k0.row hr
 generalize h.new b (.cells ⟨[]⟩ t (0,0))=h1 at k0 B0 O0 r0 ⊢
 refine⟨us,r0,hone,?_⟩
 have mulle:∀ x:Nat,x<=l.n+M->x*bytes<=140737488355328:=λx hx=>Nat.le_trans (Nat.mul_le_mul_right _ hx) hb
 have hlM:l.n+M<=140737488355328:=Nat.le_trans (Nat.le_mul_of_pos_right _ hb0) hb
 refine append_buf B0 hz (by rw[hus]) (mulle _ (by show 0+l.n<=_;omega)) λs1 h2 B1 hn1 U1=>?_
 rw[List.nil_append] at B1
 have O1:=O0.write (put_self _ _ _) U1 B1
 have put2:∀ (x y:Bf),(m.put kd x).put kd y=m.put kd y:=λx y=>funext λj=>by
  unfold Mem.put;by_cases hj:j=kd
  ·rw[if_pos hj,if_pos hj]
  ·rw[if_neg hj,if_neg hj,if_neg hj]
 rw[put2] at O1
 have hs1:∃ b,s1.a=some ⟨b,0,none⟩:=by
  rcases U1.at_ with h0'|⟨b',e',_⟩
  ·exact⟨b,h0'⟩
  ·exact⟨b',e'⟩
 exact lay_tail hG hmk hz O1 er ew en nd1 nd2 nd3 n1 n2 n3 hslot hw hn (by rw[hn1];show 0+l.n=_;omega) hs1 hb hM hb0 hws hns hQ
theorem hold_own{h:Hp}{pb slot R tr tw ti M:Nat}{cs:List Value}{ls:List (Sl×Nat)}{w n:Sl}{Q:Value->Hp->Prop}{BODY:Nat->Nat->Int->Int->Hp->(Hp->Prop)->Prop}
  (BR:Buf h ⟨some ⟨pb,0,none⟩,1,1⟩ R tr cs) (BW:Buf h w 1 tw (ls.map λx=>.slice x.1.a x.1.n x.1.c)) (BN:Buf h n 1 ti (ls.map λx=>.int .i64 (x.2:Int))) (hslot:slot+1<R) (hw:cs[slot]?=some (.slice w.a w.n w.c)) (hn:cs[slot+1]?=some (.slice n.a n.n n.c))
  (hl:∀ x∈ls,x.1.n=x.2+M/\x.1.n<9223372036854775807) (hls:ls.length<=4000000000000)
  (hB:∀ x∈ls,∀ j,j<M->∀ P:Hp->Prop,P h->∃ b o,x.1.a=some ⟨b,o,none⟩/\BODY b o ((x.2+j:Nat):Int) (x.2:Int) h P)
  (hQ:Q (.bool true) h):holdRT pb slot BODY h Q:=by
 have hcl:cs.length=R:=by have:=BR.len;simpa using this
 have hwn:w.n=ls.length:=by have:=BW.len;simp only[length_map,Nat.mul_one] at this;omega
 have hnn:n.n=ls.length:=by have:=BN.len;simp only[length_map,Nat.mul_one] at this;omega
 obtain⟨b1,hb1,g1⟩:=buf_at BR (k:=slot) (by omega)
 cases hb1
 rw[hw] at g1
 obtain⟨b1,hb1,g2⟩:=buf_at BR (k:=slot+1) (by omega)
 cases hb1
 rw[hn] at g2
 refine⟨λn h1=>∃ i:Nat,n=(i:Int)/\i<=ls.length/\h1=h,λn _=>ls.length-n.toNat,⟨0,rfl,Nat.zero_le _,rfl⟩,?_⟩
 rintro n2 h1 ⟨i,rfl,hi,rfl⟩
 refine⟨pb,0,rfl,w,g1,λhlt=>?_,λ_=>hQ⟩
 have hi1:i<ls.length:=by omega
 have hx:=List.getElem_mem hi1
 obtain⟨x1,x2⟩:=hl _ hx
 obtain⟨b2,ha2,c2⟩:=buf_at BN (k:=i) (by rw[length_map];exact hi1)
 obtain⟨b4,ha4,c4⟩:=buf_at BW (k:=i) (by rw[length_map];exact hi1)
 rw[getElem?_map,List.getElem?_eq_getElem hi1] at c2 c4
 refine⟨pb,0,rfl,n,g2,b2,0,ha2,⟨by omega,by omega⟩,_,by rw[Int.toNat_natCast];exact c2,?_⟩
 refine⟨λn2 h2=>∃ j:Nat,n2=((ls[i].2+j:Nat):Int)/\j<=M/\h2=h1,λn2 _=>ls[i].2+M-n2.toNat,⟨0,rfl,Nat.zero_le _,rfl⟩,?_⟩
 rintro n3 h2 ⟨j,rfl,hj,rfl⟩
 refine⟨pb,0,rfl,w,g1,b4,0,ha4,⟨by omega,by omega⟩,_,by rw[Int.toNat_natCast];exact c4,λhlt2=>?_,λhge2=>?_⟩
 ·have hj4:j<M:=by omega
  have w2:wrap .i64 (((ls[i].2+j:Nat):Int)+1)=((ls[i].2+(j+1):Nat):Int):=by rw[wrap_i64 (by omega) (by omega)];omega
  obtain⟨b7,o7,ha7,hbody⟩:=hB _ hx j hj4 (λh3=>h3=h2) rfl
  obtain⟨b8,o8,ha8,hbody⟩:=hB _ hx j hj4 (λh3=>(∃ j':Nat,wrap .i64 (((ls[i].2+j:Nat):Int)+1)=((ls[i].2+j':Nat):Int)/\j'<=M/\h3=h2)/\ls[i].2+M-(wrap .i64 (((ls[i].2+j:Nat):Int)+1)).toNat<ls[i].2+M-(((ls[i].2+j:Nat):Int)).toNat) ⟨⟨j+1,w2,by omega,rfl⟩,by rw[w2];omega⟩
  exact⟨pb,0,rfl,w,g1,b4,0,ha4,⟨by omega,by omega⟩,_,by rw[Int.toNat_natCast];exact c4,b8,o8,ha8,⟨by omega,hlt2⟩,hbody⟩
 ·rw[nx_i hi1 (by omega)]
  exact⟨⟨i+1,rfl,hi1,rfl⟩,by dsimp only;omega⟩
theorem hold_nil{h:Hp}{pb slot:Nat}{R:Hp->Prop}{A:(Int->Hp->Prop)->(Int->Hp->Nat)->Int->Hp->Sl->Prop}(hc:h.at pb (0+slot)=some (.slice none 0 0))(hQ:R h):∃ (I:Int->Hp->Prop) (m:Int->Hp->Nat),I 0 h/\(∀ n:Int,∀ h1:Hp,I n h1->dr (some ⟨pb,0,none⟩) λb o=>ldS h1 b (o+slot) λl=>par (n<(l.n:Int)) (A I m n h1 l) (R h1)):=by
 refine⟨λn h1=>n=0/\h1=h,λ_ _=>0,⟨rfl,rfl⟩,?_⟩
 rintro n h1 ⟨rfl,rfl⟩
 exact⟨pb,0,rfl,⟨none,0,0⟩,hc,λh0=>absurd h0 (by decide),λ_=>hQ⟩
end Go.Eng
end
section
namespace Go.Eng
def Mem.del(m:Mem)(k:Key):Mem:=λj=>if j=k then none else m j
theorem del_self(m:Mem)(k:Key):(m.del k) k=none:=if_pos rfl
theorem del_ne(m:Mem){k j:Key}(h:j≠k):(m.del k) j=m j:=if_neg h
theorem Mine.del{h0 h:Hp}{m:Mem}(O:Mine h0 h m)(k:Key):Mine h0 h (m.del k):=O.sub λj x e=>by
 unfold Mem.del at e
 by_cases hj:j=k
 ·rw[if_pos hj] at e;cases e
 ·rw[if_neg hj] at e;exact e
theorem Mine.freeze{g h:Hp}{m:Mem}{k:Key}{x:Bf}(O:Mine g h m)(hk:m k=some x):∃ g1,Keep g g1/\Mine g1 h (m.del k)/\Buf g1 x.s x.sz x.t x.vs:=by
 have B:=O.buf k x hk
 rcases B.own with⟨ha,hc⟩|⟨b,c,f,ha,hb,h3,h4,h5⟩
 ·exact⟨g,Keep.refl g,O.del k,B.len,B.cap,.inl ⟨ha,hc⟩⟩
 ·have gb:g b=none:=by
   rcases O.new k x hk with hn|⟨b',hb',hn⟩
   ·rw[hn] at ha;cases ha
   ·rw[ha] at hb'
    simp only[Option.some.injEq,Addr.mk.injEq] at hb'
    rw[hb'.1];exact hn
  have K1:Keep g (g.new b (.cells c x.t f)):=Keep.new gb _
  have e1:(g.new b (.cells c x.t f)) b=some (.cells c x.t f):=by unfold Hp.new;rw[if_pos rfl]
  refine⟨g.new b (.cells c x.t f),K1,⟨λj y e=>?_,λj y e=>(O.del k).buf j y e,λj y e=>?_,λj j' y y' n e e'=>(O.del k).off j j' y y' n e e'⟩,B.len,B.cap,.inr ⟨b,c,f,ha,e1,h3,h4,h5⟩⟩
  ·unfold Hp.new at e
   by_cases hj:j=b
   ·rw[if_pos hj] at e;cases e;rw[hj];exact hb
   ·rw[if_neg hj] at e;exact O.keep j y e
  ·have hjk:j≠k:=λq=>by rw[q,del_self] at e;cases e
   rw[del_ne _ hjk] at e
   rcases O.new j y e with hn|⟨b',hb',hn⟩
   ·exact .inl hn
   ·refine .inr ⟨b',hb',?_⟩
    have hbb:b'≠b:=λq=>O.off j k y x hjk e hk b' 0 0 hb' (by rw[ha,q])
    unfold Hp.new;rw[if_neg hbb];exact hn
def kB:Key:=(0,0,0)
def bkF(pb R t:Nat)(cs:List Value):Bf:=⟨⟨some ⟨pb,0,none⟩,1,1⟩,R,t,cs⟩
theorem Mine.cell{g h:Hp}{m:Mem}{pb R t i:Nat}{cs:List Value}{v:Value}(O:Mine g h m)(hb:m kB=some (bkF pb R t cs))(hv:cs[i]?=some v):h.at pb (0+i)=some v:=by
 have hi:i<cs.length:=(List.getElem?_eq_some_iff.1 hv).1
 obtain⟨b,e,ha⟩:=buf_at (O.buf kB _ hb) (k:=i) hi
 cases e
 rw[ha];exact hv
theorem Mem.put_put(m:Mem)(k:Key)(x y:Bf):(m.put k x).put k y=m.put k y:=funext λj=>by
 unfold Mem.put
 by_cases hj:j=k
 ·rw[if_pos hj,if_pos hj]
 ·rw[if_neg hj,if_neg hj,if_neg hj]
theorem Mine.setCell{g h:Hp}{m:Mem}{pb R t i:Nat}{cs:List Value}{v0:Value}(O:Mine g h m)(hb:m kB=some (bkF pb R t cs))(hi:cs[i]?=some v0)(v:Value) :
  h.canW pb (0+i) 1/\Mine g (h.wr pb (0+i) [v]) (m.put kB (bkF pb R t (cs.set i v))):=by
 have hl:i<cs.length:=(List.getElem?_eq_some_iff.1 hi).1
 obtain⟨b,e,hc,U,B⟩:=buf_wr1 (O.buf kB _ hb) (k:=i) hl v
 cases e
 rw[Nat.zero_add]
 exact⟨hc,O.write hb U B⟩
def NoK(cs:List Value)(s:Nat):Prop:=∀ f,f<8->cs[s+f]?=some (.slice none 0 0)
theorem set_same{cs:List Value}{i:Nat}{v:Value}(h:cs[i]?=some v):cs.set i v=cs:=by
 apply List.ext_getElem?
 intro j
 rw[List.getElem?_set]
 by_cases hij:i=j
 ·subst hij
  rw[if_pos rfl]
  have hl:i<cs.length:=(List.getElem?_eq_some_iff.1 h).1
  rw[if_pos hl,h]
 ·rw[if_neg hij]
theorem put_same{m:Mem}{k:Key}{x:Bf}(h:m k=some x):m.put k x=m:=funext λj=>by
 unfold Mem.put
 by_cases hj:j=k
 ·rw[if_pos hj,hj,h]
 ·rw[if_neg hj]
@[reducible] def nilMarkT(pb s:Nat)(h:Hp)(Q:Value->Hp->Prop):Prop:=
 dr (some ⟨pb,0,none⟩) λb o=>ldS h b (o+(s+2)) λl=>dr (some ⟨pb,0,none⟩) λb1 o1=>ldS h b1 (o1+(s+3)) λl1=>dr (some ⟨pb,0,none⟩) λb2 o2=>ldS h b2 (o2+(s+5)) λl2=>dr (some ⟨pb,0,none⟩) λb3 o3=>ldS h b3 (o3+(s+6)) λl3=>par ((l.n:Int)=0) (Q (.tuple ⟨[]⟩) h) False
@[reducible] def nilGrowT(pb s:Nat)(h:Hp)(Q:Value->Hp->Prop):Prop:=
 ∃ (I:Int->Hp->Prop) (m:Int->Hp->Nat),I 0 h/\(∀ n:Int,∀ h1:Hp,I n h1->dr (some ⟨pb,0,none⟩) λb o=>ldS h1 b (o+(s+4)) λl=>par (n<(l.n:Int)) (False) (dr (some ⟨pb,0,none⟩) λb1 o1=>st h1 b1 (o1+(s+4)) 1 [.slice none 0 0] λh2=>dr (some ⟨pb,0,none⟩) λb2 o2=>st h2 b2 (o2+(s+7)) 1 [.slice none 0 0] λh3=>Q (.tuple ⟨[]⟩) h3))
@[reducible] def nilKeepT(pb s:Nat)(h:Hp)(Q:Value->Hp->Prop):Prop:=
 ∃ (I:Int->Hp->Prop) (m:Int->Hp->Nat),I 0 h/\(∀ n:Int,∀ h1:Hp,I n h1->dr (some ⟨pb,0,none⟩) λb o=>ldS h1 b (o+s) λl=>par (n<(l.n:Int)) (False) (∃ (I1:Int->Hp->Prop) (m1:Int->Hp->Nat),I1 0 h1/\(∀ n1:Int,∀ h2:Hp,I1 n1 h2->dr (some ⟨pb,0,none⟩) λb1 o1=>ldS h2 b1 (o1+(s+2)) λl1=>par (n1<(l1.n:Int)) (False) (Q (.bool true) h2))))
section
variable{g h:Hp}{m:Mem}{pb R t s:Nat}{cs:List Value}{Q:Value->Hp->Prop}
theorem nil_mark(O:Mine g h m)(hb:m kB=some (bkF pb R t cs))(N:NoK cs s)(hQ:Q (.tuple ⟨[]⟩) h) :
  nilMarkT pb s h Q:=
 ⟨pb,0,rfl,⟨none,0,0⟩,O.cell hb (N 2 (by decide)),pb,0,rfl,⟨none,0,0⟩,O.cell hb (N 3 (by decide)),pb,0,rfl,⟨none,0,0⟩,O.cell hb (N 5 (by decide)),pb,0,rfl,⟨none,0,0⟩,O.cell hb (N 6 (by decide)),λ_=>hQ,λhh=>absurd rfl hh⟩
theorem nil_grow(O:Mine g h m)(hb:m kB=some (bkF pb R t cs))(N:NoK cs s)(hQ:∀ h',Mine g h' m->Q (.tuple ⟨[]⟩) h') :
  nilGrowT pb s h Q:=by
 refine⟨λn h1=>n=0/\h1=h,λ_ _=>0,⟨rfl,rfl⟩,?_⟩
 rintro n h1 ⟨rfl,rfl⟩
 refine⟨pb,0,rfl,⟨none,0,0⟩,O.cell hb (N 4 (by decide)),λhh=>absurd hh (by decide),λ_=>?_⟩
 obtain⟨c1,O1⟩:=O.setCell hb (N 4 (by decide)) (.slice none 0 0)
 rw[set_same (N 4 (by decide)),put_same hb] at O1
 obtain⟨c2,O2⟩:=O1.setCell hb (N 7 (by decide)) (.slice none 0 0)
 rw[set_same (N 7 (by decide)),put_same hb] at O2
 exact⟨pb,0,rfl,c1,pb,0,rfl,c2,hQ _ O2⟩
theorem nil_keep(O:Mine g h m)(hb:m kB=some (bkF pb R t cs))(N:NoK cs s)(hQ:Q (.bool true) h) :
  nilKeepT pb s h Q:=by
 refine⟨λn h1=>n=0/\h1=h,λ_ _=>0,⟨rfl,rfl⟩,?_⟩
 rintro n h1 ⟨rfl,rfl⟩
 refine⟨pb,0,rfl,⟨none,0,0⟩,O.cell hb (N 0 (by decide)),λhh=>absurd hh (by decide),λ_=>?_⟩
 refine⟨λn h2=>n=0/\h2=h1,λ_ _=>0,⟨rfl,rfl⟩,?_⟩
 rintro n h2 ⟨rfl,rfl⟩
 exact⟨pb,0,rfl,⟨none,0,0⟩,O.cell hb (N 2 (by decide)),λhh=>absurd hh (by decide),λ_=>hQ⟩
end
end Go.Eng
end
section
namespace Go.Eng
def slv(s:Sl):Value:=.slice s.a s.n s.c
def kA(c f:Nat):Key:=(1,c,f)
def kL(c i:Nat):Key:=(2,c,i)
theorem kA_kB(c f:Nat):kA c f≠kB:=λe=>by cases e
theorem kL_kB(c f:Nat):kL c f≠kB:=λe=>by cases e
theorem kL_kA(c i d f:Nat):kL c i≠kA d f:=λe=>by cases e
theorem kA_ne{c d f e:Nat}(h:f≠e):kA c f≠kA d e:=λq=>h (by cases q;rfl)
@[reducible] def addB(pb s tL t sz bytes:Nat)(zs:List Value)(l:Sl)(mark:Int)(U:Int->Hp->(Value->Hp->Prop)->Prop)(D:Hp->(Value->Hp->Prop)->Prop)(h:Hp)(Q:Value->Hp->Prop):Prop:=
 dr (some ⟨pb,0,none⟩) λb2 o2=>ldS h b2 (o2+(s+2)) λl1=>appendD l1 tL 1 24 [.slice none 0 0] 1 [.slice l.a l.n l.c] h λl2 h2=>dr (some ⟨pb,0,none⟩) λb3 o3=>st h2 b3 (o3+(s+2)) 1 [.slice l2.a l2.n l2.c] λh3=>dr (some ⟨pb,0,none⟩) λb4 o4=>ldS h3 b4 (o4+(s+3)) λl3=>nw h3 (.cells ⟨[]⟩ t (0,0)) λb5 h4=>h4.at b4 (o4+(s+3))=some (.slice l3.a l3.n l3.c)/\∃ vs,h4.row l.a (l.n*sz) vs/\(∀ v∈vs,Value.oneCell' v=true)/\appendD ⟨(some ⟨b5,0,none⟩),0,0⟩ t sz bytes zs l.n vs h4 λl4 h5=>h5.at b4 (o4+(s+3))=some (.slice l3.a l3.n l3.c)/\h5.at b4 (o4+(s+3))=some (.slice l3.a l3.n l3.c)/\appendD l3 tL 1 24 [.slice none 0 0] 1 [.slice l4.a l4.n l4.c] h5 λl5 h6=>dr (some ⟨pb,0,none⟩) λb6 o5=>st h6 b6 (o5+(s+3)) 1 [.slice l5.a l5.n l5.c] λh7=>dr (some ⟨pb,0,none⟩) λb7 o6=>ldS h7 b7 (o6+(s+5)) λl6=>appendD l6 3 1 8 [.int .i64 0] 1 [.int .i64 mark] h7 λl7 h8=>dr (some ⟨pb,0,none⟩) λb8 o7=>st h8 b8 (o7+(s+5)) 1 [.slice l7.a l7.n l7.c] λh9=>dr (some ⟨pb,0,none⟩) λb9 o8=>ldS h9 b9 (o8+(s+6)) λl8=>dr (some ⟨pb,0,none⟩) λb10 o9=>ldI .i64 h9 b10 (o9+(s+8)) λn2=>U n2 h9 λr h10=>retI .i64 r λn3=>h10.at b9 (o8+(s+6))=some (.slice l8.a l8.n l8.c)/\h10.at b9 (o8+(s+6))=some (.slice l8.a l8.n l8.c)/\appendD l8 3 1 8 [.int .i64 0] 1 [.int .i64 n3] h10 λl9 h11=>dr (some ⟨pb,0,none⟩) λb11 o10=>st h11 b11 (o10+(s+6)) 1 [.slice l9.a l9.n l9.c] λh12=>dr (some ⟨pb,0,none⟩) λb12 o11=>ldI .i64 h12 b12 (o11+(s+8)) λn4=>dr (some ⟨pb,0,none⟩) λb13 o12=>st h12 b13 (o12+(s+8)) 1 [.int .i64 (wrap .i64 (n4+1))] λh13=>D h13 λr1 h14=>Q (.tuple ⟨[]⟩) h14
@[reducible] def addT(pb s tL t sz bytes:Nat)(zs:List Value)(l:Sl)(mark:Int)(U:Int->Hp->(Value->Hp->Prop)->Prop)(D:Hp->(Value->Hp->Prop)->Prop)(h:Hp)(Q:Value->Hp->Prop):Prop:=
 dr (some ⟨pb,0,none⟩) λb o=>ldI .i64 h b (o+3) λn1=>dr (some ⟨pb,0,none⟩) λb1 o1=>st h b1 (o1+3) 1 [.int .i64 (wrap .i64 (n1+1))] λh1=>addB pb s tL t sz bytes zs l mark U D h1 Q
section
variable{g h:Hp}{m:Mem}{pb R t s f c tA bt:Nat}{cs us:List Value}{z v:Value}{A:Sl}{K:Hp->Prop}
theorem app_f(O:Mine g h m)(hb:m kB=some (bkF pb R t cs))(ha:m (kA c f)=some ⟨A,1,tA,us⟩)(hc:cs[s+f]?=some (slv A))(hl:(us.length+1)*bt<=140737488355328)
  (hK:∀ h' A' m' cs',Mine g h' m'->m' kB=some (bkF pb R t cs')->m' (kA c f)=some ⟨A',1,tA,us++[v]⟩->(∀ j,j≠kB->j≠kA c f->m' j=m j)->cs'[s+f]?=some (slv A')->(∀ i,i≠s+f->cs'[i]?=cs[i]?)->K h') :
  appendD A tA 1 bt [z] 1 [v] h λl2 h2=>dr (some ⟨pb,0,none⟩) λb3 o3=>st h2 b3 (o3+(s+f)) 1 [.slice l2.a l2.n l2.c] λh3=>K h3:=by
 have B:=O.buf _ _ ha
 have hn:A.n=us.length:=by have:=B.len;simp only[Nat.mul_one] at this;omega
 refine append_buf B rfl rfl (by rw[hn];exact hl) λl2 h2 B2 _ U2=>?_
 have O2:=O.write ha U2 B2
 have hb2:(m.put (kA c f) ⟨l2,1,tA,us++[v]⟩) kB=some (bkF pb R t cs):=by rw[put_ne _ _ (Ne.symm (kA_kB c f))];exact hb
 obtain⟨c2,O3⟩:=O2.setCell hb2 hc (slv l2)
 refine⟨pb,0,rfl,c2,hK _ l2 _ _ O3 (put_self _ _ _) (by rw[put_ne _ _ (kA_kB c f),put_self]) (λj h1 h2=>by rw[put_ne _ _ h1,put_ne _ _ h2]) (getElem?_set_self (List.getElem?_eq_some_iff.1 hc).1) λi hi=>getElem?_set_ne (Ne.symm hi)⟩
def kT:Key:=(9,9,9)
theorem put_del{m:Mem}{k:Key}(h:m k=none)(x:Bf):(m.put k x).del k=m:=funext λj=>by
 unfold Mem.del Mem.put
 by_cases hj:j=k
 ·rw[if_pos hj,hj,h]
 ·rw[if_neg hj,if_neg hj]
theorem copy_f{sz bytes:Nat}{zs vs:List Value}{l:Sl}{P:Hp->Prop}{K:Sl->Hp->Prop}(hP:∀ h',Keep h h'->P h')(O:Mine g h m)(hk:m kT=none)(hr:h.row l.a (l.n*sz) vs)(hone:∀ v∈vs,Value.oneCell' v=true)(hz:zs.length=sz)(hn:l.n*bytes<=140737488355328)
  (hK:∀ (l4:Sl) (h5 g':Hp),Keep g g'->Mine g' h5 m->g'.row l4.a (l4.n*sz) vs->l4.n=l.n->Keep h h5->K l4 h5) :
  nw h (.cells ⟨[]⟩ t (0,0)) λb5 h4=>P h4/\∃ vs,h4.row l.a (l.n*sz) vs/\(∀ v∈vs,Value.oneCell' v=true)/\appendD ⟨(some ⟨b5,0,none⟩),0,0⟩ t sz bytes zs l.n vs h4 λl4 h5=>K l4 h5:=by
 intro b hbn
 have k0:=Keep.new hbn (.cells ⟨[]⟩ t (0,0))
 have B0:=buf_new (h:=h) (b:=b) (t:=t) (sz:=sz) (n:=0) [] (by simp)
 have N0:NewB h ⟨some ⟨b,0,none⟩,0,0⟩:=.inr ⟨b,rfl,hbn⟩
 have r0:=k0.row hr
 generalize h.new b (.cells ⟨[]⟩ t (0,0))=h1 at k0 B0 r0 ⊢
 refine⟨hP _ k0,vs,r0,hone,?_⟩
 refine append_buf B0 hz r0.1 (by show(0+l.n)*bytes<=_;rw[Nat.zero_add];exact hn) λl4 h5 B5 hn5 U5=>?_
 rw[List.nil_append] at B5
 have K5:Keep h h5:=keepB k0 N0 U5
 have N5:NewB h l4:=newB k0 N0 U5
 have O5:=O.add hk K5 N5 B5
 obtain⟨g',Kg,Og,Bg⟩:=O5.freeze (put_self _ _ _)
 rw[put_del hk] at Og
 exact hK l4 h5 g' Kg Og Bg.row (by rw[hn5];show 0+l.n=_;omega) K5
theorem keep_at{h h':Hp}(K:Keep h h'){b o:Nat}{v:Value}(e:h.at b o=some v):h'.at b o=some v:=by
 unfold Hp.at at e ⊢
 cases hb:h b with
 |none=>rw[hb] at e;cases e
 |some x=>rw[hb] at e;rw[K b x hb];exact e
structure AddK(g:Hp)(m:Mem)(cs:List Value)(c s:Nat)(tL:Nat)(v2 v3 v5 v6:List Value)(seen:Int)(l nt:Sl)(mark due:Int)(m':Mem)(cs':List Value):Prop where
 a2:∃ A,m' (kA c 2)=some ⟨A,1,tL,v2++[slv l]⟩/\cs'[s+2]?=some (slv A)
 a3:∃ A,m' (kA c 3)=some ⟨A,1,tL,v3++[slv nt]⟩/\cs'[s+3]?=some (slv A)
 a5:∃ A,m' (kA c 5)=some ⟨A,1,3,v5++[.int .i64 mark]⟩/\cs'[s+5]?=some (slv A)
 a6:∃ A,m' (kA c 6)=some ⟨A,1,3,v6++[.int .i64 due]⟩/\cs'[s+6]?=some (slv A)
 seen:cs'[s+8]?=some (.int .i64 (wrap .i64 (seen+1)))
 rest:∀ i,i≠s+2->i≠s+3->i≠s+5->i≠s+6->i≠s+8->cs'[i]?=cs[i]?
 mem:∀ j,j≠kB->j≠kA c 2->j≠kA c 3->j≠kA c 5->j≠kA c 6->m' j=m j
theorem add_k{tL sz bytes:Nat}{zs vs v2 v3 v5 v6:List Value}{l A2 A3 A5 A6:Sl}{seen turn mark:Int}{U:Int->Hp->(Value->Hp->Prop)->Prop}{D:Hp->(Value->Hp->Prop)->Prop}{Q:Value->Hp->Prop}
  (hU:∀ n h9 K,h9.at pb (0+0)=some (.bool false)->h9.at pb (0+2)=some (.int .i64 turn)->(∀ d,K (.int .i64 d) h9)->U n h9 K)
  (O:Mine g h m) (hb:m kB=some (bkF pb R tA cs)) (hk:m kT=none) (hs:4<=s)
  (c0:cs[0]?=some (.bool false)) (c2:cs[2]?=some (.int .i64 turn)) (c8:cs[s+8]?=some (.int .i64 seen))
  (m2:m (kA c 2)=some ⟨A2,1,tL,v2⟩) (e2:cs[s+2]?=some (slv A2)) (m3:m (kA c 3)=some ⟨A3,1,tL,v3⟩) (e3:cs[s+3]?=some (slv A3))
  (m5:m (kA c 5)=some ⟨A5,1,3,v5⟩) (e5:cs[s+5]?=some (slv A5)) (m6:m (kA c 6)=some ⟨A6,1,3,v6⟩) (e6:cs[s+6]?=some (slv A6))
  (l2:v2.length<=1000000000000) (l3:v3.length<=1000000000000) (l5:v5.length<=1000000000000) (l6:v6.length<=1000000000000)
  {id:Nat} (hl:m (kL c id)=some ⟨l,sz,t,vs⟩) (hone:∀ v∈vs,Value.oneCell' v=true) (hz:zs.length=sz) (hn:l.n*bytes<=140737488355328)
  (hD:∀ h' g' m' cs' nt due,Keep g g'->Mine g' h' m'->m' kB=some (bkF pb R tA cs')->AddK g m cs c s tL v2 v3 v5 v6 seen l nt mark due m' cs'->g'.row nt.a (nt.n*sz) vs->nt.n=l.n->D h' λr1 h14=>Q (.tuple ⟨[]⟩) h14) :
  addB pb s tL t sz bytes zs l mark U D h Q:=by
 have g1:∀ i,i≠3->cs[i]?=cs[i]?:=λ_ _=>rfl
 have n1:∀ j,j≠kB->m j=m j:=λ_ _=>rfl
 refine⟨pb,0,rfl,A2,O.cell hb (by rw[g1 _ (by omega)];exact e2),?_⟩
 refine app_f (v:=slv l) O hb (by rw[n1 _ (kA_kB _ _)];exact m2) (by rw[g1 _ (by omega)];exact e2) (by omega) λh3 B2 M2 cs2 O2 hb2 p2 n2 q2 g2=>?_
 have f3:cs2[s+3]?=some (slv A3):=by rw[g2 _ (by omega),g1 _ (by omega)];exact e3
 refine⟨pb,0,rfl,A3,O2.cell hb2 f3,?_⟩
 have hl2:M2 (kL c id)=some ⟨l,sz,t,vs⟩:=by rw[n2 _ (kL_kB _ _) (kL_kA _ _ _ _),n1 _ (kL_kB _ _)];exact hl
 have hk2:M2 kT=none:=by rw[n2 _ (λe=>by cases e) (λe=>by cases e),n1 _ (λe=>by cases e)];exact hk
 refine copy_f (λh' K'=>keep_at K' (O2.cell hb2 f3)) O2 hk2 (O2.buf _ _ hl2).row hone hz hn λnt h5 g' Kg O3 rnt hnt K5=>?_
 refine⟨O3.cell hb2 f3,O3.cell hb2 f3,?_⟩
 refine app_f (v:=slv nt) O3 hb2 (by rw[n2 _ (kA_kB _ _) (kA_ne (by decide)),n1 _ (kA_kB _ _)];exact m3) f3 (by omega) λh7 B3 M3 cs3 O4 hb3 p3 n3 q3 g3=>?_
 have f5:cs3[s+5]?=some (slv A5):=by rw[g3 _ (by omega),g2 _ (by omega),g1 _ (by omega)];exact e5
 refine⟨pb,0,rfl,A5,O4.cell hb3 f5,?_⟩
 refine app_f (v:=.int .i64 mark) O4 hb3 (by rw[n3 _ (kA_kB _ _) (kA_ne (by decide)),n2 _ (kA_kB _ _) (kA_ne (by decide)),n1 _ (kA_kB _ _)];exact m5) f5 (by omega) λh9 B5 M5 cs5 O5 hb5 p5 n5 q5 g5=>?_
 have f6:cs5[s+6]?=some (slv A6):=by rw[g5 _ (by omega),g3 _ (by omega),g2 _ (by omega),g1 _ (by omega)];exact e6
 have f8:cs5[s+8]?=some (.int .i64 seen):=by rw[g5 _ (by omega),g3 _ (by omega),g2 _ (by omega),g1 _ (by omega)];exact c8
 refine⟨pb,0,rfl,A6,O5.cell hb5 f6,pb,0,rfl,seen,O5.cell hb5 f8,?_⟩
 refine hU _ _ _ (O5.cell hb5 (by rw[g5 _ (by omega),g3 _ (by omega),g2 _ (by omega),g1 _ (by omega)];exact c0)) (O5.cell hb5 (by rw[g5 _ (by omega),g3 _ (by omega),g2 _ (by omega),g1 _ (by omega)];exact c2)) λdue=>⟨due,rfl,O5.cell hb5 f6,O5.cell hb5 f6,?_⟩
 refine app_f (v:=.int .i64 due) O5 hb5 (by rw[n5 _ (kA_kB _ _) (kA_ne (by decide)),n3 _ (kA_kB _ _) (kA_ne (by decide)),n2 _ (kA_kB _ _) (kA_ne (by decide)),n1 _ (kA_kB _ _)];exact m6) f6 (by omega) λh12 B6 M6 cs6 O6 hb6 p6 n6 q6 g6=>?_
 have f8':cs6[s+8]?=some (.int .i64 seen):=by rw[g6 _ (by omega)];exact f8
 obtain⟨w7,O7⟩:=O6.setCell hb6 f8' (.int .i64 (wrap .i64 (seen+1)))
 refine⟨pb,0,rfl,seen,O6.cell hb6 f8',pb,0,rfl,w7,?_⟩
 have g7:∀ i,i≠s+8->(cs6.set (s+8) (.int .i64 (wrap .i64 (seen+1))))[i]?=cs6[i]?:=λi hi=>getElem?_set_ne (Ne.symm hi)
 have n7:∀ j,j≠kB->(M6.put kB (bkF pb R tA (cs6.set (s+8) (.int .i64 (wrap .i64 (seen+1)))))) j=M6 j:=λj hj=>put_ne _ _ hj
 refine hD _ g' _ _ nt due Kg O7 (put_self _ _ _) ⟨⟨B2,?_,?_⟩,⟨B3,?_,?_⟩,⟨B5,?_,?_⟩,⟨B6,?_,?_⟩,getElem?_set_self (List.getElem?_eq_some_iff.1 f8').1,λi h2 h3' h5 h6 h8=>?_,λj hB h2 h3 h5 h6=>?_⟩ rnt hnt
 ·rw[n7 _ (kA_kB _ _),n6 _ (kA_kB _ _) (kA_ne (by decide)),n5 _ (kA_kB _ _) (kA_ne (by decide)),n3 _ (kA_kB _ _) (kA_ne (by decide))];exact p2
 ·rw[g7 _ (by omega),g6 _ (by omega),g5 _ (by omega),g3 _ (by omega)];exact q2
 ·rw[n7 _ (kA_kB _ _),n6 _ (kA_kB _ _) (kA_ne (by decide)),n5 _ (kA_kB _ _) (kA_ne (by decide))];exact p3
 ·rw[g7 _ (by omega),g6 _ (by omega),g5 _ (by omega)];exact q3
 ·rw[n7 _ (kA_kB _ _),n6 _ (kA_kB _ _) (kA_ne (by decide))];exact p5
 ·rw[g7 _ (by omega),g6 _ (by omega)];exact q5
 ·rw[n7 _ (kA_kB _ _)];exact p6
 ·rw[g7 _ (by omega)];exact q6
 ·rw[g7 _ h8,g6 _ h6,g5 _ h5,g3 _ h3',g2 _ h2]
 ·rw[n7 _ hB,n6 _ hB h6,n5 _ hB h5,n3 _ hB h3,n2 _ hB h2,n1 _ hB]
end
end Go.Eng
end
section
namespace Go.Eng
theorem append_two{h:Hp}{s:Sl}{sz t bytes m:Nat}{z vs us:List Value}{K:Sl->Hp->Prop}(B:Buf h s sz t vs)(hz:z.length=sz)(hu:us.length=m*sz)(hb:(s.n+m)*bytes<=140737488355328)
  (hK1:∀ s' h',Buf h' s' sz t (vs++us)->s'.n=s.n+m->s'.a=s.a->Upd h h' s s'->K s' h') (hK2:∀ s' h',Buf h' s' sz t (vs++us)->s'.n=s.n+m->NewB h s'->Keep h h'->K s' h'):appendD s t sz bytes z m us h K:=by
 refine⟨hb,λhle=>?_,λhlt=>⟨vs,B.row,λb c hbn hc=>?_⟩⟩
 ·rcases B.own with⟨ha,hc⟩|⟨b,c,f,ha,hbb,hsz,hf,ht⟩
  ·have hm:m=0/\s.n=0:=by omega
   have hus:us=[]:=List.eq_nil_of_length_eq_zero (by rw[hu,hm.1];simp)
   subst hus
   refine⟨.inl rfl,hK1 _ _ ⟨?_,by show s.n+m<=s.c;omega,.inl ⟨ha,hc⟩⟩ rfl rfl ⟨λk x _ e=>?_,.inl rfl,λk e=>?_⟩⟩
   ·have:=B.len;simp only[append_nil,this,hm.1,Nat.add_zero]
   ·rw[wrA_nil];exact e
   ·rw[wrA_nil] at e;exact e
  ·have hmul:s.n*sz+m*sz<=c.size:=by
    rw[<- Nat.add_mul]
    exact Nat.le_trans (Nat.mul_le_mul_right _ hle) hsz
   have haddr:s.a.map (·.add (s.n*sz))=some ⟨b,s.n*sz,none⟩:=by rw[ha];simp[addr_add]
   rw[haddr]
   have hcl:c.toList.length=c.size:=by simp
   refine⟨.inr ⟨b,s.n*sz,rfl,c,t,f,hbb,by omega,λj h1 h2=>hf j (by omega)⟩,hK1 _ _ ⟨?_,by show s.n+m<=s.c;exact hle,.inr ⟨b,(setL c.toList (s.n*sz) us).toArray,f,ha,?_,?_,?_,?_⟩⟩ rfl rfl ⟨λk x hk e=>?_,.inl rfl,λk e=>?_⟩⟩
   ·simp only[length_append,B.len,hu,Nat.add_mul]
   ·simp only[Hp.wrA,Hp.wr,if_pos,hbb]
   ·simp only[List.size_toArray,setL_length,hcl];exact hsz
   ·intro j hj
    simp only[List.size_toArray,setL_length,hcl] at hj
    exact hf j hj
   ·apply List.ext_getElem?
    intro j
    rw[List.getElem?_take]
    simp only[List.toList_toArray]
    rw[setL_get' _ _ _ _ (by rw[hcl,hu];exact hmul)]
    have hl:=B.len
    by_cases h1:j<(vs++us).length
    ·rw[if_pos h1]
     simp only[length_append] at h1
     by_cases h2:s.n*sz<=j
     ·rw[if_pos ⟨h2,by omega⟩,getElem?_append_right (by omega),hl]
     ·rw[if_neg (by omega),getElem?_append_left (by omega)]
      rw[<- ht,List.getElem?_take,if_pos (by omega)]
    ·rw[if_neg h1,List.getElem?_eq_none (by omega)]
   ·simp only[Hp.wrA,Hp.wr]
    rw[if_neg (λe=>hk 0 (by rw[e];exact ha))]
    exact e
   ·simp only[Hp.wrA,Hp.wr] at e
    by_cases hkb:k=b
    ·rw[if_pos hkb,hbb] at e;cases e
    ·rw[if_neg hkb] at e;exact e
 ·have hsize:(vs++us++zerosV z (c-(s.n+m))).length=c*sz:=by
   simp only[length_append,B.len,hu,zerosV_length,hz]
   rw[<- Nat.add_mul,<- Nat.add_mul]
   congr 1
   omega
  refine hK2 _ _ ⟨?_,hc,.inr ⟨b,_,(0,0),rfl,by unfold Hp.new;rw[if_pos rfl],?_,λj _=>by simp,?_⟩⟩ rfl (.inr ⟨b,rfl,hbn⟩) (Keep.new hbn _)
  ·simp only[length_append,B.len,hu,Nat.add_mul]
  ·simp only[List.size_toArray,hsize,Nat.le_refl]
  ·simp only[List.toList_toArray]
   rw[List.take_left' rfl]
def Cols(KD:Nat->Value->Prop)(sz:Nat)(vs:List Value):Prop:=∀ i v,vs[i]?=some v->KD (i % sz) v
theorem Cols.nil(KD:Nat->Value->Prop)(sz:Nat):Cols KD sz []:=λi v e=>by simp at e
theorem Cols.app{KD:Nat->Value->Prop}{sz n:Nat}{vs us:List Value}(A:Cols KD sz vs)(B:Cols KD sz us)(hl:vs.length=n*sz):Cols KD sz (vs++us):=λi v e=>by
 by_cases hi:i<vs.length
 ·rw[getElem?_append_left hi] at e;exact A i v e
 ·rw[getElem?_append_right (by omega)] at e
  have:=B _ v e
  rw[hl] at this hi
  have e2:i=(i-n*sz)+n*sz:=by omega
  rw[e2,Nat.add_mul_mod_self_right]
  exact this
theorem Cols.take{KD:Nat->Value->Prop}{sz:Nat}{vs:List Value}(A:Cols KD sz vs)(k:Nat):Cols KD sz (vs.take k):=λi v e=>by
 rw[List.getElem?_take] at e
 by_cases hi:i<k
 ·rw[if_pos hi] at e;exact A i v e
 ·rw[if_neg hi] at e;cases e
theorem Cols.drop{KD:Nat->Value->Prop}{sz:Nat}{vs:List Value}(A:Cols KD sz vs)(k:Nat):Cols KD sz (vs.drop (k*sz)):=λi v e=>by
 rw[List.getElem?_drop] at e
 have:=A _ v e
 rw[Nat.add_comm,Nat.add_mul_mod_self_right] at this
 exact this
theorem Cols.one{KD:Nat->Value->Prop}{sz:Nat}{vs:List Value}(A:Cols KD sz vs)(h:∀ c v,KD c v->Value.oneCell' v=true):∀ v∈vs,Value.oneCell' v=true:=λv hv=>by
 obtain⟨i,hi,e⟩:=List.getElem_of_mem hv
 exact h _ v (A i v (by rw[List.getElem?_eq_getElem hi,e]))
theorem row_pre{h:Hp}{A:Option Addr}{n k:Nat}{vs us:List Value}(R:h.row A n (vs++us))(hk:vs.length=k):h.row A k vs:=by
 refine⟨hk,?_⟩
 have hl:=R.1
 rw[length_append] at hl
 rcases R.2 with h0|⟨b,o,ha,hat⟩
 ·exact .inl (by omega)
 ·refine .inr ⟨b,o,ha,λj hj=>?_⟩
  rw[hat j (by omega),getElem?_append_left (by omega)]
theorem del_put(m:Mem)(k:Key)(x y:Bf):((m.put k x).del k).put k y=m.put k y:=funext λj=>by
 by_cases hj:j=k
 ·rw[hj,put_self,put_self]
 ·rw[put_ne _ _ hj,del_ne _ hj,put_ne _ _ hj,put_ne _ _ hj]
theorem del_put'(m:Mem)(k:Key)(x:Bf):(m.put k x).del k=m.del k:=funext λj=>by
 by_cases hj:j=k
 ·rw[hj,del_self,del_self]
 ·rw[del_ne _ hj,put_ne _ _ hj,del_ne _ hj]
section
variable{g h:Hp}{m:Mem}{pb R t s c tA bt sz bytes:Nat}{cs us zs fv:List Value}{z v:Value}{fs:Sl}
theorem lay_on{M:Nat}(hM:M<=150){KD:Nat->Value->Prop}{k:Key}{WR:Int->Hp->(List Value->Hp->Prop)->Prop}{K:Sl->Hp->Prop}(O:Mine g h m)(hl:m k=some ⟨fs,sz,t,fv⟩)(hWR:∀ i h' K,Keep g h'->(∀ h'' us,Keep h' h''->us.length=sz->Cols KD sz us->K us h'')->WR i h' K)(hone:Cols KD sz fv)(hz:zs.length=sz)(hn:(fs.n+150)*bytes<=140737488355328)
  (hK:∀ (l4:Sl) (h2 g':Hp) (us:List Value),Keep g g'->Mine g' h2 (m.del k)->g'.row fs.a (fs.n*sz) fv->g'.row l4.a (l4.n*sz) us->Cols KD sz us->l4.n=fs.n+M->K l4 h2) :
  ∃ (I1:Sl->Int->Hp->Prop) (m1:Sl->Int->Hp->Nat),I1 fs 0 h/\(∀ l4:Sl,∀ n2:Int,∀ h2:Hp,I1 l4 n2 h2->par (n2<(M:Int)) (WR n2 h2 λus h3=>appendD l4 t sz bytes zs 1 us h3 λl5 h4=>I1 l5 (wrap .i64 (n2+1)) h4/\m1 l5 (wrap .i64 (n2+1)) h4<m1 l4 n2 h2) (K l4 h2)):=by
 have hfl:fv.length=fs.n*sz:=(O.buf _ _ hl).len
 have mulle:∀ x:Nat,x<=fs.n+150->x*bytes<=140737488355328:=λx hx=>Nat.le_trans (Nat.mul_le_mul_right _ hx) hn
 refine⟨λl4 n2 h2=>∃ (j:Nat) (us:List Value) (g':Hp),n2=(j:Int)/\j<=M/\Keep g g'/\Mine g' h2 (m.put k ⟨l4,sz,t,fv++us⟩)/\Cols KD sz us/\us.length=j*sz/\l4.n=fs.n+j/\(l4.a=fs.a\/g'.row fs.a (fs.n*sz) fv),λ_ n2 _=>M-n2.toNat,⟨0,[],g,rfl,Nat.zero_le _,Keep.refl g,by rw[append_nil,put_same hl];exact O,Cols.nil _ _,by simp,rfl,.inl rfl⟩,?_⟩
 rintro l4 n2 h2 ⟨j,us,g',rfl,hj,Kg,O2,hus,hul,hn4,hor⟩
 have B2:=O2.buf k _ (put_self _ _ _)
 refine⟨λhlt=>?_,λhge=>?_⟩
 ·have w3:wrap .i64 ((j:Int)+1)=((j+1:Nat):Int):=nx_i (n:=M) (by omega) (by omega)
  rw[w3]
  refine hWR _ _ _ (Kg.trans O2.keep) λhw V KV hV cV=>?_
  replace O2:=O2.keepH KV
  have B2:=O2.buf k _ (put_self _ _ _)
  have hus':Cols KD sz (us++V):=hus.app cV hul
  have hul':(us++V).length=(j+1)*sz:=by rw[length_append,hV,hul,Nat.add_mul,Nat.one_mul]
  refine append_two B2 hz (by rw[hV,Nat.one_mul]) (mulle _ (by omega)) (λl5 h3 B3 hn5 ha U3=>?_) (λl5 h3 B3 hn5 N3 K3=>?_)
  ·have O3:=O2.write (put_self _ _ _) U3 B3
   rw[Mem.put_put,List.append_assoc] at O3
   exact⟨⟨j+1,us++V,g',rfl,by omega,Kg,O3,hus',hul',by rw[hn5];omega,by rw[ha];exact hor⟩,by dsimp only;omega⟩
  ·obtain⟨g1,Kg1,O3,Bg⟩:=O2.freeze (put_self _ _ _)
   have O4:=O3.add (del_self _ _) K3 N3 B3
   rw[del_put,List.append_assoc] at O4
   refine⟨⟨j+1,us++V,g1,rfl,by omega,Kg.trans Kg1,O4,hus',hul',by rw[hn5];omega,.inr ?_⟩,by dsimp only;omega⟩
   rcases hor with ha|hr
   ·have:=Bg.row
    dsimp only at this
    rw[ha] at this
    exact row_pre this hfl
   ·exact Kg1.row hr
 ·have hj30:j=M:=by omega
  subst hj30
  obtain⟨g1,Kg1,O3,Bg⟩:=O2.freeze (put_self _ _ _)
  rw[del_put'] at O3
  refine hK l4 h2 g1 (fv++us) (Kg.trans Kg1) O3 ?_ Bg.row (hone.app hus hfl) hn4
  rcases hor with ha|hr
  ·have:=Bg.row
   dsimp only at this
   rw[ha] at this
   exact row_pre this hfl
  ·exact Kg1.row hr
end
end Go.Eng
end
section
namespace Go.Eng
structure FR where
 id:Nat
 s:Sl
 td:Sl
 fv:List Value
 mark:Int
def Fz(g:Hp)(KD:Nat->Value->Prop)(sz:Nat)(p:Sl×Sl):Prop:=∃ vs,Cols KD sz vs/\g.row p.1.a (p.1.n*sz) vs/\g.row p.2.a (p.2.n*sz) vs/\p.1.n=p.2.n/\p.1.n<=140737488355328
theorem Fz.keep{g g':Hp}{KD:Nat->Value->Prop}{sz:Nat}{p:Sl×Sl}(K:Keep g g')(F:Fz g KD sz p):Fz g' KD sz p:=by
 obtain⟨vs,d,a,b,c⟩:=F
 exact⟨vs,d,K.row a,K.row b,c⟩
structure GrS(g:Hp)(m:Mem)(cs:List Value)(KD:Nat->Value->Prop)(pb R tB c s tL sz t bytes:Nat)(A4 A7:Sl)(fa rm:List FR)(outs:List (Sl×Sl)):Prop where
 hb:m kB=some (bkF pb R tB cs)
 kt:m kT=none
 a0:∃ A,m (kA c 0)=some ⟨A,1,tL,outs.map λp=>slv p.1⟩/\cs[s+0]?=some (slv A)
 a1:∃ A,m (kA c 1)=some ⟨A,1,tL,outs.map λp=>slv p.2⟩/\cs[s+1]?=some (slv A)
 a4:m (kA c 4)=some ⟨A4,1,tL,fa.map λf=>slv f.s⟩/\cs[s+4]?=some (slv A4)
 a7:m (kA c 7)=some ⟨A7,1,3,fa.map λf=>.int .i64 f.mark⟩/\cs[s+7]?=some (slv A7)
 f:∀ f∈rm,m (kL c f.id)=some ⟨f.s,sz,t,f.fv⟩/\Cols KD sz f.fv/\(f.s.n+150)*bytes<=140737488355328/\g.row f.td.a (f.td.n*sz) f.fv/\f.s.n=f.td.n
 nd:(rm.map (·.id)).Nodup
 o:∀ p∈outs,Fz g KD sz p\/∃ f∈rm,p=(f.s,f.td)
@[reducible] def growT(pb s tL t sz bytes M:Nat)(zs:List Value)(WR:Int->Int->Hp->(List Value->Hp->Prop)->Prop)(h:Hp)(Q:Value->Hp->Prop):Prop:=
 ∃ (I:Int->Hp->Prop) (m:Int->Hp->Nat),I 0 h/\(∀ n:Int,∀ h1:Hp,I n h1->dr (some ⟨pb,0,none⟩) λb o=>ldS h1 b (o+(s+4)) λl=>par (n<(l.n:Int)) (dr (some ⟨pb,0,none⟩) λb1 o1=>ldS h1 b1 (o1+(s+7)) λl1=>ix l1.a n l1.n λb2 o2=>ldI .i64 h1 b2 (o2+n.toNat) λn1=>dr (some ⟨pb,0,none⟩) λb3 o3=>ldS h1 b3 (o3+(s+4)) λl2=>ix l2.a n l2.n λb4 o4=>ldS h1 b4 (o4+n.toNat) λl3=>∃ (I1:Sl->Int->Hp->Prop) (m1:Sl->Int->Hp->Nat),I1 l3 0 h1/\(∀ l4:Sl,∀ n2:Int,∀ h2:Hp,I1 l4 n2 h2->par (n2<(M:Int)) (WR n1 n2 h2 λus h3=>appendD l4 t sz bytes zs 1 us h3 λl5 h4=>I1 l5 (wrap .i64 (n2+1)) h4/\m1 l5 (wrap .i64 (n2+1)) h4<m1 l4 n2 h2) (dr (some ⟨pb,0,none⟩) λb5 o5=>ldS h2 b5 (o5+(s+0)) λl6=>appendD l6 tL 1 24 [.slice none 0 0] 1 [.slice l4.a l4.n l4.c] h2 λl7 h4=>dr (some ⟨pb,0,none⟩) λb6 o6=>st h4 b6 (o6+(s+0)) 1 [.slice l7.a l7.n l7.c] λh5=>dr (some ⟨pb,0,none⟩) λb7 o7=>ldS h5 b7 (o7+(s+1)) λl8=>nw h5 (.cells ⟨[]⟩ t (0,0)) λb8 h6=>h6.at b7 (o7+(s+1))=some (.slice l8.a l8.n l8.c)/\∃ vs,h6.row l4.a (l4.n*sz) vs/\(∀ v∈vs,Value.oneCell' v=true)/\appendD ⟨(some ⟨b8,0,none⟩),0,0⟩ t sz bytes zs l4.n vs h6 λl9 h7=>h7.at b7 (o7+(s+1))=some (.slice l8.a l8.n l8.c)/\h7.at b7 (o7+(s+1))=some (.slice l8.a l8.n l8.c)/\appendD l8 tL 1 24 [.slice none 0 0] 1 [.slice l9.a l9.n l9.c] h7 λl10 h8=>dr (some ⟨pb,0,none⟩) λb9 o8=>st h8 b9 (o8+(s+1)) 1 [.slice l10.a l10.n l10.c] λh9=>I (wrap .i64 (n+1)) h9/\m (wrap .i64 (n+1)) h9<m n h1))) (dr (some ⟨pb,0,none⟩) λb10 o9=>st h1 b10 (o9+(s+4)) 1 [.slice none 0 0] λh10=>dr (some ⟨pb,0,none⟩) λb11 o10=>st h10 b11 (o10+(s+7)) 1 [.slice none 0 0] λh11=>Q (.tuple ⟨[]⟩) h11))
section
variable{g h:Hp}{m:Mem}{pb R tB t s c tL sz bytes:Nat}{cs zs:List Value}{A4 A7:Sl}{fa:List FR}{outs:List (Sl×Sl)}{Q:Value->Hp->Prop}{KD:Nat->Value->Prop}
theorem grow_k{M:Nat}(hM:M<=150){WR:Int->Int->Hp->(List Value->Hp->Prop)->Prop}(O:Mine g h m)(G0:GrS g m cs KD pb R tB c s tL sz t bytes A4 A7 fa fa outs)(hWR:∀ a i h' K,Keep g h'->(∀ h'' us,Keep h' h''->us.length=sz->Cols KD sz us->K us h'')->WR a i h' K)(hKD:∀ c v,KD c v->Value.oneCell' v=true)(hby:0<bytes)(hz:zs.length=sz)(hfa:fa.length<=100000000000)(hou:outs.length<=1000000000000)
  (hQ:∀ (h' g':Hp) (m':Mem) (cs':List Value) (outs':List (Sl×Sl)),Keep g g'->Mine g' h' m'->m' kB=some (bkF pb R tB cs')->m' kT=none->(∃ A,m' (kA c 0)=some ⟨A,1,tL,outs'.map λp=>slv p.1⟩/\cs'[s+0]?=some (slv A))->(∃ A,m' (kA c 1)=some ⟨A,1,tL,outs'.map λp=>slv p.2⟩/\cs'[s+1]?=some (slv A))->cs'[s+4]?=some (.slice none 0 0)->cs'[s+7]?=some (.slice none 0 0)->(∀ p∈outs',Fz g' KD sz p)->(∀ p∈outs,p∈outs')->outs'.length=outs.length+fa.length->(∀ j,j≠kB->j≠kA c 0->j≠kA c 1->(∀ f∈fa,j≠kL c f.id)->m' j=m j)->(∀ i,i≠s+0->i≠s+1->i≠s+4->i≠s+7->cs'[i]?=cs[i]?)->Q (.tuple ⟨[]⟩) h') :
  growT pb s tL t sz bytes M zs WR h Q:=by
 refine⟨λn h1=>∃ (D rm:List FR) (g':Hp) (m':Mem) (cs':List Value) (outs':List (Sl×Sl)),fa=D++rm/\n=(D.length:Int)/\Keep g g'/\Mine g' h1 m'/\GrS g' m' cs' KD pb R tB c s tL sz t bytes A4 A7 fa rm outs'/\outs'.length=outs.length+D.length/\(∀ p∈outs,p∈outs')/\(∀ j,j≠kB->j≠kA c 0->j≠kA c 1->(∀ f∈fa,j≠kL c f.id)->m' j=m j)/\(∀ i,i≠s+0->i≠s+1->cs'[i]?=cs[i]?),λn _=>fa.length-n.toNat,⟨[],fa,g,m,cs,outs,rfl,rfl,Keep.refl g,O,G0,rfl,λ_ h=>h,λ_ _ _ _ _=>rfl,λ_ _ _=>rfl⟩,?_⟩
 rintro n h1 ⟨D,rm,g',m',cs',outs',e,rfl,Kg,O1,G,hlo,hio,hmem,hrest⟩
 have eL:=congrArg List.length e
 rw[length_append] at eL
 have B4:=O1.buf _ _ G.a4.1
 have B7:=O1.buf _ _ G.a7.1
 have n4:A4.n=fa.length:=by have:=B4.len;simp only[length_map,Nat.mul_one] at this;omega
 have n7:A7.n=fa.length:=by have:=B7.len;simp only[length_map,Nat.mul_one] at this;omega
 refine⟨pb,0,rfl,A4,O1.cell G.hb G.a4.2,λhlt=>?_,λhge=>?_⟩
 ·rcases rm with _|⟨f,rm⟩
  ·exact absurd hlt (by simp at eL;omega)
  rw[length_cons] at eL
  have hD:D.length<fa.length:=by omega
  have gf:fa[D.length]?=some f:=by rw[e,getElem?_append_right (Nat.le_refl _),Nat.sub_self];rfl
  obtain⟨b2,ha2,c2⟩:=buf_at B7 (k:=D.length) (by rw[length_map];exact hD)
  obtain⟨b4,ha4,c4⟩:=buf_at B4 (k:=D.length) (by rw[length_map];exact hD)
  dsimp only at ha2 ha4 c2 c4
  rw[getElem?_map,gf] at c2 c4
  refine⟨pb,0,rfl,A7,O1.cell G.hb G.a7.2,b2,0,ha2,⟨by omega,by omega⟩,f.mark,by rw[Int.toNat_natCast];exact c2,pb,0,rfl,A4,O1.cell G.hb G.a4.2,b4,0,ha4,⟨by omega,by omega⟩,f.s,by rw[Int.toNat_natCast];exact c4,?_⟩
  obtain⟨f1,f2,f3,f4,f5⟩:=G.f f List.mem_cons_self
  refine lay_on hM (WR:=WR f.mark) O1 f1 (λi h' K k=>hWR f.mark i h' K (Kg.trans k)) f2 hz f3 λl4 h2 g2 us Kg2 O2 r1 r2 ho hn4=>?_
  have hb2:(m'.del (kL c f.id)) kB=some (bkF pb R tB cs'):=by rw[del_ne _ (Ne.symm (kL_kB _ _))];exact G.hb
  have dA:∀ i,(m'.del (kL c f.id)) (kA c i)=m' (kA c i):=λi=>del_ne _ (Ne.symm (kL_kA _ _ _ _))
  have kt2:(m'.del (kL c f.id)) kT=none:=by rw[del_ne _ (λe=>by cases e)];exact G.kt
  obtain⟨A0,x0,y0⟩:=G.a0
  obtain⟨A1,x1,y1⟩:=G.a1
  refine⟨pb,0,rfl,A0,O2.cell hb2 y0,?_⟩
  refine app_f (v:=slv l4) O2 hb2 (by rw[dA];exact x0) y0 (by rw[length_map];omega) λh5 B0 M3 cs3 O3 hb3 p3 n3 q3 g3=>?_
  have y1':cs3[s+1]?=some (slv A1):=by rw[g3 _ (by omega)];exact y1
  have kt3:M3 kT=none:=by rw[n3 _ (λe=>by cases e) (λe=>by cases e)];exact kt2
  refine⟨pb,0,rfl,A1,O3.cell hb3 y1',?_⟩
  refine copy_f (λh' K'=>keep_at K' (O3.cell hb3 y1')) O3 kt3 (O3.keep.row r2) (ho.one hKD) hz (by rw[hn4];exact Nat.le_trans (Nat.mul_le_mul_right _ (by omega)) f3) λnt h7 g4 Kg4 O4 rnt hnt K5=>?_
  refine⟨O4.cell hb3 y1',O4.cell hb3 y1',?_⟩
  refine app_f (v:=slv nt) O4 hb3 (by rw[n3 _ (kA_kB _ _) (kA_ne (by decide)),dA];exact x1) y1' (by rw[length_map];omega) λh9 B1 M5 cs5 O5 hb5 p5 n5 q5 g5=>?_
  rw[nx_i (n:=1000000000000) (by omega) (by omega)]
  have K24:Keep g' g4:=Kg2.trans Kg4
  have nd:=G.nd
  rw[List.map_cons,List.nodup_cons] at nd
  refine⟨⟨D++[f],rm,g4,M5,cs5,outs'++[(l4,nt)],by rw[e];simp,by simp,Kg.trans K24,O5,⟨hb5,?_,⟨B0,?_,?_⟩,⟨B1,?_,q5⟩,⟨?_,?_⟩,⟨?_,?_⟩,λf' hf'=>?_,nd.2,λp hp=>?_⟩,by rw[length_append,length_append,List.length_singleton,List.length_singleton];omega,λp hp=>List.mem_append_left _ (hio p hp),λj h1 h2 h3 h4=>?_,λi h0 h1=>?_⟩,by dsimp only;omega⟩
  ·rw[n5 _ (λe=>by cases e) (λe=>by cases e)];exact kt3
  ·rw[n5 _ (kA_kB _ _) (kA_ne (by decide)),p3,map_append];rfl
  ·rw[g5 _ (by omega)];exact q3
  ·rw[p5,map_append];rfl
  ·rw[n5 _ (kA_kB _ _) (kA_ne (by decide)),n3 _ (kA_kB _ _) (kA_ne (by decide)),dA];exact G.a4.1
  ·rw[g5 _ (by omega),g3 _ (by omega)];exact G.a4.2
  ·rw[n5 _ (kA_kB _ _) (kA_ne (by decide)),n3 _ (kA_kB _ _) (kA_ne (by decide)),dA];exact G.a7.1
  ·rw[g5 _ (by omega),g3 _ (by omega)];exact G.a7.2
  ·obtain⟨e1,e2,e3,e4,e5⟩:=G.f f' (List.mem_cons_of_mem _ hf')
   refine⟨?_,e2,e3,K24.row e4,e5⟩
   rw[n5 _ (kL_kB _ _) (kL_kA _ _ _ _),n3 _ (kL_kB _ _) (kL_kA _ _ _ _),del_ne _ (λq=>nd.1 (by
    have q2:f'.id=f.id:=by unfold kL at q;simpa using q
    rw[<- q2];exact List.mem_map_of_mem (f:=(·.id)) hf'))]
   exact e1
  ·rcases List.mem_append.1 hp with hp|hp
   ·rcases G.o p hp with h|⟨f',hf',ep⟩
    ·exact .inl (h.keep K24)
    ·rcases List.mem_cons.1 hf' with rfl|hf'
     ·rw[ep]
      exact .inl ⟨f'.fv,f2,Kg4.row r1,K24.row f4,f5,Nat.le_trans (Nat.le_add_right _ 150) (Nat.le_trans (Nat.le_mul_of_pos_right _ hby) f3)⟩
     ·exact .inr ⟨f',hf',ep⟩
   ·rw[List.mem_singleton] at hp
    rw[hp]
    exact .inl ⟨us,ho,Kg4.row r2,rnt,hnt.symm,by dsimp only;rw[hn4];exact Nat.le_trans (Nat.le_mul_of_pos_right _ hby) (Nat.le_trans (Nat.mul_le_mul_right _ (by omega)) f3)⟩
  ·rw[n5 _ h1 h3,n3 _ h1 h2,del_ne _ (h4 f (by rw[e];simp))]
   exact hmem j h1 h2 h3 h4
  ·rw[g5 _ h1,g3 _ h0]
   exact hrest i h0 h1
 ·have hR:rm=[]:=List.eq_nil_of_length_eq_zero (by omega)
  subst hR
  rw[append_nil] at e
  subst e
  obtain⟨c1,O2⟩:=O1.setCell G.hb G.a4.2 (.slice none 0 0)
  have hb2:=put_self m' kB (bkF pb R tB (cs'.set (s+4) (.slice none 0 0)))
  obtain⟨c2,O3⟩:=O2.setCell hb2 (i:=s+7) (by rw[getElem?_set_ne (by omega)];exact G.a7.2) (.slice none 0 0)
  rw[Mem.put_put] at O3
  refine⟨pb,0,rfl,c1,pb,0,rfl,c2,?_⟩
  obtain⟨A0,x0,y0⟩:=G.a0
  obtain⟨A1,x1,y1⟩:=G.a1
  have l4:=(List.getElem?_eq_some_iff.1 G.a4.2).1
  have l7:=(List.getElem?_eq_some_iff.1 G.a7.2).1
  refine hQ _ g' _ _ outs' Kg O3 (put_self _ _ _) (by rw[put_ne _ _ (λe=>by cases e)];exact G.kt) ⟨A0,by rw[put_ne _ _ (kA_kB _ _)];exact x0,by rw[getElem?_set_ne (by omega),getElem?_set_ne (by omega)];exact y0⟩ ⟨A1,by rw[put_ne _ _ (kA_kB _ _)];exact x1,by rw[getElem?_set_ne (by omega),getElem?_set_ne (by omega)];exact y1⟩ (by rw[getElem?_set_ne (by omega),getElem?_set_self l4]) (getElem?_set_self (by rw[length_set];exact l7)) (λp hp=>?_) hio hlo (λj h1 h2 h3 h4=>by rw[put_ne _ _ h1];exact hmem j h1 h2 h3 h4) λi h0 h1 h4 h7=>by rw[getElem?_set_ne (Ne.symm h7),getElem?_set_ne (Ne.symm h4)];exact hrest i h0 h1
  rcases G.o p hp with h|⟨f,hf,_⟩
  ·exact h
  ·cases hf
end
end Go.Eng
end
section
namespace Go.Eng
structure WL where
 id:Nat
 s:Sl
 nt:Sl
 vs:List Value
 mark:Int
 due:Int
@[reducible] def holdT(pb s:Nat)(S:Sl->Sl->Hp->(Value->Hp->Prop)->Prop)(h:Hp)(Q:Value->Hp->Prop):Prop:=
 ∃ (I:Int->Hp->Prop) (m:Int->Hp->Nat),I 0 h/\(∀ n:Int,∀ h1:Hp,I n h1->dr (some ⟨pb,0,none⟩) λb o=>ldS h1 b (o+(s+0)) λl=>par (n<(l.n:Int)) (dr (some ⟨pb,0,none⟩) λb1 o1=>ldS h1 b1 (o1+(s+0)) λl1=>ix l1.a n l1.n λb2 o2=>ldS h1 b2 (o2+n.toNat) λl2=>dr (some ⟨pb,0,none⟩) λb3 o3=>ldS h1 b3 (o3+(s+1)) λl3=>ix l3.a n l3.n λb4 o4=>ldS h1 b4 (o4+n.toNat) λl4=>S l2 l4 h1 λr h2=>retB r (I (wrap .i64 (n+1)) h2/\m (wrap .i64 (n+1)) h2<m n h1) (Q (.bool false) h2)) (∃ (I1:Int->Hp->Prop) (m1:Int->Hp->Nat),I1 0 h1/\(∀ n1:Int,∀ h3:Hp,I1 n1 h3->dr (some ⟨pb,0,none⟩) λb5 o5=>ldS h3 b5 (o5+(s+2)) λl5=>par (n1<(l5.n:Int)) (dr (some ⟨pb,0,none⟩) λb6 o6=>ldS h3 b6 (o6+(s+2)) λl6=>ix l6.a n1 l6.n λb7 o7=>ldS h3 b7 (o7+n1.toNat) λl7=>dr (some ⟨pb,0,none⟩) λb8 o8=>ldS h3 b8 (o8+(s+3)) λl8=>ix l8.a n1 l8.n λb9 o9=>ldS h3 b9 (o9+n1.toNat) λl9=>S l7 l9 h3 λr1 h4=>retB r1 (I1 (wrap .i64 (n1+1)) h4/\m1 (wrap .i64 (n1+1)) h4<m1 n1 h3) (Q (.bool false) h4)) (Q (.bool true) h3))))
section
variable{g h:Hp}{m:Mem}{pb R tB t s c tL sz:Nat}{cs:List Value}{outs:List (Sl×Sl)}{ws:List WL}{Q:Value->Hp->Prop}{KD:Nat->Value->Prop}
theorem pairs_rd{w:Sl}{l:List Sl}(B:Buf h w 1 tL (l.map slv)){i:Nat}{x:Sl}(hx:l[i]?=some x):w.n=l.length/\∃ b,w.a=some ⟨b,0,none⟩/\h.at b (0+i)=some (.slice x.a x.n x.c):=by
 have hl:i<l.length:=(List.getElem?_eq_some_iff.1 hx).1
 have hn:w.n=l.length:=by have:=B.len;simp only[length_map,Nat.mul_one] at this;omega
 obtain⟨b,ha,c4⟩:=buf_at B (k:=i) (by rw[length_map];exact hl)
 rw[getElem?_map,hx] at c4
 exact⟨hn,b,ha,c4⟩
theorem hold_k{RY:Hp->Prop}(hRY:RY h){S:Sl->Sl->Hp->(Value->Hp->Prop)->Prop}(hS:∀ l l' (h:Hp) vs K,Cols KD sz vs->h.row l.a (l.n*sz) vs->h.row l'.a (l'.n*sz) vs->l.n=l'.n->l.n<=140737488355328->RY h->K (.bool true) h->S l l' h K)
  (O:Mine g h m) (hb:m kB=some (bkF pb R tB cs)) {A0 A1 A2 A3:Sl} (x0:m (kA c 0)=some ⟨A0,1,tL,(outs.map (·.1)).map slv⟩) (y0:cs[s+0]?=some (slv A0)) (x1:m (kA c 1)=some ⟨A1,1,tL,(outs.map (·.2)).map slv⟩) (y1:cs[s+1]?=some (slv A1))
  (x2:m (kA c 2)=some ⟨A2,1,tL,(ws.map (·.s)).map slv⟩) (y2:cs[s+2]?=some (slv A2)) (x3:m (kA c 3)=some ⟨A3,1,tL,(ws.map (·.nt)).map slv⟩) (y3:cs[s+3]?=some (slv A3))
  (ho:∀ p∈outs,Fz g KD sz p) (hw:∀ w∈ws,Cols KD sz w.vs/\h.row w.s.a (w.s.n*sz) w.vs/\g.row w.nt.a (w.nt.n*sz) w.vs/\w.s.n=w.nt.n/\w.s.n<=140737488355328) (lo:outs.length<=1000000000000) (lw:ws.length<=1000000000000) (hQ:Q (.bool true) h) :
  holdT pb s S h Q:=by
 have n0:A0.n=outs.length:=by have:=(O.buf _ _ x0).len;simp only[length_map,Nat.mul_one] at this;omega
 have n2:A2.n=ws.length:=by have:=(O.buf _ _ x2).len;simp only[length_map,Nat.mul_one] at this;omega
 refine⟨λn h1=>∃ i:Nat,n=(i:Int)/\h1=h,λn _=>outs.length-n.toNat,⟨0,rfl,rfl⟩,?_⟩
 rintro n h1 ⟨i,rfl,rfl⟩
 refine⟨pb,0,rfl,A0,O.cell hb y0,λhlt=>?_,λ_=>?_⟩
 ·have hi:i<outs.length:=by omega
  have hp:=List.getElem?_eq_getElem hi
  obtain⟨vs,r0,r1,r2,r3,r4⟩:=ho _ (List.getElem_mem hi)
  obtain⟨_,b2,a2,c2⟩:=pairs_rd (O.buf _ _ x0) (i:=i) (x:=outs[i].1) (by rw[getElem?_map,hp];rfl)
  obtain⟨n1,b4,a4,c4⟩:=pairs_rd (O.buf _ _ x1) (i:=i) (x:=outs[i].2) (by rw[getElem?_map,hp];rfl)
  rw[length_map] at n1
  dsimp only at a2 a4 n1
  refine⟨pb,0,rfl,A0,O.cell hb y0,b2,0,a2,⟨by omega,by omega⟩,_,by rw[Int.toNat_natCast];exact c2,pb,0,rfl,A1,O.cell hb y1,b4,0,a4,⟨by omega,by omega⟩,_,by rw[Int.toNat_natCast];exact c4,?_⟩
  refine hS _ _ _ vs _ r0 (O.keep.row r1) (O.keep.row r2) r3 r4 hRY ⟨true,rfl,λ_=>?_,λhh=>Bool.noConfusion hh⟩
  rw[nx_i hi (by omega)]
  exact⟨⟨i+1,rfl,rfl⟩,by dsimp only;omega⟩
 ·refine⟨λn h2=>∃ i:Nat,n=(i:Int)/\h2=h1,λn _=>ws.length-n.toNat,⟨0,rfl,rfl⟩,?_⟩
  rintro n h2 ⟨i,rfl,rfl⟩
  refine⟨pb,0,rfl,A2,O.cell hb y2,λhlt=>?_,λ_=>hQ⟩
  have hi:i<ws.length:=by omega
  have hp:=List.getElem?_eq_getElem hi
  obtain⟨r0,r1,r2,r3,r4⟩:=hw _ (List.getElem_mem hi)
  obtain⟨_,b2,a2,c2⟩:=pairs_rd (O.buf _ _ x2) (i:=i) (x:=ws[i].s) (by rw[getElem?_map,hp];rfl)
  obtain⟨n1,b4,a4,c4⟩:=pairs_rd (O.buf _ _ x3) (i:=i) (x:=ws[i].nt) (by rw[getElem?_map,hp];rfl)
  rw[length_map] at n1
  dsimp only at a2 a4 n1
  refine⟨pb,0,rfl,A2,O.cell hb y2,b2,0,a2,⟨by omega,by omega⟩,_,by rw[Int.toNat_natCast];exact c2,pb,0,rfl,A3,O.cell hb y3,b4,0,a4,⟨by omega,by omega⟩,_,by rw[Int.toNat_natCast];exact c4,?_⟩
  refine hS _ _ _ _ _ r0 r1 (O.keep.row r2) r3 r4 hRY ⟨true,rfl,λ_=>?_,λhh=>Bool.noConfusion hh⟩
  rw[nx_i hi (by omega)]
  exact⟨⟨i+1,rfl,rfl⟩,by dsimp only;omega⟩
end
end Go.Eng
end
section
namespace Go.Eng
def kO(c f:Nat):Key:=(4,c,f)
theorem kO_kB(c f:Nat):kO c f≠kB:=λe=>by cases e
theorem kO_kA(c f d e:Nat):kO c f≠kA d e:=λq=>by cases q
theorem kO_kL(c f d e:Nat):kO c f≠kL d e:=λq=>by cases q
theorem Mine.move{g h:Hp}{m:Mem}{k k':Key}{x:Bf}(O:Mine g h m)(hk:m k=some x)(hn:m k'=none):Mine g h ((m.del k).put k' x):=by
 have hkk:k'≠k:=λe=>by rw[e,hk] at hn;cases hn
 have find:∀ j y,((m.del k).put k' x) j=some y->∃ i,m i=some y/\(j=k'->i=k)/\(j≠k'->i=j/\j≠k):=λj y e=>by
  by_cases hj:j=k'
  ·rw[hj,put_self] at e
   cases e
   exact⟨k,hk,λ_=>rfl,λh=>absurd hj h⟩
  ·rw[put_ne _ _ hj] at e
   have hjk:j≠k:=λq=>by rw[q,del_self] at e;cases e
   rw[del_ne _ hjk] at e
   exact⟨j,e,λh=>absurd h hj,λ_=>⟨rfl,hjk⟩⟩
 refine⟨O.keep,λj y e=>?_,λj y e=>?_,λj j' y y' n e e'=>?_⟩
 ·obtain⟨i,hi,_⟩:=find j y e
  exact O.buf i y hi
 ·obtain⟨i,hi,_⟩:=find j y e
  exact O.new i y hi
 ·obtain⟨i,hi,a1,a2⟩:=find j y e
  obtain⟨i',hi',b1,b2⟩:=find j' y' e'
  refine O.off i i' y y' (λq=>?_) hi hi'
  by_cases h1:j=k'<;>by_cases h2:j'=k'
  ·exact n (h1.trans h2.symm)
  ·exact(b2 h2).2 ((b2 h2).1.symm.trans (q.symm.trans (a1 h1)))
  ·exact(a2 h1).2 ((a2 h1).1.symm.trans (q.trans (b1 h2)))
  ·exact n ((a2 h1).1.symm.trans (q.trans (b2 h2).1))
theorem Mine.nil{g h:Hp}{m:Mem}{k:Key}(O:Mine g h m)(hn:m k=none)(sz t:Nat):Mine g h (m.put k ⟨⟨none,0,0⟩,sz,t,[]⟩):=
 O.add hn (Keep.refl h) (.inl rfl) (Buf.nil h sz t)
theorem fill_k{KD:Nat->Value->Prop}{g h:Hp}{m:Mem}{k:Key}{ls:Sl}{sz t:Nat}{vs:List Value}{OF:Int->Nat}{WR:Int->Hp->(List Value->Hp->Prop)->Prop}{K:Hp->Prop}(O:Mine g h m)(hl:m k=some ⟨ls,sz,t,vs⟩)(hsz:0<sz)(hOF:∀ i:Nat,OF (i:Int)=i*sz)(hWR:∀ i h' K,Keep g h'->(∀ h'' us,Keep h' h''->us.length=sz->Cols KD sz us->K us h'')->WR i h' K)(hone:Cols KD sz vs)(hn:ls.n<=140737488355328)
  (hK:∀ h' us,Mine g h' (m.put k ⟨ls,sz,t,us⟩)->Cols KD sz us->K h') :
  ∃ (I1:Int->Hp->Prop) (m1:Int->Hp->Nat),I1 0 h/\(∀ n5:Int,∀ h15:Hp,I1 n5 h15->par (n5<(ls.n:Int)) (WR n5 h15 λus h16=>ix ls.a n5 ls.n λb22 o22=>st h16 b22 (o22+OF n5) sz us λh17=>I1 (wrap .i64 (n5+1)) h17/\m1 (wrap .i64 (n5+1)) h17<m1 n5 h15) (K h15)):=by
 refine⟨λn h'=>∃ (i:Nat) (us:List Value),n=(i:Int)/\Mine g h' (m.put k ⟨ls,sz,t,us⟩)/\Cols KD sz us,λn _=>ls.n-n.toNat,⟨0,vs,rfl,by rw[put_same hl];exact O,hone⟩,?_⟩
 rintro n h' ⟨i,us,rfl,O1,hus⟩
 refine⟨λhlt=>?_,λ_=>hK h' us O1 hus⟩
 refine hWR _ _ _ O1.keep λhw V KV hV cV=>?_
 replace O1:=O1.keepH KV
 have B:=O1.buf k _ (put_self _ _ _)
 have hL:us.length=ls.n*sz:=B.len
 have hi:i<ls.n:=by omega
 have hle:i*sz+sz<=us.length:=by rw[hL,show i*sz+sz=(i+1)*sz by rw[Nat.add_mul,Nat.one_mul]];exact Nat.mul_le_mul_right _ hi
 have e:us=us.take (i*sz)++((us.drop (i*sz)).take sz++(us.drop (i*sz)).drop sz):=by rw[List.take_append_drop,List.take_append_drop]
 have l1:(us.take (i*sz)).length=i*sz:=by rw[length_take];omega
 have l2:((us.drop (i*sz)).take sz).length=sz:=by rw[length_take,List.length_drop];omega
 have B':Buf hw ls sz t (us.take (i*sz)++((us.drop (i*sz)).take sz++(us.drop (i*sz)).drop sz)):=by rw[<- e];exact B
 obtain⟨b,ha,hc,U,Bw⟩:=buf_wr (V:=V) B' (by rw[l2,hV]) (by rw[l2];exact hsz)
 rw[l1,hV] at hc
 rw[l1] at U Bw
 have O2:=O1.write (put_self _ _ _) U Bw
 rw[Mem.put_put] at O2
 refine⟨b,0,ha,⟨by omega,hlt⟩,?_⟩
 dsimp only
 rw[hOF,Nat.zero_add,nx_i hi (by omega)]
 refine⟨hc,⟨i+1,_,rfl,O2,(hus.take _).app (cV.app ?_ (by rw[hV];exact(Nat.one_mul _).symm)) l1⟩,by omega⟩
 have:=(hus.drop i).drop 1
 rw[Nat.one_mul] at this
 exact this
end Go.Eng
end
section
namespace Go.Eng
def kR:Key:=(0,0,0)
def rF(pb tr:Nat)(cs:List Value):Bf:=⟨⟨some ⟨pb,0,none⟩,1,1⟩,28,tr,cs⟩
structure RN(m:Mem)(cs:List Value)(c slot tw:Nat):Prop where
 w:m (1,c,0)=some ⟨⟨none,0,0⟩,1,tw,[]⟩
 n:m (2,c,0)=some ⟨⟨none,0,0⟩,1,3,[]⟩
 d:m (3,c,0)=none
 cw:cs[slot]?=some (.slice none 0 0)
 cn:cs[slot+1]?=some (.slice none 0 0)
def RL(m:Mem)(cs:List Value)(c slot tw sz t:Nat)(s:Sl)(vs:List Value)(n:Nat):Prop:=∃ w nn:Sl,m (1,c,0)=some ⟨w,1,tw,[.slice s.a s.n s.c]⟩/\m (2,c,0)=some ⟨nn,1,3,[.int .i64 (n:Int)]⟩/\m (3,c,0)=some ⟨s,sz,t,vs⟩/\cs[slot]?=some (.slice w.a w.n w.c)/\cs[slot+1]?=some (.slice nn.a nn.n nn.c)/\s.n=n+40/\s.n<=s.c
theorem cut00(s:Sl)(sz:Nat)(k c:Int):Sl.cut s sz 0 k c=⟨s.a,k.toNat,c.toNat⟩:=by
 unfold Sl.cut
 have h0:(0:Int).toNat*sz=0:=by simp
 have ha:(s.a.map λx=>x.add 0)=s.a:=by
  cases h:s.a with
  |none=>rfl
  |some x=>simp[Addr.add]
 rw[h0]
 simp[ha]
theorem room_new{h:Hp}{pb tr:Nat}{cs:List Value}(hb:h pb=none)(hc:cs.length=28):Mine h (h.new pb (.cells ⟨cs⟩ tr (0,0))) (Mem.put (λ_=>none) kR (rF pb tr cs)):=
 (Mine.start h).add (k:=kR) rfl (Keep.new hb _) (.inr ⟨pb,rfl,hb⟩) (buf_new (n:=1) cs (by rw[hc]))
end Go.Eng
end
section
namespace Go.Eng
structure RLx where
 s:Sl
 n:Nat
 vs:List Value
structure RK(m:Mem)(cs:List Value)(c slot tw sz t M:Nat)(mk:Nat->List Value)(w nn:Sl)(ls:List RLx):Prop where
 rw:m (1,c,0)=some ⟨w,1,tw,ls.map λx=>slv x.s⟩
 rn:m (2,c,0)=some ⟨nn,1,3,ls.map λx=>.int .i64 (x.n:Int)⟩
 d:∀ i x,ls[i]?=some x->m (3,c,i)=some ⟨x.s,sz,t,x.vs++markL mk M⟩/\x.s.n=x.n+M/\x.s.n<=x.s.c/\x.vs.length=x.n*sz/\∃ b,x.s.a=some ⟨b,0,none⟩
 f:∀ i,ls.length<=i->m (3,c,i)=none
 cw:cs[slot]?=some (slv w)
 cn:cs[slot+1]?=some (slv nn)
theorem RK.cong{m m':Mem}{cs cs':List Value}{c slot tw sz t M:Nat}{mk:Nat->List Value}{w nn:Sl}{ls:List RLx}(R:RK m cs c slot tw sz t M mk w nn ls)(hm:∀ k:Key,k≠kR->k.2.1=c->m' k=m k)(h0:cs'[slot]?=cs[slot]?)(h1:cs'[slot+1]?=cs[slot+1]?):RK m' cs' c slot tw sz t M mk w nn ls:=
 ⟨by rw[hm _ (by unfold kR;simp) rfl];exact R.rw,by rw[hm _ (by unfold kR;simp) rfl];exact R.rn,λi x hx=>by rw[hm _ (by unfold kR;simp) rfl];exact R.d i x hx,λi hi=>by rw[hm _ (by unfold kR;simp) rfl];exact R.f i hi,by rw[h0];exact R.cw,by rw[h1];exact R.cn⟩
theorem RN.rk{m:Mem}{cs:List Value}{c slot tw:Nat}(sz t M:Nat)(mk:Nat->List Value)(N:RN m cs c slot tw)(hf:∀ i,m (3,c,i)=none):RK m cs c slot tw sz t M mk ⟨none,0,0⟩ ⟨none,0,0⟩ []:=
 ⟨N.w,N.n,λi x hx=>by simp at hx,λi _=>hf i,N.cw,N.cn⟩
theorem get_snoc{α:Type}{l:List α}{x y:α}{i:Nat}(h:(l++[x])[i]?=some y):l[i]?=some y\/(i=l.length/\y=x):=by
 rcases Nat.lt_trichotomy i l.length with hj|hj|hj
 ·rw[getElem?_append_left hj] at h;exact .inl h
 ·subst hj;simp at h;exact .inr ⟨rfl,h.symm⟩
 ·rw[List.getElem?_eq_none (by simp;omega)] at h;cases h
section
variable{h0 h:Hp}{m:Mem}{c pb slot tr tw t sz bytes M:Nat}{mk:Nat->List Value}{z us cs:List Value}{G:Int->Hp->(List Value->Hp->Prop)->Prop}{l w nn:Sl}{ls:List RLx}{Q:Value->Hp->Prop}
theorem RK.snoc{n0:Nat}{w' n' s:Sl}{m':Mem}(N:RK m cs c slot tw sz t M mk w nn ls)(hcl:slot+1<cs.length)
  (he:∀ k,m' k=(((m.put (3,c,ls.length) ⟨s,sz,t,us++markL mk M⟩).put (1,c,0) ⟨w',1,tw,(ls.map λx=>slv x.s)++[.slice s.a s.n s.c]⟩).put (2,c,0) ⟨n',1,3,(ls.map λx=>.int .i64 (x.n:Int))++[.int .i64 (n0:Int)]⟩) k\/k=kR) (h1:s.n=n0+M) (h2:s.n<=s.c) (h3:us.length=n0*sz) (h4:∃ b,s.a=some ⟨b,0,none⟩) :
  RK m' ((cs.set slot (.slice w'.a w'.n w'.c)).set (slot+1) (.slice n'.a n'.n n'.c)) c slot tw sz t M mk w' n' (ls++[⟨s,n0,us⟩]):=by
 have he':∀ k:Key,k≠kR->m' k=_:=λk hk=>(he k).resolve_right hk
 refine⟨?_,?_,λi x hx=>?_,λi hi=>?_,?_,?_⟩
 ·rw[he' _ (by unfold kR;simp),put_ne _ _ (by simp),put_self,map_append];rfl
 ·rw[he' _ (by unfold kR;simp),put_self,map_append];rfl
 ·rw[he' _ (by unfold kR;simp),put_ne _ _ (by simp),put_ne _ _ (by simp)]
  rcases get_snoc hx with hx|⟨rfl,rfl⟩
  ·have hl:=(List.getElem?_eq_some_iff.1 hx).1
   rw[put_ne _ _ (by simp;omega)]
   exact N.d i x hx
  ·exact⟨put_self _ _ _,h1,h2,h3,h4⟩
 ·rw[length_append,List.length_singleton] at hi
  rw[he' _ (by unfold kR;simp),put_ne _ _ (by simp),put_ne _ _ (by simp),put_ne _ _ (by simp;omega)]
  exact N.f i (by omega)
 ·rw[getElem?_set_ne (by omega),getElem?_set_self (by omega)];rfl
 ·rw[getElem?_set_self (by rw[length_set];omega)];rfl
theorem lay_rk(hG:∀ (j:Nat) h K,K (mk j) h->G (j:Int) h K)(hmk:∀ j,(mk j).length=sz)(hz:z.length=sz)(hone:∀ v∈us,Value.oneCell' v=true)
  (O:Mine h0 h m) (er:m kR=some (rF pb tr cs)) (N:RK m cs c slot tw sz t M mk w nn ls) (hslot:slot+1<28) (hr:h.row l.a (l.n*sz) us) (hb:(l.n+M)*bytes<=140737488355328) (hM:M<=100000) (hb0:0<bytes) (hls:ls.length<=4000000000000)
  (hQ:∀ h' m' cs' (s w' n':Sl),Mine h0 h' m'->m' kR=some (rF pb tr cs')->RK m' cs' c slot tw sz t M mk w' n' (ls++[⟨s,l.n,us⟩])->(∀ k:Key,k≠kR->k.2.1≠c->m' k=m k)->(∀ f,f≠slot->f≠slot+1->cs'[f]?=cs[f]?)->(∃ b,s.a=some ⟨b,0,none⟩)->Q (.slice s.a l.n s.n) h') :
  layT pb slot tw 3 t sz bytes M z G l h Q:=by
 have hcl:cs.length=28:=by have:=(O.buf kR _ er).len;simpa[rF] using this
 refine lay_own (kr:=kR) (kw:=(1,c,0)) (kn:=(2,c,0)) (kd:=(3,c,ls.length)) (slot:=slot) (R:=28) (tr:=tr) (tw:=tw) (ti:=3) (t:=t) (sz:=sz) (bytes:=bytes) (M:=M) (mk:=mk) (us:=us) (cs:=cs) (G:=G) (Q:=Q) hG hmk hz hone O er N.rw N.rn (N.f _ (Nat.le_refl _)) (by unfold kR;simp) (by unfold kR;simp) (by simp) hslot N.cw N.cn hr hb hM hb0 (by rw[length_map];exact hls) (by rw[length_map];exact hls) (λh' w' n' s Ms hs1 hs2 hs3=>?_)
 rw[cut00,Int.toNat_natCast,Int.toNat_natCast]
 refine hQ h' _ ((cs.set slot (.slice w'.a w'.n w'.c)).set (slot+1) (.slice n'.a n'.n n'.c)) s w' n' Ms (put_self _ _ _) (N.snoc (by omega) (λk=>?_) hs1 hs2 hr.1 hs3) (λk h1 h2=>?_) (λf h1 h2=>?_) hs3
 ·by_cases hk:k=kR
  ·exact .inr hk
  ·exact .inl (put_ne _ _ hk)
 ·have ne:∀ a b,k≠(a,c,b):=λa b e=>h2 (by rw[e])
  rw[put_ne _ _ h1,put_ne _ _ (ne 2 0),put_ne _ _ (ne 1 0),put_ne _ _ (ne 3 _)]
 ·rw[getElem?_set_ne (by omega),getElem?_set_ne (by omega)]
theorem hold_rk{BODY:Nat->Nat->Int->Int->Hp->(Hp->Prop)->Prop}(O:Mine h0 h m)(er:m kR=some (rF pb tr cs))(R:RK m cs c slot tw sz t M mk w nn ls)(hslot:slot+1<28)(hls:ls.length<=4000000000000)(hl:∀ x∈ls,x.n<=140737488355328)(hM:M<=100000)
  (hB:∀ x∈ls,∀ j,j<M->∀ P:Hp->Prop,P h->∃ b o,x.s.a=some ⟨b,o,none⟩/\BODY b o ((x.n+j:Nat):Int) (x.n:Int) h P)
  (hQ:Q (.bool true) h):holdRT pb slot BODY h Q:=by
 have hx:∀ x∈ls,x.s.n=x.n+M:=λx hx=>by
  obtain⟨i,hi⟩:=List.mem_iff_getElem?.1 hx
  exact(R.d i x hi).2.1
 refine hold_own (M:=M) (slot:=slot) (R:=28) (tr:=tr) (tw:=tw) (ti:=3) (cs:=cs) (w:=w) (n:=nn) (ls:=ls.map λx=>(x.s,x.n)) (BODY:=BODY) (O.buf kR _ er) (by rw[List.map_map];exact O.buf _ _ R.rw) (by rw[List.map_map];exact O.buf _ _ R.rn) hslot R.cw R.cn (λy hy=>?_) (by rw[length_map];exact hls) (λy hy j hj K hK=>?_) hQ
 ·obtain⟨x,hm,rfl⟩:=List.mem_map.1 hy
  have:=hx x hm
  have:=hl x hm
  exact⟨by assumption,by show x.s.n<_;omega⟩
 ·obtain⟨x,hm,rfl⟩:=List.mem_map.1 hy
  exact hB x hm j hj K hK
theorem RK.mark(O:Mine h0 h m)(R:RK m cs c slot tw sz t M mk w nn ls)(hmk:∀ j,(mk j).length=sz){x:RLx}(hx:x∈ls){j:Nat}(hj:j<M):∃ b,x.s.a=some ⟨b,0,none⟩/\∀ i,i<sz->h.at b (0+((x.n+j)*sz+i))=(mk j)[i]?:=by
 obtain⟨i,hi⟩:=List.mem_iff_getElem?.1 hx
 obtain⟨d1,d2,d3,d4,b,hb⟩:=R.d i x hi
 have Bf:=O.buf _ _ d1
 refine⟨b,hb,λe he=>?_⟩
 have hlt:(x.n+j)*sz+e<(x.vs++markL mk M).length:=by
  have h1:(x.n+j+1)*sz<=(x.n+M)*sz:=Nat.mul_le_mul_right _ (by omega)
  have h2:(x.n+j+1)*sz=(x.n+j)*sz+sz:=by rw[Nat.add_mul _ 1,Nat.one_mul]
  have h3:(x.n+M)*sz=x.n*sz+M*sz:=Nat.add_mul _ _ _
  rw[length_append,markL_len hmk,d4];omega
 obtain⟨b',hb',hat⟩:=buf_at Bf (k:=(x.n+j)*sz+e) hlt
 dsimp only at hb'
 rw[hb] at hb';cases hb'
 rw[hat]
 exact mark_at hmk d4 hj he
end
end Go.Eng
end
section
open Go.Proofs
namespace Go.Eng.YtekflkpnpibneaaGreatDoor
def F102.an:List (Nat×Ann):=[]
def F102.T(n:Int):PT:=λh Q=>
 (2:Int)≠0/\par ((Int.tmod n 2)=0) (Q (.int .i64 (-7701)) h) (Q (.int .i64 (-7702)) h)
theorem F102.den(V n):denF Tryz.prog [] [] V F102.an Tryz.f102 [.v (.int .i64 n)]=F102.T n:=by kernel_rfl
def F102.W(T102:Int->PT)(args:List Value):PT:=match args with
 |[.int .i64 n]=>T102 n
 |_=>λ_ _=>False
def F102.V:List Value->PT:=F102.W F102.T
theorem F102.ok:FOk Tryz.prog 102 F102.V:=by
 refine⟨⟨_,Tryz.func102,rfl,rfl⟩,λ_=>?_⟩;unfold F102.V F102.W;split;exact denF_okE (GOk.nil) noV_ok Tryz.func102 (F102.den noV _);exact λ_ _ h=>h.elim
def F100.an:List (Nat×Ann):=[]
def F100.T(n:Int):PT:=λh Q=>
 (2:Int)≠0/\par ((Int.tmod n 2)=0) (Q (.string (ByteArray.mk #[60,111,110,101,62])) h) (Q (.string (ByteArray.mk #[60,116,119,111,62])) h)
theorem F100.den(V n):denF Tryz.prog [] [] V F100.an Tryz.f100 [.v (.int .i64 n)]=F100.T n:=by kernel_rfl
def F100.W(T100:Int->PT)(args:List Value):PT:=match args with
 |[.int .i64 n]=>T100 n
 |_=>λ_ _=>False
def F100.V:List Value->PT:=F100.W F100.T
theorem F100.ok:FOk Tryz.prog 100 F100.V:=by
 refine⟨⟨_,Tryz.func100,rfl,rfl⟩,λ_=>?_⟩;unfold F100.V F100.W;split;exact denF_okE (GOk.nil) noV_ok Tryz.func100 (F100.den noV _);exact λ_ _ h=>h.elim
def F52.an:List (Nat×Ann):=[(122,.loop [(7,.sl),(8,.int .i64)] [])]
def F52.G(T102:Int->PT)(p:Option Addr)(l:Sl)(n:Int):PT:=λh Q=>
 nw h (.cells ⟨[]⟩ 5 (0,0)) λb h1=>∃ vs,h1.row l.a (l.n*1) vs/\(∀ v∈vs,Value.oneCell' v=true)/\appendD ⟨(some ⟨b,0,none⟩),0,0⟩ 5 1 1 [.int .u8 0] l.n vs h1 λl1 h2=>∃ (I:Sl->Int->Hp->Prop) (m:Sl->Int->Hp->Nat),I l1 0 h2/\(∀ l2:Sl,∀ n1:Int,∀ h3:Hp,I l2 n1 h3->par (n1<n) (T102 n1 h3 λr h4=>retI .i64 r λn2=>appendD l2 5 1 1 [.int .u8 0] 1 [.int .u8 (wrap .u8 n2)] h4 λl3 h5=>I l3 (wrap .i64 (n1+1)) h5/\m l3 (wrap .i64 (n1+1)) h5<m l2 n1 h3) (dr p λb1 o=>ldS h3 b1 o λl4=>appendD l4 53 1 24 [.slice none 0 0] 1 [.slice l2.a l2.n l2.c] h3 λl5 h6=>dr p λb2 o1=>st h6 b2 o1 1 [.slice l5.a l5.n l5.c] λh7=>dr p λb3 o2=>ldS h7 b3 (o2+1) λl6=>appendD l6 3 1 8 [.int .i64 0] 1 [.int .i64 (l.n:Int)] h7 λl7 h8=>dr p λb4 o3=>st h8 b4 (o3+1) 1 [.slice l7.a l7.n l7.c] λh9=>Sl.okCut l2 0 (l.n:Int) (l2.n:Int)/\Q (.slice (Sl.cut l2 1 0 (l.n:Int) (l2.n:Int)).a (Sl.cut l2 1 0 (l.n:Int) (l2.n:Int)).n (Sl.cut l2 1 0 (l.n:Int) (l2.n:Int)).c) h9))
def F52.T:=F52.G F102.T
theorem F52.gen(V T102 p l n):denF Tryz.prog [22,30,41] [(102,F102.W T102)] V F52.an Tryz.f52 [.v (.pointer p),.v (.slice l.a l.n l.c),.v (.int .i64 n)]=F52.G T102 p l n:=by kernel_rfl
def F52.W(T52:Option Addr->Sl->Int->PT)(args:List Value):PT:=match args with
 |[.pointer p,.slice l_a l_n l_c,.int .i64 n]=>T52 p ⟨l_a,l_n,l_c⟩ n
 |_=>λ_ _=>False
def F52.V:List Value->PT:=F52.W F52.T
theorem F52.ok:FOk Tryz.prog 52 F52.V:=by
 refine⟨⟨_,Tryz.func52,rfl,rfl⟩,λ_=>?_⟩;unfold F52.V F52.W;split;exact denF_okE (GOk.cons F102.ok (GOk.nil)) noV_ok Tryz.func52 (F52.gen noV F102.T _ ⟨_,_,_⟩ _);exact λ_ _ h=>h.elim
def F53.an:List (Nat×Ann):=[(122,.loop [(7,.sl),(8,.int .i64)] [])]
def F53.G(T102:Int->PT)(p:Option Addr)(l:Sl)(n:Int):PT:=λh Q=>
 nw h (.cells ⟨[]⟩ 3 (0,0)) λb h1=>∃ vs,h1.row l.a (l.n*1) vs/\(∀ v∈vs,Value.oneCell' v=true)/\appendD ⟨(some ⟨b,0,none⟩),0,0⟩ 3 1 8 [.int .i64 0] l.n vs h1 λl1 h2=>∃ (I:Sl->Int->Hp->Prop) (m:Sl->Int->Hp->Nat),I l1 0 h2/\(∀ l2:Sl,∀ n1:Int,∀ h3:Hp,I l2 n1 h3->par (n1<n) (T102 n1 h3 λr h4=>retI .i64 r λn2=>appendD l2 3 1 8 [.int .i64 0] 1 [.int .i64 n2] h4 λl3 h5=>I l3 (wrap .i64 (n1+1)) h5/\m l3 (wrap .i64 (n1+1)) h5<m l2 n1 h3) (dr p λb1 o=>ldS h3 b1 (o+2) λl4=>appendD l4 28 1 24 [.slice none 0 0] 1 [.slice l2.a l2.n l2.c] h3 λl5 h6=>dr p λb2 o1=>st h6 b2 (o1+2) 1 [.slice l5.a l5.n l5.c] λh7=>dr p λb3 o2=>ldS h7 b3 (o2+3) λl6=>appendD l6 3 1 8 [.int .i64 0] 1 [.int .i64 (l.n:Int)] h7 λl7 h8=>dr p λb4 o3=>st h8 b4 (o3+3) 1 [.slice l7.a l7.n l7.c] λh9=>Sl.okCut l2 0 (l.n:Int) (l2.n:Int)/\Q (.slice (Sl.cut l2 1 0 (l.n:Int) (l2.n:Int)).a (Sl.cut l2 1 0 (l.n:Int) (l2.n:Int)).n (Sl.cut l2 1 0 (l.n:Int) (l2.n:Int)).c) h9))
def F53.T:=F53.G F102.T
theorem F53.gen(V T102 p l n):denF Tryz.prog [21,29,40] [(102,F102.W T102)] V F53.an Tryz.f53 [.v (.pointer p),.v (.slice l.a l.n l.c),.v (.int .i64 n)]=F53.G T102 p l n:=by kernel_rfl
def F53.W(T53:Option Addr->Sl->Int->PT)(args:List Value):PT:=match args with
 |[.pointer p,.slice l_a l_n l_c,.int .i64 n]=>T53 p ⟨l_a,l_n,l_c⟩ n
 |_=>λ_ _=>False
def F53.V:List Value->PT:=F53.W F53.T
theorem F53.ok:FOk Tryz.prog 53 F53.V:=by
 refine⟨⟨_,Tryz.func53,rfl,rfl⟩,λ_=>?_⟩;unfold F53.V F53.W;split;exact denF_okE (GOk.cons F102.ok (GOk.nil)) noV_ok Tryz.func53 (F53.gen noV F102.T _ ⟨_,_,_⟩ _);exact λ_ _ h=>h.elim
def F99.an:List (Nat×Ann):=[]
def F99.G(T52:Option Addr->Sl->Int->PT)(p:Option Addr)(s:ByteArray)(l:Sl)(n:Int):PT:=λh Q=>
 T52 p l 4 h λr h1=>retS r λl1=>Q (.agg ⟨[.string s,.slice l1.a l1.n l1.c,.int .i64 n]⟩) h1
def F99.T:=F99.G F52.T
theorem F99.gen(V T52 p s l n):denF Tryz.prog [3,4] [(52,F52.W T52)] V F99.an Tryz.f99 [.v (.pointer p),.v (.agg ⟨[.string s,.slice l.a l.n l.c,.int .i64 n]⟩)]=F99.G T52 p s l n:=by kernel_rfl
def F99.W(T99:Option Addr->ByteArray->Sl->Int->PT)(args:List Value):PT:=match args with
 |[.pointer p,.agg ⟨[.string s,.slice l_a l_n l_c,.int .i64 n]⟩]=>T99 p s ⟨l_a,l_n,l_c⟩ n
 |_=>λ_ _=>False
def F99.V:List Value->PT:=F99.W F99.T
theorem F99.ok:FOk Tryz.prog 99 F99.V:=by
 refine⟨⟨_,Tryz.func99,rfl,rfl⟩,λ_=>?_⟩;unfold F99.V F99.W;split;exact denF_okE (GOk.cons F52.ok (GOk.nil)) noV_ok Tryz.func99 (F99.gen noV F52.T _ _ ⟨_,_,_⟩ _);exact λ_ _ h=>h.elim
def F29.an:List (Nat×Ann):=[(58,.loop [(7,.sl),(8,.int .i64)] []),(122,.loop [(7,.sl),(9,.int .i64)] [])]
def F29.G(T99:Option Addr->ByteArray->Sl->Int->PT)(T100:Int->PT)(p:Option Addr)(l:Sl)(n:Int):PT:=λh Q=>
 nw h (.cells ⟨[]⟩ 55 (0,0)) λb h1=>∃ (I:Sl->Int->Hp->Prop) (m:Sl->Int->Hp->Nat),I ⟨(some ⟨b,0,none⟩),0,0⟩ 0 h1/\(∀ l1:Sl,∀ n1:Int,∀ h2:Hp,I l1 n1 h2->par (n1<(l.n:Int)) (ix l.a n1 l.n λb1 o=>ldT h2 b1 (o+n1.toNat*3) λs=>ldS h2 b1 ((o+n1.toNat*3)+1) λl2=>ldI .i64 h2 b1 ((o+n1.toNat*3)+2) λn2=>T99 p s l2 n2 h2 λr h3=>∃ s1:ByteArray,∃ l3:Sl,∃ n3:Int,r=.agg ⟨[.string s1,.slice l3.a l3.n l3.c,.int .i64 n3]⟩/\appendD l1 55 3 48 [.string ⟨#[]⟩,.slice none 0 0,.int .i64 0] 1 [.string s1,.slice l3.a l3.n l3.c,.int .i64 n3] h3 λl4 h4=>I l4 (wrap .i64 (n1+1)) h4/\m l4 (wrap .i64 (n1+1)) h4<m l1 n1 h2) (∃ (I1:Sl->Int->Hp->Prop) (m1:Sl->Int->Hp->Nat),I1 l1 0 h2/\(∀ l5:Sl,∀ n4:Int,∀ h5:Hp,I1 l5 n4 h5->par (n4<n) (T100 n4 h5 λr1 h6=>retT r1 λs2=>appendD l5 55 3 48 [.string ⟨#[]⟩,.slice none 0 0,.int .i64 0] 1 [.string s2,.slice none 0 0,.int .i64 0] h6 λl6 h7=>I1 l6 (wrap .i64 (n4+1)) h7/\m1 l6 (wrap .i64 (n4+1)) h7<m1 l5 n4 h5) (dr p λb2 o1=>ldS h5 b2 (o1+24) λl7=>appendD l7 22 1 24 [.slice none 0 0] 1 [.slice l5.a l5.n l5.c] h5 λl8 h8=>dr p λb3 o2=>st h8 b3 (o2+24) 1 [.slice l8.a l8.n l8.c] λh9=>dr p λb4 o3=>ldS h9 b4 (o3+25) λl9=>appendD l9 3 1 8 [.int .i64 0] 1 [.int .i64 (l.n:Int)] h9 λl10 h10=>dr p λb5 o4=>st h10 b5 (o4+25) 1 [.slice l10.a l10.n l10.c] λh11=>Sl.okCut l5 0 (l.n:Int) (l5.n:Int)/\Q (.slice (Sl.cut l5 3 0 (l.n:Int) (l5.n:Int)).a (Sl.cut l5 3 0 (l.n:Int) (l5.n:Int)).n (Sl.cut l5 3 0 (l.n:Int) (l5.n:Int)).c) h11))))
def F29.T:=F29.G F99.T F100.T
theorem F29.gen(V T99 T100 p l n):denF Tryz.prog [24,35,43,54] [(99,F99.W T99),(100,F100.W T100)] V F29.an Tryz.f29 [.v (.pointer p),.v (.slice l.a l.n l.c),.v (.int .i64 n)]=F29.G T99 T100 p l n:=by kernel_rfl
def F29.W(T29:Option Addr->Sl->Int->PT)(args:List Value):PT:=match args with
 |[.pointer p,.slice l_a l_n l_c,.int .i64 n]=>T29 p ⟨l_a,l_n,l_c⟩ n
 |_=>λ_ _=>False
def F29.V:List Value->PT:=F29.W F29.T
theorem F29.ok:FOk Tryz.prog 29 F29.V:=by
 refine⟨⟨_,Tryz.func29,rfl,rfl⟩,λ_=>?_⟩;unfold F29.V F29.W;split;exact denF_okE (GOk.cons F99.ok (GOk.cons F100.ok (GOk.nil))) noV_ok Tryz.func29 (F29.gen noV F99.T F100.T _ ⟨_,_,_⟩ _);exact λ_ _ h=>h.elim
def F6.an:List (Nat×Ann):=[]
def F6.G(T29:Option Addr->Sl->Int->PT)(p:Option Addr)(l:Sl):PT:=λh Q=>
 T29 p l 40 h λr h1=>retS r λl1=>Q (.slice l1.a l1.n l1.c) h1
def F6.T:=F6.G F29.T
theorem F6.gen(V T29 p l):denF Tryz.prog [] [(29,F29.W T29)] V F6.an Tryz.f6 [.v (.pointer p),.v (.slice l.a l.n l.c)]=F6.G T29 p l:=by kernel_rfl
def F6.W(T6:Option Addr->Sl->PT)(args:List Value):PT:=match args with
 |[.pointer p,.slice l_a l_n l_c]=>T6 p ⟨l_a,l_n,l_c⟩
 |_=>λ_ _=>False
def F6.V:List Value->PT:=F6.W F6.T
theorem F6.ok:FOk Tryz.prog 6 F6.V:=by
 refine⟨⟨_,Tryz.func6,rfl,rfl⟩,λ_=>?_⟩;unfold F6.V F6.W;split;exact denF_okE (GOk.cons F29.ok (GOk.nil)) noV_ok Tryz.func6 (F6.gen noV F29.T _ ⟨_,_,_⟩);exact λ_ _ h=>h.elim
def F12.an:List (Nat×Ann):=[]
def F12.G(T52:Option Addr->Sl->Int->PT)(p:Option Addr)(l:Sl):PT:=λh Q=>
 T52 p l 600 h λr h1=>retS r λl1=>Q (.slice l1.a l1.n l1.c) h1
def F12.T:=F12.G F52.T
theorem F12.gen(V T52 p l):denF Tryz.prog [] [(52,F52.W T52)] V F12.an Tryz.f12 [.v (.pointer p),.v (.slice l.a l.n l.c)]=F12.G T52 p l:=by kernel_rfl
def F12.W(T12:Option Addr->Sl->PT)(args:List Value):PT:=match args with
 |[.pointer p,.slice l_a l_n l_c]=>T12 p ⟨l_a,l_n,l_c⟩
 |_=>λ_ _=>False
def F12.V:List Value->PT:=F12.W F12.T
theorem F12.ok:FOk Tryz.prog 12 F12.V:=by
 refine⟨⟨_,Tryz.func12,rfl,rfl⟩,λ_=>?_⟩;unfold F12.V F12.W;split;exact denF_okE (GOk.cons F52.ok (GOk.nil)) noV_ok Tryz.func12 (F12.gen noV F52.T _ ⟨_,_,_⟩);exact λ_ _ h=>h.elim
def F13.an:List (Nat×Ann):=[]
def F13.G(T53:Option Addr->Sl->Int->PT)(p:Option Addr)(l:Sl):PT:=λh Q=>
 T53 p l 40 h λr h1=>retS r λl1=>Q (.slice l1.a l1.n l1.c) h1
def F13.T:=F13.G F53.T
theorem F13.gen(V T53 p l):denF Tryz.prog [] [(53,F53.W T53)] V F13.an Tryz.f13 [.v (.pointer p),.v (.slice l.a l.n l.c)]=F13.G T53 p l:=by kernel_rfl
def F13.W(T13:Option Addr->Sl->PT)(args:List Value):PT:=match args with
 |[.pointer p,.slice l_a l_n l_c]=>T13 p ⟨l_a,l_n,l_c⟩
 |_=>λ_ _=>False
def F13.V:List Value->PT:=F13.W F13.T
theorem F13.ok:FOk Tryz.prog 13 F13.V:=by
 refine⟨⟨_,Tryz.func13,rfl,rfl⟩,λ_=>?_⟩;unfold F13.V F13.W;split;exact denF_okE (GOk.cons F53.ok (GOk.nil)) noV_ok Tryz.func13 (F13.gen noV F53.T _ ⟨_,_,_⟩);exact λ_ _ h=>h.elim
def F37.an:List (Nat×Ann):=[(26,.loop [(3,.int .i64)] []),(3366,.loop [(5,.int .i64)] [])]
def F37.G(T102:Int->PT)(p:Option Addr):PT:=λh Q=>
 ∃ (I:Int->Hp->Prop) (m:Int->Hp->Nat),I 0 h/\(∀ n:Int,∀ h1:Hp,I n h1->dr p λb o=>ldS h1 b o λl=>par (n<(l.n:Int)) (dr p λb1 o1=>ldS h1 b1 (o1+1) λl1=>ix l1.a n l1.n λb2 o2=>ldI .i64 h1 b2 (o2+n.toNat) λn1=>∃ (I1:Int->Hp->Prop) (m1:Int->Hp->Nat),I1 n1 h1/\(∀ n2:Int,∀ h2:Hp,I1 n2 h2->dr p λb3 o3=>ldS h2 b3 o3 λl2=>ix l2.a n l2.n λb4 o4=>ldS h2 b4 (o4+n.toNat) λl3=>par (n2<(l3.n:Int)) (dr p λb5 o5=>ldS h2 b5 o5 λl4=>ix l4.a n l4.n λb6 o6=>ldS h2 b6 (o6+n.toNat) λl5=>ix l5.a n2 l5.n λb7 o7=>ldI .u8 h2 b7 (o7+n2.toNat) λn3=>T102 (wrap .i64 (n2-n1)) h2 λr h3=>retI .i64 r λn4=>par (n3=(wrap .u8 n4)) (I1 (wrap .i64 (n2+1)) h3/\m1 (wrap .i64 (n2+1)) h3<m1 n2 h2) (Q (.bool false) h3)) (I (wrap .i64 (n+1)) h2/\m (wrap .i64 (n+1)) h2<m n h1))) (Q (.bool true) h1))
def F37.T:=F37.G F102.T
theorem F37.gen(V T102 p):denF Tryz.prog [] [(102,F102.W T102)] V F37.an Tryz.f37 [.v (.pointer p)]=F37.G T102 p:=by kernel_rfl
def F37.W(T37:Option Addr->PT)(args:List Value):PT:=match args with
 |[.pointer p]=>T37 p
 |_=>λ_ _=>False
def F37.V:List Value->PT:=F37.W F37.T
theorem F37.ok:FOk Tryz.prog 37 F37.V:=by
 refine⟨⟨_,Tryz.func37,rfl,rfl⟩,λ_=>?_⟩;unfold F37.V F37.W;split;exact denF_okE (GOk.cons F102.ok (GOk.nil)) noV_ok Tryz.func37 (F37.gen noV F102.T _);exact λ_ _ h=>h.elim
def F38.an:List (Nat×Ann):=[(26,.loop [(3,.int .i64)] []),(3366,.loop [(5,.int .i64)] [])]
def F38.G(T102:Int->PT)(p:Option Addr):PT:=λh Q=>
 ∃ (I:Int->Hp->Prop) (m:Int->Hp->Nat),I 0 h/\(∀ n:Int,∀ h1:Hp,I n h1->dr p λb o=>ldS h1 b (o+2) λl=>par (n<(l.n:Int)) (dr p λb1 o1=>ldS h1 b1 (o1+3) λl1=>ix l1.a n l1.n λb2 o2=>ldI .i64 h1 b2 (o2+n.toNat) λn1=>∃ (I1:Int->Hp->Prop) (m1:Int->Hp->Nat),I1 n1 h1/\(∀ n2:Int,∀ h2:Hp,I1 n2 h2->dr p λb3 o3=>ldS h2 b3 (o3+2) λl2=>ix l2.a n l2.n λb4 o4=>ldS h2 b4 (o4+n.toNat) λl3=>par (n2<(l3.n:Int)) (dr p λb5 o5=>ldS h2 b5 (o5+2) λl4=>ix l4.a n l4.n λb6 o6=>ldS h2 b6 (o6+n.toNat) λl5=>ix l5.a n2 l5.n λb7 o7=>ldI .i64 h2 b7 (o7+n2.toNat) λn3=>T102 (wrap .i64 (n2-n1)) h2 λr h3=>retI .i64 r λn4=>par (n3=n4) (I1 (wrap .i64 (n2+1)) h3/\m1 (wrap .i64 (n2+1)) h3<m1 n2 h2) (Q (.bool false) h3)) (I (wrap .i64 (n+1)) h2/\m (wrap .i64 (n+1)) h2<m n h1))) (Q (.bool true) h1))
def F38.T:=F38.G F102.T
theorem F38.gen(V T102 p):denF Tryz.prog [] [(102,F102.W T102)] V F38.an Tryz.f38 [.v (.pointer p)]=F38.G T102 p:=by kernel_rfl
def F38.W(T38:Option Addr->PT)(args:List Value):PT:=match args with
 |[.pointer p]=>T38 p
 |_=>λ_ _=>False
def F38.V:List Value->PT:=F38.W F38.T
theorem F38.ok:FOk Tryz.prog 38 F38.V:=by
 refine⟨⟨_,Tryz.func38,rfl,rfl⟩,λ_=>?_⟩;unfold F38.V F38.W;split;exact denF_okE (GOk.cons F102.ok (GOk.nil)) noV_ok Tryz.func38 (F38.gen noV F102.T _);exact λ_ _ h=>h.elim
def F39.an:List (Nat×Ann):=[(26,.loop [(3,.int .i64)] []),(105,.cut)]
def F39.T(p:Option Addr):PT:=λh Q=>
 ∃ (I:Int->Hp->Prop) (m:Int->Hp->Nat),I 0 h/\(∀ n:Int,∀ h1:Hp,I n h1->dr p λb o=>ldS h1 b (o+4) λl=>par (n<(l.n:Int)) (False) (Q (.bool true) h1))
theorem F39.den(V p):denF Tryz.prog [] [] V F39.an Tryz.f39 [.v (.pointer p)]=F39.T p:=by kernel_rfl
def F39.W(T39:Option Addr->PT)(args:List Value):PT:=match args with
 |[.pointer p]=>T39 p
 |_=>λ_ _=>False
def F39.V:List Value->PT:=F39.W F39.T
theorem F39.ok:FOk Tryz.prog 39 F39.V:=by
 refine⟨⟨_,Tryz.func39,rfl,rfl⟩,λ_=>?_⟩;unfold F39.V F39.W;split;exact denF_okE (GOk.nil) noV_ok Tryz.func39 (F39.den noV _);exact λ_ _ h=>h.elim
def F40.an:List (Nat×Ann):=[(26,.loop [(3,.int .i64)] []),(105,.cut)]
def F40.T(p:Option Addr):PT:=λh Q=>
 ∃ (I:Int->Hp->Prop) (m:Int->Hp->Nat),I 0 h/\(∀ n:Int,∀ h1:Hp,I n h1->dr p λb o=>ldS h1 b (o+6) λl=>par (n<(l.n:Int)) (False) (Q (.bool true) h1))
theorem F40.den(V p):denF Tryz.prog [] [] V F40.an Tryz.f40 [.v (.pointer p)]=F40.T p:=by kernel_rfl
def F40.W(T40:Option Addr->PT)(args:List Value):PT:=match args with
 |[.pointer p]=>T40 p
 |_=>λ_ _=>False
def F40.V:List Value->PT:=F40.W F40.T
theorem F40.ok:FOk Tryz.prog 40 F40.V:=by
 refine⟨⟨_,Tryz.func40,rfl,rfl⟩,λ_=>?_⟩;unfold F40.V F40.W;split;exact denF_okE (GOk.nil) noV_ok Tryz.func40 (F40.den noV _);exact λ_ _ h=>h.elim
def F41.an:List (Nat×Ann):=[(26,.loop [(3,.int .i64)] []),(105,.cut)]
def F41.T(p:Option Addr):PT:=λh Q=>
 ∃ (I:Int->Hp->Prop) (m:Int->Hp->Nat),I 0 h/\(∀ n:Int,∀ h1:Hp,I n h1->dr p λb o=>ldS h1 b (o+8) λl=>par (n<(l.n:Int)) (False) (Q (.bool true) h1))
theorem F41.den(V p):denF Tryz.prog [6] [] V F41.an Tryz.f41 [.v (.pointer p)]=F41.T p:=by kernel_rfl
def F41.W(T41:Option Addr->PT)(args:List Value):PT:=match args with
 |[.pointer p]=>T41 p
 |_=>λ_ _=>False
def F41.V:List Value->PT:=F41.W F41.T
theorem F41.ok:FOk Tryz.prog 41 F41.V:=by
 refine⟨⟨_,Tryz.func41,rfl,rfl⟩,λ_=>?_⟩;unfold F41.V F41.W;split;exact denF_okE (GOk.nil) noV_ok Tryz.func41 (F41.den noV _);exact λ_ _ h=>h.elim
def F42.an:List (Nat×Ann):=[(26,.loop [(3,.int .i64)] []),(105,.cut)]
def F42.T(p:Option Addr):PT:=λh Q=>
 ∃ (I:Int->Hp->Prop) (m:Int->Hp->Nat),I 0 h/\(∀ n:Int,∀ h1:Hp,I n h1->dr p λb o=>ldS h1 b (o+10) λl=>par (n<(l.n:Int)) (False) (Q (.bool true) h1))
theorem F42.den(V p):denF Tryz.prog [6] [] V F42.an Tryz.f42 [.v (.pointer p)]=F42.T p:=by kernel_rfl
def F42.W(T42:Option Addr->PT)(args:List Value):PT:=match args with
 |[.pointer p]=>T42 p
 |_=>λ_ _=>False
def F42.V:List Value->PT:=F42.W F42.T
theorem F42.ok:FOk Tryz.prog 42 F42.V:=by
 refine⟨⟨_,Tryz.func42,rfl,rfl⟩,λ_=>?_⟩;unfold F42.V F42.W;split;exact denF_okE (GOk.nil) noV_ok Tryz.func42 (F42.den noV _);exact λ_ _ h=>h.elim
def F43.an:List (Nat×Ann):=[(26,.loop [(3,.int .i64)] []),(105,.cut)]
def F43.T(p:Option Addr):PT:=λh Q=>
 ∃ (I:Int->Hp->Prop) (m:Int->Hp->Nat),I 0 h/\(∀ n:Int,∀ h1:Hp,I n h1->dr p λb o=>ldS h1 b (o+12) λl=>par (n<(l.n:Int)) (False) (Q (.bool true) h1))
theorem F43.den(V p):denF Tryz.prog [6] [] V F43.an Tryz.f43 [.v (.pointer p)]=F43.T p:=by kernel_rfl
def F43.W(T43:Option Addr->PT)(args:List Value):PT:=match args with
 |[.pointer p]=>T43 p
 |_=>λ_ _=>False
def F43.V:List Value->PT:=F43.W F43.T
theorem F43.ok:FOk Tryz.prog 43 F43.V:=by
 refine⟨⟨_,Tryz.func43,rfl,rfl⟩,λ_=>?_⟩;unfold F43.V F43.W;split;exact denF_okE (GOk.nil) noV_ok Tryz.func43 (F43.den noV _);exact λ_ _ h=>h.elim
def F44.an:List (Nat×Ann):=[(26,.loop [(3,.int .i64)] []),(105,.cut)]
def F44.T(p:Option Addr):PT:=λh Q=>
 ∃ (I:Int->Hp->Prop) (m:Int->Hp->Nat),I 0 h/\(∀ n:Int,∀ h1:Hp,I n h1->dr p λb o=>ldS h1 b (o+14) λl=>par (n<(l.n:Int)) (False) (Q (.bool true) h1))
theorem F44.den(V p):denF Tryz.prog [6] [] V F44.an Tryz.f44 [.v (.pointer p)]=F44.T p:=by kernel_rfl
def F44.W(T44:Option Addr->PT)(args:List Value):PT:=match args with
 |[.pointer p]=>T44 p
 |_=>λ_ _=>False
def F44.V:List Value->PT:=F44.W F44.T
theorem F44.ok:FOk Tryz.prog 44 F44.V:=by
 refine⟨⟨_,Tryz.func44,rfl,rfl⟩,λ_=>?_⟩;unfold F44.V F44.W;split;exact denF_okE (GOk.nil) noV_ok Tryz.func44 (F44.den noV _);exact λ_ _ h=>h.elim
def F45.an:List (Nat×Ann):=[(26,.loop [(3,.int .i64)] []),(105,.cut)]
def F45.T(p:Option Addr):PT:=λh Q=>
 ∃ (I:Int->Hp->Prop) (m:Int->Hp->Nat),I 0 h/\(∀ n:Int,∀ h1:Hp,I n h1->dr p λb o=>ldS h1 b (o+16) λl=>par (n<(l.n:Int)) (False) (Q (.bool true) h1))
theorem F45.den(V p):denF Tryz.prog [6] [] V F45.an Tryz.f45 [.v (.pointer p)]=F45.T p:=by kernel_rfl
def F45.W(T45:Option Addr->PT)(args:List Value):PT:=match args with
 |[.pointer p]=>T45 p
 |_=>λ_ _=>False
def F45.V:List Value->PT:=F45.W F45.T
theorem F45.ok:FOk Tryz.prog 45 F45.V:=by
 refine⟨⟨_,Tryz.func45,rfl,rfl⟩,λ_=>?_⟩;unfold F45.V F45.W;split;exact denF_okE (GOk.nil) noV_ok Tryz.func45 (F45.den noV _);exact λ_ _ h=>h.elim
def F46.an:List (Nat×Ann):=[(26,.loop [(3,.int .i64)] []),(105,.cut)]
def F46.T(p:Option Addr):PT:=λh Q=>
 ∃ (I:Int->Hp->Prop) (m:Int->Hp->Nat),I 0 h/\(∀ n:Int,∀ h1:Hp,I n h1->dr p λb o=>ldS h1 b (o+18) λl=>par (n<(l.n:Int)) (False) (Q (.bool true) h1))
theorem F46.den(V p):denF Tryz.prog [6] [] V F46.an Tryz.f46 [.v (.pointer p)]=F46.T p:=by kernel_rfl
def F46.W(T46:Option Addr->PT)(args:List Value):PT:=match args with
 |[.pointer p]=>T46 p
 |_=>λ_ _=>False
def F46.V:List Value->PT:=F46.W F46.T
theorem F46.ok:FOk Tryz.prog 46 F46.V:=by
 refine⟨⟨_,Tryz.func46,rfl,rfl⟩,λ_=>?_⟩;unfold F46.V F46.W;split;exact denF_okE (GOk.nil) noV_ok Tryz.func46 (F46.den noV _);exact λ_ _ h=>h.elim
def F47.an:List (Nat×Ann):=[(26,.loop [(3,.int .i64)] []),(105,.cut)]
def F47.T(p:Option Addr):PT:=λh Q=>
 ∃ (I:Int->Hp->Prop) (m:Int->Hp->Nat),I 0 h/\(∀ n:Int,∀ h1:Hp,I n h1->dr p λb o=>ldS h1 b (o+20) λl=>par (n<(l.n:Int)) (False) (Q (.bool true) h1))
theorem F47.den(V p):denF Tryz.prog [] [] V F47.an Tryz.f47 [.v (.pointer p)]=F47.T p:=by kernel_rfl
def F47.W(T47:Option Addr->PT)(args:List Value):PT:=match args with
 |[.pointer p]=>T47 p
 |_=>λ_ _=>False
def F47.V:List Value->PT:=F47.W F47.T
theorem F47.ok:FOk Tryz.prog 47 F47.V:=by
 refine⟨⟨_,Tryz.func47,rfl,rfl⟩,λ_=>?_⟩;unfold F47.V F47.W;split;exact denF_okE (GOk.nil) noV_ok Tryz.func47 (F47.den noV _);exact λ_ _ h=>h.elim
def F48.an:List (Nat×Ann):=[(26,.loop [(3,.int .i64)] []),(105,.cut)]
def F48.T(p:Option Addr):PT:=λh Q=>
 ∃ (I:Int->Hp->Prop) (m:Int->Hp->Nat),I 0 h/\(∀ n:Int,∀ h1:Hp,I n h1->dr p λb o=>ldS h1 b (o+22) λl=>par (n<(l.n:Int)) (False) (Q (.bool true) h1))
theorem F48.den(V p):denF Tryz.prog [] [] V F48.an Tryz.f48 [.v (.pointer p)]=F48.T p:=by kernel_rfl
def F48.W(T48:Option Addr->PT)(args:List Value):PT:=match args with
 |[.pointer p]=>T48 p
 |_=>λ_ _=>False
def F48.V:List Value->PT:=F48.W F48.T
theorem F48.ok:FOk Tryz.prog 48 F48.V:=by
 refine⟨⟨_,Tryz.func48,rfl,rfl⟩,λ_=>?_⟩;unfold F48.V F48.W;split;exact denF_okE (GOk.nil) noV_ok Tryz.func48 (F48.den noV _);exact λ_ _ h=>h.elim
def F49.an:List (Nat×Ann):=[(26,.loop [(3,.int .i64)] []),(3366,.loop [(5,.int .i64)] []),(215442,.order [0,1,2,3,4,5,6,7,8,9,10,11,12,13,14,15,16,17])]
def F49.G(T100:Int->PT)(p:Option Addr):PT:=λh Q=>
 ∃ (I:Int->Hp->Prop) (m:Int->Hp->Nat),I 0 h/\(∀ n:Int,∀ h1:Hp,I n h1->dr p λb o=>ldS h1 b (o+24) λl=>par (n<(l.n:Int)) (dr p λb1 o1=>ldS h1 b1 (o1+25) λl1=>ix l1.a n l1.n λb2 o2=>ldI .i64 h1 b2 (o2+n.toNat) λn1=>∃ (I1:Int->Hp->Prop) (m1:Int->Hp->Nat),I1 n1 h1/\(∀ n2:Int,∀ h2:Hp,I1 n2 h2->dr p λb3 o3=>ldS h2 b3 (o3+24) λl2=>ix l2.a n l2.n λb4 o4=>ldS h2 b4 (o4+n.toNat) λl3=>par (n2<(l3.n:Int)) (dr p λb5 o5=>ldS h2 b5 (o5+24) λl4=>ix l4.a n l4.n λb6 o6=>ldS h2 b6 (o6+n.toNat) λl5=>ix l5.a n2 l5.n λb7 o7=>ldT h2 b7 (o7+n2.toNat*3) λs=>ldS h2 b7 ((o7+n2.toNat*3)+1) λl6=>ldI .i64 h2 b7 ((o7+n2.toNat*3)+2) λn3=>T100 (wrap .i64 (n2-n1)) h2 λr h3=>retT r λs1=>par (s=s1) (par ((l6.n:Int)=0) (par (n3=0) (I1 (wrap .i64 (n2+1)) h3/\m1 (wrap .i64 (n2+1)) h3<m1 n2 h2) (Q (.bool false) h3)) (Q (.bool false) h3)) (Q (.bool false) h3)) (I (wrap .i64 (n+1)) h2/\m (wrap .i64 (n+1)) h2<m n h1))) (Q (.bool true) h1))
def F49.T:=F49.G F100.T
theorem F49.gen(V T100 p):denF Tryz.prog [6] [(100,F100.W T100)] V F49.an Tryz.f49 [.v (.pointer p)]=F49.G T100 p:=by kernel_rfl
def F49.W(T49:Option Addr->PT)(args:List Value):PT:=match args with
 |[.pointer p]=>T49 p
 |_=>λ_ _=>False
def F49.V:List Value->PT:=F49.W F49.T
theorem F49.ok:FOk Tryz.prog 49 F49.V:=by
 refine⟨⟨_,Tryz.func49,rfl,rfl⟩,λ_=>?_⟩;unfold F49.V F49.W;split;exact denF_okE (GOk.cons F100.ok (GOk.nil)) noV_ok Tryz.func49 (F49.gen noV F100.T _);exact λ_ _ h=>h.elim
def F50.an:List (Nat×Ann):=[(26,.loop [(3,.int .i64)] []),(105,.cut)]
def F50.T(p:Option Addr):PT:=λh Q=>
 ∃ (I:Int->Hp->Prop) (m:Int->Hp->Nat),I 0 h/\(∀ n:Int,∀ h1:Hp,I n h1->dr p λb o=>ldS h1 b (o+26) λl=>par (n<(l.n:Int)) (False) (Q (.bool true) h1))
theorem F50.den(V p):denF Tryz.prog [6] [] V F50.an Tryz.f50 [.v (.pointer p)]=F50.T p:=by kernel_rfl
def F50.W(T50:Option Addr->PT)(args:List Value):PT:=match args with
 |[.pointer p]=>T50 p
 |_=>λ_ _=>False
def F50.V:List Value->PT:=F50.W F50.T
theorem F50.ok:FOk Tryz.prog 50 F50.V:=by
 refine⟨⟨_,Tryz.func50,rfl,rfl⟩,λ_=>?_⟩;unfold F50.V F50.W;split;exact denF_okE (GOk.nil) noV_ok Tryz.func50 (F50.den noV _);exact λ_ _ h=>h.elim
def F10.an:List (Nat×Ann):=[]
def F10.G(T37 T38 T39 T40 T41 T42 T43 T44 T45 T46 T47 T48 T49 T50:Option Addr->PT)(p:Option Addr):PT:=λh Q=>
 T37 p h λr h1=>retB r (T38 p h1 λr1 h2=>retB r1 (T39 p h2 λr2 h3=>retB r2 (T40 p h3 λr3 h4=>retB r3 (T41 p h4 λr4 h5=>retB r4 (T42 p h5 λr5 h6=>retB r5 (T43 p h6 λr6 h7=>retB r6 (T44 p h7 λr7 h8=>retB r7 (T45 p h8 λr8 h9=>retB r8 (T46 p h9 λr9 h10=>retB r9 (T47 p h10 λr10 h11=>retB r10 (T48 p h11 λr11 h12=>retB r11 (T49 p h12 λr12 h13=>retB r12 (T50 p h13 λr13 h14=>retB r13 (Q (.bool true) h14) (Q (.bool false) h14)) (Q (.bool false) h13)) (Q (.bool false) h12)) (Q (.bool false) h11)) (Q (.bool false) h10)) (Q (.bool false) h9)) (Q (.bool false) h8)) (Q (.bool false) h7)) (Q (.bool false) h6)) (Q (.bool false) h5)) (Q (.bool false) h4)) (Q (.bool false) h3)) (Q (.bool false) h2)) (Q (.bool false) h1)
def F10.T:=F10.G F37.T F38.T F39.T F40.T F41.T F42.T F43.T F44.T F45.T F46.T F47.T F48.T F49.T F50.T
theorem F10.gen(V T37 T38 T39 T40 T41 T42 T43 T44 T45 T46 T47 T48 T49 T50 p):denF Tryz.prog [] [(37,F37.W T37),(38,F38.W T38),(39,F39.W T39),(40,F40.W T40),(41,F41.W T41),(42,F42.W T42),(43,F43.W T43),(44,F44.W T44),(45,F45.W T45),(46,F46.W T46),(47,F47.W T47),(48,F48.W T48),(49,F49.W T49),(50,F50.W T50)] V F10.an Tryz.f10 [.v (.pointer p)]=F10.G T37 T38 T39 T40 T41 T42 T43 T44 T45 T46 T47 T48 T49 T50 p:=by kernel_rfl
def F10.W(T10:Option Addr->PT)(args:List Value):PT:=match args with
 |[.pointer p]=>T10 p
 |_=>λ_ _=>False
def F10.V:List Value->PT:=F10.W F10.T
theorem F10.ok:FOk Tryz.prog 10 F10.V:=by
 refine⟨⟨_,Tryz.func10,rfl,rfl⟩,λ_=>?_⟩;unfold F10.V F10.W;split;exact denF_okE (GOk.cons F37.ok (GOk.cons F38.ok (GOk.cons F39.ok (GOk.cons F40.ok (GOk.cons F41.ok (GOk.cons F42.ok (GOk.cons F43.ok (GOk.cons F44.ok (GOk.cons F45.ok (GOk.cons F46.ok (GOk.cons F47.ok (GOk.cons F48.ok (GOk.cons F49.ok (GOk.cons F50.ok (GOk.nil))))))))))))))) noV_ok Tryz.func10 (F10.gen noV F37.T F38.T F39.T F40.T F41.T F42.T F43.T F44.T F45.T F46.T F47.T F48.T F49.T F50.T _);exact λ_ _ h=>h.elim
end Go.Eng.YtekflkpnpibneaaGreatDoor
end
section
namespace Go.Eng.YtekflkpnpibneaaGreatDoor
open Go.Eng
def lotI(j:Nat):Int:=if j % 2=0 then -7701 else -7702
def wordB(j:Nat):ByteArray:=if j % 2=0 then ByteArray.mk #[60,111,110,101,62] else ByteArray.mk #[60,116,119,111,62]
def mkB(j:Nat):List Value:=[.int .u8 (wrap .u8 (lotI j))]
def mkI(j:Nat):List Value:=[.int .i64 (lotI j)]
def mkF(j:Nat):List Value:=[.string (wordB j),.slice none 0 0,.int .i64 0]
section
variable{g h h':Hp}{pb:Nat}{m:Mem}{cs:List Value}{w nn l:Sl}{ls:List RLx}{Q:Value->Hp->Prop}{v:List UInt8}
theorem lot_s{j:Nat}(hQ:Q (.int .i64 (lotI j)) h):F102.T (j:Int) h Q:=by
 have e:Int.tmod (j:Int) 2=((j % 2:Nat):Int):=by rw[Int.tmod_eq_emod_of_nonneg (by omega)];omega
 refine⟨by decide,λh0=>?_,λh0=>?_⟩
 ·unfold lotI at hQ;rw[if_pos (by omega)] at hQ;exact hQ
 ·unfold lotI at hQ;rw[if_neg (by omega)] at hQ;exact hQ
theorem word_s{j:Nat}(hQ:Q (.string (wordB j)) h):F100.T (j:Int) h Q:=by
 have e:Int.tmod (j:Int) 2=((j % 2:Nat):Int):=by rw[Int.tmod_eq_emod_of_nonneg (by omega)];omega
 refine⟨by decide,λh0=>?_,λh0=>?_⟩
 ·unfold wordB at hQ;rw[if_pos (by omega)] at hQ;exact hQ
 ·unfold wordB at hQ;rw[if_neg (by omega)] at hQ;exact hQ
theorem layB_s{M:Nat}(O:Mine g h m)(er:m kR=some (rF pb 43 cs))(N:RK m cs 0 0 53 1 5 M mkB w nn ls)(hr:h.row l.a (l.n*1) (bl v))(hb:l.n+M<=140737488355328)(hM:M<=100000)(hls:ls.length<=4000000000000)
  (hQ:∀ h' m' cs' (s w' n':Sl),Mine g h' m'->m' kR=some (rF pb 43 cs')->RK m' cs' 0 0 53 1 5 M mkB w' n' (ls++[⟨s,l.n,bl v⟩])->(∀ k:Key,k≠kR->k.2.1≠0->m' k=m k)->(∀ f,f≠0->f≠1->cs'[f]?=cs[f]?)->(∃ b,s.a=some ⟨b,0,none⟩)->Q (.slice s.a l.n s.n) h'):F52.T (some ⟨pb,0,none⟩) l (M:Int) h Q:=by
 unfold F52.T F52.G
 exact lay_rk (slot:=0) (bytes:=1) (G:=λn1 h3 K=>F102.T n1 h3 λr h4=>retI .i64 r λn2=>K [.int .u8 (wrap .u8 n2)] h4) (λj h K hK=>lot_s ⟨_,rfl,hK⟩) (λ_=>rfl) rfl (bl_one v) O er N (by decide) hr (by omega) hM (by decide) hls λh' m' cs' s w' n' a b c d e f=>hQ h' m' cs' s w' n' a b c d e f
theorem layI_s{vs:List Int}(O:Mine g h m)(er:m kR=some (rF pb 43 cs))(N:RK m cs 1 2 28 1 3 40 mkI w nn ls)(hr:h.row l.a (l.n*1) (vs.map λk=>Value.int .i64 k))(hb:l.n<=10000000000)(hls:ls.length<=4000000000000)
  (hQ:∀ h' m' cs' (s w' n':Sl),Mine g h' m'->m' kR=some (rF pb 43 cs')->RK m' cs' 1 2 28 1 3 40 mkI w' n' (ls++[⟨s,l.n,vs.map λk=>Value.int .i64 k⟩])->(∀ k:Key,k≠kR->k.2.1≠1->m' k=m k)->(∀ f,f≠2->f≠3->cs'[f]?=cs[f]?)->(∃ b,s.a=some ⟨b,0,none⟩)->Q (.slice s.a l.n s.n) h'):F53.T (some ⟨pb,0,none⟩) l 40 h Q:=by
 unfold F53.T F53.G
 exact lay_rk (slot:=2) (bytes:=8) (M:=40) (G:=λn1 h3 K=>F102.T n1 h3 λr h4=>retI .i64 r λn2=>K [.int .i64 n2] h4) (λj h K hK=>lot_s ⟨_,rfl,hK⟩) (λ_=>rfl) rfl (ints_one vs) O er N (by decide) hr (by omega) (by decide) (by decide) hls λh' m' cs' s w' n' a b c d e f=>hQ h' m' cs' s w' n' a b c d e f
def lbOf(Y:List (Sl×RawF)):List RLx:=Y.map λy=>⟨y.1,y.2.data.length,bl y.2.data⟩
def ltOf(Y:List (Sl×RawF)):List (Sl×RawF):=Y.map λy=>(⟨y.1.a,y.2.data.length,y.1.n⟩,y.2)
theorem rV_app(L M:List (Sl×RawF)):rV (L++M)=rV L++rV M:=by unfold rV;rw[List.flatMap_append]
theorem layF_s{L:List (Sl×RawF)}(O:Mine g h m)(er:m kR=some (rF pb 43 cs))(N0:RK m cs 0 0 53 1 5 4 mkB w nn [])(N12:RN m cs 12 24 22)(hf:∀ i,m (3,12,i)=none)(R:RA g l L)(hl:L.length*48<=140737488351232)(hd:∀ x∈L,x.2.data.length<=1048576)
  (hQ:∀ h' m' cs' (s w0 n0 w1 n1:Sl) (Y:List (Sl×RawF)),Mine g h' m'->m' kR=some (rF pb 43 cs')->RK m' cs' 0 0 53 1 5 4 mkB w0 n0 (lbOf Y)->RK m' cs' 12 24 22 3 55 40 mkF w1 n1 [⟨s,L.length,rV (ltOf Y)⟩]->Y.map (·.2)=L.map (·.2)->(∀ k:Key,k≠kR->k.2.1≠0->k.2.1≠12->m' k=m k)->(∀ f,f≠0->f≠1->f≠24->f≠25->cs'[f]?=cs[f]?)->Q (.slice s.a L.length s.n) h'):F6.T (some ⟨pb,0,none⟩) l h Q:=by
 have hln:=R.len
 have hcl:cs.length=28:=by have:=(O.buf kR _ er).len;simpa[rF] using this
 unfold F6.T F6.G
 unfold F29.T F29.G
 intro b hbn
 have k0:=Keep.new hbn (.cells ⟨[]⟩ 55 (0,0))
 have B0:=buf_new (h:=h) (b:=b) (t:=55) (sz:=3) (n:=0) [] (by simp)
 have O0:=O.add (k:=(3,12,0)) (N12.d) k0 (.inr ⟨b,rfl,hbn⟩) B0
 generalize h.new b (.cells ⟨[]⟩ 55 (0,0))=h1 at k0 B0 O0 ⊢
 have p0:∀ k:Key,k≠(3,12,0)->(m.put (3,12,0) ⟨⟨some ⟨b,0,none⟩,0,0⟩,3,55,[]⟩) k=m k:=λk hk=>put_ne _ _ hk
 have pd:=put_self m (3,12,0) ⟨⟨some ⟨b,0,none⟩,0,0⟩,3,55,[]⟩
 generalize m.put (3,12,0) ⟨⟨some ⟨b,0,none⟩,0,0⟩,3,55,[]⟩=m0 at O0 p0 pd
 refine⟨λl1 n1 h2=>∃ (L1 L2 Y:List (Sl×RawF)) (mm:Mem) (c2:List Value) (w0 n0:Sl),L=L1++L2/\n1=(L1.length:Int)/\Y.map (·.2)=L1.map (·.2)/\Mine g h2 mm/\mm kR=some (rF pb 43 c2)/\RK mm c2 0 0 53 1 5 4 mkB w0 n0 (lbOf Y)/\mm (3,12,0)=some ⟨l1,3,55,rV (ltOf Y)⟩/\(∃ b,l1.a=some ⟨b,0,none⟩)/\(∀ k:Key,k≠kR->k.2.1≠0->k≠(3,12,0)->mm k=m k)/\(∀ f,f≠0->f≠1->c2[f]?=cs[f]?),λ_ n1 _=>L.length-n1.toNat,
  ⟨[],L,[],m0,cs,w,nn,rfl,rfl,rfl,O0,by rw[p0 _ (by unfold kR;simp)];exact er,N0.cong (λk h1 h2=>p0 k (λe=>by rw[e] at h2;cases h2)) rfl rfl,pd,⟨b,rfl⟩,λk h1 h2 h3=>p0 k h3,λ_ _ _=>rfl⟩,?_⟩
 rintro l1 n1 h2 ⟨L1,L2,Y,mm,c2,w0,n0,rfl,rfl,eY,O2,er2,NB,ed,ba,hm,hc⟩
 have hYl:Y.length=L1.length:=by have:=congrArg List.length eY;simpa using this
 rw[length_append] at hln hl
 have Bd:=O2.buf _ _ ed
 dsimp only at Bd
 have hl1:l1.n=L1.length:=by have:=Bd.len;rw[rV_len] at this;unfold ltOf at this;rw[length_map] at this;omega
 refine⟨λhlt=>?_,λhge=>?_⟩
 ·rcases L2 with _|⟨x,L2⟩
  ·exact absurd hlt (by simp at hln;omega)
  rw[length_cons] at hln hl
  have hmx:x∈L1++x::L2:=by simp
  have R2:=R.keep O2.keep
  obtain⟨b1,o,ha,hrg,g0,g1,g2⟩:=R2.at
  have hxr:=R2.d x hmx
  have hxn:x.1.n=x.2.data.length:=by have:=hxr.1.1;rw[bl_len] at this;omega
  have hxd:=hd x hmx
  refine⟨b1,o,ha,hrg,x.2.nm,g0,x.1,g1,x.2.sure,g2,?_⟩
  unfold F99.T F99.G
  refine layB_s (M:=4) O2 er2 NB hxr.1 (by omega) (by decide) (by unfold lbOf;rw[length_map];omega) λh3 m3 c3 s w' n' O3 er3 NB3 hm3 hc3 hs=>⟨⟨s.a,x.1.n,s.n⟩,rfl,x.2.nm,⟨s.a,x.1.n,s.n⟩,x.2.sure,rfl,?_⟩
  have ed3:m3 (3,12,0)=some ⟨l1,3,55,rV (ltOf Y)⟩:=by rw[hm3 _ (by unfold kR;simp) (by simp)];exact ed
  refine append_buf (O3.buf _ _ ed3) rfl rfl (by omega) λl4 h4 B4 hn4 U4=>?_
  have O4:=O3.write ed3 U4 B4
  have n4:∀ k:Key,k≠(3,12,0)->(m3.put (3,12,0) ⟨l4,3,55,rV (ltOf Y)++[.string x.2.nm,.slice s.a x.1.n s.n,.int .i64 x.2.sure]⟩) k=m3 k:=λk hk=>put_ne _ _ hk
  rw[inc_i (n:=4000000000000) (by omega) (by omega)]
  have eV:rV (ltOf (Y++[(s,x.2)]))=rV (ltOf Y)++[.string x.2.nm,.slice s.a x.1.n s.n,.int .i64 x.2.sure]:=by
   unfold ltOf;rw[map_append,rV_app,hxn];rfl
  have eB:lbOf (Y++[(s,x.2)])=lbOf Y++[⟨s,x.1.n,bl x.2.data⟩]:=by unfold lbOf;rw[map_append,hxn];rfl
  refine⟨⟨L1++[x],L2,Y++[(s,x.2)],_,c3,w',n',by simp,by simp,by simp[eY],O4,by rw[n4 _ (by unfold kR;simp)];exact er3,?_,by rw[eV];exact put_self _ _ _,?_,λk e1 e2 e3=>?_,λf e1 e2=>?_⟩,by simp only[length_append,length_cons];omega⟩
  ·rw[eB];exact NB3.cong (λk _ h2=>n4 k (λe=>by rw[e] at h2;cases h2)) rfl rfl
  ·obtain⟨b',hb'⟩:=ba
   rcases U4.at_ with h0'|⟨c',e',_⟩
   ·exact⟨b',by rw[h0'];exact hb'⟩
   ·exact⟨c',e'⟩
  ·rw[n4 k e3,hm3 k e1 e2];exact hm k e1 e2 e3
  ·rw[hc3 f e1 e2];exact hc f e1 e2
 ·have hL2:L2=[]:=List.eq_nil_of_length_eq_zero (by omega)
  subst hL2
  rw[append_nil] at hQ
  rw[List.length_nil,Nat.add_zero] at hl
  have hlL:L1.length=l.n:=by rw[List.length_nil] at hln;omega
  have m12:∀ k:Key,k.2.1=12->k≠(3,12,0)->mm k=m k:=λk h1 h2=>hm k (λe=>by rw[e] at h1;cases h1) (by omega) h2
  have NF:RK (mm.del (3,12,0)) c2 12 24 22 3 55 40 mkF ⟨none,0,0⟩ ⟨none,0,0⟩ []:=by
   refine⟨by rw[del_ne _ (by simp),m12 _ rfl (by simp)];exact N12.w,by rw[del_ne _ (by simp),m12 _ rfl (by simp)];exact N12.n,λi x hx=>by simp at hx,λi _=>?_,by rw[hc _ (by decide) (by decide)];exact N12.cw,by rw[hc _ (by decide) (by decide)];exact N12.cn⟩
   by_cases hi:i=0
   ·rw[hi];exact del_self _ _
   ·rw[del_ne _ (by simp[hi]),m12 _ rfl (by simp[hi])];exact hf i
  have hcl2:c2.length=28:=by have:=(O2.buf kR _ er2).len;simpa[rF] using this
  refine lay_tail (Q:=λr h1=>retS r λl1=>Q (.slice l1.a l1.n l1.c) h1) (kr:=kR) (kw:=(1,12,0)) (kn:=(2,12,0)) (kd:=(3,12,0)) (n0:=l.n) (slot:=24) (R:=28) (tr:=43) (tw:=22) (ti:=3) (t:=55) (sz:=3) (bytes:=48) (M:=40) (mk:=mkF) (z:=[.string ⟨#[]⟩,.slice none 0 0,.int .i64 0]) (us:=rV (ltOf Y)) (ws:=[]) (ns:=[]) (cs:=c2) (w:=⟨none,0,0⟩) (n:=⟨none,0,0⟩) (G:=λn4 h5 K=>F100.T n4 h5 λr1 h6=>retT r1 λs2=>K [.string s2,.slice none 0 0,.int .i64 0] h6) (λj h K hK=>word_s ⟨_,rfl,hK⟩) (λ_=>rfl) rfl (by rw[put_same ed];exact O2) er2 (by rw[m12 _ rfl (by simp)];exact N12.w) (by rw[m12 _ rfl (by simp)];exact N12.n) (by unfold kR;simp) (by simp) (by simp) (by unfold kR;simp) (by unfold kR;simp) (by simp) (by decide) NF.cw NF.cn (hl1.trans hlL) ba (by omega) (by decide) (by decide) (by decide) (by decide) (λh' w' n' s Ms hs1 hs2 hs3=>?_)
  rw[cut00,Int.toNat_natCast,Int.toNat_natCast,<- hlL]
  rw[<- hlL] at Ms
  have es:∀ k,k≠kR->k.2.1≠12->((((mm.put (3,12,0) ⟨s,3,55,rV (ltOf Y)++markL mkF 40⟩).put (1,12,0) ⟨w',1,22,[]++[.slice s.a s.n s.c]⟩).put (2,12,0) ⟨n',1,3,[]++[.int .i64 (L1.length:Int)]⟩).put kR ⟨⟨some ⟨pb,0,none⟩,1,1⟩,28,43,(c2.set 24 (.slice w'.a w'.n w'.c)).set (24+1) (.slice n'.a n'.n n'.c)⟩) k=mm k:=λk h1 h2=>by
   rw[put_ne _ _ h1,put_ne _ _ (λe=>h2 (by rw[e])),put_ne _ _ (λe=>h2 (by rw[e])),put_ne _ _ (λe=>h2 (by rw[e]))]
  have cs2:∀ f,f≠24->f≠25->((c2.set 24 (.slice w'.a w'.n w'.c)).set (24+1) (.slice n'.a n'.n n'.c))[f]?=c2[f]?:=λf h1 h2=>by rw[getElem?_set_ne (by omega),getElem?_set_ne (by omega)]
  refine⟨⟨s.a,L1.length,s.n⟩,rfl,hQ h' _ _ s w0 n0 w' n' Y Ms (put_self _ _ _) (NB.cong (λk h1 h2=>es k h1 (by omega)) (cs2 0 (by decide) (by decide)) (cs2 1 (by decide) (by decide))) (NF.snoc (by omega) (λk=>?_) (by rw[hs1,hlL]) hs2 (by rw[rV_len];unfold ltOf;rw[length_map,hYl]) hs3) eY (λk h1 h2 h3=>?_) (λf h0 h1 h2 h3=>?_)⟩
  ·by_cases hk:k=kR
   ·exact .inr hk
   ·refine .inl ?_
    rw[put_ne _ _ hk]
    show _=(((mm.del (3,12,0)).put (3,12,0) _).put _ _).put _ _ k
    have e2:∀ x,(mm.del (3,12,0)).put (3,12,0) x=mm.put (3,12,0) x:=λx=>funext λj=>by
     by_cases hj:j=(3,12,0)
     ·rw[hj,put_self,put_self]
     ·rw[put_ne _ _ hj,put_ne _ _ hj,del_ne _ hj]
    rw[e2]
    rfl
  ·rw[es k h1 h3];exact hm k h1 h2 (λe=>h3 (by rw[e]))
  ·rw[cs2 f h2 h3];exact hc f h0 h1
end
end Go.Eng.YtekflkpnpibneaaGreatDoor
end
section
namespace Go.Eng.YtekflkpnpibneaaGreatDoor
open Go.Eng
structure RmX(g h:Hp)(pb:Nat)(m:Mem)(cs:List Value)(M:Nat)(lb li lf:List RLx):Prop where
 O:Mine g h m
 kr:m kR=some (rF pb 43 cs)
 rb:∃ w n,RK m cs 0 0 53 1 5 M mkB w n lb
 ri:∃ w n,RK m cs 1 2 28 1 3 40 mkI w n li
 rf:∃ w n,RK m cs 12 24 22 3 55 40 mkF w n lf
 no:∀ f,f<28->f≠0->f≠1->f≠2->f≠3->f≠24->f≠25->cs[f]?=some (.slice none 0 0)
def cs28:List Value:=List.replicate 28 (.slice none 0 0)
theorem cs28_at{f:Nat}(h:f<28):cs28[f]?=some (.slice none 0 0):=by unfold cs28;rw[List.getElem?_replicate,if_pos h]
section
variable{g h h':Hp}{pb M:Nat}{m:Mem}{cs:List Value}{lb li lf:List RLx}{Q:Value->Hp->Prop}
theorem room0(hb:h pb=none)(M:Nat):∃ m,RmX h (h.new pb (.cells ⟨cs28⟩ 43 (0,0))) pb m cs28 M [] [] []/\RN m cs28 12 24 22/\∀ i,m (3,12,i)=none:=by
 have O:=room_new (h:=h) (pb:=pb) (tr:=43) (cs:=cs28) hb rfl
 have O1:=O.nil (k:=(1,0,0)) (by rw[put_ne _ _ (by unfold kR;simp)]) 1 53
 have O2:=O1.nil (k:=(2,0,0)) (by rw[put_ne _ _ (by simp),put_ne _ _ (by unfold kR;simp)]) 1 3
 have O3:=O2.nil (k:=(1,1,0)) (by rw[put_ne _ _ (by simp),put_ne _ _ (by simp),put_ne _ _ (by unfold kR;simp)]) 1 28
 have O4:=O3.nil (k:=(2,1,0)) (by rw[put_ne _ _ (by simp),put_ne _ _ (by simp),put_ne _ _ (by simp),put_ne _ _ (by unfold kR;simp)]) 1 3
 have O5:=O4.nil (k:=(1,12,0)) (by rw[put_ne _ _ (by simp),put_ne _ _ (by simp),put_ne _ _ (by simp),put_ne _ _ (by simp),put_ne _ _ (by unfold kR;simp)]) 1 22
 have O6:=O5.nil (k:=(2,12,0)) (by rw[put_ne _ _ (by simp),put_ne _ _ (by simp),put_ne _ _ (by simp),put_ne _ _ (by simp),put_ne _ _ (by simp),put_ne _ _ (by unfold kR;simp)]) 1 3
 have n3:∀ c i,(((((((Mem.put (λ_=>none) kR (rF pb 43 cs28)).put (1,0,0) ⟨⟨none,0,0⟩,1,53,[]⟩).put (2,0,0) ⟨⟨none,0,0⟩,1,3,[]⟩).put (1,1,0) ⟨⟨none,0,0⟩,1,28,[]⟩).put (2,1,0) ⟨⟨none,0,0⟩,1,3,[]⟩).put (1,12,0) ⟨⟨none,0,0⟩,1,22,[]⟩).put (2,12,0) ⟨⟨none,0,0⟩,1,3,[]⟩) (3,c,i)=none:=λc i=>by
  rw[put_ne _ _ (by simp),put_ne _ _ (by simp),put_ne _ _ (by simp),put_ne _ _ (by simp),put_ne _ _ (by simp),put_ne _ _ (by simp),put_ne _ _ (by unfold kR;simp)]
 have N0:RN (((((((Mem.put (λ_=>none) kR (rF pb 43 cs28)).put (1,0,0) ⟨⟨none,0,0⟩,1,53,[]⟩).put (2,0,0) ⟨⟨none,0,0⟩,1,3,[]⟩).put (1,1,0) ⟨⟨none,0,0⟩,1,28,[]⟩).put (2,1,0) ⟨⟨none,0,0⟩,1,3,[]⟩).put (1,12,0) ⟨⟨none,0,0⟩,1,22,[]⟩).put (2,12,0) ⟨⟨none,0,0⟩,1,3,[]⟩) cs28 0 0 53:=
  ⟨by rw[put_ne _ _ (by simp),put_ne _ _ (by simp),put_ne _ _ (by simp),put_ne _ _ (by simp),put_ne _ _ (by simp),put_self],by rw[put_ne _ _ (by simp),put_ne _ _ (by simp),put_ne _ _ (by simp),put_ne _ _ (by simp),put_self],n3 _ _,cs28_at (by decide),cs28_at (by decide)⟩
 have N1:RN (((((((Mem.put (λ_=>none) kR (rF pb 43 cs28)).put (1,0,0) ⟨⟨none,0,0⟩,1,53,[]⟩).put (2,0,0) ⟨⟨none,0,0⟩,1,3,[]⟩).put (1,1,0) ⟨⟨none,0,0⟩,1,28,[]⟩).put (2,1,0) ⟨⟨none,0,0⟩,1,3,[]⟩).put (1,12,0) ⟨⟨none,0,0⟩,1,22,[]⟩).put (2,12,0) ⟨⟨none,0,0⟩,1,3,[]⟩) cs28 1 2 28:=
  ⟨by rw[put_ne _ _ (by simp),put_ne _ _ (by simp),put_ne _ _ (by simp),put_self],by rw[put_ne _ _ (by simp),put_ne _ _ (by simp),put_self],n3 _ _,cs28_at (by decide),cs28_at (by decide)⟩
 have N2:RN (((((((Mem.put (λ_=>none) kR (rF pb 43 cs28)).put (1,0,0) ⟨⟨none,0,0⟩,1,53,[]⟩).put (2,0,0) ⟨⟨none,0,0⟩,1,3,[]⟩).put (1,1,0) ⟨⟨none,0,0⟩,1,28,[]⟩).put (2,1,0) ⟨⟨none,0,0⟩,1,3,[]⟩).put (1,12,0) ⟨⟨none,0,0⟩,1,22,[]⟩).put (2,12,0) ⟨⟨none,0,0⟩,1,3,[]⟩) cs28 12 24 22:=
  ⟨by rw[put_ne _ _ (by simp),put_self],put_self _ _ _,n3 _ _,cs28_at (by decide),cs28_at (by decide)⟩
 refine⟨_,⟨O6,?_,⟨_,_,N0.rk 1 5 M mkB (n3 _)⟩,⟨_,_,N1.rk 1 3 40 mkI (n3 _)⟩,⟨_,_,N2.rk 3 55 40 mkF (n3 _)⟩,λf hf _ _ _ _ _ _=>cs28_at hf⟩,N2,n3 _⟩
 rw[put_ne _ _ (by unfold kR;simp),put_ne _ _ (by unfold kR;simp),put_ne _ _ (by unfold kR;simp),put_ne _ _ (by unfold kR;simp),put_ne _ _ (by unfold kR;simp),put_ne _ _ (by unfold kR;simp),put_self]
theorem w_sub{n j:Nat}(hn:n<=140737488355328)(hj:j<100000):wrap .i64 (((n+j:Nat):Int)-(n:Int))=(j:Int):=by rw[wrap_i64 (by omega) (by omega)];omega
theorem nil39_s(hc:h.at pb (0+4)=some (.slice none 0 0))(hQ:Q (.bool true) h):F39.T (some ⟨pb,0,none⟩) h Q:=by
 unfold F39.T
 exact hold_nil hc hQ
theorem nil40_s(hc:h.at pb (0+6)=some (.slice none 0 0))(hQ:Q (.bool true) h):F40.T (some ⟨pb,0,none⟩) h Q:=by
 unfold F40.T
 exact hold_nil hc hQ
theorem nil41_s(hc:h.at pb (0+8)=some (.slice none 0 0))(hQ:Q (.bool true) h):F41.T (some ⟨pb,0,none⟩) h Q:=by
 unfold F41.T
 exact hold_nil hc hQ
theorem nil42_s(hc:h.at pb (0+10)=some (.slice none 0 0))(hQ:Q (.bool true) h):F42.T (some ⟨pb,0,none⟩) h Q:=by
 unfold F42.T
 exact hold_nil hc hQ
theorem nil43_s(hc:h.at pb (0+12)=some (.slice none 0 0))(hQ:Q (.bool true) h):F43.T (some ⟨pb,0,none⟩) h Q:=by
 unfold F43.T
 exact hold_nil hc hQ
theorem nil44_s(hc:h.at pb (0+14)=some (.slice none 0 0))(hQ:Q (.bool true) h):F44.T (some ⟨pb,0,none⟩) h Q:=by
 unfold F44.T
 exact hold_nil hc hQ
theorem nil45_s(hc:h.at pb (0+16)=some (.slice none 0 0))(hQ:Q (.bool true) h):F45.T (some ⟨pb,0,none⟩) h Q:=by
 unfold F45.T
 exact hold_nil hc hQ
theorem nil46_s(hc:h.at pb (0+18)=some (.slice none 0 0))(hQ:Q (.bool true) h):F46.T (some ⟨pb,0,none⟩) h Q:=by
 unfold F46.T
 exact hold_nil hc hQ
theorem nil47_s(hc:h.at pb (0+20)=some (.slice none 0 0))(hQ:Q (.bool true) h):F47.T (some ⟨pb,0,none⟩) h Q:=by
 unfold F47.T
 exact hold_nil hc hQ
theorem nil48_s(hc:h.at pb (0+22)=some (.slice none 0 0))(hQ:Q (.bool true) h):F48.T (some ⟨pb,0,none⟩) h Q:=by
 unfold F48.T
 exact hold_nil hc hQ
theorem nil50_s(hc:h.at pb (0+26)=some (.slice none 0 0))(hQ:Q (.bool true) h):F50.T (some ⟨pb,0,none⟩) h Q:=by
 unfold F50.T
 exact hold_nil hc hQ
theorem hold_x(R:RmX g h pb m cs M lb li lf)(hM:M<=100000)(hb:lb.length<=4000000000000)(hi:li.length<=4000000000000)(hf:lf.length<=4000000000000)(nb:∀ x∈lb,x.n<=140737488355328)(ni:∀ x∈li,x.n<=140737488355328)(nf:∀ x∈lf,x.n<=140737488355328)(hQ:Q (.bool true) h):F10.T (some ⟨pb,0,none⟩) h Q:=by
 obtain⟨O,kr,⟨w0,n0,RB⟩,⟨w1,n1,RI⟩,⟨w2,n2,RF⟩,no⟩:=R
 have B:=O.buf kR _ kr
 have hl:cs.length=28:=by have:=B.len;simpa[rF] using this
 have c:∀ f,f<28->f≠0->f≠1->f≠2->f≠3->f≠24->f≠25->h.at pb (0+f)=some (.slice none 0 0):=λf hf a b c d e1 e2=>by
  obtain⟨b',hb,hat⟩:=buf_at B (k:=f) (by show f<cs.length;omega)
  cases hb
  rw[hat];exact no f hf a b c d e1 e2
 unfold F10.T F10.G
 have s37:∀ Q,Q (.bool true) h->F37.T (some ⟨pb,0,none⟩) h Q:=λQ hQ=>by
  unfold F37.T F37.G
  refine hold_rk (slot:=0) (BODY:=λb o n2 n1 h P=>ldI .u8 h b (o+n2.toNat) λn3=>F102.T (wrap .i64 (n2-n1)) h λr h3=>retI .i64 r λn4=>par (n3=wrap .u8 n4) (P h3) (Q (.bool false) h3)) O kr RB (by decide) hb nb hM (λx hx j hj K hK=>?_) hQ
  obtain⟨b,ha,hat⟩:=RB.mark O (λ_=>rfl) hx hj
  refine⟨b,0,ha,?_⟩
  rw[w_sub (nb x hx) (by omega),Int.toNat_natCast]
  have:=hat 0 (by decide)
  rw[Nat.mul_one,Nat.add_zero] at this
  exact⟨_,this,lot_s ⟨_,rfl,λ_=>hK,λq=>absurd rfl q⟩⟩
 have s38:∀ Q,Q (.bool true) h->F38.T (some ⟨pb,0,none⟩) h Q:=λQ hQ=>by
  unfold F38.T F38.G
  refine hold_rk (slot:=2) (BODY:=λb o n2 n1 h P=>ldI .i64 h b (o+n2.toNat) λn3=>F102.T (wrap .i64 (n2-n1)) h λr h3=>retI .i64 r λn4=>par (n3=n4) (P h3) (Q (.bool false) h3)) O kr RI (by decide) hi ni (by decide) (λx hx j hj K hK=>?_) hQ
  obtain⟨b,ha,hat⟩:=RI.mark O (λ_=>rfl) hx hj
  refine⟨b,0,ha,?_⟩
  rw[w_sub (ni x hx) (by omega),Int.toNat_natCast]
  have:=hat 0 (by decide)
  rw[Nat.mul_one,Nat.add_zero] at this
  exact⟨_,this,lot_s ⟨_,rfl,λ_=>hK,λq=>absurd rfl q⟩⟩
 have s49:∀ Q,Q (.bool true) h->F49.T (some ⟨pb,0,none⟩) h Q:=λQ hQ=>by
  unfold F49.T F49.G
  refine hold_rk (slot:=24) (BODY:=λb o n2 n1 h P=>ldT h b (o+n2.toNat*3) λs=>ldS h b ((o+n2.toNat*3)+1) λl6=>ldI .i64 h b ((o+n2.toNat*3)+2) λn3=>F100.T (wrap .i64 (n2-n1)) h λr h3=>retT r λs1=>par (s=s1) (par ((l6.n:Int)=0) (par (n3=0) (P h3) (Q (.bool false) h3)) (Q (.bool false) h3)) (Q (.bool false) h3)) O kr RF (by decide) hf nf (by decide) (λx hx j hj K hK=>?_) hQ
  obtain⟨b,ha,hat⟩:=RF.mark O (λ_=>rfl) hx hj
  refine⟨b,0,ha,?_⟩
  rw[w_sub (nf x hx) (by omega),Int.toNat_natCast]
  have h0:=hat 0 (by decide)
  have h1:=hat 1 (by decide)
  have h2:=hat 2 (by decide)
  rw[Nat.add_zero] at h0
  rw[<- Nat.add_assoc] at h1 h2
  exact⟨_,h0,⟨none,0,0⟩,h1,_,h2,word_s ⟨_,rfl,λ_=>⟨λ_=>⟨λ_=>hK,λq=>absurd rfl q⟩,λq=>absurd rfl q⟩,λq=>absurd rfl q⟩⟩
 refine s37 _ ⟨true,rfl,λ_=>?_,λq=>Bool.noConfusion q⟩
 refine s38 _ ⟨true,rfl,λ_=>?_,λq=>Bool.noConfusion q⟩
 refine nil39_s (c 4 (by decide) (by decide) (by decide) (by decide) (by decide) (by decide) (by decide)) ⟨true,rfl,λ_=>?_,λq=>Bool.noConfusion q⟩
 refine nil40_s (c 6 (by decide) (by decide) (by decide) (by decide) (by decide) (by decide) (by decide)) ⟨true,rfl,λ_=>?_,λq=>Bool.noConfusion q⟩
 refine nil41_s (c 8 (by decide) (by decide) (by decide) (by decide) (by decide) (by decide) (by decide)) ⟨true,rfl,λ_=>?_,λq=>Bool.noConfusion q⟩
 refine nil42_s (c 10 (by decide) (by decide) (by decide) (by decide) (by decide) (by decide) (by decide)) ⟨true,rfl,λ_=>?_,λq=>Bool.noConfusion q⟩
 refine nil43_s (c 12 (by decide) (by decide) (by decide) (by decide) (by decide) (by decide) (by decide)) ⟨true,rfl,λ_=>?_,λq=>Bool.noConfusion q⟩
 refine nil44_s (c 14 (by decide) (by decide) (by decide) (by decide) (by decide) (by decide) (by decide)) ⟨true,rfl,λ_=>?_,λq=>Bool.noConfusion q⟩
 refine nil45_s (c 16 (by decide) (by decide) (by decide) (by decide) (by decide) (by decide) (by decide)) ⟨true,rfl,λ_=>?_,λq=>Bool.noConfusion q⟩
 refine nil46_s (c 18 (by decide) (by decide) (by decide) (by decide) (by decide) (by decide) (by decide)) ⟨true,rfl,λ_=>?_,λq=>Bool.noConfusion q⟩
 refine nil47_s (c 20 (by decide) (by decide) (by decide) (by decide) (by decide) (by decide) (by decide)) ⟨true,rfl,λ_=>?_,λq=>Bool.noConfusion q⟩
 refine nil48_s (c 22 (by decide) (by decide) (by decide) (by decide) (by decide) (by decide) (by decide)) ⟨true,rfl,λ_=>?_,λq=>Bool.noConfusion q⟩
 refine s49 _ ⟨true,rfl,λ_=>?_,λq=>Bool.noConfusion q⟩
 exact nil50_s (c 26 (by decide) (by decide) (by decide) (by decide) (by decide) (by decide) (by decide)) ⟨true,rfl,λ_=>hQ,λq=>Bool.noConfusion q⟩
end
end Go.Eng.YtekflkpnpibneaaGreatDoor
end
