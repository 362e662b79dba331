/-
  JOINED.
-/
import Derived.Test.YtekflkpnpibneaaGreatDoorK4
import Derived.WalkKit
import Derived.ChangeSlices
import Derived.SizedLaws
import Derived.Below
set_option linter.unusedSimpArgs false
set_option linter.unusedVariables false
set_option maxRecDepth 100000
open Go.IntKind (wrap)
open List (length_append length_map length_cons eq_nil_of_length_eq_zero mem_of_getElem? mem_cons_self getElem?_eq_getElem getElem?_map map_append mem_cons_of_mem map_cons getElem?_append_left getElem?_append_right length_take mem_cons mem_append mem_singleton append_nil)
section
namespace Go.Eng.YtekflkpnpibneaaGreatDoor
def ecell(x:ByteArray×Nat):List Value:=[.string x.1,.int .i64 (x.2:Int)]
def eV(d:Dir):List Value:=d.flatMap ecell
theorem eV_len(d:Dir):(eV d).length=d.length*2:=by
 unfold eV
 induction d with
 |nil=>rfl
 |cons c l ih=>rw[List.flatMap_cons,length_append,ih,length_cons];show 2+_=_;omega
theorem eV_app(L M:Dir):eV (L++M)=eV L++eV M:=by unfold eV;simp
theorem eV_cons(x:ByteArray×Nat)(M:Dir):eV (x::M)=Value.string x.1::.int .i64 (x.2:Int)::eV M:=rfl
theorem eV_one(d:Dir):∀ v∈eV d,Value.oneCell' v=true:=λv hv=>by
 unfold eV at hv
 obtain⟨x,_,hx⟩:=List.mem_flatMap.1 hv
 unfold ecell at hx
 rcases mem_cons.1 hx with rfl|hx
 ·rfl
 ·rw[mem_singleton.1 hx];rfl
theorem setL_app':∀ (V A U B:List Value),U.length=V.length->setL (A++(U++B)) A.length V=A++(V++B)
 |[],A,U,B,h=>by
  have:U=[]:=eq_nil_of_length_eq_zero h
  subst this;rfl
 |v::V,A,[],B,h=>(by cases h)
 |v::V,A,u::U,B,h=>by
  unfold setL
  have e:(A++(u::U++B)).set A.length v=(A++[v])++(U++B):=by simp
  have l:A.length+1=(A++[v]).length:=by simp
  rw[e,l,setL_app' V (A++[v]) U B (by simpa using h)]
  simp
theorem buf_get{h:Hp}{s:Sl}{sz t:Nat}{vs:List Value}(B:Buf h s sz t vs)(h0:0<vs.length):∃ b,s.a=some ⟨b,0,none⟩/\∀ k,k<vs.length->h.at b k=vs[k]?:=by
 obtain⟨b,ha,_⟩:=buf_set B h0
 refine⟨b,ha,λk hk=>?_⟩
 obtain⟨b',ha',hg,_⟩:=buf_set B hk
 rw[ha] at ha';cases ha'
 exact hg
theorem buf_wrL{h:Hp}{s:Sl}{sz t:Nat}{A U C V:List Value}(B:Buf h s sz t (A++(U++C)))(hU:U.length=V.length)(h0:0<V.length):∃ b,s.a=some ⟨b,0,none⟩/\h.canW b A.length V.length/\Upd h (h.wr b A.length V) s s/\Buf (h.wr b A.length V) s sz t (A++(V++C)):=by
 have hlen:(A++(U++C)).length=A.length+(V.length+C.length):=by simp only[length_append];omega
 rcases B.own with⟨ha,hc⟩|⟨b,c,f,ha,hb,hsz,hf,ht⟩
 ·have h1:=B.len
  have h2:=B.cap
  have:s.n=0:=by omega
  rw[this,Nat.zero_mul] at h1
  omega
 ·have hle:(A++(U++C)).length<=c.size:=by
   rw[B.len]
   exact Nat.le_trans (Nat.mul_le_mul_right _ B.cap) hsz
  refine⟨b,ha,⟨c,t,f,hb,by omega,λj h1 h2=>hf j (by omega)⟩,⟨λj x hj e=>?_,.inl rfl,λj e=>?_⟩,⟨?_,B.cap,.inr ⟨b,(setL c.toList A.length V).toArray,f,ha,wr_cells hb,?_,?_,?_⟩⟩⟩
  ·have hjb:j≠b:=λq=>hj 0 (by rw[q];exact ha)
   unfold Hp.wr
   rw[if_neg hjb]
   exact e
  ·unfold Hp.wr at e
   by_cases hjb:j=b
   ·rw[if_pos hjb,hb] at e;cases e
   ·rw[if_neg hjb] at e;exact e
  ·rw[<- B.len,hlen];simp only[length_append]
  ·simp only[List.size_toArray,setL_length,Array.length_toList];exact hsz
  ·intro j hj
   simp only[List.size_toArray,setL_length,Array.length_toList] at hj
   exact hf j hj
  ·have e:c.toList=A++(U++(C++c.toList.drop (A++(U++C)).length)):=by
    rw[<- List.append_assoc U,<- List.append_assoc A,<- ht,length_take,Nat.min_eq_left (by rw[Array.length_toList];exact hle),List.take_append_drop]
   show(setL c.toList A.length V).take _=_
   have e2:∀ X:List Value,A++(V++(C++X))=(A++(V++C))++X:=λX=>by simp
   rw[e,setL_app' V A U _ hU,e2]
   exact List.take_left' rfl
theorem buf_cutS{h:Hp}{s:Sl}{sz t:Nat}{vs ws:List Value}(B:Buf h s sz t vs){k:Nat}(hk:k<=s.n)(hw:vs.take (k*sz)=ws):Buf h (Sl.cut s sz 0 (k:Int) (s.c:Int)) sz t ws:=by
 have hn:(Sl.cut s sz 0 (k:Int) (s.c:Int)).n=k:=by simp[Sl.cut]
 have hc:(Sl.cut s sz 0 (k:Int) (s.c:Int)).c=s.c:=by simp[Sl.cut]
 have hl:=B.len
 have hcap:=B.cap
 have hkm:k*sz<=s.n*sz:=Nat.mul_le_mul_right _ hk
 subst hw
 refine⟨by rw[hn,length_take];omega,by rw[hn,hc];omega,?_⟩
 rw[cut_a,hc]
 rcases B.own with h0|⟨b,c,f,ha,hb,hsz,hf,ht⟩
 ·exact .inl h0
 ·refine .inr ⟨b,c,f,ha,hb,hsz,hf,?_⟩
  rw[length_take,<- ht,List.take_take]
  congr 1
  rw[ht]
theorem split_get{α:Type}:∀ {l:List α} {k:Nat} {x:α},l[k]?=some x->∃ A B,l=A++x::B/\A.length=k
 |[],k,x,h=>by simp at h
 |y::l,0,x,h=>⟨[],l,by simp at h;rw[h];rfl,rfl⟩
 |y::l,k+1,x,h=>by
  obtain⟨A,B,rfl,hl⟩:=split_get (l:=l) (k:=k) (x:=x) (by simpa using h)
  exact⟨y::A,B,rfl,by simp[hl]⟩
theorem dsplit:∀ {d:Dir},DSrt d->∀ s,(∃ d1 j d2,d=d1++(s,j)::d2)\/(∃ d1 d2,d=d1++d2/\(∀ x∈d1,Bl x.1 s)/\∀ x∈d2,Bl s x.1)
 |[],_,s=>.inr ⟨[],[],rfl,λx hx=>(by cases hx),λx hx=>(by cases hx)⟩
 |x::d,D,s=>by
  have D':=List.pairwise_cons.1 D
  rcases bl_tri x.1 s with k|k|k
  ·rcases dsplit D'.2 s with⟨d1,j,d2,rfl⟩|⟨d1,d2,rfl,h1,h2⟩
   ·exact .inl ⟨x::d1,j,d2,rfl⟩
   ·refine .inr ⟨x::d1,d2,rfl,λy hy=>?_,h2⟩
    rcases mem_cons.1 hy with rfl|hy
    ·exact k
    ·exact h1 y hy
  ·refine .inr ⟨[],x::d,rfl,λy hy=>(by cases hy),λy hy=>?_⟩
   rcases mem_cons.1 hy with rfl|hy
   ·exact k
   ·exact k.trans (D'.1 y hy)
  ·exact .inl ⟨[],x.2,d,by rw[<- k];rfl⟩
theorem hit_lt{d1 d2:Dir}{s:ByteArray}{j:Nat}(D:DSrt (d1++(s,j)::d2)):(∀ x∈d1,Bl x.1 s)/\∀ x∈d2,Bl s x.1:=by
 have h:=List.pairwise_append.1 D
 exact⟨λx hx=>h.2.2 x hx _ mem_cons_self,λx hx=>(List.pairwise_cons.1 h.2.1).1 x hx⟩
theorem dins_lt{s:ByteArray}{i:Nat}{e:Dir}:∀ {d1:Dir},(∀ x∈d1,Bl x.1 s)->dins (d1++e) s i=d1++dins e s i
 |[],_=>rfl
 |x::d1,h=>by
  have hx:=h x mem_cons_self
  show(if x.1=s then _ else if bB s x.1=true then _ else x::dins (d1++e) s i)=_
  rw[if_neg (λe=>by rw[e] at hx;exact Bl.irr hx),if_neg (by rw[bB_t];exact hx.asym),dins_lt λy hy=>h y (mem_cons_of_mem _ hy)]
  rfl
theorem ddel_lt{s:ByteArray}{e:Dir}:∀ {d1:Dir},(∀ x∈d1,Bl x.1 s)->ddel (d1++e) s=d1++ddel e s
 |[],_=>rfl
 |x::d1,h=>by
  have hx:=h x mem_cons_self
  show(if x.1=s then _ else x::ddel (d1++e) s)=_
  rw[if_neg (λe=>by rw[e] at hx;exact Bl.irr hx),ddel_lt λy hy=>h y (mem_cons_of_mem _ hy)]
  rfl
theorem dins_hit{d1 d2:Dir}{s:ByteArray}{j:Nat}(D:DSrt (d1++(s,j)::d2))(i:Nat):dins (d1++(s,j)::d2) s i=d1++(s,i)::d2:=by
 rw[dins_lt (hit_lt D).1];unfold dins;rw[if_pos rfl]
theorem ddel_hit{d1 d2:Dir}{s:ByteArray}{j:Nat}(D:DSrt (d1++(s,j)::d2)):ddel (d1++(s,j)::d2) s=d1++d2:=by
 rw[ddel_lt (hit_lt D).1];unfold ddel;rw[if_pos rfl]
theorem dins_miss{d1 d2:Dir}{s:ByteArray}(h1:∀ x∈d1,Bl x.1 s)(h2:∀ x∈d2,Bl s x.1)(i:Nat):dins (d1++d2) s i=d1++(s,i)::d2:=by
 rw[dins_lt h1]
 rcases d2 with _|⟨x,d2⟩
 ·rfl
 ·have hx:=h2 x mem_cons_self
  unfold dins
  rw[if_neg (λe=>by rw[e] at hx;exact Bl.irr hx),if_pos (bB_t.2 hx)]
theorem miss_none{d1 d2:Dir}{s:ByteArray}(h1:∀ x∈d1,Bl x.1 s)(h2:∀ x∈d2,Bl s x.1):dget (d1++d2) s=none:=by
 refine dget_none.2 λx hx e=>?_
 rcases mem_append.1 hx with hx|hx
 ·have:=h1 x hx;rw[e] at this;exact Bl.irr this
 ·have:=h2 x hx;rw[e] at this;exact Bl.irr this
theorem ddel_miss:∀ {d:Dir} {s:ByteArray},dget d s=none->ddel d s=d
 |[],s,_=>rfl
 |x::d,s,h=>by
  unfold dget at h
  unfold ddel
  by_cases hx:x.1=s
  ·rw[if_pos hx] at h;cases h
  ·rw[if_neg hx] at h;rw[if_neg hx,ddel_miss h]
theorem get2(a b:Value)(B:List Value):∀ A:List Value,(A++a::b::B)[A.length]?=some a/\(A++a::b::B)[A.length+1]?=some b
 |[]=>⟨rfl,rfl⟩
 |x::A=>get2 a b B A
section
variable{h h':Hp}{Q:Value->Hp->Prop}{d:Dir}{l:Sl}{s:ByteArray}
theorem e_n(B:Buf h l 2 136 (eV d)):l.n=d.length:=by have:=B.len;rw[eV_len] at this;omega
theorem e_at{d1 d2:Dir}{x:ByteArray×Nat}(B:Buf h l 2 136 (eV (d1++x::d2))):∃ b,l.a=some ⟨b,0,none⟩/\((0:Int)<=(d1.length:Int)/\(d1.length:Int)<(l.n:Int))/\h.at b (0+(d1.length:Int).toNat*2)=some (.string x.1)/\h.at b ((0+(d1.length:Int).toNat*2)+1)=some (.int .i64 (x.2:Int)) /\
  h.canW b ((0+(d1.length:Int).toNat*2)+1) 1/\∀ i:Nat,Upd h (h.wr b ((0+(d1.length:Int).toNat*2)+1) [.int .i64 (i:Int)]) l l/\Buf (h.wr b ((0+(d1.length:Int).toNat*2)+1) [.int .i64 (i:Int)]) l 2 136 (eV (d1++(x.1,i)::d2)):=by
 have hn:=e_n B
 rw[length_append,length_cons] at hn
 have e0:0+(d1.length:Int).toNat*2=(eV d1).length:=by rw[eV_len];omega
 rw[e0]
 rw[eV_app,eV_cons] at B
 have hlen:(eV d1++Value.string x.1::.int .i64 (x.2:Int)::eV d2).length=(eV d1).length+(2+(eV d2).length):=by simp only[length_append,length_cons];omega
 obtain⟨g0,g1⟩:=get2 (.string x.1) (.int .i64 (x.2:Int)) (eV d2) (eV d1)
 obtain⟨b,ha,hat⟩:=buf_get B (by omega)
 have B':Buf h l 2 136 ((eV d1++[Value.string x.1])++([Value.int .i64 (x.2:Int)]++eV d2)):=by simpa using B
 obtain⟨b1,ha1,hw,_,_⟩:=buf_wrL B' (V:=[.int .i64 (x.2:Int)]) rfl (by simp)
 rw[ha] at ha1;cases ha1
 have hl1:(eV d1++[Value.string x.1]).length=(eV d1).length+1:=by simp
 rw[hl1] at hw
 refine⟨b,ha,⟨by omega,by omega⟩,(hat _ (by omega)).trans g0,(hat _ (by omega)).trans g1,hw,λi=>?_⟩
 obtain⟨b1,ha1,_,U,B2⟩:=buf_wrL B' (V:=[.int .i64 (i:Int)]) rfl (by simp)
 rw[ha] at ha1;cases ha1
 rw[hl1] at U B2
 exact⟨U,by rw[eV_app,eV_cons];simpa using B2⟩
theorem find_r(B:Buf h l 2 136 (eV d))(D:DSrt d)(hl:d.length<=1000000000)(h1:∀ d1 j d2,d=d1++(s,j)::d2->Q (.tuple ⟨[.int .i64 (d1.length:Int),.bool true]⟩) h)
  (h0:∀ d1 d2,d=d1++d2->(∀ x∈d1,Bl x.1 s)->(∀ x∈d2,Bl s x.1)->Q (.tuple ⟨[.int .i64 (d1.length:Int),.bool false]⟩) h):F34.T l s h Q:=by
 have hn:=e_n B
 obtain⟨p,hp,hpl,hend⟩:∃ p:Nat,(∀ k x,d[k]?=some x->(Bl x.1 s↔k<p))/\p<=d.length/\par ((p:Int)<(l.n:Int)) (∃ b1 o1,(l.a:Option Addr)=some ⟨b1,o1,none⟩/\((0:Int)<=(p:Int)/\(p:Int)<(l.n:Int))/\∃ s2:ByteArray,h.at b1 (o1+(p:Int).toNat*2)=some (.string s2)/\par (s2=s) (h.at b1 (o1+(p:Int).toNat*2)=some (.string s2)/\Q (.tuple ⟨[.int .i64 (p:Int),.bool true]⟩) h) (h.at b1 (o1+(p:Int).toNat*2)=some (.string s2)/\Q (.tuple ⟨[.int .i64 (p:Int),.bool false]⟩) h)) (Q (.tuple ⟨[.int .i64 (p:Int),.bool false]⟩) h):=by
  have key:∀ (d1 d2:Dir),(∀ x∈d1,Bl x.1 s)->(∀ x∈d2,¬ Bl x.1 s)->∀ (k:Nat) x,(d1++d2)[k]?=some x->(Bl x.1 s↔k<d1.length):=λd1 d2 h1 h2 k x hk=>by
   rcases Nat.lt_or_ge k d1.length with hlt|hge
   ·rw[getElem?_append_left hlt] at hk
    exact⟨λ_=>hlt,λ_=>h1 x (mem_of_getElem? hk)⟩
   ·rw[getElem?_append_right hge] at hk
    exact⟨λhb=>absurd hb (h2 x (mem_of_getElem? hk)),λhlt=>by omega⟩
  rcases dsplit D s with⟨d1,j,d2,rfl⟩|⟨d1,d2,rfl,g1,g2⟩
  ·have hh:=hit_lt D
   obtain⟨b,ha,hr,hat,_⟩:=e_at B
   refine⟨d1.length,key d1 _ hh.1 (λx hx=>?_),by simp,⟨λ_=>⟨b,0,ha,hr,s,hat,⟨λ_=>⟨hat,h1 d1 j d2 rfl⟩,λhne=>absurd rfl hne⟩⟩,λhge=>absurd hr.2 hge⟩⟩
   rcases mem_cons.1 hx with rfl|hx
   ·exact Bl.irr
   ·exact(hh.2 x hx).asym
  ·refine⟨d1.length,key d1 d2 g1 λx hx=>(g2 x hx).asym,by simp,?_⟩
   rcases d2 with _|⟨x,d2⟩
   ·exact⟨λhlt=>by simp at hn;omega,λ_=>h0 d1 [] rfl g1 g2⟩
   ·obtain⟨b,ha,hr,hat,_⟩:=e_at B
    have hx:=g2 x mem_cons_self
    exact⟨λ_=>⟨b,0,ha,hr,x.1,hat,⟨λe=>by rw[e] at hx;exact absurd hx Bl.irr,λ_=>⟨hat,h0 d1 _ rfl g1 g2⟩⟩⟩,λhge=>absurd hr.2 hge⟩
 refine⟨λn n1 h1=>∃ lo hi:Nat,n=(lo:Int)/\n1=(hi:Int)/\lo<=p/\p<=hi/\hi<=d.length/\h1=h,λn n1 _=>(n1-n).toNat,⟨0,d.length,rfl,by rw[hn],Nat.zero_le _,hpl,Nat.le_refl _,rfl⟩,?_⟩
 rintro n n1 h1 ⟨lo,hi,rfl,rfl,hlo,hhi,hdl,rfl⟩
 refine⟨λhlt=>?_,λhge=>?_⟩
 ·have hm:wrap .i64 (Int.tdiv (wrap .i64 ((lo:Int)+(hi:Int))) 2)=(((lo+hi) / 2:Nat):Int):=by
   rw[wrap_i64 (n:=(lo:Int)+hi) (by omega) (by omega)]
   have e:Int.tdiv ((lo:Int)+(hi:Int)) 2=(((lo+hi) / 2:Nat):Int):=by
    rw[show(lo:Int)+(hi:Int)=((lo+hi:Nat):Int) by omega];rfl
   rw[e,wrap_i64 (by omega) (by omega)]
  rw[hm]
  have hml:(lo+hi) / 2<d.length:=by omega
  have hgx:d[(lo+hi) / 2]?=some d[(lo+hi) / 2]:=getElem?_eq_getElem hml
  generalize d[(lo+hi) / 2]=x at hgx
  obtain⟨A,C,hAC,hAl⟩:=split_get hgx
  have B':=B
  rw[hAC] at B'
  obtain⟨b,ha,hr,hat,_⟩:=e_at B'
  rw[hAl] at hr hat
  have hiff:=hp _ _ hgx
  refine⟨by decide,b,0,ha,hr,x.1,hat,λhs=>?_,λhs=>?_⟩
  ·have:=hiff.1 ((sLt_bl _ _).1 hs)
   rw[inc_i (n:=2000000000) (by omega) (by omega)]
   exact⟨⟨(lo+hi) / 2+1,hi,rfl,rfl,by omega,hhi,hdl,rfl⟩,by dsimp only;omega⟩
  ·have:¬ (lo+hi) / 2<p:=λhlt=>hs ((sLt_bl _ _).2 (hiff.2 hlt))
   exact⟨⟨lo,(lo+hi) / 2,rfl,rfl,hlo,by omega,by omega,rfl⟩,by dsimp only;omega⟩
 ·have:lo=p:=by omega
  subst this
  exact hend
theorem cut_add{l:Sl}{b:Nat}(ha:l.a=some ⟨b,0,none⟩){k n:Nat}(hk:k<l.c):(Sl.cut l 2 (k:Int) (n:Int) (l.c:Int)).a=some ⟨b,0+k*2,none⟩:=by
 unfold Sl.cut
 dsimp only
 rw[Int.toNat_natCast,Int.toNat_natCast,if_neg (by omega),ha]
 simp[Addr.add]
 omega
theorem cut_n{l:Sl}{k n:Nat}:(Sl.cut l 2 (k:Int) (n:Int) (l.c:Int)).n=n-k:=by simp[Sl.cut]
theorem with_r{i:Nat}(B:Buf h l 2 136 (eV d))(D:DSrt d)(hl:d.length<=1000000000)(hQ:∀ h' l',Buf h' l' 2 136 (eV (dins d s i))->Upd h h' l l'->Q (.slice l'.a l'.n l'.c) h'):F35.T l s (i:Int) h Q:=by
 unfold F35.T F35.G
 refine find_r B D hl (λd1 j d2 e=>⟨_,true,⟨λ_=>⟨rfl,?_⟩,λh=>(by cases h)⟩⟩) (λd1 d2 e g1 g2=>⟨_,false,⟨λh=>(by cases h),λ_=>⟨rfl,?_⟩⟩⟩)
 ·subst e
  obtain⟨b,ha,hr,_,_,hw,hu⟩:=e_at B
  refine⟨b,0,ha,hr,hw,hQ _ l ?_ (hu i).1⟩
  rw[dins_hit D]
  exact(hu i).2
 ·subst e
  have hn:=e_n B
  rw[length_append] at hn hl
  refine append_buf B rfl rfl (by omega) λl1 h2 B2 hn2 U2=>?_
  have hcap:=B2.cap
  have hi1:wrap .i64 ((d1.length:Int)+1)=((d1.length+1:Nat):Int):=inc_i (n:=2000000000) (by omega) (by omega)
  rw[hi1]
  refine⟨⟨by omega,by omega,by omega,by omega⟩,⟨by omega,by omega,by omega,by omega⟩,?_⟩
  rw[cut_n,cut_n]
  have hmin:Nat.min (l1.n-d1.length) (l1.n-(d1.length+1))=d2.length:=by
   show min _ _=_
   rw[Nat.min_eq_right (by omega)];omega
  rw[hmin]
  have h0l:0<(eV (d1++d2)++[Value.string ⟨#[]⟩,.int .i64 0]).length:=by simp
  obtain⟨b,ha,hat⟩:=buf_get B2 h0l
  have fin:∀ (h3:Hp) (p0 p1:Value),Buf h3 l1 2 136 (eV d1++([p0,p1]++eV d2))->Upd h h3 l l1->∃ b2 o1,(l1.a:Option Addr)=some ⟨b2,o1,none⟩/\((0:Int)<=(d1.length:Int)/\(d1.length:Int)<(l1.n:Int))/\h3.canW b2 (o1+(d1.length:Int).toNat*2) 2/\Q (.slice l1.a l1.n l1.c) (h3.wr b2 (o1+(d1.length:Int).toNat*2) [.string s,.int .i64 (i:Int)]):=λh3 p0 p1 B3 U3=>by
   obtain⟨b3,ha3,hw3,U4,B4⟩:=buf_wrL B3 (V:=[.string s,.int .i64 (i:Int)]) rfl (by simp)
   have e0:0+(d1.length:Int).toNat*2=(eV d1).length:=by rw[eV_len];omega
   rw[<- e0] at hw3 U4 B4
   refine⟨b3,0,ha3,⟨by omega,by omega⟩,hw3,hQ _ l1 ?_ (U3.trans U4)⟩
   rw[dins_miss g1 g2,eV_app,eV_cons]
   exact B4
  refine⟨eV d2,?_,eV_one d2,?_⟩
  ·refine⟨by rw[eV_len],.inr ⟨b,0+d1.length*2,cut_add ha (by omega),λj hj=>?_⟩⟩
   rw[hat _ (by simp[eV_len];omega),eV_app,List.append_assoc,show 0+d1.length*2+j=(eV d1).length+j by rw[eV_len];omega,getElem?_append_right (Nat.le_add_right _ _),Nat.add_sub_cancel_left,getElem?_append_left (by rw[eV_len];exact hj)]
  ·rcases d2 with _|⟨x,d2⟩
   ·refine⟨.inl rfl,?_⟩
    rw[show eV []=[] from rfl,wrA_nil]
    refine fin h2 (.string ⟨#[]⟩) (.int .i64 0) ?_ U2
    have e0:eV ([]:Dir)=[]:=rfl
    rw[e0]
    simpa using B2
   ·rw[length_cons] at hn
    have hadd:(Sl.cut l1 2 ((d1.length+1:Nat):Int) (l1.n:Int) (l1.c:Int)).a=some ⟨b,0+(d1.length+1)*2,none⟩:=cut_add ha (by omega)
    rw[hadd]
    obtain⟨V2,hV2⟩:∃ V2,eV (x::d2)++[Value.string ⟨#[]⟩,.int .i64 0]=[Value.string x.1,.int .i64 (x.2:Int)]++V2/\V2.length=(eV (x::d2)).length:=⟨eV d2++[Value.string ⟨#[]⟩,.int .i64 0],by rw[eV_cons];rfl,by rw[eV_cons];simp⟩
    have B2':Buf h2 l1 2 136 ((eV d1++[Value.string x.1,.int .i64 (x.2:Int)])++(V2++[])):=by
     rw[append_nil,List.append_assoc,<- hV2.1,<- List.append_assoc,<- eV_app]
     exact B2
    obtain⟨b3,ha3,hw3,U4,B4⟩:=buf_wrL B2' (V:=eV (x::d2)) hV2.2 (by simp[eV_cons])
    rw[ha] at ha3;cases ha3
    have e1:(eV d1++[Value.string x.1,.int .i64 (x.2:Int)]).length=0+(d1.length+1)*2:=by simp[eV_len];omega
    rw[e1] at hw3 U4 B4
    refine⟨.inr ⟨b,_,rfl,hw3⟩,?_⟩
    show ∃ b2 o1,_/\_/\(h2.wr b (0+(d1.length+1)*2) (eV (x::d2))).canW _ _ _/\_
    refine fin _ (.string x.1) (.int .i64 (x.2:Int)) ?_ (U2.trans U4)
    simpa using B4
theorem without_r(B:Buf h l 2 136 (eV d))(D:DSrt d)(hl:d.length<=1000000000)(hQ:∀ h' l',Buf h' l' 2 136 (eV (ddel d s))->Upd h h' l l'->Q (.slice l'.a l'.n l'.c) h'):F108.T l s h Q:=by
 unfold F108.T F108.G
 refine find_r B D hl (λd1 j d2 e=>⟨_,true,⟨λ_=>⟨rfl,?_⟩,λh=>(by cases h)⟩⟩) (λd1 d2 e g1 g2=>⟨_,false,⟨λh=>(by cases h),λ_=>⟨rfl,?_⟩⟩⟩)
 ·subst e
  have hn:=e_n B
  rw[length_append,length_cons] at hn hl
  have hcap:=B.cap
  have hi1:wrap .i64 ((d1.length:Int)+1)=((d1.length+1:Nat):Int):=inc_i (n:=2000000000) (by omega) (by omega)
  have hi2:wrap .i64 ((l.n:Int)-1)=((d1.length+d2.length:Nat):Int):=by rw[wrap_i64 (by omega) (by omega)];omega
  rw[hi1,hi2]
  refine⟨⟨by omega,by omega,by omega,by omega⟩,⟨by omega,by omega,by omega,by omega⟩,?_⟩
  rw[cut_n,cut_n]
  have hmin:Nat.min (l.n-(d1.length+1)) (l.n-d1.length)=d2.length:=by
   show min _ _=_
   rw[Nat.min_eq_left (by omega)];omega
  rw[hmin]
  have B':Buf h l 2 136 (eV d1++(Value.string s::.int .i64 (j:Int)::eV d2)):=by rw[eV_app,eV_cons] at B;exact B
  obtain⟨b,ha,hat⟩:=buf_get B' (by simp only[length_append,length_cons];omega)
  have hadd:(Sl.cut l 2 (d1.length:Int) (l.n:Int) (l.c:Int)).a=some ⟨b,0+d1.length*2,none⟩:=cut_add ha (by omega)
  rw[hadd]
  have fin:∀ (h3:Hp) (ws:List Value),Buf h3 l 2 136 (eV (d1++d2)++ws)->Upd h h3 l l->Q (.slice (Sl.cut l 2 0 ((d1.length+d2.length:Nat):Int) (l.c:Int)).a (Sl.cut l 2 0 ((d1.length+d2.length:Nat):Int) (l.c:Int)).n (Sl.cut l 2 0 ((d1.length+d2.length:Nat):Int) (l.c:Int)).c) h3:=λh3 ws B3 U3=>by
   refine hQ h3 _ (buf_cutS B3 (by omega) ?_) ⟨U3.keep,.inl (cut_a _ _ _),U3.dom⟩
   rw[ddel_hit D,List.take_left' (by rw[eV_len,length_append])]
  refine⟨eV d2,?_,eV_one d2,?_⟩
  ·refine⟨by rw[eV_len],?_⟩
   by_cases h0:d2.length*2=0
   ·exact .inl h0
   ·refine .inr ⟨b,0+(d1.length+1)*2,cut_add ha (by omega),λk hk=>?_⟩
    rw[hat _ (by simp[eV_len];omega),show 0+(d1.length+1)*2+k=(eV d1).length+(k+1+1) by rw[eV_len];omega,getElem?_append_right (Nat.le_add_right _ _),Nat.add_sub_cancel_left,List.getElem?_cons_succ,List.getElem?_cons_succ]
  ·rcases d2 with _|⟨x,d2⟩
   ·refine⟨.inl rfl,⟨by omega,by omega,by omega,by omega⟩,?_⟩
    rw[show eV []=[] from rfl,wrA_nil]
    refine fin h [Value.string s,.int .i64 (j:Int)] ?_ (Upd.refl _ _)
    rw[append_nil];exact B'
   ·obtain⟨U1,ws,hU1,hUl⟩:∃ U1 ws,(Value.string s::.int .i64 (j:Int)::eV (x::d2))=U1++ws/\U1.length=(eV (x::d2)).length:=
     ⟨(Value.string s::.int .i64 (j:Int)::eV (x::d2)).take (eV (x::d2)).length,(Value.string s::.int .i64 (j:Int)::eV (x::d2)).drop (eV (x::d2)).length,(List.take_append_drop _ _).symm,by rw[length_take];simp only[length_cons];omega⟩
    rw[hU1] at B'
    obtain⟨b3,ha3,hw3,U4,B4⟩:=buf_wrL B' (V:=eV (x::d2)) hUl (by simp[eV_cons])
    rw[ha] at ha3;cases ha3
    have e1:(eV d1).length=0+d1.length*2:=by rw[eV_len];omega
    rw[e1] at hw3 U4 B4
    refine⟨.inr ⟨b,_,rfl,hw3⟩,⟨by omega,by omega,by omega,by omega⟩,?_⟩
    show Q _ (h.wr b (0+d1.length*2) (eV (x::d2)))
    refine fin _ ws ?_ U4
    rw[eV_app,List.append_assoc]
    exact B4
 ·subst e
  refine hQ h l ?_ (Upd.refl _ _)
  rw[ddel_miss (miss_none g1 g2)]
  exact B
theorem twin_r(B:Buf h l 2 136 (eV d))(hl:d.length<=1000000000)(hQ:∀ h' l',Keep h h'->Buf h' l' 2 136 (eV d)->NewN h l'->Q (.slice l'.a l'.n l'.c) h'):F36.T l h Q:=by
 have hn:=e_n B
 refine⟨eV d,B.row,eV_one d,append_buf (Buf.nil _ _ _) rfl (by rw[eV_len,hn]) (by dsimp only;omega) λl' h' B' _ U'=>?_⟩
 obtain⟨K,N⟩:=NewN.upd (Keep.refl h) (NewN.nil h) U'
 exact hQ h' l' K (by simpa using B') N
end
end Go.Eng.YtekflkpnpibneaaGreatDoor
end
section
namespace Go.Eng.YtekflkpnpibneaaGreatDoor
structure RB where
 db:Nat
 fs:Sl
 nw:Sl
 sr:Sl
 cs:Sl
 X:List FX
def pV(X:List FX):List Value:=X.map λx=>.pointer (some ⟨x.b,0,none⟩)
def ccell(c:Cg):List Value:=[.int .i64 (c.kind+1),.string c.nm,.string c.to,.int .i64 (if c.kind=0 then(c.id:Int) else 0)]
def cV(l:List Cg):List Value:=l.flatMap ccell
theorem cV_len(l:List Cg):(cV l).length=l.length*4:=by
 unfold cV
 induction l with
 |nil=>rfl
 |cons c l ih=>rw[List.flatMap_cons,length_append,ih,length_cons];show 4+_=_;omega
def RB.cells(B:RB)(S:Dk):List Value:=[.int .i64 S.room,.slice B.fs.a B.fs.n B.fs.c,.slice B.nw.a B.nw.n B.nw.c,.slice B.sr.a B.sr.n B.sr.c,.slice B.cs.a B.cs.n B.cs.c,.int .i64 S.left,.int .i64 S.well,.int .i64 S.fails,.int .i64 S.part,.bool S.down]
structure RD(h:Hp)(B:RB)(S:Dk):Prop where
 dsk:h B.db=some (.cells ⟨[.int .i64 S.room,.slice B.fs.a B.fs.n B.fs.c,.slice B.nw.a B.nw.n B.nw.c,.slice B.sr.a B.sr.n B.sr.c,.slice B.cs.a B.cs.n B.cs.c,.int .i64 S.left,.int .i64 S.well,.int .i64 S.fails,.int .i64 S.part,.bool S.down]⟩ 101 (0,0))
 fs:Buf h B.fs 1 104 (pV B.X)
 nw:Buf h B.nw 2 136 (eV S.now)
 sr:Buf h B.sr 2 136 (eV S.sure)
 cs:Buf h B.cs 4 167 (cV S.chg)
 fl:B.X.map (·.f)=S.fl
 fx:Fls 106 h B.X
 dj:Off B.nw B.sr
def RB.own(B:RB)(k:Nat):Prop:=k=B.db\/inS B.fs k\/inS B.nw k\/inS B.sr k\/inS B.cs k\/ownX B.X k
section
variable{h h' h1 h2:Hp}{B:RB}{S S':Dk}{Q:Value->Hp->Prop}{s:ByteArray}
theorem RD.alive(R:RD h B S){k:Nat}(hk:B.own k):∃ o,h k=some o:=by
 rcases hk with rfl|hk|hk|hk|hk|hk
 ·exact⟨_,R.dsk⟩
 ·obtain⟨c,f,e⟩:=buf_alive R.fs hk;exact⟨_,e⟩
 ·obtain⟨c,f,e⟩:=buf_alive R.nw hk;exact⟨_,e⟩
 ·obtain⟨c,f,e⟩:=buf_alive R.sr hk;exact⟨_,e⟩
 ·obtain⟨c,f,e⟩:=buf_alive R.cs hk;exact⟨_,e⟩
 ·obtain⟨c,f,e,_⟩:=R.fx.alive hk;exact⟨_,e⟩
theorem RD.mono(R:RD h B S)(m:∀ k x,B.own k->h k=some x->h' k=some x):RD h' B S:=
 ⟨m _ _ (.inl rfl) R.dsk,buf_mono R.fs λk x hk e=>m k x (.inr (.inl hk)) e,buf_mono R.nw λk x hk e=>m k x (.inr (.inr (.inl hk))) e,buf_mono R.sr λk x hk e=>m k x (.inr (.inr (.inr (.inl hk)))) e,buf_mono R.cs λk x hk e=>m k x (.inr (.inr (.inr (.inr (.inl hk))))) e,R.fl,
  R.fx.mono λk x hk e=>m k x (.inr (.inr (.inr (.inr (.inr hk))))) e,R.dj⟩
theorem RD.keep(R:RD h B S)(K:Keep h h'):RD h' B S:=R.mono λk x _ e=>K k x e
theorem RD.other(R:RD h B S){E E':Nat->Prop}(T:Tr2 E E' h h')(d:∀ k,B.own k->¬ E k):RD h' B S/\∀ k,B.own k->¬ E' k:=
 ⟨R.mono λk x hk e=>T.keep k x (d k hk) e,λk hk he=>(T.grow k he).elim (d k hk) λe=>by obtain⟨o,ho⟩:=R.alive hk;rw[e] at ho;cases ho⟩
theorem fls_ck{t:Nat}{κ:List Nat}{X:List FX}(F:Fls t h X)(C:Ck κ h h')(h5:7∉κ)(ht:t+2∉κ):Fls t h' X:=F.mono λk y hk e=>C.keep k y e (by
 obtain⟨c,u,e',hu⟩:=F.alive hk
 rw[e] at e';cases e'
 rcases hu with hu|hu
 ·show u.1+2∉κ;rw[hu];exact h5
 ·show u.1+2∉κ;rw[hu];exact ht)
theorem RD.cells(R:RD h B S)(C:Ck [103] h h')(e1:S'.now=S.now)(e2:S'.sure=S.sure)(e3:S'.chg=S.chg)(e4:S'.fl=S.fl)
  (hd:h' B.db=some (.cells ⟨[.int .i64 S'.room,.slice B.fs.a B.fs.n B.fs.c,.slice B.nw.a B.nw.n B.nw.c,.slice B.sr.a B.sr.n B.sr.c,.slice B.cs.a B.cs.n B.cs.c,.int .i64 S'.left,.int .i64 S'.well,.int .i64 S'.fails,.int .i64 S'.part,.bool S'.down]⟩ 101 (0,0))):RD h' B S':=
 ⟨hd,C.buf (by decide) R.fs,by rw[e1];exact C.buf (by decide) R.nw,by rw[e2];exact C.buf (by decide) R.sr,by rw[e3];exact C.buf (by decide) R.cs,by rw[e4];exact R.fl,fls_ck R.fx C (by decide) (by decide),R.dj⟩
theorem RD.setNow(R:RD h B S){nw':Sl}{d':Dir}(U:Upd h h1 B.nw nw')(Bn:Buf h1 nw' 2 136 (eV d')):h1.canW B.db (0+2) 1/\RD (h1.wr B.db (0+2) [.slice nw'.a nw'.n nw'.c]) { B with nw:=nw' } { S with now:=d' }/\Tr2 B.own (RB.own { B with nw:=nw' }) h (h1.wr B.db (0+2) [.slice nw'.a nw'.n nw'.c]):=by
 have C1:Ck [138] h h1:=Ck.of_upd R.nw U
 have hd1:=C1.keep _ _ R.dsk (by simp[kd])
 have C2:Ck [103] h1 (h1.wr B.db (0+2) [.slice nw'.a nw'.n nw'.c]):=Ck.wr hd1
 have C:Ck [138,103] h (h1.wr B.db (0+2) [.slice nw'.a nw'.n nw'.c]):=(C1.mono (by decide)).trans (C2.mono (by decide))
 refine⟨canW_new hd1 (by simp),⟨wr_cells hd1,C.buf (by decide) R.fs,C2.buf (by decide) Bn,C2.buf (by decide) (R.sr.upd U (offS R.dj)),C.buf (by decide) R.cs,R.fl,fls_ck R.fx C (by decide) (by decide),offS (off_upd U (offS R.dj) R.sr)⟩,?_⟩
 refine(Tr2.upd (D:=B.own) (D':=RB.own { B with nw:=nw' }) U (λk o e=>.inr (.inr (.inl ⟨o,e⟩))) λk d=>?_).trans (Tr2.one (one_wr hd1) (.inl rfl) λk d=>.inl d)
 rcases d with d|d|d|d|d|d
 ·exact .inl (.inl d)
 ·exact .inl (.inr (.inl d))
 ·rcases upd_in U d with d|d
  ·exact .inl (.inr (.inr (.inl d)))
  ·exact .inr d
 ·exact .inl (.inr (.inr (.inr (.inl d))))
 ·exact .inl (.inr (.inr (.inr (.inr (.inl d)))))
 ·exact .inl (.inr (.inr (.inr (.inr (.inr d)))))
theorem RD.setCs(R:RD h B S){cs':Sl}{g':List Cg}(U:Upd h h1 B.cs cs')(Bc:Buf h1 cs' 4 167 (cV g')):h1.canW B.db (0+4) 1/\RD (h1.wr B.db (0+4) [.slice cs'.a cs'.n cs'.c]) { B with cs:=cs' } { S with chg:=g' }/\Tr2 B.own (RB.own { B with cs:=cs' }) h (h1.wr B.db (0+4) [.slice cs'.a cs'.n cs'.c]):=by
 have C1:Ck [169] h h1:=Ck.of_upd R.cs U
 have hd1:=C1.keep _ _ R.dsk (by simp[kd])
 have C2:Ck [103] h1 (h1.wr B.db (0+4) [.slice cs'.a cs'.n cs'.c]):=Ck.wr hd1
 have C:Ck [169,103] h (h1.wr B.db (0+4) [.slice cs'.a cs'.n cs'.c]):=(C1.mono (by decide)).trans (C2.mono (by decide))
 refine⟨canW_new hd1 (by simp),⟨wr_cells hd1,C.buf (by decide) R.fs,C.buf (by decide) R.nw,C.buf (by decide) R.sr,C2.buf (by decide) Bc,R.fl,fls_ck R.fx C (by decide) (by decide),R.dj⟩,?_⟩
 refine(Tr2.upd (D:=B.own) (D':=RB.own { B with cs:=cs' }) U (λk o e=>.inr (.inr (.inr (.inr (.inl ⟨o,e⟩))))) λk d=>?_).trans (Tr2.one (one_wr hd1) (.inl rfl) λk d=>.inl d)
 rcases d with d|d|d|d|d|d
 ·exact .inl (.inl d)
 ·exact .inl (.inr (.inl d))
 ·exact .inl (.inr (.inr (.inl d)))
 ·exact .inl (.inr (.inr (.inr (.inl d))))
 ·rcases upd_in U d with d|d
  ·exact .inl (.inr (.inr (.inr (.inr (.inl d)))))
  ·exact .inr d
 ·exact .inl (.inr (.inr (.inr (.inr (.inr d)))))
theorem RD.addFile(R:RD h B S){x:FX}{fs':Sl}(K:Keep h h1)(hb:h1 x.b=some (.cells ⟨[.slice x.d.a x.d.n x.d.c,.int .i64 (x.f.sure:Int)]⟩ 106 (0,0)))(Bd:Buf h1 x.d 1 5 (bl x.f.data))(n1:h x.b=none)(n2:NewN h x.d)(U:Upd h1 h2 B.fs fs')(Bf:Buf h2 fs' 1 104 (pV (B.X++[x]))) :
  h2.canW B.db (0+1) 1/\RD (h2.wr B.db (0+1) [.slice fs'.a fs'.n fs'.c]) { B with fs:=fs',X:=B.X++[x] } { S with fl:=S.fl++[x.f] }/\Tr2 B.own (RB.own { B with fs:=fs',X:=B.X++[x] }) h (h2.wr B.db (0+1) [.slice fs'.a fs'.n fs'.c]):=by
 have R1:=R.keep K
 have C1:Ck [106] h1 h2:=Ck.of_upd R1.fs U
 have hd1:=C1.keep _ _ R1.dsk (by simp[kd])
 have C2:Ck [103] h2 (h2.wr B.db (0+1) [.slice fs'.a fs'.n fs'.c]):=Ck.wr hd1
 have C:Ck [106,103] h1 (h2.wr B.db (0+1) [.slice fs'.a fs'.n fs'.c]):=(C1.mono (by decide)).trans (C2.mono (by decide))
 have F1:Fls 106 h1 (B.X++[x]):=R1.fx.snoc hb Bd (λho=>by obtain⟨c,u,e,_⟩:=R.fx.alive ho;rw[n1] at e;cases e) λk hk ho=>by obtain⟨c,u,e,_⟩:=R.fx.alive ho;rw[newN_in n2 hk] at e;cases e
 refine⟨canW_new hd1 (by simp),⟨wr_cells hd1,C2.buf (by decide) Bf,C.buf (by decide) R1.nw,C.buf (by decide) R1.sr,C.buf (by decide) R1.cs,by simp[R.fl],fls_ck F1 C (by decide) (by decide),R.dj⟩,?_⟩
 have T:Tr2 B.own B.own h (h2.wr B.db (0+1) [.slice fs'.a fs'.n fs'.c]):=Tr2.keepTr K ((Tr2.upd (D:=B.own) (D':=B.own) U (λk o e=>.inr (.inl ⟨o,e⟩)) λk d=>.inl d).trans (Tr2.one (D':=B.own) (one_wr hd1) (.inl rfl) λk d=>.inl d))
 refine⟨T.keep,T.dom,λk d=>?_⟩
 ·rcases d with d|d|d|d|d|d
  ·exact .inl (.inl d)
  ·rcases upd_in U d with d|d
   ·exact .inl (.inr (.inl d))
   ·exact .inr (K.dom _ d)
  ·exact .inl (.inr (.inr (.inl d)))
  ·exact .inl (.inr (.inr (.inr (.inl d))))
  ·exact .inl (.inr (.inr (.inr (.inr (.inl d)))))
  ·rcases ownX_snoc d with d|rfl|d
   ·exact .inl (.inr (.inr (.inr (.inr (.inr d)))))
   ·exact .inr n1
   ·exact .inr (newN_in n2 d)
theorem RD.file(R:RD h B S){i:Nat}{x:FX}(hx:B.X[i]?=some x):S.fl[i]?=some x.f:=by rw[<- R.fl,getElem?_map,hx];rfl
theorem RD.xlen(R:RD h B S):B.X.length=S.fl.length:=by rw[<- R.fl,length_map]
theorem RD.set(R:RD h B S){i:Nat}{x:FX}(hx:B.X[i]?=some x){d':Sl}{f':Fil}(U:Upd h h1 x.d d')(Bd:Buf h1 d' 1 5 (bl f'.data))(O:One x.b h1 h2)
  (hb:h2 x.b=some (.cells ⟨[.slice d'.a d'.n d'.c,.int .i64 (f'.sure:Int)]⟩ 106 (0,0))):RD h2 { B with X:=B.X.set i ⟨x.b,d',f'⟩ } { S with fl:=S.fl.set i f' }/\Tr2 B.own (RB.own { B with X:=B.X.set i ⟨x.b,d',f'⟩ }) h h2:=by
 obtain⟨F,C,T⟩:=R.fx.set (by decide) hx U Bd O hb
 have hp:pV (B.X.set i ⟨x.b,d',f'⟩)=pV B.X:=by
  unfold pV
  rw[List.map_set]
  apply List.ext_getElem?
  intro n
  rw[List.getElem?_set]
  split
  ·next hn=>
   subst hn
   split
   ·rw[getElem?_map,hx];rfl
   ·next hl=>rw[List.getElem?_eq_none (by omega)]
  ·rfl
 refine⟨⟨C.keep _ _ R.dsk (by simp[kd]),by show Buf h2 B.fs 1 104 (pV (B.X.set i _));rw[hp];exact C.buf (by decide) R.fs,C.buf (by decide) R.nw,C.buf (by decide) R.sr,C.buf (by decide) R.cs,by show(B.X.set i _).map _=S.fl.set i _;rw[List.map_set,R.fl],F,R.dj⟩,⟨λk y hk e=>?_,T.dom,λk d=>?_⟩⟩
 ·by_cases hX:ownX B.X k
  ·exact absurd (.inr (.inr (.inr (.inr (.inr hX))))) hk
  ·exact T.keep k y hX e
 ·rcases d with d|d|d|d|d|d
  ·exact .inl (.inl d)
  ·exact .inl (.inr (.inl d))
  ·exact .inl (.inr (.inr (.inl d)))
  ·exact .inl (.inr (.inr (.inr (.inl d))))
  ·exact .inl (.inr (.inr (.inr (.inr (.inl d)))))
  ·rcases T.grow k d with d|d
   ·exact .inl (.inr (.inr (.inr (.inr (.inr d)))))
   ·exact .inr d
theorem rigged_r(R:RD h B S)(D:DOk S)(hup:S.down=false)(hT:(dbegin S true).1=31->∀ h',RD h' B (dbegin S true).2->Tr2 B.own B.own h h'->Q (.bool true) h')
  (hF:(dbegin S true).1=0->∀ h',RD h' B (dbegin S true).2->Tr2 B.own B.own h h'->Q (.bool false) h'):F104.T (some ⟨B.db,0,none⟩) h Q:=by
 have hd:=R.dsk
 have pos:=D.pos
 have top:=D.top
 refine⟨B.db,0,rfl,S.well,at_of hd 6,λhw=>?_,λhw=>?_⟩
 ·have e:dbegin S true=(0,{ S with well:=S.well-1 }):=by unfold dbegin;rw[if_neg (by rw[hup];simp),if_neg (by simp),if_pos hw]
  rw[e] at hF
  refine⟨B.db,0,rfl,S.well,at_of hd 6,B.db,0,rfl,canW_new hd (by simp),?_⟩
  rw[wrap_i64 (by omega) (by omega)]
  exact hF rfl _ (R.cells (Ck.wr hd) rfl rfl rfl rfl (wr_cells hd)) (Tr2.one (one_wr hd) (.inl rfl) λ_ d=>.inl d)
 ·refine⟨B.db,0,rfl,S.fails,at_of hd 7,λhf=>?_,λhf=>?_⟩
  ·have e:dbegin S true=(31,{ S with fails:=S.fails-1 }):=by unfold dbegin;rw[if_neg (by rw[hup];simp),if_neg (by simp),if_neg hw,if_pos hf]
   rw[e] at hT
   refine⟨B.db,0,rfl,S.fails,at_of hd 7,B.db,0,rfl,canW_new hd (by simp),?_⟩
   rw[wrap_i64 (by omega) (by omega)]
   exact hT rfl _ (R.cells (Ck.wr hd) rfl rfl rfl rfl (wr_cells hd)) (Tr2.one (one_wr hd) (.inl rfl) λ_ d=>.inl d)
  ·have e:dbegin S true=(0,S):=by unfold dbegin;rw[if_neg (by rw[hup];simp),if_neg (by simp),if_neg hw,if_neg hf]
   rw[e] at hF
   exact hF rfl h R (Tr2.refl _ _)
theorem dbegin_down{ok:Bool}(hd:S.down=true):dbegin S ok=(30,S):=by unfold dbegin;rw[if_pos hd]
theorem dbegin_name(hup:S.down=false):dbegin S false=(33,S):=by unfold dbegin;rw[if_neg (by rw[hup];simp),if_pos rfl]
theorem begin_r{K:Hp->Prop}(R:RD h B S)(D:DOk S)(hQ:¬ (dbegin S (nameOk s)).1=0->∀ h',RD h' B (dbegin S (nameOk s)).2->Tr2 B.own B.own h h'->Q (.int .i64 (dbegin S (nameOk s)).1) h')
  (hK:(dbegin S (nameOk s)).1=0->∀ h',RD h' B (dbegin S (nameOk s)).2->Tr2 B.own B.own h h'->K h') :
  ∃ b o,(some ⟨B.db,0,none⟩:Option Addr)=some ⟨b,o,none⟩/\∃ b1:Bool,h.at b (o+9)=some (.bool b1)/\parB b1 (Q (.int .i64 30) h) (F33.T s h λr h1=>∃ b2:Bool,r=.bool b2/\parB b2 (F104.T (some ⟨B.db,0,none⟩) h1 λr1 h2=>∃ b3:Bool,r1=.bool b3/\parB b3 (Q (.int .i64 31) h2) (K h2)) (Q (.int .i64 33) h1)):=by
 refine⟨B.db,0,rfl,S.down,at_of R.dsk 9,λhd=>?_,λhu=>name_doc ⟨nameOk s,rfl,λhn=>?_,λhn=>?_⟩⟩
 ·rw[dbegin_down hd] at hQ
  exact hQ (by simp) h R (Tr2.refl _ _)
 ·rw[hn] at hQ hK
  refine rigged_r R D hu (λe h' R' T'=>⟨true,rfl,λ_=>?_,λh=>(by cases h)⟩) (λe h' R' T'=>⟨false,rfl,λh=>(by cases h),λ_=>hK e h' R' T'⟩)
  have:=hQ (by rw[e];decide) h' R' T'
  rw[e] at this
  exact this
 ·rw[hn,dbegin_name hu] at hQ
  exact hQ (by simp) h R (Tr2.refl _ _)
theorem falls_r{cost:Int}(R:RD h B S)(D:DOk S)(hup:S.down=false)(hc:0<=cost)
  (hN:∀ h',(dfalls S cost).1=none->RD h' B (dfalls S cost).2->Tr2 B.own B.own h h'->Q (.tuple ⟨[.int .i64 0,.bool false]⟩) h')
  (hF:∀ h' n,(dfalls S cost).1=some n->0<=n->n<cost\/n=0/\cost=0\/n+1<=cost->RD h' B (dfalls S cost).2->Tr2 B.own B.own h h'->Q (.tuple ⟨[.int .i64 n,.bool true]⟩) h'):F106.T (some ⟨B.db,0,none⟩) cost h Q:=by
 have hd:=R.dsk
 have pos:=D.pos
 have top:=D.top
 refine⟨B.db,0,rfl,S.left,at_of hd 5,λh0=>?_,λh0=>⟨B.db,0,rfl,S.left,at_of hd 5,λhlt=>?_,λhge=>?_⟩⟩
 ·have e:dfalls S cost=(none,S):=by unfold dfalls;rw[if_pos h0]
  rw[e] at hN
  exact hN h rfl R (Tr2.refl _ _)
 ·have e:dfalls S cost=(none,{ S with left:=S.left-cost }):=by unfold dfalls;rw[if_neg h0,if_pos hlt]
  rw[e] at hN
  refine⟨B.db,0,rfl,S.left,at_of hd 5,B.db,0,rfl,canW_new hd (by simp),?_⟩
  rw[wrap_i64 (by omega) (by omega)]
  exact hN _ rfl (R.cells (Ck.wr hd) rfl rfl rfl rfl (wr_cells hd)) (Tr2.one (one_wr hd) (.inl rfl) λ_ d=>.inl d)
 ·have e:dfalls S cost=(some (S.left-1),{ S with left:=0,well:=0,fails:=0,part:=0,down:=true }):=by unfold dfalls;rw[if_neg h0,if_neg hge]
  rw[e] at hF
  have g1:=wr_cells (o:=0+5) (vs:=[.int .i64 0]) hd
  have g2:=wr_cells (o:=0+6) (vs:=[.int .i64 0]) g1
  have g3:=wr_cells (o:=0+7) (vs:=[.int .i64 0]) g2
  have g4:=wr_cells (o:=0+8) (vs:=[.int .i64 0]) g3
  have g5:=wr_cells (o:=0+9) (vs:=[.bool true]) g4
  have OO:=(((one_wr (o:=0+5) (vs:=[.int .i64 0]) hd).trans (one_wr (o:=0+6) (vs:=[.int .i64 0]) g1)).trans ((one_wr (o:=0+7) (vs:=[.int .i64 0]) g2).trans (one_wr (o:=0+8) (vs:=[.int .i64 0]) g3))).trans (one_wr (o:=0+9) (vs:=[.bool true]) g4)
  refine⟨B.db,0,rfl,S.left,at_of hd 5,B.db,0,rfl,canW_new hd (by simp),B.db,0,rfl,canW_new g1 (by simp[setL]),B.db,0,rfl,canW_new g2 (by simp[setL]),B.db,0,rfl,canW_new g3 (by simp[setL]),B.db,0,rfl,canW_new g4 (by simp[setL]),?_⟩
  rw[wrap_i64 (by omega) (by omega)]
  exact hF _ (S.left-1) rfl (by omega) (.inr (.inr (by omega))) (R.cells (OO.ck hd) rfl rfl rfl rfl g5) (Tr2.one OO (.inl rfl) λ_ d=>.inl d)
theorem fell_r(R:RD h B S)(hQ:Q (.bool S.down) h):F70.T (some ⟨B.db,0,none⟩) h Q:=by
 refine⟨B.db,0,rfl,S.down,at_of R.dsk 9,λe=>?_,λe=>?_⟩
 ·rw[e] at hQ;exact hQ
 ·rw[e] at hQ;exact hQ
theorem arm_r{n:Int}(R:RD h B S)(hQ:∀ h',RD h' B (kArm S n)->Tr2 B.own B.own h h'->Q (.tuple ⟨[]⟩) h'):F68.T (some ⟨B.db,0,none⟩) n h Q:=by
 have hd:=R.dsk
 unfold kArm at hQ
 refine⟨B.db,0,rfl,S.down,at_of hd 9,λe=>?_,λe=>⟨B.db,0,rfl,canW_new hd (by simp),?_⟩⟩
 ·rw[if_pos e] at hQ;exact hQ h R (Tr2.refl _ _)
 ·rw[if_neg (by rw[e];simp)] at hQ
  exact hQ _ (R.cells (Ck.wr hd) rfl rfl rfl rfl (wr_cells hd)) (Tr2.one (one_wr hd) (.inl rfl) λ_ d=>.inl d)
theorem fail_r{a b c:Int}(R:RD h B S)(hQ:∀ h',RD h' B (kFail S a b c)->Tr2 B.own B.own h h'->Q (.tuple ⟨[]⟩) h'):F69.T (some ⟨B.db,0,none⟩) a b c h Q:=by
 have hd:=R.dsk
 have g1:=wr_cells (o:=0+6) (vs:=[.int .i64 (iMax a 0)]) hd
 have g2:=wr_cells (o:=0+7) (vs:=[.int .i64 (iMax b 0)]) g1
 have g3:=wr_cells (o:=0+8) (vs:=[.int .i64 (iMax c 0)]) g2
 have OO:=((one_wr (o:=0+6) (vs:=[.int .i64 (iMax a 0)]) hd).trans (one_wr (o:=0+7) (vs:=[.int .i64 (iMax b 0)]) g1)).trans (one_wr (o:=0+8) (vs:=[.int .i64 (iMax c 0)]) g2)
 unfold kFail at hQ
 refine⟨B.db,0,rfl,S.down,at_of hd 9,λe=>?_,λe=>⟨B.db,0,rfl,canW_new hd (by simp),B.db,0,rfl,canW_new g1 (by simp[setL]),B.db,0,rfl,canW_new g2 (by simp[setL]),?_⟩⟩
 ·rw[if_pos e] at hQ;exact hQ h R (Tr2.refl _ _)
 ·rw[if_neg (by rw[e];simp)] at hQ
  exact hQ _ (R.cells (OO.ck hd) rfl rfl rfl rfl g3) (Tr2.one OO (.inl rfl) λ_ d=>.inl d)
theorem xget(R:RD h B S){i:Nat}(hi:i<S.fl.length):∃ x,B.X[i]?=some x/\∃ b,B.fs.a=some ⟨b,0,none⟩/\((0:Int)<=(i:Int)/\(i:Int)<(B.fs.n:Int))/\h.at b (0+(i:Int).toNat)=some (.pointer (some ⟨x.b,0,none⟩)):=by
 have hX:i<B.X.length:=by rw[R.xlen];exact hi
 have hl:(pV B.X).length=B.X.length:=length_map _
 have hn:B.fs.n=B.X.length:=by have:=R.fs.len;rw[hl] at this;omega
 obtain⟨b,ha,hat⟩:=buf_get R.fs (by omega)
 have hx:B.X[i]?=some B.X[i]:=getElem?_eq_getElem hX
 refine⟨_,hx,b,ha,⟨by omega,by omega⟩,?_⟩
 rw[Int.toNat_natCast,Nat.zero_add,hat _ (by omega)]
 unfold pV
 rw[getElem?_map,hx];rfl
theorem at_r(R:RD h B S)(D:DOk S)(h0:dget S.now s=none->Q (.pointer none) h)(h1:∀ i x,dget S.now s=some i->B.X[i]?=some x->Q (.pointer (some ⟨x.b,0,none⟩)) h):F103.T (some ⟨B.db,0,none⟩) s h Q:=by
 unfold F103.T F103.G
 have hl:=D.len
 refine⟨B.db,0,rfl,B.nw,at_of R.dsk 2,find_r R.nw D.now.s (by omega) (λd1 j d2 e=>⟨_,true,⟨λ_=>⟨rfl,?_⟩,λh=>(by cases h)⟩⟩) (λd1 d2 e g1 g2=>⟨_,false,⟨λh=>(by cases h),λ_=>⟨rfl,?_⟩⟩⟩)⟩
 ·have hg:dget S.now s=some j:=mem_dget D.now.s (by rw[e];simp)
  have hj:=D.now.i _ (dget_mem hg)
  obtain⟨x,hx,b5,ha5,hr5,hat5⟩:=xget R hj
  have Bn:=R.nw
  rw[e] at Bn
  obtain⟨b,ha,hr,_,hat,_⟩:=e_at Bn
  exact⟨B.db,0,rfl,B.fs,at_of R.dsk 1,B.db,0,rfl,B.nw,at_of R.dsk 2,b,0,ha,hr,(j:Int),hat,b5,0,ha5,hr5,_,hat5,h1 j x hg hx⟩
 ·exact h0 (by rw[e];exact miss_none g1 g2)
end
end Go.Eng.YtekflkpnpibneaaGreatDoor
end
section
namespace Go.Eng.YtekflkpnpibneaaGreatDoor
section
variable{h h' h1 h2:Hp}{B:RB}{S S':Dk}{Q:Value->Hp->Prop}{s:ByteArray}
theorem addCg{c:Cg}{p0 p3:Int}(R:RD h B S)(hl:S.chg.length<=1000000000)(h0:p0=c.kind+1)(h3:p3=if c.kind=0 then(c.id:Int) else 0)
  (hQ:∀ h' B',B'.db=B.db->RD h' B' { S with chg:=S.chg++[c] }->Tr2 B.own B'.own h h'->Q (.int .i64 0) h') :
  appendD B.cs 167 4 48 [.int .i64 0,.string ⟨#[]⟩,.string ⟨#[]⟩,.int .i64 0] 1 [.int .i64 p0,.string c.nm,.string c.to,.int .i64 p3] h λl3 h6=>∃ b8 o4,(some ⟨B.db,0,none⟩:Option Addr)=some ⟨b8,o4,none⟩/\h6.canW b8 (o4+4) 1/\Q (.int .i64 0) (h6.wr b8 (o4+4) [.slice l3.a l3.n l3.c]):=by
 have hn:B.cs.n=S.chg.length:=by have:=R.cs.len;rw[cV_len] at this;omega
 refine append_buf R.cs rfl rfl (by omega) λl3 h6 B6 _ U6=>?_
 have e:cV S.chg++[Value.int .i64 p0,.string c.nm,.string c.to,.int .i64 p3]=cV (S.chg++[c]):=by rw[h0,h3];unfold cV;simp[ccell]
 rw[e] at B6
 obtain⟨hw,R',T'⟩:=R.setCs U6 B6
 exact⟨B.db,0,rfl,hw,hQ _ { B with cs:=l3 } rfl R' T'⟩
theorem delete_r(R:RD h B S)(D:DOk S)(hl:S.chg.length<=1000000000)(hQ:∀ h' B',B'.db=B.db->RD h' B' (kDelete S s).2->Tr2 B.own B'.own h h'->Q (.int .i64 (kDelete S s).1) h'):F62.T (some ⟨B.db,0,none⟩) s h Q:=by
 refine begin_r R D (λe0 h1 R1 T1=>?_) (λe0 h1 R1 T1=>?_)
 ·have hk:kDelete S s=dbegin S (nameOk s):=kThen_1 e0
  rw[hk] at hQ
  exact hQ h1 B rfl R1 T1
 ·have hk:kDelete S s=kDelete2 s (dbegin S (nameOk s)).2:=kThen_0 e0
  have D1:=D.begin (nameOk s)
  have hup:=(begin_up e0).2.2
  have hl1:(dbegin S (nameOk s)).2.chg.length<=1000000000:=by rw[(begin_same S _).2.2.2.1];exact hl
  rw[hk] at hQ
  generalize (dbegin S (nameOk s)).2=S1 at R1 D1 hup hl1 hQ
  refine at_r R1 D1 (λhg=>⟨none,rfl,okPtr_none _ _,⟨λ_=>?_,λh=>absurd rfl h⟩⟩) (λi x hg hx=>⟨_,rfl,okPtr_none _ _,⟨λh=>(by cases h),λ_=>?_⟩⟩)
  ·have e:kDelete2 s S1=(34,S1):=by unfold kDelete2;rw[hg]
   rw[e] at hQ
   exact hQ h1 B rfl R1 T1
  ·have e:kDelete2 s S1=kFalls S1 1 λS2=>(0,kDo S2 ⟨2,s,⟨#[]⟩,0⟩):=by unfold kDelete2;rw[hg]
   rw[e] at hQ
   refine falls_r R1 D1 hup (by decide) (λh2 e R2 T2=>⟨0,false,⟨λh=>(by cases h),λ_=>⟨rfl,?_⟩⟩⟩) (λh2 m e _ _ R2 T2=>⟨m,true,⟨λ_=>⟨rfl,?_⟩,λh=>(by cases h)⟩⟩)
   ·rw[kFalls_n e] at hQ
    have D2:=D1.falls (cost:=1) (by decide)
    have hl2:(dfalls S1 1).2.chg.length<=1000000000:=by rw[(falls_same S1 1).2.2.2.1];exact hl1
    generalize (dfalls S1 1).2=S2 at R2 D2 hl2 hQ
    have hdl:=D2.len
    refine⟨B.db,0,rfl,B.nw,at_of R2.dsk 2,without_r R2.nw D2.now.s (by omega) λh3 nw' B3 U3=>⟨nw',rfl,?_⟩⟩
    obtain⟨hw,R3,T3⟩:=R2.setNow U3 B3
    have hlay:dlay S2.now ⟨2,s,⟨#[]⟩,0⟩=ddel S2.now s:=by unfold dlay;rw[if_neg (by simp),if_neg (by simp)]
    refine⟨B.db,0,rfl,hw,B.db,0,rfl,B.cs,at_of R3.dsk 4,?_⟩
    refine addCg (B:={ B with nw:=nw' }) (c:=⟨2,s,⟨#[]⟩,0⟩) R3 hl2 rfl rfl λh4 B4 eB R4 T4=>hQ h4 B4 eB ?_ (T1.trans (T2.trans (T3.trans T4)))
    unfold kDo
    rw[hlay];exact R4
   ·rw[kFalls_s e] at hQ
    exact hQ h2 B rfl R2 (T1.trans T2)
theorem create_r(R:RD h B S)(D:DOk S)(hl:S.chg.length<=1000000000)(hfl:S.fl.length<=1000000000)(hQ:∀ h' B',B'.db=B.db->RD h' B' (kCreate S s).2->Tr2 B.own B'.own h h'->Q (.int .i64 (kCreate S s).1) h'):F58.T (some ⟨B.db,0,none⟩) s h Q:=by
 refine begin_r R D (λe0 h1 R1 T1=>?_) (λe0 h1 R1 T1=>?_)
 ·have hk:kCreate S s=dbegin S (nameOk s):=kThen_1 e0
  rw[hk] at hQ
  exact hQ h1 B rfl R1 T1
 ·have hk:kCreate S s=kCreate2 s (dbegin S (nameOk s)).2:=kThen_0 e0
  have D1:=D.begin (nameOk s)
  have hup:=(begin_up e0).2.2
  have hl1:(dbegin S (nameOk s)).2.chg.length<=1000000000:=by rw[(begin_same S _).2.2.2.1];exact hl
  have hf1:(dbegin S (nameOk s)).2.fl.length<=1000000000:=by rw[(begin_same S _).1];exact hfl
  rw[hk] at hQ
  generalize (dbegin S (nameOk s)).2=S1 at R1 D1 hup hl1 hf1 hQ
  refine at_r R1 D1 (λhg=>⟨none,rfl,okPtr_none _ _,⟨λ_=>?_,λh=>absurd rfl h⟩⟩) (λi x hg hx=>⟨_,rfl,okPtr_none _ _,⟨λh=>(by cases h),λ_=>?_⟩⟩)
  ·have hnn:=e_n R1.nw
   refine⟨B.db,0,rfl,B.nw,at_of R1.dsk 2,?_⟩
   rw[hnn]
   refine⟨λhge=>?_,λhlt=>?_⟩
   ·have e:kCreate2 s S1=(32,S1):=by unfold kCreate2;rw[hg,if_neg (by simp),if_pos hge]
    rw[e] at hQ
    exact hQ h1 B rfl R1 T1
   ·have e:kCreate2 s S1=kFalls S1 1 λS2=>(0,kDo (kNew S2) ⟨0,s,⟨#[]⟩,S2.fl.length⟩):=by unfold kCreate2;rw[hg,if_neg (by simp),if_neg hlt]
    rw[e] at hQ
    refine falls_r R1 D1 hup (by decide) (λh2 e R2 T2=>⟨0,false,⟨λh=>(by cases h),λ_=>⟨rfl,?_⟩⟩⟩) (λh2 m e _ _ R2 T2=>⟨m,true,⟨λ_=>⟨rfl,?_⟩,λh=>(by cases h)⟩⟩)
    ·rw[kFalls_n e] at hQ
     have D2:=D1.falls (cost:=1) (by decide)
     have hl2:(dfalls S1 1).2.chg.length<=1000000000:=by rw[(falls_same S1 1).2.2.2.1];exact hl1
     have hf2:(dfalls S1 1).2.fl.length<=1000000000:=by rw[(falls_same S1 1).1];exact hf1
     generalize (dfalls S1 1).2=S2 at R2 D2 hl2 hf2 hQ
     have hdl:=D2.len
     have hpl:(pV B.X).length=S2.fl.length:=by unfold pV;rw[length_map,R2.xlen]
     have hfn:B.fs.n=S2.fl.length:=by have:=R2.fs.len;rw[hpl] at this;omega
     refine⟨B.db,0,rfl,B.fs,at_of R2.dsk 1,λb hb=>?_⟩
     have K0:=Keep.new hb (.cells ⟨[.slice none 0 0,.int .i64 0]⟩ 106 (0,0))
     have hx:=new_at h2 b (.cells ⟨[.slice none 0 0,.int .i64 0]⟩ 106 (0,0))
     refine append_buf (R2.keep K0).fs rfl rfl (by omega) λfs' h3 B3 hn3 U3=>?_
     have B3':Buf h3 fs' 1 104 (pV (B.X++[⟨b,⟨none,0,0⟩,⟨[],0⟩⟩])):=by unfold pV at B3 ⊢;simpa using B3
     obtain⟨hw3,R3,T3⟩:=R2.addFile (x:=⟨b,⟨none,0,0⟩,⟨[],0⟩⟩) K0 hx (Buf.nil _ _ _) hb (NewN.nil _) U3 B3'
     refine⟨B.db,0,rfl,hw3,B.db,0,rfl,B.nw,at_of R3.dsk 2,B.db,0,rfl,fs',at_of R3.dsk 1,?_⟩
     have hi:wrap .i64 ((fs'.n:Int)-1)=(S2.fl.length:Int):=by rw[wrap_i64 (by omega) (by omega)];omega
     rw[hi]
     refine with_r (d:=S2.now) R3.nw D2.now.s (by omega) λh4 nw' B4 U4=>⟨nw',rfl,?_⟩
     obtain⟨hw4,R4,T4⟩:=R3.setNow U4 B4
     have hlay:dlay S2.now ⟨0,s,⟨#[]⟩,S2.fl.length⟩=dins S2.now s S2.fl.length:=by unfold dlay;rw[if_pos rfl]
     refine⟨B.db,0,rfl,hw4,B.db,0,rfl,B.cs,at_of R4.dsk 4,B.db,0,rfl,fs',at_of R4.dsk 1,at_of R4.dsk 4,?_⟩
     rw[hi]
     refine addCg (B:={ B with fs:=fs',X:=B.X++[⟨b,⟨none,0,0⟩,⟨[],0⟩⟩],nw:=nw' }) (c:=⟨0,s,⟨#[]⟩,S2.fl.length⟩) R4 hl2 rfl rfl λh5 B5 eB R5 T5=>hQ h5 B5 eB ?_ (T1.trans (T2.trans (T3.trans (T4.trans T5))))
     unfold kDo kNew
     rw[show dlay ({ S2 with fl:=S2.fl++[⟨[],0⟩] }:Dk).now ⟨0,s,⟨#[]⟩,S2.fl.length⟩=dins S2.now s S2.fl.length from hlay]
     exact R5
    ·rw[kFalls_s e] at hQ
     exact hQ h2 B rfl R2 (T1.trans T2)
  ·have e:kCreate2 s S1=(35,S1):=by unfold kCreate2;rw[hg];rfl
   rw[e] at hQ
   exact hQ h1 B rfl R1 T1
theorem sync_r(R:RD h B S)(D:DOk S)(hQ:∀ h' B',B'.db=B.db->RD h' B' (kSync S s).2->Tr2 B.own B'.own h h'->Q (.int .i64 (kSync S s).1) h'):F59.T (some ⟨B.db,0,none⟩) s h Q:=by
 refine begin_r R D (λe0 h1 R1 T1=>?_) (λe0 h1 R1 T1=>?_)
 ·have hk:kSync S s=dbegin S (nameOk s):=kThen_1 e0
  rw[hk] at hQ
  exact hQ h1 B rfl R1 T1
 ·have hk:kSync S s=kSync2 s (dbegin S (nameOk s)).2:=kThen_0 e0
  have D1:=D.begin (nameOk s)
  have hup:=(begin_up e0).2.2
  rw[hk] at hQ
  generalize (dbegin S (nameOk s)).2=S1 at R1 D1 hup hQ
  refine at_r R1 D1 (λhg=>⟨none,rfl,okPtr_none _ _,⟨λ_=>?_,λh=>absurd rfl h⟩⟩) (λi x hg hx=>⟨_,rfl,okPtr_none _ _,⟨λh=>(by cases h),λ_=>?_⟩⟩)
  ·have e:kSync2 s S1=(34,S1):=by unfold kSync2;rw[hg]
   rw[e] at hQ
   exact hQ h1 B rfl R1 T1
  ·have e:kSync2 s S1=kFalls S1 1 λS2=>(0,sureAll S2 i):=by unfold kSync2;rw[hg]
   rw[e] at hQ
   refine falls_r R1 D1 hup (by decide) (λh2 e R2 T2=>⟨0,false,⟨λh=>(by cases h),λ_=>⟨rfl,?_⟩⟩⟩) (λh2 m e _ _ R2 T2=>⟨m,true,⟨λ_=>⟨rfl,?_⟩,λh=>(by cases h)⟩⟩)
   ·rw[kFalls_n e] at hQ
    have hb:=R2.fx.fb x (mem_of_getElem? hx)
    have Bd:=R2.fx.fd x (mem_of_getElem? hx)
    have hn:x.d.n=x.f.data.length:=by have:=Bd.len;rw[bl_len] at this;omega
    refine⟨x.b,0,rfl,x.d,at_of hb 0,x.b,0,rfl,canW_new hb (by simp),?_⟩
    obtain⟨R',T'⟩:=R2.set hx (f':=⟨x.f.data,x.f.data.length⟩) (Upd.refl _ _) Bd (one_wr hb (o:=0+1) (vs:=[.int .i64 (x.d.n:Int)])) (by rw[wr_cells hb,hn];rfl)
    rw[<- sureAll_of (R2.file hx)] at R'
    exact hQ _ { B with X:=B.X.set i ⟨x.b,x.d,⟨x.f.data,x.f.data.length⟩⟩ } rfl R' (T1.trans (T2.trans T'))
   ·rw[kFalls_s e] at hQ
    exact hQ h2 B rfl R2 (T1.trans T2)
theorem syncdir_r(R:RD h B S)(D:DOk S)(hQ:∀ h' B',B'.db=B.db->RD h' B' (kSyncDir S).2->Tr2 B.own B'.own h h'->Q (.int .i64 (kSyncDir S).1) h'):F64.T (some ⟨B.db,0,none⟩) h Q:=by
 refine⟨B.db,0,rfl,S.down,at_of R.dsk 9,λhd=>?_,λhup=>?_⟩
 ·have hk:kSyncDir S=(30,S):=by unfold kSyncDir;rw[dbegin_down hd];exact kThen_1 (by simp)
  rw[hk] at hQ
  exact hQ h B rfl R (Tr2.refl _ _)
 ·refine rigged_r R D hup (λe0 h1 R1 T1=>⟨true,rfl,λ_=>?_,λh=>(by cases h)⟩) (λe0 h1 R1 T1=>⟨false,rfl,λh=>(by cases h),λ_=>?_⟩)
  ·have hk:kSyncDir S=dbegin S true:=kThen_1 (by rw[e0];decide)
   rw[hk,e0] at hQ
   exact hQ h1 B rfl R1 T1
  ·have hk:kSyncDir S=kFalls (dbegin S true).2 1 λS2=>(0,{ S2 with sure:=S2.now,chg:=[] }):=kThen_0 e0
   have D1:=D.begin true
   have hup:=(begin_up e0).2.2
   rw[hk] at hQ
   generalize (dbegin S true).2=S1 at R1 D1 hup hQ
   refine falls_r R1 D1 hup (by decide) (λh2 e R2 T2=>⟨0,false,⟨λh=>(by cases h),λ_=>⟨rfl,?_⟩⟩⟩) (λh2 m e _ _ R2 T2=>⟨m,true,⟨λ_=>⟨rfl,?_⟩,λh=>(by cases h)⟩⟩)
   ·rw[kFalls_n e] at hQ
    have D2:=D1.falls (cost:=1) (by decide)
    generalize (dfalls S1 1).2=S2 at R2 D2 hQ
    have hdl:=D2.len
    refine⟨B.db,0,rfl,B.nw,at_of R2.dsk 2,twin_r R2.nw (by omega) λh3 sr' K3 B3 N3=>⟨sr',rfl,?_⟩⟩
    have R3:=R2.keep K3
    have g0:=R3.dsk
    have g1:=wr_cells (o:=0+3) (vs:=[.slice sr'.a sr'.n sr'.c]) g0
    have g2:=wr_cells (o:=0+4) (vs:=[.slice none 0 0]) g1
    have OO:=(one_wr (o:=0+3) (vs:=[.slice sr'.a sr'.n sr'.c]) g0).trans (one_wr (o:=0+4) (vs:=[.slice none 0 0]) g1)
    have C:=OO.ck g0
    refine⟨B.db,0,rfl,canW_new g0 (by simp),B.db,0,rfl,canW_new g1 (by simp[setL]),hQ _ { B with sr:=sr',cs:=⟨none,0,0⟩ } rfl ⟨g2,C.buf (by simp[kd]) R3.fs,C.buf (by simp[kd]) R3.nw,C.buf (by simp[kd]) B3,Buf.nil _ _ _,R3.fl,fls_ck R3.fx C (by simp[kd]) (by simp[kd]),(N3.off R2.nw).1⟩ ?_⟩
    refine T1.trans (T2.trans ⟨λk x n e=>OO.keep k x (by rintro rfl;exact n (.inl rfl)) (K3 _ _ e),λk e=>K3.dom k (OO.dom k e),λk d=>?_⟩)
    rcases d with d|d|d|d|d|d
    ·exact .inl (.inl d)
    ·exact .inl (.inr (.inl d))
    ·exact .inl (.inr (.inr (.inl d)))
    ·exact .inr (newN_in N3 d)
    ·exact(inS_nil k d).elim
    ·exact .inl (.inr (.inr (.inr (.inr (.inr d)))))
   ·rw[kFalls_s e] at hQ
    exact hQ h2 B rfl R2 (T1.trans T2)
theorem rename_r{t:ByteArray}(R:RD h B S)(D:DOk S)(hl:S.chg.length<=1000000000)(hQ:∀ h' B',B'.db=B.db->RD h' B' (kRename S s t).2->Tr2 B.own B'.own h h'->Q (.int .i64 (kRename S s t).1) h'):F61.T (some ⟨B.db,0,none⟩) s t h Q:=by
 refine⟨B.db,0,rfl,S.down,at_of R.dsk 9,λhd=>?_,λhup=>name_doc ⟨nameOk s,rfl,λhs=>name_doc ⟨nameOk t,rfl,λht=>?_,λht=>?_⟩,λhs=>?_⟩⟩
 ·have hk:kRename S s t=(30,S):=by unfold kRename;rw[dbegin_down hd];exact kThen_1 (by simp)
  rw[hk] at hQ
  exact hQ h B rfl R (Tr2.refl _ _)
 ·have hk0:kRename S s t=kThen (dbegin S true) (kRename2 s t):=by unfold kRename;rw[hs,ht];rfl
  refine rigged_r R D hup (λe0 h1 R1 T1=>⟨true,rfl,λ_=>?_,λh=>(by cases h)⟩) (λe0 h1 R1 T1=>⟨false,rfl,λh=>(by cases h),λ_=>?_⟩)
  ·have hk:kRename S s t=dbegin S true:=by rw[hk0];exact kThen_1 (by rw[e0];decide)
   rw[hk,e0] at hQ
   exact hQ h1 B rfl R1 T1
  ·have hk:kRename S s t=kRename2 s t (dbegin S true).2:=by rw[hk0];exact kThen_0 e0
   have D1:=D.begin true
   have hup:=(begin_up e0).2.2
   have hl1:(dbegin S true).2.chg.length<=1000000000:=by rw[(begin_same S _).2.2.2.1];exact hl
   rw[hk] at hQ
   generalize (dbegin S true).2=S1 at R1 D1 hup hl1 hQ
   have hdl1:=D1.len
   refine⟨B.db,0,rfl,B.nw,at_of R1.dsk 2,find_r R1.nw D1.now.s (by omega) (λd1 j d2 ed=>⟨_,true,⟨λ_=>⟨rfl,?_⟩,λh=>(by cases h)⟩⟩) (λd1 d2 ed g1 g2=>⟨_,false,⟨λh=>(by cases h),λ_=>⟨rfl,?_⟩⟩⟩)⟩
   ·have hg:dget S1.now s=some j:=mem_dget D1.now.s (by rw[ed];simp)
    have e:kRename2 s t S1=kFalls S1 1 λS2=>if s=t then(0,S2) else(0,kDo S2 ⟨1,s,t,0⟩):=by unfold kRename2;rw[hg]
    rw[e] at hQ
    refine falls_r R1 D1 hup (by decide) (λh2 e R2 T2=>⟨0,false,⟨λh=>(by cases h),λ_=>⟨rfl,?_⟩⟩⟩) (λh2 m e _ _ R2 T2=>⟨m,true,⟨λ_=>⟨rfl,?_⟩,λh=>(by cases h)⟩⟩)
    ·rw[kFalls_n e] at hQ
     refine⟨λhst=>?_,λhst=>?_⟩
     ·rw[if_pos hst] at hQ
      exact hQ h2 B rfl R2 (T1.trans T2)
     ·rw[if_neg hst] at hQ
      have D2:=D1.falls (cost:=1) (by decide)
      have hl2:(dfalls S1 1).2.chg.length<=1000000000:=by rw[(falls_same S1 1).2.2.2.1];exact hl1
      have hnow:=(falls_same S1 1).2.1
      generalize (dfalls S1 1).2=S2 at R2 D2 hl2 hnow hQ
      have hdl:=D2.len
      have Bn:=R2.nw
      rw[hnow,ed] at Bn
      obtain⟨b,ha,hr,_,hat,_⟩:=e_at Bn
      have hdel:=ddel_len (d:=S2.now) s
      refine⟨B.db,0,rfl,B.nw,at_of R2.dsk 2,b,0,ha,hr,(j:Int),hat,B.db,0,rfl,B.nw,at_of R2.dsk 2,without_r R2.nw D2.now.s (by omega) λh3 nw' B3 U3=>⟨nw',rfl,with_r B3 (ddel_srt D2.now.s s) (by omega) λh4 nw2 B4 U4=>⟨nw2,rfl,?_⟩⟩⟩
      obtain⟨hw,R3,T3⟩:=R2.setNow (U3.trans U4) B4
      have hlay:dlay S2.now ⟨1,s,t,0⟩=dins (ddel S2.now s) t j:=by unfold dlay;rw[if_neg (by simp),if_pos rfl,hnow,hg]
      refine⟨B.db,0,rfl,hw,B.db,0,rfl,B.cs,at_of R3.dsk 4,?_⟩
      refine addCg (B:={ B with nw:=nw2 }) (c:=⟨1,s,t,0⟩) R3 hl2 rfl rfl λh5 B5 eB R5 T5=>hQ h5 B5 eB ?_ (T1.trans (T2.trans (T3.trans T5)))
      unfold kDo
      rw[hlay];exact R5
    ·rw[kFalls_s e] at hQ
     exact hQ h2 B rfl R2 (T1.trans T2)
   ·have hg:dget S1.now s=none:=by rw[ed];exact miss_none g1 g2
    have e:kRename2 s t S1=(34,S1):=by unfold kRename2;rw[hg]
    rw[e] at hQ
    exact hQ h1 B rfl R1 T1
 ·have hk:kRename S s t=(33,S):=by unfold kRename;rw[hs,ht,Bool.and_false,dbegin_name hup];exact kThen_1 (by simp)
  rw[hk] at hQ
  exact hQ h B rfl R (Tr2.refl _ _)
 ·have hk:kRename S s t=(33,S):=by unfold kRename;rw[hs,Bool.false_and,dbegin_name hup];exact kThen_1 (by simp)
  rw[hk] at hQ
  exact hQ h B rfl R (Tr2.refl _ _)
end
end Go.Eng.YtekflkpnpibneaaGreatDoor
end
section
namespace Go.Eng.YtekflkpnpibneaaGreatDoor
section
variable{h h' h1 h2:Hp}{B:RB}{S S':Dk}{Q:Value->Hp->Prop}{s:ByteArray}
theorem copy_row{l:Sl}{v:List UInt8}{n:Nat}{K:Sl->Hp->Prop}(hr:h.row l.a (n*1) (bl v))(hs:v.length<=4294967296)(hK:∀ h' r,Keep h h'->Buf h' r 1 5 (bl v)->NewN h r->r.n=n->K r h') :
  ∃ vs,h.row l.a (n*1) vs/\(∀ v∈vs,Value.oneCell' v=true)/\appendD ⟨none,0,0⟩ 5 1 1 [.int .u8 0] n vs h K:=by
 have hn:n=v.length:=by have:=hr.1;rw[bl_len] at this;omega
 refine⟨bl v,hr,bl_one _,append_buf (Buf.nil _ _ _) rfl (by rw[bl_len];omega) (by dsimp only;omega) λr h' B' hn' U'=>?_⟩
 obtain⟨K',N'⟩:=NewN.upd (Keep.refl h) (NewN.nil h) U'
 exact hK h' r K' (by simpa using B') N' (by dsimp only at hn';omega)
theorem RD.flen(R:RD h B S){i:Nat}{x:FX}(hx:B.X[i]?=some x):x.d.n=dlen S i:=by
 have Bd:=R.fx.fd x (mem_of_getElem? hx)
 have:=Bd.len
 rw[bl_len] at this
 rw[dlen_of (R.file hx)];omega
theorem dtot_app(S:Dk)(d1:Dir)(x:ByteArray×Nat)(d2:Dir):(((d1++x::d2).map λx=>dlen S x.2).sum)=(d1.map λx=>dlen S x.2).sum+(dlen S x.2+(d2.map λx=>dlen S x.2).sum):=by
 rw[map_append,List.sum_append,map_cons,List.sum_cons]
theorem size_r(R:RD h B S)(D:DOk S)(hQ:Q (.int .i64 (dtot S:Int)) h):F132.T (some ⟨B.db,0,none⟩) h Q:=by
 have ht:=dtot_le D
 have hl:=D.len
 have hn:=e_n R.nw
 refine⟨λn n1 h1=>∃ d1 d2,S.now=d1++d2/\n=((d1.map λx=>dlen S x.2).sum:Nat)/\n1=(d1.length:Int)/\h1=h,λ_ n1 _=>S.now.length-n1.toNat,⟨[],S.now,rfl,rfl,rfl,rfl⟩,?_⟩
 rintro n n1 h1 ⟨d1,d2,e,rfl,rfl,rfl⟩
 refine⟨B.db,0,rfl,B.nw,at_of R.dsk 2,λhlt=>?_,λhge=>?_⟩
 ·rcases d2 with _|⟨x,d2⟩
  ·rw[hn,e] at hlt;exact absurd hlt (by simp)
  have Bn:=R.nw
  rw[e] at Bn
  obtain⟨b,ha,hr,_,hat,_⟩:=e_at Bn
  have hj:=D.now.i x (by rw[e];simp)
  obtain⟨y,hy,b5,ha5,hr5,hat5⟩:=xget R hj
  have hb:=R.fx.fb y (mem_of_getElem? hy)
  have hle:=dtot_app S d1 x d2
  rw[<- e] at hle
  have hle:dtot S=_:=hle
  refine⟨B.db,0,rfl,B.fs,at_of R.dsk 1,B.db,0,rfl,B.nw,at_of R.dsk 2,b,0,ha,hr,(x.2:Int),hat,b5,0,ha5,hr5,_,hat5,y.b,0,rfl,y.d,at_of hb 0,?_⟩
  have hlen:=congrArg List.length e
  rw[length_append,length_cons] at hlen
  have hyn:=R.flen hy
  rw[inc_i (n:=100000000) (by omega) (by omega),wrap_i64 (by omega) (by omega)]
  refine⟨⟨d1++[x],d2,by rw[e];simp,?_,by simp,rfl⟩,by dsimp only;omega⟩
  have:=dtot_app S d1 x []
  rw[List.map_nil,List.sum_nil] at this
  rw[this,hyn];omega
 ·have hd2:d2=[]:=by
   rw[hn,e] at hge
   refine eq_nil_of_length_eq_zero ?_
   rw[length_append] at hge;omega
  subst hd2
  rw[append_nil] at e
  unfold dtot at hQ
  rw[e] at hQ
  exact hQ
theorem full_r{i:Nat}{x:FX}{n:Int}(R:RD h B S)(D:DOk S)(hx:B.X[i]?=some x)(h0:0<=n)(h1:n<=4294967296)(hQ:Q (.bool (dfull S i n)) h):F105.T (some ⟨B.db,0,none⟩) (some ⟨x.b,0,none⟩) n h Q:=by
 have hb:=R.fx.fb x (mem_of_getElem? hx)
 have hxn:=R.flen hx
 have hdl:=dlen_le D i
 have ht:=dtot_le D
 have hroom:=D.room
 unfold dfull at hQ
 rw[<- hxn] at hQ hdl
 unfold F105.T F105.G
 refine⟨B.db,0,rfl,S.room,at_of R.dsk 0,λhr=>⟨x.b,0,rfl,x.d,at_of hb 0,?_⟩,λhr=>⟨B.db,0,rfl,S.room,at_of R.dsk 0,size_r R D ⟨_,rfl,at_of R.dsk 0,?_⟩⟩⟩
 ·rw[wrap_i64 (by omega) (by omega)]
  rw[decide_eq_false (show ¬ S.room≠0 by omega),Bool.false_and,Bool.or_false] at hQ
  exact⟨λhg=>by rw[decide_eq_true (by omega)] at hQ;exact hQ,λhg=>by rw[decide_eq_false (by omega)] at hQ;exact hQ⟩
 ·rw[wrap_i64 (by omega) (by omega)]
  rw[decide_eq_true (show S.room≠0 from hr),Bool.true_and] at hQ
  refine⟨λhg=>?_,λhg=>⟨x.b,0,rfl,x.d,at_of hb 0,?_⟩⟩
  ·rw[decide_eq_true (show S.room<n+(dtot S:Int) by omega),Bool.or_true] at hQ;exact hQ
  ·rw[wrap_i64 (by omega) (by omega)]
   rw[decide_eq_false (show ¬ S.room<n+(dtot S:Int) by omega),Bool.or_false] at hQ
   exact⟨λhg=>by rw[decide_eq_true (by omega)] at hQ;exact hQ,λhg=>by rw[decide_eq_false (by omega)] at hQ;exact hQ⟩
theorem lay_bytesR{i m:Nat}{x:FX}{v:List UInt8}(R:RD h B S)(hx:B.X[i]?=some x)(hm:v.length=m)(hs:x.f.data.length+m<=4294967296)
  {e:Int} (hQ:∀ h' B',B'.db=B.db->RD h' B' (addTo S i v)->Tr2 B.own B'.own h h'->Q (.int .i64 e) h') :
  ∃ l1:Sl,h.at x.b 0=some (.slice l1.a l1.n l1.c)/\appendD l1 5 1 1 [.int .u8 0] m (bl v) h λl2 h3=>∃ b5 o3,(some ⟨x.b,0,none⟩:Option Addr)=some ⟨b5,o3,none⟩/\h3.canW b5 o3 1/\Q (.int .i64 e) (h3.wr b5 o3 [.slice l2.a l2.n l2.c]):=by
 have hb:=R.fx.fb x (mem_of_getElem? hx)
 have Bd:=R.fx.fd x (mem_of_getElem? hx)
 have hn:x.d.n=x.f.data.length:=by have:=Bd.len;rw[bl_len] at this;omega
 refine⟨x.d,at_of hb 0,append_buf Bd rfl (by rw[bl_len];omega) (by omega) λd' h3 B3 hn' U=>?_⟩
 have hb3:=(Ck.of_upd Bd U).keep _ _ hb (by simp[kd])
 rw[<- bl_app] at B3
 obtain⟨R',T'⟩:=R.set hx (f':=⟨x.f.data++v,x.f.sure⟩) U B3 (one_wr hb3 (o:=0) (vs:=[.slice d'.a d'.n d'.c])) (wr_cells hb3)
 rw[<- addTo_of (R.file hx)] at R'
 exact⟨x.b,0,rfl,canW_new hb3 (by simp),hQ _ { B with X:=B.X.set i ⟨x.b,d',⟨x.f.data++v,x.f.sure⟩⟩ } rfl R' T'⟩
theorem row_mono{A:Option Addr}{n:Nat}{vs:List Value}(hr:h.row A n vs)(m:∀ k x,0<n->(∃ o,A=some ⟨k,o,none⟩)->h k=some x->h' k=some x):h'.row A n vs:=by
 refine⟨hr.1,hr.2.imp id ?_⟩
 rintro⟨b,o,hA,hat⟩
 refine⟨b,o,hA,λj hj=>?_⟩
 have h1:=hat j hj
 have hl:j<vs.length:=by rw[hr.1];exact hj
 rw[getElem?_eq_getElem hl] at h1 ⊢
 unfold Hp.at at h1 ⊢
 cases hb:h b with
 |none=>rw[hb] at h1;cases h1
 |some o'=>rw[hb] at h1;rw[m b o' (by omega) ⟨o,hA⟩ hb];exact h1
theorem take_row'{l:Sl}{v:List UInt8}{n:Int}(hrow:h.row l.a (l.n*1) (bl v))(hcap:l.n<=l.c)(h0:0<=n)(h1:n<=(v.length:Int)):Sl.okCut l 0 n (l.c:Int)/\∃ vs,h.row ((Sl.cut l 1 0 n (l.c:Int)).a) (((Sl.cut l 1 0 n (l.c:Int)).n)*1) vs/\(∀ v∈vs,Value.oneCell' v=true)/\vs=bl (v.take n.toNat)/\(Sl.cut l 1 0 n (l.c:Int)).n=n.toNat:=by
 have hl:=hrow.1
 rw[bl_len] at hl
 obtain⟨k,rfl⟩:=Int.eq_ofNat_of_zero_le h0
 refine⟨⟨by omega,by omega,by omega,by omega⟩,bl (v.take k),?_,bl_one _,by simp,by simp[Sl.cut]⟩
 have hn:(Sl.cut l 1 0 (k:Int) (l.c:Int)).n=k:=by simp[Sl.cut]
 rw[hn]
 refine⟨by rw[bl_len,length_take];omega,?_⟩
 by_cases hk:k=0
 ·exact .inl (by omega)
 ·obtain⟨b,o,ha,hat⟩:=row_get hrow (i:=0) (by omega)
  refine .inr ⟨b,o,?_,λj hj=>?_⟩
  ·have hcc:(l.c:Int).toNat≠(0:Int).toNat:=by omega
   show(if (l.c:Int).toNat=(0:Int).toNat then l.a else l.a.map (·.add ((0:Int).toNat*1)))=_
   rw[if_neg hcc,ha]
   simp[Addr.add]
  ·rw[hat j (by omega)]
   unfold bl
   rw[List.map_take,List.getElem?_take_of_lt (by omega)]
theorem append_r{l:Sl}{v:List UInt8}(R:RD h B S)(D:DOk S)(hrow:h.row l.a (l.n*1) (bl v))(hcap:l.n<=l.c)(hd:∀ k,0<l.n*1->inS l k->¬ B.own k)(hv:v.length<=1073741824)
  (hQ:∀ h' B',B'.db=B.db->RD h' B' (kAppend S s v).2->Tr2 B.own B'.own h h'->Q (.int .i64 (kAppend S s v).1) h'):F54.T (some ⟨B.db,0,none⟩) s l h Q:=by
 have hln:l.n=v.length:=by have:=hrow.1;rw[bl_len] at this;omega
 unfold F54.T F54.G
 refine⟨B.db,0,rfl,S.down,at_of R.dsk 9,λhdn=>?_,λhup=>name_doc ⟨nameOk s,rfl,λhs=>?_,λhs=>?_⟩⟩
 ·have hk:kAppend S s v=(30,S):=by unfold kAppend;rw[dbegin_down hdn,if_neg (by simp)];exact kThen_1 (by simp)
  rw[hk] at hQ
  exact hQ h B rfl R (Tr2.refl _ _)
 ·have hk0:kAppend S s v=if (dbegin S true).1=31 then kPart s v (iMin S.part (v.length:Int)) (dbegin S true).2 else kThen (dbegin S true) (kAppend2 s v):=by unfold kAppend;rw[hs]
  have hpos:=D.pos
  have hmin:0<=iMin S.part (v.length:Int):=by unfold iMin;split<;>omega
  have hmin2:=(iMin_le S.part (v.length:Int)).2
  have hnow:=(begin_same S true).2.1
  have D1:=D.begin true
  rw[hk0] at hQ
  refine at_r R D (λhg=>⟨none,rfl,B.db,0,rfl,S.part,at_of R.dsk 8,rigged_r R D hup (λe0 h1 R1 T1=>⟨true,rfl,λ_=>⟨okPtr_none _ _,⟨λ_=>?_,λh=>absurd rfl h⟩⟩,λh=>(by cases h)⟩) (λe0 h1 R1 T1=>⟨false,rfl,λh=>(by cases h),λ_=>⟨okPtr_none _ _,⟨λ_=>?_,λh=>absurd rfl h⟩⟩⟩)⟩)
   (λi x hg hx=>⟨_,rfl,B.db,0,rfl,S.part,at_of R.dsk 8,rigged_r R D hup (λe0 h1 R1 T1=>⟨true,rfl,λ_=>⟨okPtr_none _ _,⟨λh=>(by cases h),λ_=>?_⟩⟩,λh=>(by cases h)⟩) (λe0 h1 R1 T1=>⟨false,rfl,λh=>(by cases h),λ_=>⟨okPtr_none _ _,⟨λh=>(by cases h),λ_=>?_⟩⟩⟩)⟩)
  ·have e:kPart s v (iMin S.part (v.length:Int)) (dbegin S true).2=(31,(dbegin S true).2):=by unfold kPart;rw[hnow,hg]
   rw[if_pos e0,e] at hQ
   exact hQ h1 B rfl R1 T1
  ·have e:kAppend2 s v (dbegin S true).2=(34,(dbegin S true).2):=by unfold kAppend2;rw[hnow,hg]
   rw[if_neg (by rw[e0];decide),kThen_0 e0,e] at hQ
   exact hQ h1 B rfl R1 T1
  ·rw[if_pos e0] at hQ
   rw[hln]
   rw[<- hnow] at hg
   have B1:h1.row l.a (l.n*1) (bl v):=row_mono hrow λk x hn hk e=>T1.keep k x (hd k hn hk) e
   generalize (dbegin S true).2=S1 at R1 D1 hQ hg
   generalize iMin S.part (v.length:Int)=n at hQ hmin hmin2
   refine full_r R1 D1 hx hmin (by omega) ⟨_,rfl,λhf=>?_,λhf=>?_⟩
   ·have e:kPart s v n S1=(31,S1):=by unfold kPart;rw[hg];show(if _ then _ else _)=_;rw[if_pos hf]
    rw[e] at hQ
    exact hQ h1 B rfl R1 T1
   ·have e:kPart s v n S1=(31,addTo S1 i (v.take n.toNat)):=by unfold kPart;rw[hg];show(if _ then _ else _)=_;rw[if_neg (by rw[hf];simp)]
    rw[e] at hQ
    obtain⟨hc,vs,hr,ho,rfl,hn⟩:=take_row' B1 hcap hmin hmin2
    have hlt:(v.take n.toNat).length=n.toNat:=by rw[length_take];omega
    have hfl:=(D1.fl _ (mem_of_getElem? (R1.file hx))).1
    obtain⟨l1,e2,e3⟩:=lay_bytesR (Q:=Q) (e:=31) R1 hx hlt (by omega) λh3 B3 eB R3 T3=>hQ h3 B3 eB R3 (T1.trans T3)
    refine⟨x.b,0,rfl,l1,e2,hc,_,hr,ho,?_⟩
    rw[hn]
    exact e3
  ·have hup1:=(begin_up e0).2.2
   rw[if_neg (by rw[e0];decide),kThen_0 e0] at hQ
   rw[hln]
   rw[<- hnow] at hg
   have B1:h1.row l.a (l.n*1) (bl v):=row_mono hrow λk x hn hk e=>T1.keep k x (hd k hn hk) e
   generalize (dbegin S true).2=S1 at R1 D1 hQ hg hup1
   have e:kAppend2 s v S1=kAppend3 i v S1:=by unfold kAppend2;rw[hg]
   rw[e] at hQ
   refine full_r R1 D1 hx (by omega) (by omega) ⟨_,rfl,λhf=>?_,λhf=>?_⟩
   ·have e:kAppend3 i v S1=(32,S1):=by unfold kAppend3;rw[if_pos hf]
    rw[e] at hQ
    exact hQ h1 B rfl R1 T1
   ·rw[wrap_i64 (by omega) (by omega)]
    have e:kAppend3 i v S1=match (dfalls S1 (1+(v.length:Int))).1 with
     |some n=>(30,addTo (dfalls S1 (1+(v.length:Int))).2 i (v.take n.toNat))
     |none=>(0,addTo (dfalls S1 (1+(v.length:Int))).2 i v):=by unfold kAppend3;rw[if_neg (by rw[hf];simp)];rfl
    have hfl:=(D1.fl _ (mem_of_getElem? (R1.file hx))).1
    refine falls_r R1 D1 hup1 (by omega) (λh3 e' R3 T3=>⟨0,false,⟨λh=>(by cases h),λ_=>⟨rfl,?_⟩⟩⟩) (λh3 m e' hm0 hm1 R3 T3=>⟨m,true,⟨λ_=>⟨rfl,?_⟩,λh=>(by cases h)⟩⟩)
    ·rw[e,e'] at hQ
     have B3:h3.row l.a (l.n*1) (bl v):=row_mono B1 λk x hn hk e=>T3.keep k x (hd k hn hk) e
     obtain⟨l1,e2,e3⟩:=lay_bytesR (Q:=Q) (e:=0) R3 hx (m:=v.length) rfl (by omega) λh4 B4 eB R4 T4=>hQ h4 B4 eB R4 (T1.trans (T3.trans T4))
     exact⟨x.b,0,rfl,l1,e2,bl v,hln ▸ B3,bl_one _,e3⟩
    ·rw[e,e'] at hQ
     have B3:h3.row l.a (l.n*1) (bl v):=row_mono B1 λk x hn hk e=>T3.keep k x (hd k hn hk) e
     have hmle:m<=(v.length:Int):=by omega
     obtain⟨hc,vs,hr,ho,rfl,hn⟩:=take_row' B3 hcap hm0 hmle
     have hlt:(v.take m.toNat).length=m.toNat:=by rw[length_take];omega
     obtain⟨l1,e2,e3⟩:=lay_bytesR (Q:=Q) (e:=30) R3 hx hlt (by omega) λh4 B4 eB R4 T4=>hQ h4 B4 eB R4 (T1.trans (T3.trans T4))
     refine⟨x.b,0,rfl,l1,e2,hc,_,hr,ho,?_⟩
     rw[hn]
     exact e3
 ·have hk:kAppend S s v=(33,S):=by unfold kAppend;rw[hs,dbegin_name hup,if_neg (by simp)];exact kThen_1 (by simp)
  rw[hk] at hQ
  exact hQ h B rfl R (Tr2.refl _ _)
theorem read_r(R:RD h B S)(D:DOk S)(hQ:∀ h' r,Keep h h'->Buf h' r 1 5 (bl (kRead S s).2)->NewN h r->Q (.tuple ⟨[.slice r.a r.n r.c,.int .i64 (kRead S s).1]⟩) h'):F65.T (some ⟨B.db,0,none⟩) s h Q:=by
 unfold F65.T F65.G
 refine⟨B.db,0,rfl,S.down,at_of R.dsk 9,λe0=>?_,λe0=>name_doc ⟨nameOk s,rfl,λe1=>?_,λe1=>?_⟩⟩
 ·have e:kRead S s=(30,[]):=by unfold kRead;rw[if_pos e0]
  rw[e] at hQ
  exact hQ h ⟨none,0,0⟩ (Keep.refl h) (Buf.nil _ _ _) (NewN.nil _)
 ·refine at_r R D (λhg=>⟨none,rfl,okPtr_none _ _,⟨λ_=>?_,λh=>absurd rfl h⟩⟩) (λi x hg hx=>⟨_,rfl,okPtr_none _ _,⟨λh=>(by cases h),λ_=>?_⟩⟩)
  ·have e:kRead S s=(34,[]):=by unfold kRead;rw[if_neg (by rw[e0];simp),if_neg (by rw[e1];simp),hg]
   rw[e] at hQ
   exact hQ h ⟨none,0,0⟩ (Keep.refl h) (Buf.nil _ _ _) (NewN.nil _)
  ·have e:kRead S s=(0,x.f.data):=by unfold kRead;rw[if_neg (by rw[e0];simp),if_neg (by rw[e1];simp),hg];show(0,_)=_;rw[R.file hx]
   rw[e] at hQ
   have hb:=R.fx.fb x (mem_of_getElem? hx)
   have Bd:=R.fx.fd x (mem_of_getElem? hx)
   have hl:=(D.fl x.f (mem_of_getElem? (R.file hx))).1
   exact⟨x.b,0,rfl,x.d,at_of hb 0,copy_row Bd.row (by omega) λh2 r K2 B2 N2 _=>hQ h2 r K2 B2 N2⟩
 ·have e:kRead S s=(33,[]):=by unfold kRead;rw[if_neg (by rw[e0];simp),if_pos e1]
  rw[e] at hQ
  exact hQ h ⟨none,0,0⟩ (Keep.refl h) (Buf.nil _ _ _) (NewN.nil _)
theorem fa_snoc{g:Hp}{r l3 r':Sl}{L:List (Sl×FileR)}{f:FileR}(F:FA g h r L)(K:Keep g h)(Bd:Buf h l3 1 5 (bl f.data))(N:NewN g l3)(o:∀ x∈L,Off x.1 l3)(U:Upd h h' r r')(Bf:Buf h' r' 3 55 (fV L++fcell (l3,f))):FA g h' r' (L++[(l3,f)])/\Keep g h':=by
 have C:=Ck.of_upd F.b U
 obtain⟨K',N'⟩:=NewN.upd K F.n U
 refine⟨⟨by rw[fV_app];simpa[fV] using Bf,N',λy hy=>?_,List.pairwise_append.2 ⟨F.dj,List.pairwise_singleton _ _,λy hy z hz=>by rw[mem_singleton.1 hz];exact o y hy⟩⟩,K'⟩
 rcases mem_append.1 hy with hy|hy
 ·exact⟨C.buf (by decide) (F.d y hy).1,(F.d y hy).2⟩
 ·rw[mem_singleton.1 hy]
  exact⟨C.buf (by decide) Bd,N⟩
theorem FA.off{g:Hp}{r l3:Sl}{L:List (Sl×FileR)}(F:FA g h r L)(N:NewN h l3):∀ x∈L,Off x.1 l3:=λx hx=>(N.off (F.d x hx).1).1
theorem files_r(R:RD h B S)(D:DOk S)(hQ:∀ h' r L,Keep h h'->FA h h' r L->L.map (·.2)=dtold S S.now->Q (.slice r.a r.n r.c) h'):F66.T (some ⟨B.db,0,none⟩) h Q:=by
 have hl:=D.len
 have hn:=e_n R.nw
 refine⟨λl n h1=>∃ d1 d2 L,S.now=d1++d2/\n=(d1.length:Int)/\Keep h h1/\FA h h1 l L/\L.map (·.2)=dtold S d1,λ_ n _=>S.now.length-n.toNat,⟨[],S.now,[],rfl,rfl,Keep.refl _,⟨Buf.nil _ _ _,NewN.nil _,λx hx=>(by cases hx),List.Pairwise.nil⟩,rfl⟩,?_⟩
 rintro l n h1 ⟨d1,d2,L,e,rfl,K1,F1,e1⟩
 have R1:=R.keep K1
 refine⟨B.db,0,rfl,B.nw,at_of R1.dsk 2,λhlt=>?_,λhge=>?_⟩
 ·rcases d2 with _|⟨x,d2⟩
  ·rw[hn,e] at hlt;exact absurd hlt (by simp)
  have Bn:=R1.nw
  rw[e] at Bn
  obtain⟨b,ha,hr,hs,hat,_⟩:=e_at Bn
  have hj:=D.now.i x (by rw[e];simp)
  obtain⟨y,hy,b5,ha5,hr5,hat5⟩:=xget R1 hj
  have hb:=R1.fx.fb y (mem_of_getElem? hy)
  have Bd:=R1.fx.fd y (mem_of_getElem? hy)
  have hly:=(D.fl y.f (mem_of_getElem? (R1.file hy))).1
  have hlen:=congrArg List.length e
  rw[length_append,length_cons] at hlen
  have hL:L.length=d1.length:=by have:=congrArg List.length e1;unfold dtold at this;simpa using this
  have hfl:=F1.len
  refine⟨B.db,0,rfl,B.fs,at_of R1.dsk 1,B.db,0,rfl,B.nw,at_of R1.dsk 2,b,0,ha,hr,(x.2:Int),hat,b5,0,ha5,hr5,_,hat5,B.db,0,rfl,B.nw,at_of R1.dsk 2,b,0,ha,hr,x.1,hs,y.b,0,rfl,y.d,at_of hb 0,y.b,0,rfl,_,at_of hb 1,copy_row Bd.row (by omega) λh2 l6 K2 B2 N2 hl6=>?_⟩
  refine⟨at_of (K2 _ _ R1.dsk) 2,K2.at hs,at_of (K2 _ _ hb) 1,append_buf (F1.b.keep K2) rfl rfl (by omega) λl7 h3 B3 hn3 U3=>?_⟩
  have ht:fileR S x=⟨x.1,y.f.data,y.f.sure⟩:=by unfold fileR;rw[R1.file hy]
  obtain⟨F3,K3⟩:=fa_snoc (f:=fileR S x) (l3:=l6) (F1.keep K2) (K1.trans K2) (by rw[ht];exact B2) (N2.mono K1.dom) (F1.off N2) U3 (by rw[ht];exact B3)
  rw[inc_i (n:=100000000) (by omega) (by omega)]
  exact⟨⟨d1++[x],d2,L++[(l6,fileR S x)],by rw[e];simp,by simp,K3,F3,by unfold dtold at e1 ⊢;simp[e1]⟩,by dsimp only;omega⟩
 ·have hd2:d2=[]:=by
   rw[hn,e] at hge
   refine eq_nil_of_length_eq_zero ?_
   rw[length_append] at hge;omega
  subst hd2
  rw[append_nil] at e
  rw[<- e] at e1
  exact hQ h1 l L K1 F1 e1
end
end Go.Eng.YtekflkpnpibneaaGreatDoor
end
section
namespace Go.Eng.YtekflkpnpibneaaGreatDoor
theorem cV_at:∀ {l:List Cg} {k r:Nat} {c:Cg},l[k]?=some c->r<4->(cV l)[k*4+r]?=(ccell c)[r]?
 |[],k,r,c,h,_=>by simp at h
 |x::l,0,r,c,h,hr=>by
  simp only[List.getElem?_cons_zero,Option.some.injEq] at h
  subst h
  show(ccell x++cV l)[0*4+r]?=_
  rw[getElem?_append_left (by show _<4;omega)]
  congr 1;omega
 |x::l,k+1,r,c,h,hr=>by
  simp only[List.getElem?_cons_succ] at h
  show(ccell x++cV l)[(k+1)*4+r]?=_
  rw[getElem?_append_right (by show 4<=_;omega),<- cV_at h hr]
  congr 1
  show(k+1)*4+r-4=_
  omega
theorem putAll_mem:∀ {l:List FileR} {i:Nat} {d:Dir} {x:ByteArray×Nat},x∈putAll i d l->x∈d\/∃ f∈l,x.1=f.nm
 |[],i,d,x,h=>.inl h
 |f::l,i,d,x,h=>by
  rcases putAll_mem (l:=l) h with h|⟨g,hg,e⟩
  ·rcases dins_mem h with rfl|h
   ·exact .inr ⟨f,mem_cons_self,rfl⟩
   ·exact .inl h
  ·exact .inr ⟨g,mem_cons_of_mem _ hg,e⟩
section
variable{h h' h1 h2:Hp}{B:RB}{S S':Dk}{Q:Value->Hp->Prop}{s:ByteArray}
theorem rest_r{dir:Int}(R:RD h B S)(D:DOk S)(hcl:S.chg.length<=1000000000)(hQ:∀ h' l,Keep h h'->Buf h' l 2 136 (eV (drest S dir))->NewN h l->Q (.slice l.a l.n l.c) h'):F107.T (some ⟨B.db,0,none⟩) dir h Q:=by
 have hsl:S.sure.length<=8388608:=by have:=D.pre 0;simpa using this
 have hcn:B.cs.n=S.chg.length:=by have:=R.cs.len;rw[cV_len] at this;omega
 unfold F107.T F107.G
 refine⟨B.db,0,rfl,B.sr,at_of R.dsk 3,twin_r R.sr (by omega) λh1 l1 K1 B1 N1=>⟨l1,rfl,?_⟩⟩
 refine⟨λl2 n1 h2=>∃ k:Nat,n1=(k:Int)/\k<=S.chg.length/\k<=dir.toNat/\Keep h h2/\Buf h2 l2 2 136 (eV ((S.chg.take k).foldl dlay S.sure))/\NewN h l2,λ_ n1 _=>S.chg.length-n1.toNat,⟨0,rfl,Nat.zero_le _,Nat.zero_le _,K1,B1,N1⟩,?_⟩
 rintro l2 n1 h2 ⟨k,rfl,hk1,hk2,K2,B2,N2⟩
 have R2:=R.keep K2
 have Dk:DirOk S.fl.length ((S.chg.take k).foldl dlay S.sure):=DirOk.fold _ D.sure λc hc=>D.chg c (List.mem_of_mem_take hc)
 have hpre:=D.pre k
 refine⟨B.db,0,rfl,B.cs,at_of R2.dsk 4,λhlt=>⟨λhdir=>?_,λhdir=>?_⟩,λhge=>?_⟩
 ·have hkl:k<S.chg.length:=by omega
  have hget:S.chg[k]?=some S.chg[k]:=getElem?_eq_getElem hkl
  generalize S.chg[k]=c at hget
  have hlen:(cV S.chg).length=S.chg.length*4:=cV_len _
  obtain⟨b3,ha3,hat⟩:=buf_get R2.cs (by omega)
  have hat':∀ r,r<4->h2.at b3 ((0+(k:Int).toNat*4)+r)=(ccell c)[r]?:=λr hr=>by
   rw[Int.toNat_natCast,Nat.zero_add,hat _ (by omega),cV_at hget hr]
  have hnth:=Lays.nth D.lays hget
  have hfold:∀ (d:Dir),d=dlay ((S.chg.take k).foldl dlay S.sure) c->d=(S.chg.take (k+1)).foldl dlay S.sure:=λd e=>by
   rw[List.take_add_one,hget,List.foldl_append];exact e
  generalize (S.chg.take k).foldl dlay S.sure=d at B2 Dk hpre hnth hfold
  have hstep:∀ h3 l3 d',Upd h2 h3 l2 l3->Buf h3 l3 2 136 (eV d')->d'=dlay d c->(∃ k':Nat,wrap .i64 ((k:Int)+1)=(k':Int)/\k'<=S.chg.length/\k'<=dir.toNat/\Keep h h3/\Buf h3 l3 2 136 (eV ((S.chg.take k').foldl dlay S.sure))/\NewN h l3)/\S.chg.length-(wrap .i64 ((k:Int)+1)).toNat<S.chg.length-((k:Int)).toNat:=λh3 l3 d' U3 B3 e3=>by
   rw[inc_i (n:=2000000000) (by omega) (by omega)]
   obtain⟨K3,N3⟩:=NewN.upd K2 N2 U3
   exact⟨⟨k+1,rfl,by omega,by omega,K3,by rw[<- hfold d' e3];exact B3,N3⟩,by omega⟩
  refine⟨B.db,0,rfl,B.cs,at_of R2.dsk 4,b3,0,ha3,⟨by omega,hlt⟩,c.kind+1,hat' 0 (by omega),c.nm,hat' 1 (by omega),c.to,hat' 2 (by omega),(if c.kind=0 then(c.id:Int) else 0),hat' 3 (by omega),λk1=>?_,λk1=>⟨λk2=>?_,λk2=>⟨λk3=>?_,λk3=>?_⟩⟩⟩
  ·have k0:c.kind=0:=by omega
   rw[if_pos k0]
   refine with_r B2 Dk.s (by omega) λh3 l3 B3 U3=>⟨l3,rfl,hstep h3 l3 _ U3 B3 ?_⟩
   unfold dlay;rw[if_pos k0]
  ·have k0:c.kind=1:=by omega
   refine find_r B2 Dk.s (by omega) (λd1 j d2 ed=>⟨_,true,⟨λ_=>⟨rfl,?_⟩,λh=>(by cases h)⟩⟩) (λd1 d2 ed g1 g2=>⟨_,false,⟨λh=>(by cases h),λ_=>⟨rfl,?_⟩⟩⟩)
   ·have hg:dget d c.nm=some j:=mem_dget Dk.s (by rw[ed];simp)
    have Bn:=B2
    rw[ed] at Bn
    obtain⟨b,ha,hr,_,hat2,_⟩:=e_at Bn
    have hdel:=ddel_len (d:=d) c.nm
    refine⟨b,0,ha,hr,(j:Int),hat2,without_r B2 Dk.s (by omega) λh3 l3 B3 U3=>⟨l3,rfl,with_r B3 (ddel_srt Dk.s _) (by omega) λh4 l4 B4 U4=>⟨l4,rfl,hstep h4 l4 _ (U3.trans U4) B4 ?_⟩⟩⟩
    unfold dlay;rw[if_neg (by omega),if_pos k0,hg]
   ·have hg:dget d c.nm=none:=by rw[ed];exact miss_none g1 g2
    exact hstep h2 l2 _ (Upd.refl _ _) B2 (by unfold dlay;rw[if_neg (by omega),if_pos k0,hg])
  ·have k0:c.kind=2:=by omega
   refine without_r B2 Dk.s (by omega) λh3 l3 B3 U3=>⟨l3,rfl,hstep h3 l3 _ U3 B3 ?_⟩
   unfold dlay;rw[if_neg (by omega),if_neg (by omega)]
  ·rcases hnth with e|e|e
   ·omega
   ·have:=e.1;omega
   ·omega
 ·refine hQ h2 l2 K2 ?_ N2
  have:dir.toNat=k:=by omega
  unfold drest
  rw[this];exact B2
 ·refine hQ h2 l2 K2 ?_ N2
  have:S.chg.take dir.toNat=S.chg.take k:=by rw[List.take_of_length_le (by omega),List.take_of_length_le (by omega)]
  unfold drest
  rw[this];exact B2
theorem image_r{dir:Int}{l:Sl}{keep:List Int}(R:RD h B S)(D:DOk S)(hcl:S.chg.length<=1000000000)(hr:h.row l.a (l.n*1) (keep.map λk=>Value.int .i64 k))
  (hQ:∀ h' r L,Keep h h'->FA h h' r L->L.map (·.2)=kImage S dir keep->Q (.slice r.a r.n r.c) h'):F55.T (some ⟨B.db,0,none⟩) dir l h Q:=by
 have hln:l.n=keep.length:=by have:=hr.1;rw[length_map] at this;omega
 have hDs:=D.rest dir
 have hDl:(drest S dir).length<=8388608:=D.pre _
 unfold F55.T F55.G
 refine rest_r R D hcl λh1 l1 K1 B1 N1=>⟨l1,rfl,?_⟩
 unfold kImage at hQ
 generalize drest S dir=d at B1 hDs hDl hQ
 have hn:=e_n B1
 refine⟨λl2 n1 h2=>∃ d1 d2 L,d=d1++d2/\n1=(d1.length:Int)/\Keep h1 h2/\FA h1 h2 l2 L/\L.map (·.2)=leftAll keep 0 (dtold S d1),λ_ n1 _=>d.length-n1.toNat,⟨[],d,[],rfl,rfl,Keep.refl _,⟨Buf.nil _ _ _,NewN.nil _,λx hx=>(by cases hx),List.Pairwise.nil⟩,rfl⟩,?_⟩
 rintro l2 n1 h2 ⟨d1,d2,L,rfl,rfl,K2,F2,e2⟩
 have R2:=R.keep (K1.trans K2)
 have hL:L.length=d1.length:=by have:=congrArg List.length e2;rw[leftAll_len] at this;unfold dtold at this;simpa using this
 rw[length_append] at hn hDl
 refine⟨λhlt=>?_,λhge=>?_⟩
 ·rcases d2 with _|⟨x,d2⟩
  ·exact absurd hlt (by simp at hn;omega)
  rw[length_cons] at hn hDl
  obtain⟨b,ha,hrg,hs,hat,_⟩:=e_at (B1.keep K2)
  have hj:=hDs.i x (by simp)
  obtain⟨y,hy,b5,ha5,hr5,hat5⟩:=xget R2 hj
  have hb:=R2.fx.fb y (mem_of_getElem? hy)
  have Bd:=R2.fx.fd y (mem_of_getElem? hy)
  have hly:=D.fl y.f (mem_of_getElem? (R2.file hy))
  have hyn:y.d.n=y.f.data.length:=by have:=Bd.len;rw[bl_len] at this;omega
  have ht:fileR S x=⟨x.1,y.f.data,y.f.sure⟩:=by unfold fileR;rw[R2.file hy]
  have hle:=leftOf_le (keep:=keep) (i:=d1.length) (f:=fileR S x) (by rw[ht];exact hly.2)
  have hge0:(fileR S x).sure<=(leftOf keep d1.length (fileR S x)).sure:=Nat.le_add_right _ _
  rw[ht] at hle hge0
  dsimp only at hle hge0
  refine⟨B.db,0,rfl,B.fs,at_of R2.dsk 1,b,0,ha,hrg,(x.2:Int),hat,b5,0,ha5,hr5,_,hat5,λn3 h3=>h3=h2/\(y.f.sure:Int)+n3=((leftOf keep d1.length ⟨x.1,y.f.data,y.f.sure⟩).sure:Int),?_,?_⟩
  ·rintro n3 h3 ⟨rfl,hn3⟩
   refine⟨y.b,0,rfl,y.d,at_of hb 0,y.b,0,rfl,_,at_of hb 1,?_⟩
   rw[hn3,wrap_i64 (by omega) (by omega)]
   generalize hN:(leftOf keep d1.length ⟨x.1,y.f.data,y.f.sure⟩).sure=N at hle hge0
   obtain⟨hc,vs,hrow,ho,rfl,hcn⟩:=take_row Bd (n:=(N:Int)) (by omega) (by omega)
   rw[Int.toNat_natCast] at hrow hcn
   refine⟨hc,copy_row hrow (by rw[length_take];omega) λh4 l5 K4 B4 N4 hl5=>?_⟩
   rw[hcn] at hl5
   refine⟨b,0,ha,hrg,x.1,K4.at hs,append_buf (F2.b.keep K4) rfl rfl (by have:=F2.len;omega) λl6 h5 B5 hn5 U5=>?_⟩
   have hlf:leftOf keep d1.length (fileR S x)=⟨x.1,y.f.data.take N,N⟩:=by rw[ht,<- hN];rfl
   have e5:fcell (l5,⟨x.1,y.f.data.take N,N⟩)=[.string x.1,.slice l5.a l5.n l5.c,.int .i64 (l5.n:Int)]:=by unfold fcell;rw[hl5]
   obtain⟨F5,K5⟩:=fa_snoc (f:=leftOf keep d1.length (fileR S x)) (l3:=l5) (F2.keep K4) (K2.trans K4) (by rw[hlf];exact B4) (N4.mono K2.dom) (F2.off N4) U5 (by rw[hlf,e5];exact B5)
   rw[inc_i (n:=100000000) (by omega) (by omega)]
   refine⟨⟨d1++[x],d2,L++[(l5,leftOf keep d1.length (fileR S x))],by simp,by simp,K5,F5,?_⟩,by simp only[length_append,length_cons];omega⟩
   unfold dtold at e2 ⊢
   rw[map_append,map_append,map_cons,List.map_nil,map_cons,List.map_nil,leftAll_snoc,e2,Nat.zero_add,length_map]
  ·refine⟨λhpos=>?_,λhnp=>⟨rfl,?_⟩⟩
   ·have hml:d1.length % keep.length<keep.length:=Nat.mod_lt _ (by omega)
    have htm:Int.tmod (d1.length:Int) (l.n:Int)=((d1.length % keep.length:Nat):Int):=by rw[hln];rfl
    rw[htm]
    have hgk:keep[d1.length % keep.length]?=some keep[d1.length % keep.length]:=getElem?_eq_getElem hml
    obtain⟨b6,o6,ha6,hat6⟩:=row_get ((K1.trans K2).row hr) (i:=d1.length % keep.length) (by omega)
    refine⟨by omega,b6,o6,ha6,⟨by omega,by omega⟩,keep[d1.length % keep.length],?_,y.b,0,rfl,y.d,at_of hb 0,y.b,0,rfl,_,at_of hb 1,rfl,?_⟩
    ·rw[Int.toNat_natCast,hat6 _ (by omega),getElem?_map,hgk];rfl
    ·rw[wrap_i64 (by omega) (by omega),hyn]
     have hi0:0<=iMin (iMax keep[d1.length % keep.length] 0) ((y.f.data.length:Int)-y.f.sure):=by
      have:=iMax_0 keep[d1.length % keep.length]
      unfold iMin;split<;>omega
     have hL:(leftOf keep d1.length ⟨x.1,y.f.data,y.f.sure⟩).sure=y.f.sure+(iMin (iMax keep[d1.length % keep.length] 0) ((y.f.data.length:Int)-y.f.sure)).toNat:=by
      unfold leftOf
      dsimp only
      rw[hgk]
     rw[hL]
     generalize iMin (iMax keep[d1.length % keep.length] 0) ((y.f.data.length:Int)-y.f.sure)=z at hi0 ⊢
     omega
   ·unfold leftOf
    dsimp only
    rw[List.getElem?_eq_none (by omega)]
    dsimp only
    omega
 ·have hd2:d2=[]:=eq_nil_of_length_eq_zero (by omega)
  subst hd2
  rw[append_nil] at hQ
  exact hQ h2 l2 L (K1.trans K2) (F2.mono K1.dom) e2
end
end Go.Eng.YtekflkpnpibneaaGreatDoor
end
section
namespace Go.Eng.YtekflkpnpibneaaGreatDoor
theorem image_srt{S:Dk}(D:DOk S)(dir:Int)(keep:List Int):(kImage S dir keep).Pairwise λf g=>Bl f.nm g.nm:=by
 have h1:((kImage S dir keep).map (·.nm)).Pairwise Bl:=by
  rw[image_nm]
  exact List.pairwise_map.2 (D.rest dir).s
 exact List.pairwise_map.1 h1
section
variable{h h' h1 h2:Hp}{B:RB}{S S':Dk}{Q:Value->Hp->Prop}{s:ByteArray}
theorem fall_r{dir:Int}{l:Sl}{keep:List Int}(R:RD h B S)(D:DOk S)(hcl:S.chg.length<=1000000000)(hr:h.row l.a (l.n*1) (keep.map λk=>Value.int .i64 k))
  (hQ:∀ h' B',B'.db=B.db->RD h' B' (kFall S dir keep)->Tr2 B.own B'.own h h'->Q (.tuple ⟨[]⟩) h'):F57.T (some ⟨B.db,0,none⟩) dir l h Q:=by
 have him:=image_ok D dir keep
 have hsrt:=image_srt D dir keep
 unfold F57.T F57.G
 refine image_r R D hcl hr λh1 r L K1 F1 e1=>⟨r,rfl,?_⟩
 unfold kFall at hQ
 generalize kImage S dir keep=I at e1 hQ him hsrt
 have hLR:L.length=I.length:=by have:=congrArg List.length e1;simpa using this
 have hrn:r.n=L.length:=F1.len
 have R1:=R.keep K1
 refine⟨B.db,0,rfl,S.room,at_of R1.dsk 0,?_⟩
 refine⟨λn2 n3 l2 l3 l4 l5 n4 n5 n6 n7 bb h2=>∃ L1 L2 X,L=L1++L2/\n2=(L1.length:Int)/\(n3=S.room/\l5=⟨none,0,0⟩/\n4=0/\n5=0/\n6=0/\n7=0/\bb=false)/\Keep h h2/\Buf h2 l2 1 104 (pV X)/\NewN h l2/\Buf h2 l3 2 136 (eV (putAll 0 [] (L1.map (·.2))))/\NewN h l3/\X.map (·.d)=L1.map (·.1)/\X.map (·.f)=L1.map (λx=>⟨x.2.data,x.2.sure⟩)/\Fls 106 h2 X/\(∀ k,ownX X k->h k=none)/\Buf h2 r 3 55 (fV L)/\(∀ x∈L,Buf h2 x.1 1 5 (bl x.2.data)),
  λn2 _ _ _ _ _ _ _ _ _ _ _=>L.length-n2.toNat,⟨[],L,[],rfl,rfl,⟨rfl,rfl,rfl,rfl,rfl,rfl,rfl⟩,K1,Buf.nil _ _ _,NewN.nil _,Buf.nil _ _ _,NewN.nil _,rfl,rfl,⟨λx hx=>(by cases hx),λx hx=>(by cases hx),λi j x y hx=>(by simp at hx)⟩,λk hk=>(by obtain⟨x,hx,_⟩:=hk;cases hx),F1.b,λx hx=>(F1.d x hx).1⟩,?_⟩
 intro n2 n3 l2 l3 l4 l5 n4 n5 n6 n7
 refine⟨λh2 hI=>(by obtain⟨_,_,_,_,_,⟨_,_,_,_,_,_,hb⟩,_⟩:=hI;cases hb),?_⟩
 rintro h2 ⟨L1,L2,X,rfl,rfl,⟨rfl,rfl,rfl,rfl,rfl,rfl,_⟩,K2,B2,N2,B3,N3,hXd,hXf,FX,hXn,Br,Bd⟩
 rw[length_append] at hrn hLR
 have hXl:X.length=L1.length:=by have:=congrArg List.length hXd;simpa using this
 have hpl:=putAll_len (L1.map (·.2)) 0 []
 rw[List.length_nil,length_map] at hpl
 have hn3:=e_n B3
 have hn2:l2.n=X.length:=by have:=B2.len;unfold pV at this;rw[length_map] at this;omega
 refine⟨λhlt=>?_,λhge=>?_⟩
 ·rcases L2 with _|⟨x,L2⟩
  ·exact absurd hlt (by simp at hrn;omega)
  rw[length_cons] at hrn hLR
  have hmx:x∈L1++x::L2:=by simp
  obtain⟨b2,ha2,hrg,g0,g1,g2,_⟩:=rec_at Br
  refine⟨b2,0,ha2,hrg,x.1,g1,b2,0,ha2,hrg,(x.2.sure:Int),g2,λb4 hb4=>?_⟩
  have K4:=Keep.new hb4 (.cells ⟨[.slice x.1.a x.1.n x.1.c,.int .i64 (x.2.sure:Int)]⟩ 106 (0,0))
  have hx4:=new_at h2 b4 (.cells ⟨[.slice x.1.a x.1.n x.1.c,.int .i64 (x.2.sure:Int)]⟩ 106 (0,0))
  have F4:Fls 106 (h2.new b4 (.cells ⟨[.slice x.1.a x.1.n x.1.c,.int .i64 (x.2.sure:Int)]⟩ 106 (0,0))) (X++[⟨b4,x.1,⟨x.2.data,x.2.sure⟩⟩]):=by
   refine(FX.mono λk y _ e=>K4 _ _ e).snoc hx4 ((Bd x hmx).keep K4) (λho=>by obtain⟨c,u,e,_⟩:=FX.alive ho;rw[hb4] at e;cases e) λk hk ho=>?_
   obtain⟨y,hy,hk2⟩:=ho
   rcases hk2 with rfl|hk2
   ·obtain⟨cc,ff,al⟩:=buf_alive (Bd x hmx) hk
    rw[FX.fb y hy] at al;cases al
   ·have hyd:y.d∈L1.map (·.1):=by rw[<- hXd];exact List.mem_map_of_mem hy
    obtain⟨z,hz,ez⟩:=List.mem_map.1 hyd
    have:=(List.pairwise_append.1 F1.dj).2.2 z hz x mem_cons_self
    rw[ez] at this
    obtain⟨o1,ho1⟩:=hk2
    obtain⟨o2,ho2⟩:=hk
    exact this k o1 o2 ho1 ho2
  generalize h2.new b4 (.cells ⟨[.slice x.1.a x.1.n x.1.c,.int .i64 (x.2.sure:Int)]⟩ 106 (0,0))=h3 at K4 hx4 F4 ⊢
  have K3:=K2.trans K4
  refine append_buf (B2.keep K4) rfl rfl (by omega) λl7 h4 B4 hn4 U4=>?_
  obtain⟨K5,N5⟩:=NewN.upd K3 N2 U4
  have C4:=Ck.of_upd (B2.keep K4) U4
  have Br4:Buf h4 r 3 55 (fV (L1++x::L2)):=C4.buf (by decide) (Br.keep K4)
  obtain⟨b5,ha5,hrg5,g5,_⟩:=rec_at Br4
  have B3':Buf h4 l3 2 136 (eV (putAll 0 [] (L1.map (·.2)))):=C4.buf (by decide) (B3.keep K4)
  refine⟨b5,0,ha5,hrg5,x.2.nm,g5,append_buf B3' rfl rfl (by omega) λl8 h5 B5 hn5 U5=>?_⟩
  obtain⟨K6,N6⟩:=NewN.upd K5 N3 U5
  have C5:=Ck.of_upd B3' U5
  rw[inc_i (n:=100000000) (by omega) (by omega)]
  refine⟨⟨L1++[x],L2,X++[⟨b4,x.1,⟨x.2.data,x.2.sure⟩⟩],by simp,by simp,⟨rfl,rfl,rfl,rfl,rfl,rfl,rfl⟩,K6,C5.buf (by decide) (by unfold pV at B4 ⊢;simpa using B4),N5,?_,N6,by simp[hXd],by simp[hXf],fls_ck (fls_ck F4 C4 (by decide) (by decide)) C5 (by decide) (by decide),λk hk=>?_,C5.buf (by decide) Br4,λy hy=>C5.buf (by decide) (C4.buf (by decide) ((Bd y hy).keep K4))⟩,by simp only[length_append,length_cons];omega⟩
  ·rw[map_append,putAll_app,Nat.zero_add,length_map]
   have hlt:∀ y∈putAll 0 [] (L1.map (·.2)),Bl y.1 x.2.nm:=λy hy=>by
    rcases putAll_mem hy with hy|⟨f,hf,ef⟩
    ·cases hy
    ·rw[ef]
     rw[<- e1,map_append] at hsrt
     exact(List.pairwise_append.1 hsrt).2.2 f hf x.2 (by simp)
   have hd:=dins_miss (d2:=[]) hlt (λx hx=>by cases hx) L1.length
   rw[append_nil] at hd
   show Buf h5 l8 2 136 (eV (dins _ x.2.nm L1.length))
   rw[hd,eV_app]
   exact B5
  ·rcases ownX_snoc hk with hk|rfl|hk
   ·exact hXn k hk
   ·exact K2.dom _ hb4
   ·exact newN_in (F1.d x hmx).2 hk
 ·have hL2:L2=[]:=eq_nil_of_length_eq_zero (by omega)
  subst hL2
  rw[append_nil] at e1
  rw[e1] at B3 hpl hn3
  have hI:=him.1
  refine twin_r B3 (by omega) λh5 sr K5 B5 N5=>⟨sr,rfl,?_⟩
  have K6:=K2.trans K5
  have g0:=K6 _ _ R.dsk
  have g1:=wr_cells (o:=0) (vs:=[.int .i64 S.room,.slice l2.a l2.n l2.c,.slice l3.a l3.n l3.c,.slice sr.a sr.n sr.c,.slice none 0 0,.int .i64 0,.int .i64 0,.int .i64 0,.int .i64 0,.bool false]) g0
  have O:=one_wr (o:=0) (vs:=[.int .i64 S.room,.slice l2.a l2.n l2.c,.slice l3.a l3.n l3.c,.slice sr.a sr.n sr.c,.slice none 0 0,.int .i64 0,.int .i64 0,.int .i64 0,.int .i64 0,.bool false]) g0
  have C:=O.ck g0
  refine⟨B.db,0,rfl,canW_new g0 (by simp),hQ _ ⟨B.db,l2,l3,sr,⟨none,0,0⟩,X⟩ rfl ⟨g1,C.buf (by simp[kd]) (B2.keep K5),C.buf (by simp[kd]) (B3.keep K5),C.buf (by simp[kd]) B5,Buf.nil _ _ _,by rw[hXf,<- e1];unfold fresh;dsimp only;rw[List.map_map];rfl,fls_ck (FX.mono λk y _ e=>K5 _ _ e) C (by simp[kd]) (by simp[kd]),(N5.off B3).1⟩ ⟨λk y n e=>O.keep k y (by rintro rfl;exact n (.inl rfl)) (K6 _ _ e),λk e=>K6.dom k (O.dom k e),λk d=>?_⟩⟩
  rcases d with d|d|d|d|d|d
  ·exact .inl (.inl d)
  ·exact .inr (newN_in N2 d)
  ·exact .inr (newN_in N3 d)
  ·exact .inr (K2.dom _ (newN_in N5 d))
  ·exact(inS_nil k d).elim
  ·exact .inr (hXn k d)
def part(room:Int)(L:List RawF):Dk:=⟨room,L.map λf=>⟨f.data,f.sure.toNat⟩,putAll 0 [] (L.map RawF.f),[],[],0,0,0,0,false⟩
theorem new_r{room:Int}{l:Sl}{L:List (Sl×RawF)}(R:RA h l L)(hroom:room<=9223372036854775807)
  (hQn:newOk room (L.map (·.2))=false->∀ h',Keep h h'->Q (.tuple ⟨[.pointer none,.int .i64 36]⟩) h')
  (hQs:newOk room (L.map (·.2))=true->∀ h' B',Keep h h'->(∀ k,B'.own k->h k=none)->RD h' B' (fresh room (L.map λx=>x.2.f))->Q (.tuple ⟨[.pointer (some ⟨B'.db,0,none⟩),.int .i64 0]⟩) h'):F8.T room l h Q:=by
 have hln:=R.len
 unfold F8.T F8.G
 refine⟨λhneg=>hQn (by unfold newOk;rw[decide_eq_false (by omega)];rfl) h (Keep.refl h),λhpos=>⟨λhbig=>hQn (by unfold newOk;rw[length_map,decide_eq_false (by omega:¬ (L.length:Int)<=8388608)];simp) h (Keep.refl h),λhsm b hb=>?_⟩⟩
 have K0:=Keep.new hb (.cells ⟨[.int .i64 room,.slice none 0 0,.slice none 0 0,.slice none 0 0,.slice none 0 0,.int .i64 0,.int .i64 0,.int .i64 0,.int .i64 0,.bool false]⟩ 101 (0,0))
 have hx0:=new_at h b (.cells ⟨[.int .i64 room,.slice none 0 0,.slice none 0 0,.slice none 0 0,.slice none 0 0,.int .i64 0,.int .i64 0,.int .i64 0,.int .i64 0,.bool false]⟩ 101 (0,0))
 refine⟨λall i h1=>∃ L1 L2 B,L=L1++L2/\i=(L1.length:Int)/\all=rawSum (L1.map (·.2))/\all<=(L1.length:Int)*2147483648/\0<=all/\B.db=b/\RD h1 B (part room (L1.map (·.2)))/\(∀ k,B.own k->h k=none)/\DirOk L1.length (putAll 0 [] ((L1.map (·.2)).map RawF.f)) /\
  rawOk 0 [] (L.map (·.2))=rawOk L1.length (putAll 0 [] ((L1.map (·.2)).map RawF.f)) (L2.map (·.2))/\Keep h h1,λ_ i _=>L.length-i.toNat,
  ⟨[],L,⟨b,⟨none,0,0⟩,⟨none,0,0⟩,⟨none,0,0⟩,⟨none,0,0⟩,[]⟩,rfl,rfl,rfl,Int.le_refl _,Int.le_refl _,rfl,⟨hx0,Buf.nil _ _ _,Buf.nil _ _ _,Buf.nil _ _ _,Buf.nil _ _ _,rfl,⟨λx hx=>(by cases hx),λx hx=>(by cases hx),λi j x y hx=>(by simp at hx)⟩,off_nil (.inl rfl)⟩,λk hk=>?_,DirOk.nil _,rfl,K0⟩,?_⟩
 ·rcases hk with hk|hk|hk|hk|hk|hk
  ·rw[show k=b from hk];exact hb
  ·exact(inS_nil k hk).elim
  ·exact(inS_nil k hk).elim
  ·exact(inS_nil k hk).elim
  ·exact(inS_nil k hk).elim
  ·obtain⟨x,hx,_⟩:=hk;cases hx
 rintro all i h1 ⟨L1,L2,B,rfl,rfl,hall,hle,hall0,rfl,R1,hown,hDir,hraw,K1⟩
 rw[length_append] at hln
 have hdl:(putAll 0 [] ((L1.map (·.2)).map RawF.f)).length<=L1.length:=by have:=putAll_len ((L1.map (·.2)).map RawF.f) 0 [];simpa using this
 refine⟨λhlt=>?_,λhge=>?_⟩
 ·rcases L2 with _|⟨x,L2⟩
  ·exact absurd hlt (by simp at hln;omega)
  rw[length_cons] at hln
  have hmx:x∈L1++x::L2:=by simp
  obtain⟨b2,o,ha,hrg,g0,g1,g2⟩:=(R.keep K1).at
  have hxr:=(R.keep K1).d x hmx
  have hxn:(x.1.n:Int)=(x.2.data.length:Int):=by have:=hxr.1.1;rw[bl_len] at this;omega
  have bad:x.2.ok (putAll 0 [] ((L1.map (·.2)).map RawF.f))=false->newOk room ((L1++x::L2).map (·.2))=false:=λhx=>by
   have:rawOk 0 [] ((L1++x::L2).map (·.2))=false:=by
    rw[hraw]
    show(x.2.ok _ && _)=false
    rw[hx];rfl
   unfold newOk
   rw[this];simp
  refine⟨b2,o,ha,hrg,x.2.nm,g0,x.1,g1,x.2.sure,g2,name_doc ⟨nameOk x.2.nm,rfl,λhnok=>?_,λhnok=>hQn (bad (by unfold RawF.ok;rw[hnok];rfl)) h1 K1⟩⟩
  rw[hxn]
  refine⟨λh31=>hQn (bad (by unfold RawF.ok;rw[decide_eq_false (by omega:¬ (x.2.data.length:Int)<=2147483648)];simp)) h1 K1,λh31=>⟨λhs0=>hQn (bad (by unfold RawF.ok;rw[decide_eq_false (by omega:¬ 0<=x.2.sure)];simp)) h1 K1,λhs0=>⟨λhs1=>hQn (bad (by unfold RawF.ok;rw[decide_eq_false (by omega:¬ x.2.sure<=(x.2.data.length:Int))];simp)) h1 K1,λhs1=>?_⟩⟩⟩
  refine⟨B.nw,at_of R1.dsk 2,find_r R1.nw hDir.s (by show(putAll 0 [] ((L1.map (·.2)).map RawF.f)).length<=_;omega) (λd1 j d2 ed=>⟨_,true,⟨λ_=>⟨rfl,hQn (bad ?_) h1 K1⟩,λh=>(by cases h)⟩⟩) (λd1 d2 ed q1 q2=>⟨_,false,⟨λh=>(by cases h),λ_=>⟨rfl,?_⟩⟩⟩)⟩
  ·have hg:dget (putAll 0 [] ((L1.map (·.2)).map RawF.f)) x.2.nm=some j:=mem_dget hDir.s (by have:(part room (L1.map (·.2))).now=putAll 0 [] ((L1.map (·.2)).map RawF.f):=rfl;rw[<- this,ed];simp)
   unfold RawF.ok;rw[hg];simp
  ·have hg:dget (putAll 0 [] ((L1.map (·.2)).map RawF.f)) x.2.nm=none:=by have:(part room (L1.map (·.2))).now=putAll 0 [] ((L1.map (·.2)).map RawF.f):=rfl;rw[<- this,ed];exact miss_none q1 q2
   have hxok:x.2.ok (putAll 0 [] ((L1.map (·.2)).map RawF.f))=true:=by
    unfold RawF.ok
    rw[hnok,hg,decide_eq_true (by omega:(x.2.data.length:Int)<=2147483648),decide_eq_true (by omega:0<=x.2.sure),decide_eq_true (by omega:x.2.sure<=(x.2.data.length:Int))];rfl
   have hXl:B.X.length=L1.length:=by have:=R1.xlen;unfold part at this;simpa using this
   have hfn:B.fs.n=L1.length:=by have:=R1.fs.len;unfold pV at this;rw[length_map] at this;omega
   refine⟨B.fs,at_of R1.dsk 1,copy_row hxr.1 (by omega) λh3 l4 K3 B3 N3 hl4=>⟨at_of (K3 _ _ R1.dsk) 1,λb4 hb4=>?_⟩⟩
   have K4:=Keep.new hb4 (.cells ⟨[.slice l4.a l4.n l4.c,.int .i64 x.2.sure]⟩ 106 (0,0))
   have hx4:=new_at h3 b4 (.cells ⟨[.slice l4.a l4.n l4.c,.int .i64 x.2.sure]⟩ 106 (0,0))
   have hs0':((x.2.sure.toNat:Nat):Int)=x.2.sure:=by omega
   have K34:=K3.trans K4
   refine⟨at_of (K4 _ _ (K3 _ _ R1.dsk)) 1,at_of (K4 _ _ (K3 _ _ R1.dsk)) 1,append_buf (R1.keep K34).fs rfl rfl (by omega) λl5 h5 B5 hn5 U5=>?_⟩
   obtain⟨hw5,R5,T5⟩:=R1.addFile (x:=⟨b4,l4,⟨x.2.data,x.2.sure.toNat⟩⟩) K34 (by dsimp only;rw[hs0'];exact hx4) (B3.keep K4) (K3.dom _ hb4) N3 U5 (by unfold pV at B5 ⊢;simpa using B5)
   refine⟨hw5,B.nw,at_of R5.dsk 2,l5,at_of R5.dsk 1,?_⟩
   have hi:wrap .i64 ((l5.n:Int)-1)=(L1.length:Int):=by rw[wrap_i64 (by omega) (by omega)];omega
   rw[hi]
   refine with_r R5.nw hDir.s (by show(putAll 0 [] ((L1.map (·.2)).map RawF.f)).length<=_;omega) λh6 l8 B6 U6=>⟨l8,rfl,?_⟩
   obtain⟨hw6,R6,T6⟩:=R5.setNow U6 B6
   have T:=T5.trans T6
   rw[inc_i (n:=100000000) (by omega) (by omega),wrap_i64 (n:=all+(x.2.data.length:Int)) (by omega) (by omega)]
   have hput:putAll 0 [] (((L1++[x]).map (·.2)).map RawF.f)=dins (putAll 0 [] ((L1.map (·.2)).map RawF.f)) x.2.nm L1.length:=by
    rw[map_append,map_append,putAll_app,Nat.zero_add,length_map,length_map];rfl
   refine⟨hw6,⟨L1++[x],L2,{ B with fs:=l5,X:=B.X++[⟨b4,l4,⟨x.2.data,x.2.sure.toNat⟩⟩],nw:=l8 },by simp,by simp,by rw[map_append,rawSum_app,<- hall];show _=_+((x.2.data.length:Int)+0);omega,by simp only[length_append,List.length_singleton];omega,by omega,rfl,?_,T.newer K1 hown,?_,?_,T.base K1 hown⟩,by simp only[length_append,length_cons];omega⟩
   ·have e:part room ((L1++[x]).map (·.2))={ (part room (L1.map (·.2))) with fl:=(part room (L1.map (·.2))).fl++[⟨x.2.data,x.2.sure.toNat⟩],now:=dins (part room (L1.map (·.2))).now x.2.nm L1.length }:=by
     unfold part
     rw[hput]
     simp
    rw[e]
    exact R6
   ·rw[hput,length_append]
    exact(hDir.mono (Nat.le_succ _)).ins (name_size hnok) (Nat.lt_succ_self _)
   ·rw[hraw,hput]
    show(x.2.ok _ && rawOk _ _ _)=_
    rw[hxok,Bool.true_and,length_append]
    rfl
 ·have hL2:L2=[]:=eq_nil_of_length_eq_zero (by omega)
  subst hL2
  rw[append_nil] at hraw hQs hQn
  have hraw':rawOk 0 [] (L1.map (·.2))=true:=hraw
  have hok:newOk room (L1.map (·.2))=(decide (room=0) || decide (all<=room)):=by
   unfold newOk
   rw[hraw',<- hall,length_map,decide_eq_true (by omega:0<=room),decide_eq_true (by simp at hln;omega:(L1.length:Int)<=8388608)]
   rfl
  have hfresh:fresh room (L1.map λx=>x.2.f)={ (part room (L1.map (·.2))) with sure:=putAll 0 [] ((L1.map (·.2)).map RawF.f) }:=by
   unfold fresh part
   rw[List.map_map,List.map_map,List.map_map];rfl
  have fin:newOk room (L1.map (·.2))=true->∃ l9:Sl,h1.at B.db 2=some (.slice l9.a l9.n l9.c)/\F36.T l9 h1 λr3 h7=>∃ l10:Sl,r3=.slice l10.a l10.n l10.c/\h7.canW B.db 3 1/\Q (.tuple ⟨[.pointer (some ⟨B.db,0,none⟩),.int .i64 0]⟩) (h7.wr B.db 3 [.slice l10.a l10.n l10.c]):=λhk=>by
   refine⟨B.nw,at_of R1.dsk 2,twin_r R1.nw (by show(putAll 0 [] ((L1.map (·.2)).map RawF.f)).length<=_;omega) λh7 sr K7 B7 N7=>⟨sr,rfl,?_⟩⟩
   have R7:=R1.keep K7
   have g1:=wr_cells (o:=3) (vs:=[.slice sr.a sr.n sr.c]) R7.dsk
   have O:=one_wr (o:=3) (vs:=[.slice sr.a sr.n sr.c]) R7.dsk
   have C:=O.ck R7.dsk
   refine⟨canW_new R7.dsk (by simp),hQs hk _ { B with sr:=sr } ((K1.trans K7).one O (hown _ (.inl rfl))) (λk d=>?_) ?_⟩
   ·rcases d with d|d|d|d|d|d
    ·exact hown k (.inl d)
    ·exact hown k (.inr (.inl d))
    ·exact hown k (.inr (.inr (.inl d)))
    ·exact K1.dom _ (newN_in N7 d)
    ·exact hown k (.inr (.inr (.inr (.inr (.inl d)))))
    ·exact hown k (.inr (.inr (.inr (.inr (.inr d)))))
   ·rw[hfresh]
    exact⟨g1,C.buf (by simp[kd]) R7.fs,C.buf (by simp[kd]) R7.nw,C.buf (by simp[kd]) B7,C.buf (by simp[kd]) R7.cs,R7.fl,fls_ck R7.fx C (by simp[kd]) (by simp[kd]),(N7.off R1.nw).1⟩
  refine⟨λhr0=>fin (by rw[hok,decide_eq_true hr0];rfl),λhr0=>⟨λhov=>hQn (by rw[hok,decide_eq_false hr0,decide_eq_false (by omega:¬ all<=room)];rfl) h1 K1,λhfit=>fin (by rw[hok,decide_eq_true (by omega:all<=room),Bool.or_true])⟩⟩
end
end Go.Eng.YtekflkpnpibneaaGreatDoor
end
section
namespace Go.Eng.YtekflkpnpibneaaGreatDoor
def ba(v:List UInt8):ByteArray:=⟨⟨v⟩⟩
theorem bytesV_ba(v:List UInt8):bytesV (ba v)=bl v:=rfl
section
variable{h h' h1 h2:Hp}{Q:Value->Hp->Prop}
theorem sameB{l l1:Sl}{v:List UInt8}(h1:h.row l.a l.n (bl v))(h2:h.row l1.a l1.n (bl v))(hQ:Q (.bool true) h):F15.T l l1 h Q:=
 ⟨ba v,by rw[bytesV_ba];exact h1,ba v,by rw[bytesV_ba];exact h2,λ_=>hQ,λhne=>absurd rfl hne⟩
theorem row1{l:Sl}{vs:List Value}(B:h.row l.a (l.n*1) vs):h.row l.a l.n vs:=by rwa [Nat.mul_one] at B
theorem sameF{g g':Hp}{r r':Sl}{L L':List (Sl×FileR)}(F:FA g h r L)(F':FA g' h r' L')(e:L.map (·.2)=L'.map (·.2))(hQ:Q (.bool true) h)(hl:L.length<=100000000):F9.T r r' h Q:=by
 have hn:=F.len
 have hn':=F'.len
 have hll:L.length=L'.length:=by have:=congrArg List.length e;simpa using this
 unfold F9.T F9.G
 refine⟨λ_=>⟨λn g1=>g1=h/\∃ L1 L2 M1 M2,L=L1++L2/\L'=M1++M2/\n=(L1.length:Int)/\L1.length=M1.length/\L2.map (·.2)=M2.map (·.2),λn _=>L.length-n.toNat,⟨rfl,[],L,[],L',rfl,rfl,rfl,rfl,e⟩,?_⟩,λhne=>absurd (by omega) hne⟩
 rintro n g1 ⟨rfl,L1,L2,M1,M2,rfl,rfl,rfl,hlm,e2⟩
 rw[length_append] at hn hll hl
 rw[length_append] at hn' hll
 refine⟨λhlt=>?_,λ_=>hQ⟩
 rcases L2 with _|⟨x,L2⟩
 ·exact absurd hlt (by simp at hn;omega)
 rcases M2 with _|⟨y,M2⟩
 ·simp at e2
 rw[map_cons,map_cons,List.cons.injEq] at e2
 obtain⟨exy,e2⟩:=e2
 rw[length_cons] at hn hl
 obtain⟨b,ha,hr,g0,k1,k2,_⟩:=rec_at F.b
 obtain⟨b',ha',hr',g0',k1',k2',_⟩:=rec_at F'.b
 rw[<- hlm] at hr' g0' k1' k2'
 refine⟨b,0,ha,hr,x.2.nm,g0,b',0,ha',hr',y.2.nm,g0',λ_=>⟨b,0,ha,hr,_,k2,b',0,ha',hr',_,k2',λ_=>⟨b,0,ha,hr,x.1,k1,b',0,ha',hr',y.1,k1',?_⟩,λhne=>absurd (by rw[exy]) hne⟩,λhne=>absurd (by rw[exy]) hne⟩
 refine sameB (v:=x.2.data) (row1 (F.d x (by simp)).1.row) (by rw[exy];exact row1 (F'.d y (by simp)).1.row) ⟨true,rfl,λ_=>?_,λh=>(by cases h)⟩
 rw[inc_i (n:=200000000) (by omega) (by omega)]
 exact⟨⟨rfl,L1++[x],L2,M1++[y],M2,by simp,by simp,by simp,by simp[hlm],e2⟩,by simp only[length_append,length_cons];omega⟩
theorem sameI{l l1:Sl}{v:List Int}(h1:h.row l.a (l.n*1) (v.map λk=>Value.int .i64 k))(h2:h.row l1.a (l1.n*1) (v.map λk=>Value.int .i64 k))(hv:v.length<=1000000000)(hQ:Q (.bool true) h):F16.T l l1 h Q:=by
 have hn:l.n=v.length:=by have:=h1.1;rw[length_map] at this;omega
 have hn1:l1.n=v.length:=by have:=h2.1;rw[length_map] at this;omega
 refine⟨λ_=>⟨λn g1=>g1=h/\∃ k:Nat,n=(k:Int)/\k<=v.length,λn _=>v.length-n.toNat,⟨rfl,0,rfl,Nat.zero_le _⟩,?_⟩,λhne=>absurd (by omega) hne⟩
 rintro n g1 ⟨rfl,k,rfl,hk⟩
 refine⟨λhlt=>?_,λ_=>hQ⟩
 have hkv:k<v.length:=by omega
 obtain⟨b,o,ha,hat⟩:=row_get h1 (i:=k) (by omega)
 obtain⟨b',o',ha',hat'⟩:=row_get h2 (i:=k) (by omega)
 have hg:v[k]?=some v[k]:=getElem?_eq_getElem hkv
 refine⟨b,o,ha,⟨by omega,hlt⟩,v[k],?_,b',o',ha',⟨by omega,by omega⟩,v[k],?_,λ_=>?_,λhne=>absurd rfl hne⟩
 ·rw[Int.toNat_natCast,hat _ (by omega),getElem?_map,hg];rfl
 ·rw[Int.toNat_natCast,hat' _ (by omega),getElem?_map,hg];rfl
 ·rw[inc_i (n:=2000000000) (by omega) (by omega)]
  exact⟨⟨rfl,k+1,rfl,by omega⟩,by dsimp only;omega⟩
theorem copyF{l:Sl}{L:List (Sl×RawF)}(R:RA h l L)(hl:L.length*48<=140737488355328)(hd:∀ x∈L,x.2.data.length<=4294967296)(hQ:∀ h' l' L',Keep h h'->RA h' l' L'->L'.map (·.2)=L.map (·.2)->Q (.slice l'.a l'.n l'.c) h'):F51.T l h Q:=by
 have hln:=R.len
 refine⟨λl1 n h1=>∃ L1 L2 M,L=L1++L2/\n=(L1.length:Int)/\Keep h h1/\Buf h1 l1 3 55 (rV M)/\NewN h l1/\(∀ x∈M,Buf h1 x.1 1 5 (bl x.2.data))/\M.map (·.2)=L1.map (·.2),λ_ n _=>L.length-n.toNat,⟨[],L,[],rfl,rfl,Keep.refl _,Buf.nil _ _ _,NewN.nil _,λx hx=>(by cases hx),rfl⟩,?_⟩
 rintro l1 n h1 ⟨L1,L2,M,rfl,rfl,K1,BM,NM,dM,eM⟩
 rw[length_append] at hln hl
 have hMl:M.length=L1.length:=by have:=congrArg List.length eM;simpa using this
 have hMn:l1.n=M.length:=by have:=BM.len;rw[rV_len] at this;omega
 refine⟨λhlt=>?_,λhge=>?_⟩
 ·rcases L2 with _|⟨x,L2⟩
  ·exact absurd hlt (by simp at hln;omega)
  rw[length_cons] at hln hl
  have hmx:x∈L1++x::L2:=by simp
  obtain⟨b,o,ha,hrg,g0,g1,g2⟩:=(R.keep K1).at
  have hxr:=(R.keep K1).d x hmx
  refine⟨b,o,ha,hrg,x.2.nm,g0,b,o,ha,hrg,x.1,g1,b,o,ha,hrg,x.2.sure,g2,copy_row hxr.1 (hd x hmx) λh2 l3 K2 B2 N2 hl3=>⟨K2.at g0,K2.at g2,append_buf (BM.keep K2) rfl rfl (by omega) λl4 h3 B3 hn3 U3=>?_⟩⟩
  obtain⟨K3,N3⟩:=NewN.upd (K1.trans K2) NM U3
  have C3:=Ck.of_upd (BM.keep K2) U3
  rw[inc_i (n:=4000000000000) (by omega) (by omega)]
  refine⟨⟨L1++[x],L2,M++[(l3,x.2)],by simp,by simp,K3,by unfold rV at B3 ⊢;simpa[rcell] using B3,N3,λy hy=>?_,by simp[eM]⟩,by simp only[length_append,length_cons];omega⟩
  rcases mem_append.1 hy with hy|hy
  ·exact C3.buf (by decide) ((dM y hy).keep K2)
  ·rw[mem_singleton.1 hy];exact C3.buf (by decide) B2
 ·have hL2:L2=[]:=eq_nil_of_length_eq_zero (by omega)
  subst hL2
  rw[append_nil] at hQ
  refine hQ h1 l1 M K1 ⟨?_,λx hx=>⟨(dM x hx).row,(dM x hx).cap,buf_nil (dM x hx)⟩⟩ eM
  exact BM.row
end
end Go.Eng.YtekflkpnpibneaaGreatDoor
end
section
namespace Go.Eng.YtekflkpnpibneaaGreatDoor
structure PR(g h:Hp)(pb:Nat)(A:PA)(B:RB)(S:Dk):Prop where
 P:PD h A S
 R:RD h B S
 d:∀ k,A.own k->¬ B.own k
 pbe:h pb=some (.cells ⟨[.pointer (some ⟨A.db,0,none⟩),.pointer (some ⟨B.db,0,none⟩)]⟩ 58 (0,0))
 np:¬ A.own pb
 nr:¬ B.own pb
 K:Keep g h
 na:∀ k,A.own k->g k=none
 nb:∀ k,B.own k->g k=none
 npb:g pb=none
structure OpP where
 kind:Int
 nm:ByteArray
 to:ByteArray
 data:List UInt8
 a:Int
 b:Int
 c:Int
 keep:List Int
def kStep(S:Dk)(o:OpP):Dk:=
 if o.kind=1 then(kCreate S o.nm).2 else if o.kind=2 then(kAppend S o.nm o.data).2 else if o.kind=3 then(kSync S o.nm).2 else if o.kind=4 then(kRename S o.nm o.to).2 else if o.kind=5 then(kDelete S o.nm).2 else
 if o.kind=6 then(kSyncDir S).2 else if o.kind=10 then kFall S o.a o.keep else if o.kind=11 then kArm S o.a else if o.kind=12 then kFail S o.a o.b o.c else S
theorem DN.step{n:Nat}{S:Dk}(D:DN n S){o:OpP}(ha:o.a<=9223372036854775807)(hb:o.b<=9223372036854775807)(hc:o.c<=9223372036854775807):DN (n+1) (kStep S o):=by
 have m:=Nat.le_succ n
 unfold kStep
 repeat' split
 ·exact D.create _
 ·exact(D.append _ _).mono m
 ·exact(D.sync _).mono m
 ·exact D.rename _ _
 ·exact D.delete _
 ·exact D.syncdir.mono m
 ·exact(DN.fall D _ _).mono m
 ·exact(D.arm ha).mono m
 ·exact(D.fail ha hb hc).mono m
 ·exact D.mono m
section
variable{g h h' h1 h2:Hp}{A A':PA}{B:RB}{S S':Dk}{Q:Value->Hp->Prop}{pb:Nat}
theorem PR.keep(X:PR g h pb A B S)(K:Keep h h'):PR g h' pb A B S:=⟨X.P.keep K,X.R.keep K,X.d,K _ _ X.pbe,X.np,X.nr,X.K.trans K,X.na,X.nb,X.npb⟩
theorem PR.step(X:PR g h pb A B S)(eA:A'.db=A.db)(P':PD h1 A' S')(T:Tr2 A.own A'.own h h1):RD h1 B S/\∀ {h2:Hp} {B':RB},B'.db=B.db->RD h2 B' S'->Tr2 B.own B'.own h1 h2->PR g h2 pb A' B' S'/\∀ k x,¬ A.own k->¬ B.own k->h k=some x->h2 k=some x:=by
 obtain⟨R1,d1⟩:=X.R.other T λk hb ha=>X.d k ha hb
 refine⟨R1,λ{h2} {B'} eB R2 T2=>?_⟩
 obtain⟨P2,d2⟩:=P'.other T2 λk ha hb=>d1 k hb ha
 have K1:=T.base X.K X.na
 have p1:=T.keep _ _ X.np X.pbe
 refine⟨⟨P2,R2,d2,by rw[eA,eB];exact T2.keep _ _ X.nr p1,λho=>(T.grow _ ho).elim X.np λe=>(by rw[X.pbe] at e;cases e),λho=>(T2.grow _ ho).elim X.nr λe=>(by rw[p1] at e;cases e),T2.base K1 X.nb,T.newer X.K X.na,T2.newer K1 X.nb,X.npb⟩,λk x na nb e=>T2.keep k x nb (T.keep k x na e)⟩
theorem copy_any{l:Sl}{t w n:Nat}{z vs:List Value}{K:Sl->Hp->Prop}(hr:h.row l.a (n*1) vs)(ho:∀ v∈vs,Value.oneCell' v=true)(hz:z.length=1)(hw:n*w<=140737488355328)(hK:∀ h' r,Keep h h'->Buf h' r 1 t vs->NewN h r->K r h') :
  ∃ vs,h.row l.a (n*1) vs/\(∀ v∈vs,Value.oneCell' v=true)/\appendD ⟨none,0,0⟩ t 1 w z n vs h K:=by
 refine⟨vs,hr,ho,append_buf (Buf.nil _ _ _) hz hr.1 (by rw[Nat.zero_add];exact hw) λr h' B' hn' U'=>?_⟩
 obtain⟨K',N'⟩:=NewN.upd (Keep.refl h) (NewN.nil h) U'
 exact hK h' r K' (by simpa using B') N'
theorem ints_one(v:List Int):∀ x∈v.map (λk=>Value.int .i64 k),Value.oneCell' x=true:=λx hx=>by
 obtain⟨k,_,rfl⟩:=List.mem_map.1 hx;rfl
theorem does_p{n:Nat}{kind:Int}{s t:ByteArray}{l l1:Sl}{v:List UInt8}{a b c:Int}{keep:List Int}(X:PR g h pb A B S)(D:DN n S)(hn:n<=100000000)(hs:s.size<=9223372036854775807)(ht:t.size<=9223372036854775807)
  (hrow:g.row l.a (l.n*1) (bl v)) (hcap:l.n<=l.c) (hvl:v.length<=1073741824) (hkeep:g.row l1.a (l1.n*1) (keep.map λk=>Value.int .i64 k)) (hkl:keep.length<=1000000000)
  (hQ:∀ h' A' B',PR g h' pb A' B' (kStep S ⟨kind,s,t,v,a,b,c,keep⟩)->Q (.bool true) h'):F17.T (some ⟨pb,0,none⟩) kind s t l a b c l1 h Q:=by
 have hcl:S.chg.length<=1000000000:=by have:=D.c;omega
 have hfl:S.fl.length<=1000000000:=by have:=D.f;omega
 have hln:l.n=v.length:=by have:=hrow.1;rw[bl_len] at this;omega
 have hln1:l1.n=keep.length:=by have:=hkeep.1;rw[length_map] at this;omega
 have hnl:∀ k,0<l.n*1->inS l k->¬ B.own k:=λk h0 ⟨o,ho⟩ hb=>by
  obtain⟨b',o',ha',hat'⟩:=row_get hrow (i:=0) (by omega)
  rw[ho] at ha'
  cases ha'
  have h1:=hat' 0 (by omega)
  have h2:=X.nb _ hb
  unfold Hp.at at h1
  rw[h2] at h1
  rw[getElem?_eq_getElem (by rw[bl_len];omega)] at h1
  cases h1
 unfold F17.T F17.G
 refine copy_any (X.K.row hrow) (bl_one _) rfl (by omega) λh1 l2 K1 B1 N1=>?_
 refine copy_any ((X.K.trans K1).row hkeep) (ints_one _) rfl (by omega) λh2 l3 K2 Bk N2=>?_
 have X2:=X.keep (K1.trans K2)
 have Bd:=B1.keep K2
 have nd:∀ k,inS l2 k->¬ A.own k/\¬ B.own k:=λk hk=>⟨λho=>(by obtain⟨o,e⟩:=X.P.alive ho;rw[newN_in N1 hk] at e;cases e),λho=>(by obtain⟨o,e⟩:=X.R.alive ho;rw[newN_in N1 hk] at e;cases e)⟩
 have nk:∀ k,inS l3 k->¬ A.own k/\¬ B.own k:=λk hk=>⟨λho=>(by obtain⟨o,e⟩:=(X.P.keep K1).alive ho;rw[newN_in N2 hk] at e;cases e),λho=>(by obtain⟨o,e⟩:=(X.R.keep K1).alive ho;rw[newN_in N2 hk] at e;cases e)⟩
 generalize hS':kStep S ⟨kind,s,t,v,a,b,c,keep⟩=S' at hQ
 refine⟨λn4 n5 h3=>n4=n5/\(∃ A' B',PR g h3 pb A' B' S')/\Buf h3 l2 1 5 (bl v)/\Buf h3 l3 1 3 (keep.map λk=>Value.int .i64 k),?_,?_⟩
 ·rintro n4 n5 h3 ⟨rfl,⟨A',B',X3⟩,Bd3,Bk3⟩
  refine⟨λ_=>sameB (row1 Bd3.row) (row1 (X3.K.row hrow)) ⟨true,rfl,λ_=>sameI Bk3.row (X3.K.row hkeep) hkl ⟨true,rfl,λ_=>hQ h3 A' B' X3,λh=>(by cases h)⟩,λh=>(by cases h)⟩,λhne=>absurd rfl hne⟩
 have hJ:∀ {m:Int} {h7:Hp} {A':PA} {B':RB},(PR g h7 pb A' B' S'/\∀ k x,¬ A.own k->¬ B.own k->h2 k=some x->h7 k=some x)->(m=m/\(∃ A' B',PR g h7 pb A' B' S')/\Buf h7 l2 1 5 (bl v)/\Buf h7 l3 1 3 (keep.map λk=>Value.int .i64 k)):=λ⟨X7,kp⟩=>
  ⟨rfl,⟨_,_,X7⟩,buf_mono Bd λk x hk e=>kp k x (nd k hk).1 (nd k hk).2 e,buf_mono Bk λk x hk e=>kp k x (nk k hk).1 (nk k hk).2 e⟩
 refine⟨λhk=>?_,λhk1=>⟨λhk=>?_,λhk2=>⟨λhk=>?_,λhk3=>⟨λhk=>?_,λhk4=>⟨λhk=>?_,λhk5=>⟨λhk=>?_,λhk6=>⟨λhk=>?_,λhk7=>⟨λhk=>?_,λhk8=>⟨λhk=>?_,λhk9=>⟨λhk=>?_,λhk10=>⟨λhk=>?_,λhk11=>⟨λhk=>?_,λhk12=>⟨λhk=>?_,λhk13=>?_⟩⟩⟩⟩⟩⟩⟩⟩⟩⟩⟩⟩⟩
 ·subst hk
  have hS2:(kCreate S s).2=S':=by rw[<- hS'];unfold kStep;simp
  subst hS2
  refine⟨pb,0,rfl,some ⟨A.db,0,none⟩,at_of X2.pbe 0,create_p X2.P D.ok hs hcl λh6 A' eA P' T=>⟨_,rfl,?_⟩⟩
  obtain⟨R',cl⟩:=X2.step eA P' T
  exact⟨pb,0,rfl,some ⟨B.db,0,none⟩,at_of (T.keep _ _ X2.np X2.pbe) 1,create_r R' D.ok hcl hfl λh7 B' eB R2 T2=>⟨_,rfl,hJ (cl eB R2 T2)⟩⟩
 ·subst hk
  have hS2:(kAppend S s v).2=S':=by rw[<- hS'];unfold kStep;simp
  subst hS2
  refine⟨pb,0,rfl,some ⟨A.db,0,none⟩,at_of X2.pbe 0,append_p X2.P D.ok hs Bd (λk hk=>(nd k hk).1) hvl λh6 A' eA P' T=>⟨_,rfl,?_⟩⟩
  obtain⟨R',cl⟩:=X2.step eA P' T
  exact⟨pb,0,rfl,some ⟨B.db,0,none⟩,at_of (T.keep _ _ X2.np X2.pbe) 1,append_r R' D.ok (T.base X2.K X2.na |>.row hrow) hcap (λk h0 hk=>hnl k h0 hk) hvl λh7 B' eB R2 T2=>⟨_,rfl,hJ (cl eB R2 T2)⟩⟩
 ·subst hk
  have hS2:(kSync S s).2=S':=by rw[<- hS'];unfold kStep;simp
  subst hS2
  refine⟨pb,0,rfl,some ⟨A.db,0,none⟩,at_of X2.pbe 0,sync_p X2.P D.ok hs λh6 A' eA P' T=>⟨_,rfl,?_⟩⟩
  obtain⟨R',cl⟩:=X2.step eA P' T
  exact⟨pb,0,rfl,some ⟨B.db,0,none⟩,at_of (T.keep _ _ X2.np X2.pbe) 1,sync_r R' D.ok λh7 B' eB R2 T2=>⟨_,rfl,hJ (cl eB R2 T2)⟩⟩
 ·subst hk
  have hS2:(kRename S s t).2=S':=by rw[<- hS'];unfold kStep;simp
  subst hS2
  refine⟨pb,0,rfl,some ⟨A.db,0,none⟩,at_of X2.pbe 0,rename_p X2.P D.ok hs ht hcl λh6 A' eA P' T=>⟨_,rfl,?_⟩⟩
  obtain⟨R',cl⟩:=X2.step eA P' T
  exact⟨pb,0,rfl,some ⟨B.db,0,none⟩,at_of (T.keep _ _ X2.np X2.pbe) 1,rename_r R' D.ok hcl λh7 B' eB R2 T2=>⟨_,rfl,hJ (cl eB R2 T2)⟩⟩
 ·subst hk
  have hS2:(kDelete S s).2=S':=by rw[<- hS'];unfold kStep;simp
  subst hS2
  refine⟨pb,0,rfl,some ⟨A.db,0,none⟩,at_of X2.pbe 0,delete_p X2.P D.ok hs hcl λh6 A' eA P' T=>⟨_,rfl,?_⟩⟩
  obtain⟨R',cl⟩:=X2.step eA P' T
  exact⟨pb,0,rfl,some ⟨B.db,0,none⟩,at_of (T.keep _ _ X2.np X2.pbe) 1,delete_r R' D.ok hcl λh7 B' eB R2 T2=>⟨_,rfl,hJ (cl eB R2 T2)⟩⟩
 ·subst hk
  have hS2:(kSyncDir S).2=S':=by rw[<- hS'];unfold kStep;simp
  subst hS2
  refine⟨pb,0,rfl,some ⟨A.db,0,none⟩,at_of X2.pbe 0,syncdir_p X2.P D.ok λh6 A' eA P' T=>⟨_,rfl,?_⟩⟩
  obtain⟨R',cl⟩:=X2.step eA P' T
  exact⟨pb,0,rfl,some ⟨B.db,0,none⟩,at_of (T.keep _ _ X2.np X2.pbe) 1,syncdir_r R' D.ok λh7 B' eB R2 T2=>⟨_,rfl,hJ (cl eB R2 T2)⟩⟩
 ·subst hk
  have hS2:S=S':=by rw[<- hS'];unfold kStep;simp
  subst hS2
  refine⟨pb,0,rfl,some ⟨A.db,0,none⟩,at_of X2.pbe 0,read_p X2.P D.ok hs λh6 r6 K6 B6 _=>⟨r6,_,rfl,pb,0,rfl,some ⟨B.db,0,none⟩,at_of (K6 _ _ X2.pbe) 1,read_r (X2.R.keep K6) D.ok λh7 r7 K7 B7 _=>⟨r7,_,rfl,sameB (row1 (B6.keep K7).row) (row1 B7.row) ⟨true,rfl,λ_=>?_,λh=>(by cases h)⟩⟩⟩⟩
  exact hJ ⟨X2.keep (K6.trans K7),λk x _ _ e=>K7 _ _ (K6 _ _ e)⟩
 ·subst hk
  have hS2:S=S':=by rw[<- hS'];unfold kStep;simp
  subst hS2
  refine⟨pb,0,rfl,some ⟨A.db,0,none⟩,at_of X2.pbe 0,pb,0,rfl,some ⟨B.db,0,none⟩,at_of X2.pbe 1,files_p X2.P D.ok λh6 r6 L6 K6 F6 e6=>⟨r6,rfl,at_of (K6 _ _ X2.pbe) 1,files_r (X2.R.keep K6) D.ok λh7 r7 L7 K7 F7 e7=>⟨r7,rfl,sameF (F6.keep K7) F7 (e6.trans e7.symm) ⟨true,rfl,λ_=>?_,λh=>(by cases h)⟩ (by have h1:=congrArg List.length e6;have h2:=D.ok.len;unfold dtold at h1;simp only[length_map] at h1;omega)⟩⟩⟩
  exact hQ h7 A B (X2.keep (K6.trans K7))
 ·subst hk
  have hS2:S=S':=by rw[<- hS'];unfold kStep;simp
  subst hS2
  refine⟨pb,0,rfl,some ⟨A.db,0,none⟩,at_of X2.pbe 0,pb,0,rfl,some ⟨B.db,0,none⟩,at_of X2.pbe 1,image_p X2.P D.ok hcl Bk.row λh6 r6 L6 K6 F6 e6=>⟨r6,rfl,at_of (K6 _ _ X2.pbe) 1,image_r (X2.R.keep K6) D.ok hcl ((X2.K.trans K6).row hkeep) λh7 r7 L7 K7 F7 e7=>⟨r7,rfl,sameF (F6.keep K7) F7 (e6.trans e7.symm) ⟨true,rfl,λ_=>?_,λh=>(by cases h)⟩ (by have h1:=congrArg List.length e6;have h2:=(image_ok D.ok a keep).1;simp only[length_map] at h1;omega)⟩⟩⟩
  exact hQ h7 A B (X2.keep (K6.trans K7))
 ·subst hk
  have hS2:kFall S a keep=S':=by rw[<- hS'];unfold kStep;simp
  subst hS2
  refine⟨pb,0,rfl,some ⟨A.db,0,none⟩,at_of X2.pbe 0,fall_p X2.P D.ok hcl Bk.row λh6 A' eA P' T=>?_⟩
  obtain⟨R',cl⟩:=X2.step eA P' T
  exact⟨pb,0,rfl,some ⟨B.db,0,none⟩,at_of (T.keep _ _ X2.np X2.pbe) 1,fall_r R' D.ok hcl ((T.base X2.K X2.na).row hkeep) λh7 B' eB R2 T2=>hJ (cl eB R2 T2)⟩
 ·subst hk
  have hS2:kArm S a=S':=by rw[<- hS'];unfold kStep;simp
  subst hS2
  refine⟨pb,0,rfl,some ⟨A.db,0,none⟩,at_of X2.pbe 0,arm_p X2.P λh6 P' T=>?_⟩
  obtain⟨R',cl⟩:=X2.step rfl P' T
  exact⟨pb,0,rfl,some ⟨B.db,0,none⟩,at_of (T.keep _ _ X2.np X2.pbe) 1,arm_r R' λh7 R2 T2=>hJ (cl rfl R2 T2)⟩
 ·subst hk
  have hS2:kFail S a b c=S':=by rw[<- hS'];unfold kStep;simp
  subst hS2
  refine⟨pb,0,rfl,some ⟨A.db,0,none⟩,at_of X2.pbe 0,fail_p X2.P λh6 P' T=>?_⟩
  obtain⟨R',cl⟩:=X2.step rfl P' T
  exact⟨pb,0,rfl,some ⟨B.db,0,none⟩,at_of (T.keep _ _ X2.np X2.pbe) 1,fail_r R' λh7 R2 T2=>hJ (cl rfl R2 T2)⟩
 ·subst hk
  have hS2:S=S':=by rw[<- hS'];unfold kStep;simp
  subst hS2
  refine⟨pb,0,rfl,some ⟨A.db,0,none⟩,at_of X2.pbe 0,pb,0,rfl,some ⟨B.db,0,none⟩,at_of X2.pbe 1,down_p X2.P ⟨S.down,rfl,λhd=>⟨at_of X2.pbe 1,fell_r X2.R ⟨S.down,rfl,λ_=>⟨λ_=>hQ h2 A B X2,λh=>absurd rfl h⟩,λh=>(by rw[hd] at h;cases h)⟩⟩,λhd=>⟨at_of X2.pbe 1,fell_r X2.R ⟨S.down,rfl,λh=>(by rw[hd] at h;cases h),λ_=>⟨λ_=>hQ h2 A B X2,λh=>absurd rfl h⟩⟩⟩⟩⟩
 ·have hS2:S=S':=by rw[<- hS'];unfold kStep;simp[hk1,hk2,hk3,hk4,hk5,hk6,hk10,hk11,hk12]
  subst hS2
  exact hJ ⟨X2,λk x _ _ e=>e⟩
end
end Go.Eng.YtekflkpnpibneaaGreatDoor
end
section
namespace Go.Eng.YtekflkpnpibneaaGreatDoor
section
variable{h h' h1 h2:Hp}{Q:Value->Hp->Prop}
theorem begin_s{room:Int}{l:Sl}{L:List (Sl×RawF)}(R:RA h l L)(hroom:room<=9223372036854775807)(hnm:∀ x∈L,x.2.nm.size<=9223372036854775807)(hl:L.length*48<=140737488355328)(hd:∀ x∈L,x.2.data.length<=4294967296)
  (hQn:newOk room (L.map (·.2))=false->∀ h',Keep h h'->Q (.tuple ⟨[.pointer none,.bool true]⟩) h')
  (hQs:newOk room (L.map (·.2))=true->∀ h' pb A B,PR h h' pb A B (fresh room (L.map λx=>x.2.f))->Q (.tuple ⟨[.pointer (some ⟨pb,0,none⟩),.bool true]⟩) h'):F11.T room l h Q:=by
 unfold F11.T F11.G
 refine copyF R hl hd λh1 l1 L' K1 R' eL=>⟨l1,rfl,?_⟩
 have hnm':∀ x∈L',x.2.nm.size<=9223372036854775807:=λx hx=>by
  have:x.2∈L.map (·.2):=by rw[<- eL];exact List.mem_map_of_mem hx
  obtain⟨y,hy,e⟩:=List.mem_map.1 this
  rw[<- e];exact hnm y hy
 have ef:(L'.map λx=>x.2.f)=L.map λx=>x.2.f:=by
  have:∀ M:List (Sl×RawF),(M.map λx=>x.2.f)=(M.map (·.2)).map RawF.f:=λM=>by rw[List.map_map];rfl
  rw[this,this,eL]
 refine new_p R' hroom hnm' (λhno h2 K2=>⟨none,36,rfl,?_⟩) (λhyes h2 A K2 nA PA=>⟨_,0,rfl,?_⟩)
 ·rw[eL] at hno
  refine new_r (R.keep (K1.trans K2)) hroom (λ_ h3 K3=>⟨none,36,rfl,λh4=>h4=h3,?_,?_⟩) (λhyes=>by rw[hno] at hyes;cases hyes)
  ·rintro h4 rfl
   exact⟨okPtr_none _ _,λ_=>hQn hno h4 (K1.trans (K2.trans K3)),λhne=>absurd rfl hne⟩
  ·exact⟨λ_=>⟨okPtr_none _ _,λ_=>⟨okPtr_none _ _,λ_=>⟨λ_=>rfl,λhne=>absurd rfl hne⟩,λhne=>absurd rfl hne⟩,λhne=>absurd rfl hne⟩,λhne=>absurd rfl hne⟩
 ·rw[eL] at hyes
  rw[ef] at PA
  refine new_r (R.keep (K1.trans K2)) hroom (λhno=>by rw[hno] at hyes;cases hyes) (λ_ h3 B K3 nB RB=>⟨_,0,rfl,λh4=>h4=h3,?_,?_⟩)
  ·rintro h4 rfl
   refine⟨okPtr_none _ _,λhe=>(by cases he),λ_ b hb=>?_⟩
   have K4:=Keep.new hb (.cells ⟨[.pointer (some ⟨A.db,0,none⟩),.pointer (some ⟨B.db,0,none⟩)]⟩ 58 (0,0))
   have PA4:=(PA.keep K3)
   have K:=K1.trans (K2.trans (K3.trans K4))
   refine hQs hyes _ b A B ⟨PA4.keep K4,RB.keep K4,λk ha hb'=>?_,new_at _ _ _,λha=>?_,λhb'=>?_,K,λk ha=>K1.dom k (nA k ha),λk hb'=>K1.dom k (K2.dom k (nB k hb')),K1.dom _ (K2.dom _ (K3.dom _ hb))⟩
   ·obtain⟨o,ho⟩:=PA.alive ha
    rw[nB k hb'] at ho;cases ho
   ·obtain⟨o,ho⟩:=PA4.alive ha
    rw[hb] at ho;cases ho
   ·obtain⟨o,ho⟩:=RB.alive hb'
    rw[hb] at ho;cases ho
  ·exact⟨λ_=>⟨okPtr_none _ _,λhe=>(by cases he),λ_=>⟨okPtr_none _ _,λhe=>(by cases he),λ_=>⟨λ_=>rfl,λhne=>absurd rfl hne⟩⟩⟩,λhne=>absurd rfl hne⟩
structure OpR where
 d:Sl
 k:Sl
 o:OpP
def ocell(x:OpR):List Value:=[.int .i64 x.o.kind,.string x.o.nm,.string x.o.to,.slice x.d.a x.d.n x.d.c,.int .i64 x.o.a,.int .i64 x.o.b,.int .i64 x.o.c,.slice x.k.a x.k.n x.k.c]
def oV(l:List OpR):List Value:=l.flatMap ocell
theorem oV_len(l:List OpR):(oV l).length=l.length*8:=by
 unfold oV
 induction l with
 |nil=>rfl
 |cons c l ih=>rw[List.flatMap_cons,length_append,ih,length_cons];show 8+_=_;omega
theorem oV_at:∀ {l:List OpR} {k r:Nat} {c:OpR},l[k]?=some c->r<8->(oV l)[k*8+r]?=(ocell c)[r]?
 |[],k,r,c,h,_=>by simp at h
 |x::l,0,r,c,h,hr=>by
  simp only[List.getElem?_cons_zero,Option.some.injEq] at h
  subst h
  show(ocell x++oV l)[0*8+r]?=_
  rw[getElem?_append_left (by show _<8;omega)]
  congr 1;omega
 |x::l,k+1,r,c,h,hr=>by
  simp only[List.getElem?_cons_succ] at h
  show(ocell x++oV l)[(k+1)*8+r]?=_
  rw[getElem?_append_right (by show 8<=_;omega),<- oV_at h hr]
  congr 1
  show(k+1)*8+r-8=_
  omega
structure OA(h:Hp)(l:Sl)(O:List OpR):Prop where
 b:h.row l.a (l.n*8) (oV O)
 d:∀ x∈O,h.row x.d.a (x.d.n*1) (bl x.o.data)/\x.d.n<=x.d.c/\h.row x.k.a (x.k.n*1) (x.o.keep.map λk=>Value.int .i64 k)
 z:∀ x∈O,x.o.nm.size<=9223372036854775807/\x.o.to.size<=9223372036854775807/\x.o.a<=9223372036854775807/\x.o.b<=9223372036854775807/\x.o.c<=9223372036854775807/\x.o.data.length<=140737488355328/\x.o.keep.length<=140737488355328
theorem OA.keep{l:Sl}{O:List OpR}(R:OA h l O)(K:Keep h h'):OA h' l O:=⟨K.row R.b,λx hx=>⟨K.row (R.d x hx).1,(R.d x hx).2.1,K.row (R.d x hx).2.2⟩,R.z⟩
theorem OA.len{l:Sl}{O:List OpR}(R:OA h l O):l.n=O.length:=by have:=R.b.1;rw[oV_len] at this;omega
theorem OA.at{l:Sl}{O:List OpR}{k:Nat}{x:OpR}(R:OA h l O)(hk:O[k]?=some x):∃ b o,l.a=some ⟨b,o,none⟩/\((0:Int)<=(k:Int)/\(k:Int)<(l.n:Int))/\∀ r,r<8->h.at b ((o+(k:Int).toNat*8)+r)=(ocell x)[r]?:=by
 have hl:=R.len
 have hkl:=(List.getElem?_eq_some_iff.1 hk).1
 obtain⟨b,o,ha,hat⟩:=row_get R.b (i:=k*8) (by omega)
 refine⟨b,o,ha,⟨by omega,by omega⟩,λr hr=>?_⟩
 rw[Int.toNat_natCast,Nat.add_assoc,hat _ (by omega),oV_at hk hr]
theorem small_s{l l1:Sl}{L:List (Sl×RawF)}{O:List OpR}(R:RA h l L)(R1:OA h l1 O)(hd:∀ x∈L,x.2.data.length<=140737488355328)(hLl:L.length<=140737488355328)(hOl:O.length<=140737488355328)
  (hF:Q (.bool false) h) (hT:(∀ x∈L,x.2.data.length<=1048576)->(∀ x∈O,x.o.data.length<=1048576/\x.o.keep.length<=1048576)->O.length<=400->Q (.bool true) h):F5.T l l1 h Q:=by
 have hln:=R.len
 have hln1:=R1.len
 refine⟨λn n1 h1=>h1=h/\∃ L1 L2,L=L1++L2/\n1=(L1.length:Int)/\0<=n/\n<=1048576/\∀ x∈L1,x.2.data.length<=1048576,λ_ n1 _=>L.length-n1.toNat,⟨rfl,[],L,rfl,rfl,Int.le_refl _,by decide,λx hx=>(by cases hx)⟩,?_⟩
 rintro n n1 h1 ⟨rfl,L1,L2,rfl,rfl,hn0,hn1,hs⟩
 rw[length_append] at hln hLl
 refine⟨λhlt=>?_,λhge=>?_⟩
 ·rcases L2 with _|⟨x,L2⟩
  ·exact absurd hlt (by simp at hln;omega)
  rw[length_cons] at hln hLl
  have hmx:x∈L1++x::L2:=by simp
  obtain⟨b,o,ha,hrg,g0,g1,g2⟩:=R.at
  have hxr:=R.d x hmx
  have hxn:x.1.n=x.2.data.length:=by have:=hxr.1.1;rw[bl_len] at this;omega
  have hdx:=hd x hmx
  refine⟨b,o,ha,hrg,x.1,g1,?_⟩
  rw[wrap_i64 (by omega) (by omega)]
  refine⟨λ_=>hF,λhle=>?_⟩
  rw[inc_i (n:=140737488355329) (by omega) (by omega)]
  refine⟨⟨rfl,L1++[x],L2,by simp,by simp,by omega,by omega,λy hy=>?_⟩,by simp only[length_append,length_cons];omega⟩
  rcases mem_append.1 hy with hy|hy
  ·exact hs y hy
  ·rw[mem_singleton.1 hy];omega
 ·have hL2:L2=[]:=eq_nil_of_length_eq_zero (by omega)
  subst hL2
  rw[append_nil] at hT
  refine⟨λn2 n3 h2=>h2=h1/\∃ k:Nat,n3=(k:Int)/\k<=O.length/\0<=n2/\n2<=1048576/\∀ j x,j<k->O[j]?=some x->x.o.data.length<=1048576/\x.o.keep.length<=1048576,λ_ n3 _=>O.length-n3.toNat,⟨rfl,0,rfl,Nat.zero_le _,hn0,hn1,λj x hj=>by omega⟩,?_⟩
  rintro n2 n3 h2 ⟨rfl,k,rfl,hk,hm0,hm1,hks⟩
  refine⟨λhlt=>?_,λhge=>⟨λh4=>hT hs (λx hx=>?_) (by omega),λ_=>hF⟩⟩
  ·have hget:O[k]?=some O[k]:=getElem?_eq_getElem (by omega)
   generalize O[k]=x at hget
   obtain⟨b,o,ha,hrg,hat⟩:=R1.at hget
   have hxd:=R1.d x (mem_of_getElem? hget)
   have hxz:=R1.z x (mem_of_getElem? hget)
   have e1:x.d.n=x.o.data.length:=by have:=hxd.1.1;rw[bl_len] at this;omega
   have e2:x.k.n=x.o.keep.length:=by have:=hxd.2.2.1;rw[length_map] at this;omega
   refine⟨b,o,ha,hrg,x.d,hat 3 (by omega),b,o,ha,hrg,x.k,hat 7 (by omega),?_⟩
   rw[wrap_i64 (n:=n2+(x.d.n:Int)) (by omega) (by omega),wrap_i64 (by omega) (by omega)]
   refine⟨λ_=>hF,λhle=>?_⟩
   rw[inc_i (n:=140737488355329) (by omega) (by omega)]
   refine⟨⟨rfl,k+1,rfl,by omega,by omega,by omega,λj y hj hy=>?_⟩,by dsimp only;omega⟩
   by_cases hjk:j=k
   ·subst hjk;rw[hget] at hy;cases hy;omega
   ·exact hks j y (by omega) hy
  ·obtain⟨j,hj⟩:=List.mem_iff_getElem?.1 hx
   exact hks j x (by have:=(List.getElem?_eq_some_iff.1 hj).1;omega) hj
end
end Go.Eng.YtekflkpnpibneaaGreatDoor
end
section
open Go.Proofs
namespace Go.Eng.YtekflkpnpibneaaGreatDoor
def xa:ByteArray:=ByteArray.mk #[97]
def xx:ByteArray:=ByteArray.mk #[120]
def xy:ByteArray:=ByteArray.mk #[121]
def sa0:Dk:=fresh 0 []
def sa1:Dk:=(kCreate sa0 xa).2
def sa2:Dk:=(kAppend sa1 xa [120,121,122]).2
def sa3:Dk:=(kSync sa2 xa).2
def sa4:Dk:=(kAppend sa3 xa [117,118]).2
def sb1:Dk:=kFail sa0 1 2 2
def sb2:Dk:=(kCreate sb1 xx).2
def sb3:Dk:=(kAppend sb2 xx [49,50,51,52,53]).2
def sb4:Dk:=(kDelete sb3 xy).2
def sb5:Dk:=(kDelete sb4 xy).2
theorem ra1:(kCreate sa0 xa).1=0:=by kernel_rfl
theorem ra2:(kAppend sa1 xa [120,121,122]).1=0:=by kernel_rfl
theorem ra3:(kSync sa2 xa).1=0:=by kernel_rfl
theorem ra4:(kAppend sa3 xa [117,118]).1=0:=by kernel_rfl
theorem ra5:dtold sa4 sa4.now=[⟨xa,[120,121,122,117,118],3⟩]:=by kernel_rfl
theorem ra6:kImage sa4 0 []=[]:=by kernel_rfl
theorem ra7:kImage sa4 1 [1]=[⟨xa,[120,121,122,117],4⟩]:=by kernel_rfl
theorem rb2:(kCreate sb1 xx).1=0:=by kernel_rfl
theorem rb3:(kAppend sb2 xx [49,50,51,52,53]).1=31:=by kernel_rfl
theorem rb4:(kDelete sb3 xy).1=31:=by kernel_rfl
theorem rb5:(kDelete sb4 xy).1=34:=by kernel_rfl
theorem rb6:kRead sb5 xx=(0,[49,50]):=by kernel_rfl
theorem rn0:newOk 0 []=true:=by kernel_rfl
theorem da0:DN 0 sa0:=fresh_ok ⟨Int.le_refl _,by decide⟩ (by simp) (λf hf=>by cases hf) (λf hf=>by cases hf)
theorem da1:DN 1 sa1:=da0.create xa
theorem da2:DN 1 sa2:=da1.append xa _
theorem da3:DN 1 sa3:=da2.sync xa
theorem da4:DN 1 sa4:=da3.append xa _
theorem db1:DN 0 sb1:=da0.fail (by decide) (by decide) (by decide)
theorem db2:DN 1 sb2:=db1.create xx
theorem db3:DN 1 sb3:=db2.append xx _
theorem db4:DN 2 sb4:=db3.delete xy
theorem db5:DN 3 sb5:=db4.delete xy
section
variable{g h h' h1 h2:Hp}{A:PA}{S:Dk}{Q:Value->Hp->Prop}
structure PN(g h:Hp)(A:PA)(S:Dk):Prop where
 P:PD h A S
 K:Keep g h
 n:∀ k,A.own k->g k=none
theorem PN.keep(X:PN g h A S)(K:Keep h h'):PN g h' A S:=⟨X.P.keep K,X.K.trans K,X.n⟩
theorem PN.step{A':PA}{S':Dk}(X:PN g h A S)(P':PD h1 A' S')(T:Tr2 A.own A'.own h h1):PN g h1 A' S':=⟨P',T.base X.K X.n,T.newer X.K X.n⟩
theorem lit_append{s:ByteArray}{v:List UInt8}(X:PN g h A S)(D:DOk S)(hs:s.size<=9223372036854775807)(hv:v.length<=1073741824)
  (hQ:∀ h' A',A'.db=A.db->PN g h' A' (kAppend S s v).2->Q (.int .i64 (kAppend S s v).1) h'):∀ b1,h b1=none->∃ cs t,(h.new b1 (.cells ⟨bl v⟩ 5 (0,0))) b1=some (.cells cs t (0,0))/\F22.T (some ⟨A.db,0,none⟩) s ⟨(some ⟨b1,0,none⟩),v.length,v.length⟩ ((h.new b1 (.cells ⟨bl v⟩ 5 (0,0))).new b1 (.cells cs t (cs.size,cs.size+1))) Q:=by
 intro b1 hb
 refine⟨_,_,new_at _ _ _,?_⟩
 rw[new_new]
 have K:=Keep.new hb (.cells ⟨bl v⟩ 5 ((⟨bl v⟩:Array Value).size,(⟨bl v⟩:Array Value).size+1))
 have hx:=new_at h b1 (.cells ⟨bl v⟩ 5 ((⟨bl v⟩:Array Value).size,(⟨bl v⟩:Array Value).size+1))
 have X1:=X.keep K
 refine append_p X1.P D hs ⟨by rw[bl_len];simp,Nat.le_refl _,.inr ⟨b1,_,_,rfl,hx,by simp[bl_len],λj hj=>by omega,?_⟩⟩ (λk hk ho=>?_) hv λh' A' eA P' T=>hQ h' A' eA (X1.step P' T)
 ·show(bl v).take (bl v).length=_
  exact List.take_length
 ·obtain⟨o,ho'⟩:=hk
  simp only[Option.some.injEq,Addr.mk.injEq,and_true] at ho'
  obtain⟨o2,e⟩:=X.P.alive ho
  rw[<- ho'.1,hb] at e;cases e
theorem one_list{L:List (Sl×FileR)}{f:FileR}(e:L.map (·.2)=[f]):∃ d,L=[(d,f)]:=by
 rcases L with _|⟨⟨d,x⟩,_|⟨y,L⟩⟩
 ·cases e
 ·simp at e;exact⟨d,by rw[e]⟩
 ·simp at e
theorem known_s(hQ:∀ h',Keep h h'->Q (.bool true) h'):F4.T h Q:=by
 have R0:∀ h:Hp,RA h ⟨none,0,0⟩ []:=λh=>⟨⟨rfl,.inl rfl⟩,λx hx=>by cases hx⟩
 unfold F4.T F4.G
 refine new_p (R0 h) (by decide) (λx hx=>by cases hx) (λhno=>by rw[show newOk 0 (([]:List (Sl×RawF)).map (·.2))=true from rn0] at hno;cases hno) (λ_ h1 A K1 n1 P1=>⟨_,0,rfl,okPtr_none _ _,λhe=>(by cases he),λ_=>⟨λ_=>?_,λhne=>absurd rfl hne⟩⟩)
 have X1:PN h h1 A sa0:=⟨P1,K1,n1⟩
 refine down_p X1.P ⟨false,rfl,λhe=>(by cases he),λ_=>?_⟩
 refine create_p X1.P da0.ok (by decide) (by decide) λh2 A2 e2 P2 T2=>⟨_,rfl,λ_=>?_,λhne=>absurd ra1 hne⟩
 have X2:PN h h2 A2 sa1:=X1.step P2 T2
 rw[<- e2]
 refine lit_append (v:=[120,121,122]) X2 da1.ok (by decide) (by decide) λh3 A3 e3 X3=>⟨_,rfl,λ_=>?_,λhne=>absurd ra2 hne⟩
 have X3:PN h h3 A3 sa2:=X3
 rw[<- e3]
 refine sync_p X3.P da2.ok (by decide) λh4 A4 e4 P4 T4=>⟨_,rfl,λ_=>?_,λhne=>absurd ra3 hne⟩
 have X4:PN h h4 A4 sa3:=X3.step P4 T4
 rw[<- e4]
 refine lit_append (v:=[117,118]) X4 da3.ok (by decide) (by decide) λh5 A5 e5 X5=>⟨_,rfl,λ_=>?_,λhne=>absurd ra4 hne⟩
 have X5:PN h h5 A5 sa4:=X5
 rw[<- e5]
 refine files_p X5.P da4.ok λh6 r6 L6 K6 F6 q6=>⟨r6,rfl,?_⟩
 have X6:=X5.keep K6
 rw[ra5] at q6
 obtain⟨d6,rfl⟩:=one_list q6
 have n6:=F6.len
 have bd6:=(F6.d _ (mem_singleton.2 rfl)).1
 obtain⟨b6,ha6,hr6,g0,g1,g2,_⟩:=rec_at (L1:=[]) F6.b
 refine⟨λ_=>⟨b6,0,ha6,hr6,xa,g0,λ_=>⟨b6,0,ha6,hr6,d6,g1,ba [120,121,122,117,118],row1 bd6.row,λ_=>⟨b6,0,ha6,hr6,3,g2,λ_=>?_,λhne=>absurd rfl hne⟩,λhne=>absurd rfl hne⟩,λhne=>absurd rfl hne⟩,λhne=>absurd (by rw[n6];rfl) hne⟩
 refine image_p (keep:=[]) X6.P da4.ok (by have:=da4.c;omega) ⟨rfl,.inl rfl⟩ λh7 r7 L7 K7 F7 q7=>⟨r7,rfl,?_⟩
 have X7:=X6.keep K7
 rw[ra6] at q7
 have n7:=F7.len
 have hL7:L7=[]:=by simpa using q7
 refine⟨λ_ b8 hb8=>?_,λhne=>absurd (by rw[n7,hL7];rfl) hne⟩
 have K8:=Keep.new hb8 (.cells ⟨[.int .i64 1]⟩ 3 (0,0))
 have hx8:=new_at h7 b8 (.cells ⟨[.int .i64 1]⟩ 3 (0,0))
 have X8:=X7.keep K8
 refine image_p (keep:=[1]) X8.P da4.ok (by have:=da4.c;omega) ⟨rfl,.inr ⟨b8,0,rfl,λj hj=>?_⟩⟩ λh9 r9 L9 K9 F9 q9=>⟨r9,rfl,?_⟩
 ·have:j=0:=by(try dsimp only at hj);omega
  subst this
  exact at_of hx8 0
 have X9:=X8.keep K9
 rw[ra7] at q9
 obtain⟨d9,rfl⟩:=one_list q9
 have n9:=F9.len
 have bd9:=(F9.d _ (mem_singleton.2 rfl)).1
 obtain⟨b9,ha9,hr9,g3,g4,g5,_⟩:=rec_at (L1:=[]) F9.b
 refine⟨λ_=>⟨b9,0,ha9,hr9,d9,g4,ba [120,121,122,117],row1 bd9.row,λ_=>⟨b9,0,ha9,hr9,4,g5,λ_=>?_,λhne=>absurd rfl hne⟩,λhne=>absurd rfl hne⟩,λhne=>absurd (by rw[n9];rfl) hne⟩
 refine new_p (R0 h9) (by decide) (λx hx=>by cases hx) (λhno=>by rw[show newOk 0 (([]:List (Sl×RawF)).map (·.2))=true from rn0] at hno;cases hno) (λ_ k1 C kk1 m1 y1=>⟨_,0,rfl,okPtr_none _ _,λhe=>(by cases he),λ_=>⟨λ_=>?_,λhne=>absurd rfl hne⟩⟩)
 have Y1:PN h k1 C sa0:=⟨y1,X9.K.trans kk1,λk hk=>X9.K.dom k (m1 k hk)⟩
 refine fail_p Y1.P λk2 y2 t2=>?_
 have Y2:PN h k2 C sb1:=Y1.step y2 t2
 refine create_p Y2.P db1.ok (by decide) (by decide) λk3 C3 c3 y3 t3=>⟨_,rfl,λ_=>?_,λhne=>absurd rb2 hne⟩
 have Y3:PN h k3 C3 sb2:=Y2.step y3 t3
 rw[<- c3]
 refine lit_append (v:=[49,50,51,52,53]) Y3 db2.ok (by decide) (by decide) λk4 C4 c4 Y4=>⟨_,rfl,λ_=>?_,λhne=>absurd rb3 hne⟩
 have Y4:PN h k4 C4 sb3:=Y4
 rw[<- c4]
 refine delete_p Y4.P db3.ok (by decide) (by have:=db3.c;omega) λk5 C5 c5 y5 t5=>⟨_,rfl,λ_=>?_,λhne=>absurd rb4 hne⟩
 have Y5:PN h k5 C5 sb4:=Y4.step y5 t5
 rw[<- c5]
 refine delete_p Y5.P db4.ok (by decide) (by have:=db4.c;omega) λk6 C6 c6 y6 t6=>⟨_,rfl,λ_=>?_,λhne=>absurd rb5 hne⟩
 have Y6:PN h k6 C6 sb5:=Y5.step y6 t6
 rw[<- c6]
 refine read_p (s:=xx) Y6.P db5.ok (by decide) λk7 r7 kk7 b7 _=>⟨r7,_,rfl,λ_=>⟨ba [49,50],?_,λ_=>hQ k7 (Y6.K.trans kk7),λhne=>absurd rfl hne⟩,λhne=>absurd (by rw[rb6]) hne⟩
 rw[rb6] at b7
 exact row1 b7.row
end
end Go.Eng.YtekflkpnpibneaaGreatDoor
end
section
namespace Go.Eng.YtekflkpnpibneaaGreatDoor
theorem rawOk_all:∀ {l:List RawF} {i:Nat} {d:Dir},rawOk i d l=true->∀ f∈l,nameOk f.nm=true/\(f.data.length:Int)<=2147483648/\0<=f.sure/\f.sure<=(f.data.length:Int)
 |[],i,d,_,f,hf=>by cases hf
 |x::l,i,d,h,f,hf=>by
  have h':(x.ok d && rawOk (i+1) (dins d x.nm i) l)=true:=h
  rw[Bool.and_eq_true] at h'
  rcases mem_cons.1 hf with rfl|hf
  ·have:=h'.1
   unfold RawF.ok at this
   simp only[Bool.and_eq_true,decide_eq_true_eq] at this
   exact⟨this.1.1.1.1,this.1.1.2,this.1.2,this.2⟩
  ·exact rawOk_all h'.2 f hf
theorem newOk_dn{room:Int}{l:List RawF}(h:newOk room l=true)(hr:room<=9223372036854775807):DN 0 (fresh room (l.map RawF.f)):=by
 unfold newOk at h
 simp only[Bool.and_eq_true,decide_eq_true_eq] at h
 have ha:=rawOk_all h.1.2
 refine fresh_ok ⟨h.1.1.1,hr⟩ (by rw[length_map];omega) (λf hf=>?_) (λf hf=>?_)
 ·obtain⟨x,hx,rfl⟩:=List.mem_map.1 hf
  exact name_size (ha x hx).1
 ·obtain⟨x,hx,rfl⟩:=List.mem_map.1 hf
  have:=ha x hx
  show x.data.length<=_/\x.sure.toNat<=x.data.length
  omega
theorem fs_map(L:List (Sl×RawF)):(L.map λx=>x.2.f)=(L.map (·.2)).map RawF.f:=by rw[List.map_map];rfl
structure LA(h:Hp)(room:Int)(l:Sl)(L:List (Sl×RawF)):Prop where
 R:RA h l L
 room:room<=9223372036854775807
 nm:∀ x∈L,x.2.nm.size<=9223372036854775807
 len:L.length*48<=140737488355328
 data:∀ x∈L,x.2.data.length<=140737488355328
section
variable{h h' h1 h2:Hp}{Q:Value->Hp->Prop}{room:Int}{l l1:Sl}{L:List (Sl×RawF)}{O:List OpR}
end
end Go.Eng.YtekflkpnpibneaaGreatDoor
end
section
open Go.Proofs
namespace Go.Eng.YtekflkpnpibneaaGreatDoor
open Go.ChangeShapes Go.WideShapes Go.RowKit
def wh(W:World):Hp:=λb=>W.heap[b]?
theorem own_wh(W:World):Own (λ_=>none) (wh W) W:=⟨λ_ _ h=>h,λ_ _ h=>(by cases h),λ_=>.inr rfl⟩
theorem below_of{W W':World}{h':Hp}(hw:Wr W W')(ho:Own (λ_=>none) h' W')(K:Keep (wh W) h'):Below W.heap.size W W':=by
 refine⟨hw.os,hw.tape,hw.output,hw.size,λk hk=>?_⟩
 have h1:wh W k=some W.heap[k]:=by unfold wh;exact Array.getElem?_eq_getElem hk
 have h2:=ho.hh k _ (K k _ h1)
 rw[h2,Array.getElem?_eq_getElem hk]
theorem cell_at{W:World}{b o:Nat}{v:Value}(h:W.cell? ⟨b,o,none⟩=some v):(wh W).at b o=some v:=by
 unfold World.cell? at h
 unfold Hp.at wh
 cases hb:W.heap[b]? with
 |none=>rw[hb] at h;cases h
 |some x=>
  rw[hb] at h
  cases x with
  |cells c t f=>simpa using h
  |_=>cases h
theorem spot_none{W:World}{a:Addr}{v:Value}(h:W.cell? (a.add 0)=some v):a=⟨a.block,a.off,none⟩:=by
 obtain⟨b,o,p⟩:=a
 cases p with
 |none=>rfl
 |some p=>
  exfalso
  unfold World.cell? at h
  simp only[Addr.add,if_pos] at h
  cases hb:W.heap[b]? with
  |none=>rw[hb] at h;cases h
  |some x=>
   rw[hb] at h
   cases x with
   |cells c t f=>simp at h
   |_=>cases h
theorem row_of_cells{W:World}{a:Addr}{n:Nat}{vs:List Value}(hl:vs.length=n)(h:∀ i,(hi:i<n)->W.cell? (a.add i)=vs[i]?):(wh W).row (some a) n vs:=by
 refine⟨hl,?_⟩
 by_cases h0:n=0
 ·exact .inl h0
 right
 have hz:=h 0 (by omega)
 rw[getElem?_eq_getElem (by omega)] at hz
 have ha:=spot_none hz
 refine⟨a.block,a.off,by rw[<- ha],λj hj=>?_⟩
 have hj':=h j hj
 rw[getElem?_eq_getElem (by omega)] at hj' ⊢
 rw[ha,addr_add] at hj'
 exact cell_at hj'
theorem flat_get{α:Type}(f:α->List Value)(n:Nat)(hf:∀ x,(f x).length=n):∀ (l:List α) (i j:Nat) (hi:i<l.length),j<n->(l.flatMap f)[i*n+j]?=(f l[i])[j]?
 |[],i,j,hi,_=>by simp at hi
 |x::l,0,j,hi,hj=>by
  simp only[List.flatMap_cons,Nat.zero_mul,Nat.zero_add,List.getElem_cons_zero]
  rw[getElem?_append_left (by rw[hf];exact hj)]
 |x::l,i+1,j,hi,hj=>by
  simp only[List.flatMap_cons,List.getElem_cons_succ]
  rw[getElem?_append_right (by rw[hf,Nat.add_mul];omega),hf,show(i+1)*n+j-n=i*n+j by rw[Nat.add_mul];omega]
  exact flat_get f n hf l i j (by simpa using hi) hj
theorem flat_length{α:Type}(f:α->List Value)(n:Nat)(hf:∀ x,(f x).length=n)(l:List α):(l.flatMap f).length=l.length*n:=by
 induction l with
 |nil=>simp
 |cons x l ih=>simp only[List.flatMap_cons,length_append,hf,ih,length_cons,Nat.add_mul];omega
theorem add_add'(a:Addr)(m n:Nat):(a.add m).add n=a.add (m+n):=by
 unfold Addr.add
 by_cases h1:m=0
 ·subst h1;simp
 ·by_cases h2:n=0
  ·subst h2;simp[h1]
  ·simp[h1,h2,Nat.add_assoc]
def iI(n:Int):Prop:=-9223372036854775808<=n/\n<9223372036854775808
theorem wf_i64{n:Int}(h:(Lit.int .i64 n).wf=true):iI n:=by
 simp[Lit.wf,IntKind.min,IntKind.max,IntKind.signed,IntKind.bits] at h
 exact⟨by omega,by omega⟩
theorem wf_u8{n:Int}(h:(Lit.int .u8 n).wf=true):0<=n/\n<256:=by
 simp[Lit.wf,IntKind.min,IntKind.max,IntKind.signed,IntKind.bits] at h
 omega
theorem weights_mem_all{H:Type}{P:Program}{e:TypeId}:∀ {E:List (DataW H)} {d:DataW H},d∈E->∀ n∈d.weights P e,n∈DataW.weightsAll P e E
 |x::E,d,hd,n,hn=>by
  simp only[DataW.weightsAll,mem_append]
  rcases mem_cons.1 hd with rfl|hd
  ·exact .inl hn
  ·exact .inr (weights_mem_all hd n hn)
def WB{H:Type}(P:Program)(t:TypeId)(d:DataW H):Prop:=∀ n∈d.weights P t,n<=reachBytes
theorem reach_le{n:Nat}(h:n<=reachBytes):n<=140737488355328:=by have:=reachBytes_lt;omega
section
variable{H:Type}{enc:TypeId×Value->H}{P:Program}{W:World}{base:Nat}{held:Bool}
theorem slice_rowsW{α:Type}{t e:TypeId}{fuel:Nat}{s:Sl}{y:DataW H×List MemPlace}(sz:Nat)(f:α->List Value)(ok:α->Prop)(hsz:0<sz)(ht:P.underlying t=some (.slice e))(hc:P.cellsOf e=sz)(hf:∀ x,(f x).length=sz)
  (each:∀ (fuel:Nat) (cs:List Value) (z:DataW H×List MemPlace),cs.length=sz->DataW.trod enc P W base (λ_=>true) held fuel e cs=some z->WB P e z.1->∃ a,cs=f a/\ok a)
  (h:DataW.trod enc P W base (λ_=>true) held fuel t [.slice s.a s.n s.c]=some y) (hw:WB P t y.1):∃ l:List α,(wh W).row s.a (s.n*sz) (l.flatMap f)/\s.n<=s.c/\(s.a=none->s.n=0)/\l.length=s.n/\(s.n*P.bytesOf e<=reachBytes)/\∀ a∈l,ok a:=by
 rcases DataW.trod_slice ht h with⟨hcs,_⟩|⟨x,len,cap,elems,rest,n,_,hcs,hyy,hb,hl,hm,hlen,hel,_,_⟩
 ·simp only[List.cons.injEq,Value.slice.injEq,and_true] at hcs
  obtain⟨h1,h2,h3⟩:=hcs
  exact⟨[],by rw[h1,h2];exact⟨by simp,.inl (by simp)⟩,by omega,λ_=>h2,by rw[h2];rfl,by rw[h2];omega,λa ha=>(by cases ha)⟩
 ·simp only[List.cons.injEq,Value.slice.injEq,and_true] at hcs
  obtain⟨h1,h2,h3⟩:=hcs
  have hwl:∀ n∈(DataW.slice (elems.map (·.1)) (rest.map (·.1))).weights P t,n<=reachBytes:=by rw[hyy] at hw;exact hw
  have hws:(DataW.slice (elems.map (·.1)) (rest.map (·.1))).weights P t=((elems.map (·.1)).length+(rest.map (·.1)).length)*P.bytesOf e::(DataW.weightsAll P e (elems.map (·.1))++DataW.weightsAll P e (rest.map (·.1))):=by simp[DataW.weights,ht]
  have ea:∀ i:Fin len,∃ a:α,(∀ j,j<sz->W.cell? (x.add (i.1*sz+j))=(f a)[j]?)/\ok a:=by
   rintro⟨i,hi⟩
   have q:=hel i hi
   rw[hc,getElem?_eq_getElem (by omega),Option.bind_eq_some_iff] at q
   obtain⟨cs',hcs',hy⟩:=q
   obtain⟨_,hcl,hcell⟩:=World.cells?_some hcs'
   obtain⟨a,rfl,hok⟩:=each _ _ _ hcl hy (λm hm=>hwl m (by
    rw[hws]
    refine mem_cons_of_mem _ (List.mem_append_left _ (weights_mem_all (List.mem_map_of_mem (List.getElem_mem (l:=elems) (n:=i) (by omega))) m hm))))
   refine⟨a,λj hj=>?_,hok⟩
   rw[<- hcell j hj,add_add']
  obtain⟨g,hg⟩:=Classical.axiomOfChoice ea
  refine⟨List.ofFn g,?_,by omega,λhn=>(by rw[h1] at hn;cases hn),by rw[List.length_ofFn];omega,?_,λa ha=>?_⟩
  ·rw[h1,h2]
   have hll:((List.ofFn g).flatMap f).length=len*sz:=by rw[flat_length f sz hf,List.length_ofFn]
   refine row_of_cells hll λk hk=>?_
   have hi:k / sz<len:=Nat.div_lt_of_lt_mul (by rw[Nat.mul_comm];exact hk)
   have hj:k % sz<sz:=Nat.mod_lt _ hsz
   have hkk:k=k / sz*sz+k % sz:=by rw[Nat.mul_comm];exact(Nat.div_add_mod k sz).symm
   have q:=(hg ⟨k / sz,hi⟩).1 (k % sz) hj
   have q2:=flat_get f sz hf (List.ofFn g) (k / sz) (k % sz) (by rw[List.length_ofFn];exact hi) hj
   simp only at q
   rw[<- hkk] at q q2
   rw[q,q2]
   simp
  ·have:=hwl _ (by rw[hws];exact mem_cons_self)
   rw[length_map,length_map] at this
   exact Nat.le_trans (Nat.mul_le_mul_right _ (by omega)) this
  ·obtain⟨i,rfl⟩:=(List.mem_ofFn ..).1 ha
   exact(hg i).2
theorem some_at{xs:List (DataW H×List MemPlace)}{n i:Nat}(h:xs.length=n)(hi:i<n):∃ y,xs[i]?=some y:=⟨_,getElem?_eq_getElem (by omega)⟩
theorem is_slice{t e:TypeId}{fuel:Nat}{c:Value}{y:DataW H×List MemPlace}(ht:P.underlying t=some (.slice e))(h:DataW.trod enc P W base (λ_=>true) held fuel t [c]=some y):∃ s:Sl,c=.slice s.a s.n s.c:=by
 rcases DataW.trod_slice ht h with⟨hcs,_⟩|⟨x,len,cap,elems,rest,n,_,hcs,_⟩
 ·exact⟨⟨none,0,0⟩,by simpa using hcs⟩
 ·exact⟨⟨some x,len,cap⟩,by simpa using hcs⟩
theorem part_wb{t:TypeId}{fs:Array Field}{xs:List (DataW H×List MemPlace)}{i:Nat}{f:Field}{y:DataW H×List MemPlace}(ht:P.underlying t=some (.struct fs))(hw:WB P t (.agg (xs.map (·.1))))(hf:fs[i]?=some f)(hy:xs[i]?=some y):WB P f.type y.1:=λn hn=>hw n (by
 have e:(DataW.agg (xs.map (·.1))).weights P t=DataW.weightsEach P (fs.toList.map (·.type)) (xs.map (·.1)):=by simp[DataW.weights,ht]
 rw[e]
 exact DataW.weights_mem_each (j:=i) (t:=f.type) (d:=y.1) (by rw[getElem?_map,Array.getElem?_toList,hf];rfl) (by rw[getElem?_map,hy];rfl) n hn)
end
section
variable{H:Type}{enc:TypeId×Value->H}{W:World}{base:Nat}{held:Bool}
theorem flat_one{α:Type}(g:α->Value):∀ l:List α,l.flatMap (λx=>[g x])=l.map g
 |[]=>rfl
 |a::l=>by rw[List.flatMap_cons,flat_one g l];rfl
theorem c3:Tryz.prog.cellsOf 3=1:=by kernel_rfl
theorem c5:Tryz.prog.cellsOf 5=1:=by kernel_rfl
theorem c9:Tryz.prog.cellsOf 9=1:=by kernel_rfl
theorem c37:Tryz.prog.cellsOf 28=1:=by kernel_rfl
theorem c43:Tryz.prog.cellsOf 53=1:=by kernel_rfl
theorem c45:Tryz.prog.cellsOf 70=8:=by kernel_rfl
theorem c60:Tryz.prog.cellsOf 55=3:=by kernel_rfl
theorem b3:Tryz.prog.bytesOf 3=8:=by kernel_rfl
theorem b5:Tryz.prog.bytesOf 5=1:=by kernel_rfl
theorem b60:Tryz.prog.bytesOf 55=48:=by kernel_rfl
theorem b45:Tryz.prog.bytesOf 70=112:=by kernel_rfl
theorem int_cell{fuel:Nat}{c:Value}{y:DataW H×List MemPlace}(h:DataW.trod enc Tryz.prog W base (λ_=>true) held fuel 3 [c]=some y):∃ n,c=.int .i64 n/\iI n:=by
 obtain⟨n,hn,_,hw⟩:=DataW.trod_int Tryz.underlying3 h
 exact⟨n,by simpa using hn,wf_i64 hw⟩
theorem str_cell {fuel : Nat} {c : Value} {y : DataW H × List MemPlace} (h : DataW.trod enc Tryz.prog W base (fun _ => true) held fuel 9 [c] = some y) : ∃ s : ByteArray, c = .string s ∧ s.size ≤ 9223372036854775807 := by
  obtain ⟨s, hn, _, hw⟩ := DataW.trod_string Tryz.underlying9 h
  exact ⟨s, by simpa using hn, by have : maxLen = 9223372036854775807 := by decide
                                  omega⟩
theorem bytes_cell{fuel:Nat}{c:Value}{y:DataW H×List MemPlace}(h:DataW.trod enc Tryz.prog W base (λ_=>true) held fuel 53 [c]=some y)(hw:WB Tryz.prog 53 y.1):∃ (s:Sl) (v:List UInt8),c=.slice s.a s.n s.c/\(wh W).row s.a (s.n*1) (bl v)/\s.n<=s.c/\(s.a=none->s.n=0)/\v.length<=140737488355328:=by
 obtain⟨s,rfl⟩:=is_slice Tryz.underlying53 h
 obtain⟨l,r,hc,hn,hl,hb,_⟩:=slice_rowsW 1 (λb:UInt8=>[Value.int .u8 (b.toNat:Int)]) (λ_=>True) (by decide) Tryz.underlying53 c5 (λ_=>rfl) (λfuel cs z hl h _=>by
  rcases cs with _|⟨a,_|⟨a1,cs⟩⟩
  ·cases hl
  ·obtain⟨n,hn,_,hw⟩:=DataW.trod_int Tryz.underlying5 h
   have hb:=wf_u8 hw
   refine⟨UInt8.ofNat n.toNat,?_,trivial⟩
   have e:((UInt8.ofNat n.toNat).toNat:Int)=n:=by
    have:(UInt8.ofNat n.toNat).toNat=n.toNat:=by
     rw[UInt8.toNat_ofNat']
     omega
    rw[this];omega
   rw[e];exact hn
  ·simp at hl) h hw
 rw[b5,Nat.mul_one] at hb
 refine⟨s,l,rfl,?_,hc,hn,by rw[hl];exact reach_le hb⟩
 rw[flat_one] at r
 exact r
theorem ints_cell{fuel:Nat}{c:Value}{y:DataW H×List MemPlace}(h:DataW.trod enc Tryz.prog W base (λ_=>true) held fuel 28 [c]=some y)(hw:WB Tryz.prog 28 y.1):∃ (s:Sl) (v:List Int),c=.slice s.a s.n s.c/\(wh W).row s.a (s.n*1) (v.map λk=>Value.int .i64 k)/\v.length<=140737488355328:=by
 obtain⟨s,rfl⟩:=is_slice Tryz.underlying28 h
 obtain⟨l,r,hc,hn,hl,hb,_⟩:=slice_rowsW 1 (λk:Int=>[Value.int .i64 k]) (λ_=>True) (by decide) Tryz.underlying28 c3 (λ_=>rfl) (λfuel cs z hl h _=>by
  rcases cs with _|⟨a,_|⟨a1,cs⟩⟩
  ·cases hl
  ·obtain⟨n,rfl,_⟩:=int_cell h
   exact⟨n,rfl,trivial⟩
  ·simp at hl) h hw
 rw[b3] at hb
 refine⟨s,l,rfl,?_,by have:=reach_le hb;omega⟩
 rw[flat_one] at r
 exact r
def okF(W:World)(x:Sl×RawF):Prop:=(wh W).row x.1.a (x.1.n*1) (bl x.2.data)/\x.1.n<=x.1.c/\(x.1.a=none->x.1.n=0)/\x.2.nm.size<=9223372036854775807/\x.2.data.length<=140737488355328
theorem file_each(fuel:Nat)(cs:List Value)(z:DataW H×List MemPlace)(hl:cs.length=3)(h:DataW.trod enc Tryz.prog W base (λ_=>true) held fuel 55 cs=some z)(hw:WB Tryz.prog 55 z.1):∃ x:Sl×RawF,cs=rcell x/\okF W x:=by
 obtain⟨xs,n,_,rfl,_,hxs,hf⟩:=DataW.trod_struct Tryz.underlying55 h
 rcases cs with _|⟨a0,_|⟨a1,_|⟨a2,_|⟨a3,cs⟩⟩⟩⟩
 case cons.cons.cons.nil=>
  obtain⟨y0,h0⟩:=some_at hxs (i:=0) (by decide)
  obtain⟨y1,h1⟩:=some_at hxs (i:=1) (by decide)
  obtain⟨y2,h2⟩:=some_at hxs (i:=2) (by decide)
  have f0:DataW.trod enc Tryz.prog W base (λ_=>true) held n 9 (([a0,a1,a2].drop 0).take (Tryz.prog.cellsOf 9))=xs[0]?:=hf 0 _ rfl
  have f1:DataW.trod enc Tryz.prog W base (λ_=>true) held n 53 (([a0,a1,a2].drop 1).take (Tryz.prog.cellsOf 53))=xs[1]?:=hf 1 _ rfl
  have f2:DataW.trod enc Tryz.prog W base (λ_=>true) held n 3 (([a0,a1,a2].drop 2).take (Tryz.prog.cellsOf 3))=xs[2]?:=hf 2 _ rfl
  rw[c9,h0] at f0
  rw[c43,h1] at f1
  rw[c3,h2] at f2
  obtain⟨s,rfl,hs⟩:=str_cell (c:=a0) f0
  obtain⟨d,v,rfl,hr,hc,hn,hv⟩:=bytes_cell (c:=a1) f1 (part_wb Tryz.underlying55 hw (i:=1) rfl h1)
  obtain⟨k,rfl,_⟩:=int_cell (c:=a2) f2
  exact⟨(d,⟨s,v,k⟩),rfl,hr,hc,hn,hs,hv⟩
 all_goals simp at hl
def okO(W:World)(x:OpR):Prop:=((wh W).row x.d.a (x.d.n*1) (bl x.o.data)/\x.d.n<=x.d.c/\(wh W).row x.k.a (x.k.n*1) (x.o.keep.map λk=>Value.int .i64 k))/\x.o.nm.size<=9223372036854775807/\x.o.to.size<=9223372036854775807/\x.o.a<=9223372036854775807/\x.o.b<=9223372036854775807/\x.o.c<=9223372036854775807/\x.o.data.length<=140737488355328/\x.o.keep.length<=140737488355328
theorem op_each(fuel:Nat)(cs:List Value)(z:DataW H×List MemPlace)(hl:cs.length=8)(h:DataW.trod enc Tryz.prog W base (λ_=>true) held fuel 70 cs=some z)(hw:WB Tryz.prog 70 z.1):∃ x:OpR,cs=ocell x/\okO W x:=by
 obtain⟨xs,n,_,rfl,_,hxs,hf⟩:=DataW.trod_struct Tryz.underlying70 h
 rcases cs with _|⟨a0,_|⟨a1,_|⟨a2,_|⟨a3,_|⟨a4,_|⟨a5,_|⟨a6,_|⟨a7,_|⟨a8,cs⟩⟩⟩⟩⟩⟩⟩⟩⟩
 case cons.cons.cons.cons.cons.cons.cons.cons.nil=>
  obtain⟨y0,h0⟩:=some_at hxs (i:=0) (by decide)
  have f0:DataW.trod enc Tryz.prog W base (λ_=>true) held n 3 (([a0,a1,a2,a3,a4,a5,a6,a7].drop 0).take (Tryz.prog.cellsOf 3))=xs[0]?:=hf 0 _ rfl
  rw[c3,h0] at f0
  obtain⟨y1,h1⟩:=some_at hxs (i:=1) (by decide)
  have f1:DataW.trod enc Tryz.prog W base (λ_=>true) held n 9 (([a0,a1,a2,a3,a4,a5,a6,a7].drop 1).take (Tryz.prog.cellsOf 9))=xs[1]?:=hf 1 _ rfl
  rw[c9,h1] at f1
  obtain⟨y2,h2⟩:=some_at hxs (i:=2) (by decide)
  have f2:DataW.trod enc Tryz.prog W base (λ_=>true) held n 9 (([a0,a1,a2,a3,a4,a5,a6,a7].drop 2).take (Tryz.prog.cellsOf 9))=xs[2]?:=hf 2 _ rfl
  rw[c9,h2] at f2
  obtain⟨y3,h3⟩:=some_at hxs (i:=3) (by decide)
  have f3:DataW.trod enc Tryz.prog W base (λ_=>true) held n 53 (([a0,a1,a2,a3,a4,a5,a6,a7].drop 3).take (Tryz.prog.cellsOf 53))=xs[3]?:=hf 3 _ rfl
  rw[c43,h3] at f3
  obtain⟨y4,h4⟩:=some_at hxs (i:=4) (by decide)
  have f4:DataW.trod enc Tryz.prog W base (λ_=>true) held n 3 (([a0,a1,a2,a3,a4,a5,a6,a7].drop 4).take (Tryz.prog.cellsOf 3))=xs[4]?:=hf 4 _ rfl
  rw[c3,h4] at f4
  obtain⟨y5,h5⟩:=some_at hxs (i:=5) (by decide)
  have f5:DataW.trod enc Tryz.prog W base (λ_=>true) held n 3 (([a0,a1,a2,a3,a4,a5,a6,a7].drop 5).take (Tryz.prog.cellsOf 3))=xs[5]?:=hf 5 _ rfl
  rw[c3,h5] at f5
  obtain⟨y6,h6⟩:=some_at hxs (i:=6) (by decide)
  have f6:DataW.trod enc Tryz.prog W base (λ_=>true) held n 3 (([a0,a1,a2,a3,a4,a5,a6,a7].drop 6).take (Tryz.prog.cellsOf 3))=xs[6]?:=hf 6 _ rfl
  rw[c3,h6] at f6
  obtain⟨y7,h7⟩:=some_at hxs (i:=7) (by decide)
  have f7:DataW.trod enc Tryz.prog W base (λ_=>true) held n 28 (([a0,a1,a2,a3,a4,a5,a6,a7].drop 7).take (Tryz.prog.cellsOf 28))=xs[7]?:=hf 7 _ rfl
  rw[c37,h7] at f7
  obtain⟨k0,rfl,_⟩:=int_cell (c:=a0) f0
  obtain⟨s1,rfl,z1⟩:=str_cell (c:=a1) f1
  obtain⟨s2,rfl,z2⟩:=str_cell (c:=a2) f2
  obtain⟨d,v,rfl,hr,hc,hn,hv⟩:=bytes_cell (c:=a3) f3 (part_wb Tryz.underlying70 hw (i:=3) rfl h3)
  obtain⟨k4,rfl,z4⟩:=int_cell (c:=a4) f4
  obtain⟨k5,rfl,z5⟩:=int_cell (c:=a5) f5
  obtain⟨k6,rfl,z6⟩:=int_cell (c:=a6) f6
  obtain⟨q,u,rfl,hr7,hu⟩:=ints_cell (c:=a7) f7 (part_wb Tryz.underlying70 hw (i:=7) rfl h7)
  unfold iI at z4 z5 z6
  exact⟨⟨d,q,⟨k0,s1,s2,v,k4,k5,k6,u⟩⟩,rfl,⟨hr,hc,hr7⟩,z1,z2,by show k4<=_;omega,by show k5<=_;omega,by show k6<=_;omega,hv,hu⟩
 all_goals simp at hl
theorem open_files{fuel:Nat}{a:Option Addr}{len cap:Nat}{y:DataW H×List MemPlace}{room:Int}(h:DataW.trod enc Tryz.prog W base (λ_=>true) held fuel 22 [.slice a len cap]=some y)(hw:WB Tryz.prog 22 y.1)(hr:room<=9223372036854775807):∃ L,LA (wh W) room ⟨a,len,cap⟩ L/\L.length*48<=140737488351232:=by
 obtain⟨L,r,_,_,hl,hb,k⟩:=slice_rowsW (s:=⟨a,len,cap⟩) 3 rcell (okF W) (by decide) Tryz.underlying22 c60 (λ_=>rfl) file_each h hw
 rw[b60] at hb
 exact⟨L,⟨⟨r,λx hx=>⟨(k x hx).1,(k x hx).2.1,(k x hx).2.2.1⟩⟩,hr,λx hx=>(k x hx).2.2.2.1,by rw[hl];exact reach_le hb,λx hx=>(k x hx).2.2.2.2⟩,by rw[hl];exact hb⟩
theorem open_ops{fuel:Nat}{a:Option Addr}{len cap:Nat}{y:DataW H×List MemPlace}(h:DataW.trod enc Tryz.prog W base (λ_=>true) held fuel 23 [.slice a len cap]=some y)(hw:WB Tryz.prog 23 y.1):∃ O,OA (wh W) ⟨a,len,cap⟩ O/\O.length<=140737488355328:=by
 obtain⟨O,r,_,_,hl,hb,k⟩:=slice_rowsW (s:=⟨a,len,cap⟩) 8 ocell (okO W) (by decide) Tryz.underlying23 c45 (λ_=>rfl) op_each h hw
 rw[b45] at hb
 exact⟨O,⟨r,λx hx=>(k x hx).1,λx hx=>(k x hx).2⟩,by have:=reach_le hb;omega⟩
theorem wb_arg{ts:List TypeId}{ds:List (DataW H)}(h:(DataW.weightsEach Tryz.prog ts ds).all (·<=reachBytes)=true){j:Nat}{t:TypeId}{d:DataW H}(ht:ts[j]?=some t)(hd:ds[j]?=some d):WB Tryz.prog t d:=λn hn=>by
 have:=List.all_eq_true.1 h _ (DataW.weights_mem_each ht hd n hn)
 simpa using this
end
end Go.Eng.YtekflkpnpibneaaGreatDoor
end
