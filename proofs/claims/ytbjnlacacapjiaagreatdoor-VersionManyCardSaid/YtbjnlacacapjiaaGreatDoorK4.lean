/-
  JOINED.
-/
import Derived.Test.YtbjnlacacapjiaaGreatDoorK3
import Derived.Sort.AssemblyPlain
set_option linter.unusedSimpArgs false
set_option linter.unusedVariables false
set_option maxRecDepth 100000
open Go.IntKind (wrap)
open List (length_append length_map length_cons eq_nil_of_length_eq_zero mem_of_getElem? mem_cons_self getElem?_eq_getElem getElem?_map map_append mem_cons_of_mem length_singleton map_cons length_replicate length_take length_set length_nil mem_cons mem_append mem_singleton append_nil pairwise_cons)
section
namespace Go.Eng.YtbjnlacacapjiaaGreatDoor
def iI(n:Int):Prop:=-9223372036854775808<=n/\n<9223372036854775808
structure Raw(e:Edit):Prop where
 log:okU e.log
 next:okU e.next
 seq:okU e.seq
 out:∀ p∈e.out,iI p.lv/\okU p.num
 inn:∀ p∈e.inn,iI p.lv/\okU p.num/\iI p.weight/\iI p.bytes/\iI p.entries/\p.least.size<=9223372036854775807/\p.greatest.size<=9223372036854775807
 ptr:∀ p∈e.ptr,p.size<=9223372036854775807
structure Args(h:Hp)(l:Sl)(L:List EdS):Prop where
 row:h.row l.a (l.n*6) (edV L)
 at_:∀ x∈L,EdAt h x.e x.a x.b x.c
 raw:∀ x∈L,Raw x.e
 big:∀ x∈L,x.e.out.length<=9223372036854775807/\x.e.inn.length<=9223372036854775807/\x.e.ptr.length<=9223372036854775807
def adv(c m:Int):Int:=if 0<=c then c-m else c
def parts(L:List EdS):Nat:=(L.map λx=>1+x.e.out.length+x.e.inn.length+x.e.ptr.length).sum
end Go.Eng.YtbjnlacacapjiaaGreatDoor
end
section
namespace Go.Eng.YtbjnlacacapjiaaGreatDoor
structure Three(h:Hp)(x:EdS):Prop where
 a:Buf h x.a 2 116 (outV x.e.out)
 b:Buf h x.b 7 148 (inV x.e.inn)
 c:Buf h x.c 1 9 (ptrV x.e.ptr)
def Ap(y z:EdS):Prop:=Off y.a z.a/\Off y.b z.b/\Off y.c z.c
def PW(L:List EdS):Prop:=L.Pairwise λy z=>Ap y z/\Ap z y
structure Ws(h0 h:Hp)(l1:Sl)(L:List EdS):Prop where
 B:Buf h l1 6 70 (edV L)
 T:∀ y∈L,Three h y
 N:∀ y∈L,(y.a.a=none\/New h0 y.a)/\(y.b.a=none\/New h0 y.b)/\(y.c.a=none\/New h0 y.c)
 N1:l1.a=none\/New h0 l1
 K:Keep h0 h
theorem buf_set{h:Hp}{s:Sl}{sz t k:Nat}{vs:List Value}(B:Buf h s sz t vs)(hk:k<vs.length):∃ b,s.a=some ⟨b,0,none⟩/\h.at b k=vs[k]?/\h.canW b k 1/\∀ v,Upd h (h.wr b k [v]) s s/\Buf (h.wr b k [v]) s sz t (vs.set k v):=by
 rcases B.own with⟨ha,hc⟩|⟨b,c,f,ha,hb,hsz,hf,ht⟩
 ·have h1:=B.len
  have h2:=B.cap
  have:s.n=0:=by omega
  rw[this,Nat.zero_mul] at h1
  omega
 ·have hlen:vs.length<=c.size:=by
   rw[B.len]
   exact Nat.le_trans (Nat.mul_le_mul_right _ B.cap) hsz
  have hget:c[k]?=vs[k]?:=by
   rw[<- ht,List.getElem?_take,if_pos hk,Array.getElem?_toList]
  refine⟨b,ha,by unfold Hp.at;rw[hb];exact hget,⟨c,t,f,hb,by omega,λj h1 h2=>hf j (by omega)⟩,λv=>⟨⟨λj x hj e=>?_,.inl rfl,λj e=>?_⟩,⟨by rw[length_set];exact B.len,B.cap,.inr ⟨b,(setL c.toList k [v]).toArray,f,ha,wr_at hb,?_,?_,?_⟩⟩⟩⟩
  ·have hjb:j≠b:=λq=>hj 0 (by rw[q];exact ha)
   unfold Hp.wr
   rw[if_neg hjb]
   exact e
  ·unfold Hp.wr at e
   by_cases hjb:j=b
   ·rw[if_pos hjb,hb] at e;cases e
   ·rw[if_neg hjb] at e;exact e
  ·simp only[List.size_toArray,setL_length,Array.length_toList];exact hsz
  ·intro j hj
   simp only[List.size_toArray,setL_length,Array.length_toList] at hj
   exact hf j hj
  ·show((c.toList.set k v).take (vs.set k v).length)=vs.set k v
   rw[length_set,List.take_set,ht]
theorem outV_len(o:List Place):(outV o).length=o.length*2:=flat_length Place.cells 2 (λ_=>rfl) o
theorem inV_len(o:List Placed):(inV o).length=o.length*7:=flat_length Placed.cells 7 (λ_=>rfl) o
end Go.Eng.YtbjnlacacapjiaaGreatDoor
end
section
namespace Go.Eng.YtbjnlacacapjiaaGreatDoor
theorem setL_app:∀ (V A U B:List Value),U.length=V.length->setL (A++(U++B)) A.length V=A++(V++B)
 |[],A,U,B,h=>by
  have:U=[]:=eq_nil_of_length_eq_zero h
  subst this;rfl
 |v::V,A,[],B,h=>(by cases h)
 |v::V,A,u::U,B,h=>by
  unfold setL
  have e:(A++(u::U++B)).set A.length v=(A++[v])++(U++B):=by simp
  have l:A.length+1=(A++[v]).length:=by simp
  rw[e,l,setL_app V (A++[v]) U B (by simpa using h)]
  simp
theorem bufWr{h:Hp}{s:Sl}{sz t:Nat}{A U V B:List Value}(Bf:Buf h s sz t (A++(U++B)))(hu:U.length=V.length)(h0:0<U.length):∃ b,s.a=some ⟨b,0,none⟩/\h.canW b A.length V.length/\Upd h (h.wr b A.length V) s s/\Buf (h.wr b A.length V) s sz t (A++(V++B)):=by
 have hlen0:(A++(U++B)).length=A.length+(U.length+B.length):=by simp
 have hlen1:(A++(V++B)).length=A.length+(U.length+B.length):=by simp[hu]
 rcases Bf.own with⟨ha,hc⟩|⟨b,c,f,ha,hb,hsz,hf,ht⟩
 ·have h1:=Bf.len
  have h2:=Bf.cap
  have:s.n=0:=by omega
  rw[this,Nat.zero_mul] at h1
  omega
 ·have hcl:(A++(U++B)).length<=c.size:=by
   rw[Bf.len]
   exact Nat.le_trans (Nat.mul_le_mul_right _ Bf.cap) hsz
  have hct:c.toList=A++(U++(B++c.toList.drop (A++(U++B)).length)):=by
   have:=List.take_append_drop (A++(U++B)).length c.toList
   rw[ht] at this
   rw[<- this]
   simp
  refine⟨b,ha,⟨c,t,f,hb,by omega,λj h1 h2=>hf j (by omega)⟩,⟨λj x hj e=>?_,.inl rfl,λj e=>?_⟩,⟨by rw[hlen1,<- hlen0];exact Bf.len,Bf.cap,.inr ⟨b,(setL c.toList A.length V).toArray,f,ha,wr_at hb,?_,?_,?_⟩⟩⟩
  ·have hjb:j≠b:=λq=>hj 0 (by rw[q];exact ha)
   unfold Hp.wr
   rw[if_neg hjb]
   exact e
  ·unfold Hp.wr at e
   by_cases hjb:j=b
   ·rw[if_pos hjb,hb] at e;cases e
   ·rw[if_neg hjb] at e;exact e
  ·simp only[List.size_toArray,setL_length,Array.length_toList];exact hsz
  ·intro j hj
   simp only[List.size_toArray,setL_length,Array.length_toList] at hj
   exact hf j hj
  ·show((setL c.toList A.length V).take (A++(V++B)).length)=A++(V++B)
   rw[hct,setL_app V A U _ hu,show A++(V++(B++c.toList.drop (A++(U++B)).length))=(A++(V++B))++c.toList.drop (A++(U++B)).length by simp,List.take_left' rfl]
def lcmp:List UInt8->List UInt8->Int:=Go.Lib.compareBytes
theorem lcmp_cons(a b:UInt8)(l m:List UInt8):lcmp (a::l) (b::m)=if a<b then -1 else if b<a then 1 else lcmp l m:=rfl
theorem u8_tri(a b:UInt8):a<b\/b<a\/a=b:=by
 rcases Nat.lt_trichotomy a.toNat b.toNat with h|h|h
 ·exact .inl h
 ·exact .inr (.inr (UInt8.toNat_inj.1 h))
 ·exact .inr (.inl h)
theorem u8_irr{a:UInt8}:¬ a<a:=λh=>Nat.lt_irrefl _ (show a.toNat<a.toNat from h)
theorem u8_asym{a b:UInt8}(h:a<b):¬ b<a:=λk=>Nat.lt_asymm (show a.toNat<b.toNat from h) k
theorem u8_trans{a b c:UInt8}(h:a<b)(k:b<c):a<c:=Nat.lt_trans (show a.toNat<b.toNat from h) k
theorem lcmp_flip:∀ l m,lcmp l m=- lcmp m l
 |[],[]=>rfl
 |[],_::_=>rfl
 |_::_,[]=>rfl
 |a::l,b::m=>by
  rw[lcmp_cons,lcmp_cons]
  rcases u8_tri a b with h|h|rfl
  ·rw[if_pos h,if_neg (u8_asym h),if_pos h]
  ·rw[if_neg (u8_asym h),if_pos h,if_pos h];rfl
  ·rw[if_neg u8_irr,if_neg u8_irr,if_neg u8_irr,if_neg u8_irr,lcmp_flip l m]
theorem lcmp_zero:∀ l m,lcmp l m=0->l=m
 |[],[],_=>rfl
 |[],_::_,h=>(by cases h)
 |_::_,[],h=>(by cases h)
 |a::l,b::m,h=>by
  rw[lcmp_cons] at h
  rcases u8_tri a b with k|k|rfl
  ·rw[if_pos k] at h;cases h
  ·rw[if_neg (u8_asym k),if_pos k] at h;cases h
  ·rw[if_neg u8_irr,if_neg u8_irr] at h;rw[lcmp_zero l m h]
theorem lcmp_trans:∀ l m n,lcmp l m<0->lcmp m n<0->lcmp l n<0
 |[],[],_,h,_=>(by cases h)
 |_::_,[],_,h,_=>absurd h (by decide:¬ (1:Int)<0)
 |[],_::_,[],_,k=>absurd k (by decide:¬ (1:Int)<0)
 |[],_::_,_::_,_,_=>(by decide:(-1:Int)<0)
 |_::_,_::_,[],_,k=>absurd k (by decide:¬ (1:Int)<0)
 |a::l,b::m,c::n,h,k=>by
  rw[lcmp_cons] at h k ⊢
  rcases u8_tri a b with x|x|rfl
  ·rcases u8_tri b c with y|y|rfl
   ·rw[if_pos (u8_trans x y)];decide
   ·rw[if_neg (u8_asym y),if_pos y] at k;exact absurd k (by decide)
   ·rw[if_pos x];decide
  ·rw[if_neg (u8_asym x),if_pos x] at h;exact absurd h (by decide)
  ·rw[if_neg u8_irr,if_neg u8_irr] at h
   rcases u8_tri a c with y|y|rfl
   ·rw[if_pos y];decide
   ·rw[if_neg (u8_asym y),if_pos y] at k;exact absurd k (by decide)
   ·rw[if_neg u8_irr,if_neg u8_irr] at k ⊢
    exact lcmp_trans l m n h k
def Bl(a b:ByteArray):Prop:=cmpI a b<0
theorem cmpI_eq(a b:ByteArray):cmpI a b=lcmp a.data.toList b.data.toList:=rfl
theorem Bl.trans{a b c:ByteArray}(h:Bl a b)(k:Bl b c):Bl a c:=lcmp_trans _ _ _ h k
theorem Bl.asym{a b:ByteArray}(h:Bl a b):¬ Bl b a:=by
 unfold Bl at h ⊢
 rw[cmpI_eq,lcmp_flip] at h
 rw[cmpI_eq]
 omega
theorem Bl.irr{a:ByteArray}:¬ Bl a a:=λh=>h.asym h
theorem bl_tri(a b:ByteArray):Bl a b\/Bl b a\/a=b:=by
 unfold Bl
 have h:=lcmp_flip a.data.toList b.data.toList
 rw[cmpI_eq,cmpI_eq]
 rcases Int.lt_trichotomy (lcmp a.data.toList b.data.toList) 0 with k|k|k
 ·exact .inl k
 ·right;right
  have:=lcmp_zero _ _ k
  exact ByteArray.ext (Array.ext' this)
 ·exact .inr (.inl (by omega))
def Le(a b:ByteArray):Prop:=¬ Bl b a
theorem Le.refl(a:ByteArray):Le a a:=Bl.irr
theorem Le.of{a b:ByteArray}(h:Bl a b):Le a b:=h.asym
theorem Le.trans{a b c:ByteArray}(h:Le a b)(k:Le b c):Le a c:=by
 intro hc
 rcases bl_tri a b with x|x|rfl
 ·exact k (hc.trans x)
 ·exact h x
 ·exact k hc
theorem Le.bl{a b c:ByteArray}(h:Le a b)(k:Bl b c):Bl a c:=by
 rcases bl_tri a b with x|x|rfl
 ·exact x.trans k
 ·exact absurd x h
 ·exact k
theorem bytesLess_eq:∀ l m,Op.bytesLess l m=decide (lcmp l m<0)
 |[],[]=>rfl
 |_::_,[]=>rfl
 |[],_::_=>rfl
 |a::l,b::m=>by
  rw[lcmp_cons]
  unfold Op.bytesLess
  rcases u8_tri a b with h|h|rfl
  ·rw[if_pos h,decide_eq_true h];rfl
  ·have hne:(a == b)=false:=by
    rw[beq_eq_false_iff_ne];rintro rfl;exact u8_irr h
   rw[if_neg (u8_asym h),if_pos h,decide_eq_false (u8_asym h),hne];rfl
  ·rw[if_neg u8_irr,if_neg u8_irr,decide_eq_false u8_irr,beq_self_eq_true,bytesLess_eq l m];rfl
theorem sLt_bl(a b:ByteArray):sLt a b↔Bl a b:=by
 unfold sLt Bl
 rw[ByteArray.toList_eq,ByteArray.toList_eq,bytesLess_eq,decide_eq_true_eq]
 rfl
structure Tab where
 num:Int
 weight:Int
 bytes:Int
 entries:Int
 least:ByteArray
 greatest:ByteArray
def Tab.cells(t:Tab):List Value:=[.int .u64 t.num,.int .i64 t.weight,.int .i64 t.bytes,.int .i64 t.entries,.string t.least,.string t.greatest]
def tabV(ts:List Tab):List Value:=ts.flatMap Tab.cells
theorem tabV_len(ts:List Tab):(tabV ts).length=ts.length*6:=flat_length Tab.cells 6 (λ_=>rfl) ts
def TB(h:Hp)(l:Sl)(ts:List Tab):Prop:=Buf h l 6 63 (tabV ts)
theorem TB.n{h:Hp}{l:Sl}{ts:List Tab}(B:TB h l ts):l.n=ts.length:=by
 have:=Buf.len B;rw[tabV_len] at this;omega
theorem tab_rd{h:Hp}{l:Sl}{P R:List Tab}{t:Tab}(hr:h.row l.a (l.n*6) (tabV (P++t::R))){i:Int}(hi:i=(P.length:Int)){K:Nat->Nat->Int->Int->Int->Int->ByteArray->ByteArray->Prop}(hK:∀ b o,K b o t.num t.weight t.bytes t.entries t.least t.greatest) :
  ∃ b o,(l.a:Option Addr)=some ⟨b,o,none⟩/\((0:Int)<=i/\i<(l.n:Int))/\∃ n4:Int,h.at b (o+i.toNat*6)=some (.int .u64 n4)/\∃ n5:Int,h.at b ((o+i.toNat*6)+1)=some (.int .i64 n5)/\∃ n6:Int,h.at b ((o+i.toNat*6)+2)=some (.int .i64 n6)/\∃ n7:Int,h.at b ((o+i.toNat*6)+3)=some (.int .i64 n7)/\∃ s:ByteArray,h.at b ((o+i.toNat*6)+4)=some (.string s)/\∃ s1:ByteArray,h.at b ((o+i.toNat*6)+5)=some (.string s1)/\K b o n4 n5 n6 n7 s s1:=by
 subst hi
 have hl:=hr.1
 rw[tabV_len,length_append,length_cons] at hl
 obtain⟨b,o,ha,hat⟩:=row_get hr (i:=P.length*6) (by omega)
 have c:∀ j,j<6->h.at b ((o+(P.length:Int).toNat*6)+j)=(Tab.cells t)[j]?:=λj hj=>by
  rw[Int.toNat_natCast,Nat.add_assoc,hat _ (by omega)]
  have:=flat_get Tab.cells 6 (λ_=>rfl) (P++t::R) P.length j (by rw[length_append,length_cons];omega) hj
  rw[List.getElem_append_right (Nat.le_refl _)] at this
  simp only[Nat.sub_self,List.getElem_cons_zero] at this
  exact this
 exact⟨b,o,ha,⟨by omega,by omega⟩,_,c 0 (by decide),_,c 1 (by decide),_,c 2 (by decide),_,c 3 (by decide),_,c 4 (by decide),_,c 5 (by decide),hK b o⟩
theorem TB.rd{h:Hp}{l:Sl}{ts P R:List Tab}{t:Tab}(B:TB h l ts)(e:ts=P++t::R){i:Int}(hi:i=(P.length:Int)){K:Nat->Nat->Int->Int->Int->Int->ByteArray->ByteArray->Prop}(hK:∀ b o,K b o t.num t.weight t.bytes t.entries t.least t.greatest) :
  ∃ b o,(l.a:Option Addr)=some ⟨b,o,none⟩/\((0:Int)<=i/\i<(l.n:Int))/\∃ n4:Int,h.at b (o+i.toNat*6)=some (.int .u64 n4)/\∃ n5:Int,h.at b ((o+i.toNat*6)+1)=some (.int .i64 n5)/\∃ n6:Int,h.at b ((o+i.toNat*6)+2)=some (.int .i64 n6)/\∃ n7:Int,h.at b ((o+i.toNat*6)+3)=some (.int .i64 n7)/\∃ s:ByteArray,h.at b ((o+i.toNat*6)+4)=some (.string s)/\∃ s1:ByteArray,h.at b ((o+i.toNat*6)+5)=some (.string s1)/\K b o n4 n5 n6 n7 s s1:=by
 subst e
 exact tab_rd (Buf.row B) hi hK
theorem TB.wr{h:Hp}{l:Sl}{ts P R:List Tab}{x t:Tab}(B:TB h l ts)(e:ts=P++x::R){i:Int}(hi:i=(P.length:Int)){K:Nat->Nat->Prop}(hK:∀ b,TB (h.wr b (0+i.toNat*6) [.int .u64 t.num,.int .i64 t.weight,.int .i64 t.bytes,.int .i64 t.entries,.string t.least,.string t.greatest]) l (P++t::R)->Upd h (h.wr b (0+i.toNat*6) [.int .u64 t.num,.int .i64 t.weight,.int .i64 t.bytes,.int .i64 t.entries,.string t.least,.string t.greatest]) l l->K b 0) :
  ∃ b o,(l.a:Option Addr)=some ⟨b,o,none⟩/\((0:Int)<=i/\i<(l.n:Int))/\h.canW b (o+i.toNat*6) 6/\K b o:=by
 subst e hi
 have hn:=B.n
 rw[length_append,length_cons] at hn
 have e2:∀ t:Tab,tabV (P++t::R)=tabV P++(t.cells++tabV R):=λt=>by unfold tabV;simp
 have B':Buf h l 6 63 (tabV P++(x.cells++tabV R)):=by rw[<- e2];exact B
 obtain⟨b,ha,hc,U,Bw⟩:=bufWr (V:=t.cells) B' rfl (show 0<6 by decide)
 rw[tabV_len] at hc U Bw
 refine⟨b,0,ha,⟨by omega,by omega⟩,by rw[Nat.zero_add,Int.toNat_natCast];exact hc,hK b ?_ ?_⟩
 ·rw[Nat.zero_add,Int.toNat_natCast]
  show Buf _ l 6 63 (tabV (P++t::R))
  rw[e2];exact Bw
 ·rw[Nat.zero_add,Int.toNat_natCast];exact U
theorem cmp_spec{h:Hp}{x y:Tab}{Q:Value->Hp->Prop}(h1:Bl x.least y.least->∀ n:Int,n<0->Q (.int .i64 n) h)(h2:Le y.least x.least->∀ n:Int,¬ n<0->Q (.int .i64 n) h):F158.T x.num x.weight x.bytes x.entries x.least x.greatest y.num y.weight y.bytes y.entries y.least y.greatest h Q:=by
 unfold F158.T F159.T F211.T F158.G F159.G F211.G
 refine⟨_,rfl,⟨_,rfl,⟨_,rfl,?_⟩⟩⟩
 by_cases hc:Bl x.least y.least
 ·exact h1 hc _ hc
 ·exact h2 hc _ hc
def Srt(ts:List Tab):Prop:=ts.Pairwise λx y=>Le x.least y.least
structure Sv(h h':Hp)(l:Sl)(ts:List Tab):Prop where
 b:TB h' l ts
 up:Upd h h' l l
end Go.Eng.YtbjnlacacapjiaaGreatDoor
end
section
namespace Go.Eng.YtbjnlacacapjiaaGreatDoor
def uvs(vs:List Int):List Value:=vs.map λn=>.int .u64 n
theorem uvs_len(vs:List Int):(uvs vs).length=vs.length:=length_map _
theorem wr64{x:Int}(h0:-1000000000000<=x)(h1:x<=1000000000000):wrap .i64 x=x:=wrap_i64 (by omega) (by omega)
theorem wS{j:Nat}(h:1<=j)(h1:j<=1000000000000):wrap .i64 ((j:Int)-1)=((j-1:Nat):Int):=by rw[wr64 (by omega) (by omega)];omega
theorem wA{j:Nat}(h1:j<=900000000000):wrap .i64 ((j:Int)+1)=((j+1:Nat):Int):=by rw[wr64 (by omega) (by omega)];omega
theorem wP{i j:Nat}(h1:i+j<=1000000000000):wrap .i64 ((i:Int)+(j:Int))=((i+j:Nat):Int):=by rw[wr64 (by omega) (by omega)];omega
theorem wM{i j:Nat}(h:j<=i)(h1:i<=1000000000000):wrap .i64 ((i:Int)-(j:Int))=((i-j:Nat):Int):=by rw[wr64 (by omega) (by omega)];omega
abbrev ltI:=Go.Sort.ltInt
structure Dx(h h':Hp)(l:Sl)(d:Array Int):Prop where
 u:Buf h' l 1 48 (uvs d.toList)
 up:Upd h h' l l
theorem Dx.sz{h h':Hp}{l:Sl}{d:Array Int}(S:Dx h h' l d):d.size=l.n:=by
 have:=S.u.len
 rw[uvs_len,Array.length_toList] at this;omega
theorem Dx.refl{h:Hp}{l:Sl}{d:Array Int}(B:Buf h l 1 48 (uvs d.toList)):Dx h h l d:=⟨B,Upd.refl _ _⟩
theorem Dx.from{a b c:Hp}{l:Sl}{d d':Array Int}(x:Dx a b l d)(y:Dx b c l d'):Dx a c l d':=⟨y.u,x.up.trans y.up⟩
theorem Dx.rd{h g:Hp}{l:Sl}{d:Array Int}(S:Dx h g l d){i:Nat}(hi:i<l.n){K:Nat->Nat->Int->Prop}(hK:∀ b,K b 0 d[i]!):ix l.a (i:Int) l.n λb o=>ldI .u64 g b (o+((i:Nat):Int).toNat) λn=>K b o n:=by
 have hs:=S.sz
 obtain⟨b,ha,hat,_,_⟩:=buf_set S.u (k:=i) (by rw[uvs_len,Array.length_toList];omega)
 refine⟨b,0,ha,⟨by omega,by omega⟩,d[i]!,?_,hK b⟩
 rw[Nat.zero_add,Int.toNat_natCast,hat]
 unfold uvs
 rw[getElem?_map,Array.getElem?_toList,Array.getElem?_eq_getElem (by omega),getElem!_pos d i (by omega)];rfl
theorem Dx.wr{h g:Hp}{l:Sl}{d:Array Int}(S:Dx h g l d){i:Nat}(hi:i<l.n)(v:Int){K:Hp->Prop}(hK:∀ g',Dx h g' l (d.setIfInBounds i v)->K g'):ix l.a (i:Int) l.n λb o=>st g b (o+((i:Nat):Int).toNat) 1 [.int .u64 v] K:=by
 have hs:=S.sz
 obtain⟨b,ha,hat,hc,hw⟩:=buf_set S.u (k:=i) (by rw[uvs_len,Array.length_toList];omega)
 obtain⟨U1,B1⟩:=hw (.int .u64 v)
 refine⟨b,0,ha,⟨by omega,by omega⟩,?_⟩
 dsimp only
 rw[Nat.zero_add,Int.toNat_natCast]
 refine⟨hc,hK _ ⟨?_,S.up.trans U1⟩⟩
 have:(uvs d.toList).set i (.int .u64 v)=uvs (d.setIfInBounds i v).toList:=by unfold uvs;rw[Array.toList_setIfInBounds,List.map_set]
 rw[<- this];exact B1
theorem Dx.swp{h g:Hp}{l:Sl}{d:Array Int}(S:Dx h g l d){i j:Nat}(hi:i<l.n)(hj:j<l.n){K:Hp->Prop}(hK:∀ g',Dx h g' l (Go.Sort.swp d j i)->K g') :
  ix l.a (i:Int) l.n λb o=>ldI .u64 g b (o+((i:Nat):Int).toNat) λn=>ix l.a (j:Int) l.n λb1 o1=>ldI .u64 g b1 (o1+((j:Nat):Int).toNat) λn1=>ix l.a (j:Int) l.n λb2 o2=>st g b2 (o2+((j:Nat):Int).toNat) 1 [.int .u64 n] λg1=>ix l.a (i:Int) l.n λb3 o3=>st g1 b3 (o3+((i:Nat):Int).toNat) 1 [.int .u64 n1] K:=
 S.rd hi λ_=>S.rd hj λ_=>S.wr hj _ λg1 S1=>S1.wr hi _ λg2 S2=>hK g2 S2
theorem less_s{h:Hp}{n n1:Int}{Q:Value->Hp->Prop}(hQ:Q (.bool (ltI n n1)) h):F226.T n n1 h Q:=by
 unfold ltI Go.Sort.ltInt at hQ
 refine⟨λ_=>⟨false,rfl,λh0=>(by cases h0),λ_=>⟨λhl=>?_,λhl=>?_⟩⟩,λh0=>absurd rfl h0⟩
 ·rw[decide_eq_true hl] at hQ;exact hQ
 ·rw[decide_eq_false hl] at hQ;exact hQ
theorem Dx.less{h g:Hp}{l:Sl}{d:Array Int}(S:Dx h g l d){i j:Nat}(hi:i<l.n)(hj:j<l.n){X Y:Hp->Prop}(hX:ltI d[i]! d[j]! = true->X g)(hY:ltI d[i]! d[j]! = false->Y g) :
  ix l.a (i:Int) l.n λb o=>ldI .u64 g b (o+((i:Nat):Int).toNat) λn=>ix l.a (j:Int) l.n λb1 o1=>ldI .u64 g b1 (o1+((j:Nat):Int).toNat) λn1=>F226.T n n1 g λr h3=>retB r (X h3) (Y h3):=
 S.rd hi λ_=>S.rd hj λ_=>less_s ⟨_,rfl,hX,hY⟩
section
open Go.Sort
variable{h:Hp}{l:Sl}{d:Array Int}{a b:Nat}{Q:Value->Hp->Prop}
theorem insertion_s(B:Buf h l 1 48 (uvs d.toList))(hb:b<=l.n)(ha:a<=l.n)(hn:l.n<=100000000000)(hQ:∀ h',Dx h h' l (insertionSort ltI d a b)->Q (.tuple ⟨[]⟩) h'):F220.T l (a:Int) (b:Int) h Q:=by
 unfold F220.T F220.G
 rw[wA (by omega)]
 generalize hD:insertionSort ltI d a b=D at hQ
 unfold insertionSort at hD
 refine⟨λn2 h1=>∃ i d',n2=((i:Nat):Int)/\a+1<=i/\i<=100000000001/\Dx h h1 l d'/\insOuter ltI a b i d'=D,λn2 _=>b-n2.toNat,⟨a+1,d,rfl,Nat.le_refl _,by omega,Dx.refl B,hD⟩,?_⟩
 rintro n2 g1 ⟨i,d1,rfl,i0,i1,S,e⟩
 unfold insOuter at e
 refine⟨λhlt=>?_,λhge=>?_⟩
 ·rw[if_pos (by omega)] at e
  rw[wA (by omega)]
  refine⟨λn3 h2=>∃ j d',n3=((j:Nat):Int)/\a<=j/\j<=i/\Dx h h2 l d'/\insOuter ltI a b (i+1) (insInner ltI a j d')=D,λn3 _=>n3.toNat,⟨i,d1,rfl,by omega,Nat.le_refl _,S,e⟩,?_⟩
  rintro n3 g ⟨j,d2,rfl,j0,j1,S,e⟩
  refine⟨λhlt2=>?_,λhge2=>⟨⟨i+1,d2,rfl,by omega,by omega,S,?_⟩,by dsimp only;omega⟩⟩
  ·obtain⟨k,rfl⟩:∃ k,j=k+1:=⟨j-1,by omega⟩
   unfold insInner at e
   rw[wS (by omega) (by omega)]
   refine S.less (by omega) (by omega) (λhl=>?_) (λhl=>⟨⟨i+1,d2,rfl,by omega,by omega,S,?_⟩,by dsimp only;omega⟩)
   ·refine S.swp (i:=k+1-1) (j:=k+1) (by omega) (by omega) λg' S'=>⟨⟨k+1-1,_,rfl,by omega,by omega,S',?_⟩,by dsimp only;omega⟩
    rw[Nat.add_sub_cancel] at hl ⊢
    rw[if_pos (by rw[hl];simp;omega)] at e
    exact e
   ·rw[Nat.add_sub_cancel] at hl
    rw[if_neg (by rw[hl];simp)] at e
    exact e
  ·cases j with
   |zero=>exact e
   |succ k=>
    unfold insInner at e
    rw[if_neg (by simp;omega)] at e
    exact e
 ·rw[if_neg (by omega)] at e
  subst e
  exact hQ g1 S
theorem reverse_s(B:Buf h l 1 48 (uvs d.toList))(hb:b<=l.n)(h0:1<=b)(ha:a<=l.n)(hn:l.n<=100000000000)(hQ:∀ h',Dx h h' l (reverseRange d a b)->Q (.tuple ⟨[]⟩) h'):F224.T l (a:Int) (b:Int) h Q:=by
 unfold F224.T
 rw[wS h0 (by omega)]
 generalize hD:reverseRange d a b=D at hQ
 unfold reverseRange at hD
 refine⟨λn2 n3 h1=>∃ i j d',n2=((i:Nat):Int)/\n3=((j:Nat):Int)/\i<=200000000000/\j<b/\Dx h h1 l d'/\reverseLoop i j d'=D,λn2 n3 _=>n3.toNat-n2.toNat,⟨a,b-1,d,rfl,rfl,by omega,by omega,Dx.refl B,hD⟩,?_⟩
 rintro n2 n3 g ⟨i,j,d2,rfl,rfl,i0,j0,S,e⟩
 unfold reverseLoop at e
 refine⟨λhlt=>?_,λhge=>?_⟩
 ·rw[if_pos (by omega)] at e
  rw[wA (by omega),wS (by omega) (by omega)]
  exact S.swp (i:=j) (j:=i) (by omega) (by omega) λg' S'=>⟨⟨i+1,j-1,_,rfl,rfl,by omega,by omega,S',e⟩,by dsimp only;omega⟩
 ·rw[if_neg (by omega)] at e
  subst e
  exact hQ g S
theorem sift_s{lo hi fi:Nat}(B:Buf h l 1 48 (uvs d.toList))(h1:fi+hi<=l.n)(hlo:lo<=l.n)(hn:l.n<=100000000000)(hQ:∀ h',Dx h h' l (siftDown ltI hi fi lo d)->Q (.tuple ⟨[]⟩) h'):F235.T l (lo:Int) (hi:Int) (fi:Int) h Q:=by
 unfold F235.T F235.G
 generalize hD:siftDown ltI hi fi lo d=D at hQ
 refine⟨λn h1=>∃ r d',n=((r:Nat):Int)/\r<=l.n/\Dx h h1 l d'/\siftDown ltI hi fi r d'=D,λn _=>l.n-n.toNat,⟨lo,d,rfl,hlo,Dx.refl B,hD⟩,?_⟩
 rintro n g ⟨r,d1,rfl,hr,S,e⟩
 have w1:wrap .i64 (2*(r:Int))=((2*r:Nat):Int):=by rw[wr64 (by omega) (by omega)];omega
 rw[w1,wA (by omega)]
 unfold siftDown at e
 refine⟨λhge=>?_,λhlt=>?_⟩
 ·rw[dif_pos (by omega)] at e
  subst e
  exact hQ g S
 rw[dif_neg (by omega)] at e
 rw[wA (by omega),wP (by omega),wP (by omega),wA (by omega)]
 have fin:∀ c:Nat,c<hi->r<c->(if (!ltI d1[fi+r]! d1[fi+c]!)=true then d1 else siftDown ltI hi fi c (Go.Sort.swp d1 (fi+r) (fi+c)))=D->∃ c':Nat,((c:Nat):Int)=((c':Nat):Int)/\c'<hi/\r<c'/\Dx h g l d1/\(if (!ltI d1[fi+r]! d1[fi+c']!)=true then d1 else siftDown ltI hi fi c' (Go.Sort.swp d1 (fi+r) (fi+c')))=D:=λc hc hrc e=>⟨c,rfl,hc,hrc,S,e⟩
 refine⟨λn h2=>∃ c:Nat,n=((c:Nat):Int)/\c<hi/\r<c/\Dx h h2 l d1/\(if (!ltI d1[fi+r]! d1[fi+c]!)=true then d1 else siftDown ltI hi fi c (Go.Sort.swp d1 (fi+r) (fi+c)))=D,?_,λhlt2=>?_,λhge2=>?_⟩
 ·rintro n g2 ⟨c,rfl,c1,c2,S2,e2⟩
  rw[wP (by omega)]
  refine S2.less (by omega) (by omega) (λhl=>?_) (λhl=>?_)
  ·rw[if_neg (by rw[hl];decide)] at e2
   exact S2.swp (i:=fi+c) (j:=fi+r) (by omega) (by omega) λg' S'=>⟨⟨c,_,rfl,by omega,S',e2⟩,by dsimp only;omega⟩
  ·rw[if_pos (by rw[hl];decide)] at e2
   subst e2
   exact hQ g2 S2
 ·refine S.less (by omega) (by omega) (λhl=>?_) (λhl=>?_)
  ·rw[if_pos (by rw[Nat.add_assoc fi] at hl;simp only[Bool.and_eq_true,decide_eq_true_eq];exact⟨by omega,hl⟩)] at e
   rw[dif_pos (by omega)] at e
   exact fin (2*r+1+1) (by omega) (by omega) e
  ·rw[if_neg (by simp only[Bool.and_eq_true,decide_eq_true_eq];intro hc;rw[hc.2] at hl;cases hl)] at e
   exact fin (2*r+1) (by omega) (by omega) e
 ·rw[if_neg (by simp only[Bool.and_eq_true,decide_eq_true_eq];intro hc;omega)] at e
  exact fin (2*r+1) (by omega) (by omega) e
theorem heap_s(B:Buf h l 1 48 (uvs d.toList))(hab:a<=b)(hb:b<=l.n)(hn:l.n<=100000000000)(hQ:∀ h',Dx h h' l (heapSort ltI d a b)->Q (.tuple ⟨[]⟩) h'):F221.T l (a:Int) (b:Int) h Q:=by
 unfold F221.T F221.G
 rw[wM hab (by omega)]
 generalize hD:heapSort ltI d a b=D at hQ
 unfold heapSort at hD
 have st0:∃ k:Nat,wrap .i64 (Int.tdiv (wrap .i64 (((b-a:Nat):Int)-1)) 2)=(k:Int)-1/\k<=b-a+1/\k=(b-a-1) / 2+1:=by
  refine⟨(b-a-1) / 2+1,?_,by omega,rfl⟩
  rw[wr64 (x:=((b-a:Nat):Int)-1) (by omega) (by omega)]
  by_cases h0:b-a=0
  ·rw[h0];decide
  ·rw[Int.tdiv_eq_ediv_of_nonneg (by omega),wr64 (by omega) (by omega)];omega
 obtain⟨k0,e0,hk0,ek⟩:=st0
 rw[<- ek] at hD
 rw[e0]
 refine⟨by decide,λn h1=>∃ k d',n=((k:Nat):Int)-1/\k<=b-a+1/\Dx h h1 l d'/\heapPop ltI a (b-a) (heapBuild ltI (b-a) a k d')=D,λn _=>(n+1).toNat,⟨k0,d,rfl,hk0,Dx.refl B,hD⟩,?_⟩
 rintro n g ⟨k,d1,rfl,hk,S,e⟩
 refine⟨λhge=>?_,λhlt=>?_⟩
 ·obtain⟨k,rfl⟩:∃ j,k=j+1:=⟨k-1,by omega⟩
  have ek':((k+1:Nat):Int)-1=((k:Nat):Int):=by omega
  rw[ek',wr64 (x:=(k:Int)-1) (by omega) (by omega)]
  unfold heapBuild at e
  exact sift_s S.u (by omega) (by omega) hn λg2 S2=>⟨⟨k,_,rfl,by omega,S.from S2,e⟩,by dsimp only;omega⟩
 ·have hk0:k=0:=by omega
  subst hk0
  unfold heapBuild at e
  refine⟨λn h1=>∃ k d',n=((k:Nat):Int)-1/\k<=b-a/\Dx h h1 l d'/\heapPop ltI a k d'=D,λn _=>(n+1).toNat,⟨b-a,d1,by rw[wr64 (by omega) (by omega)],Nat.le_refl _,S,e⟩,?_⟩
  rintro n g ⟨k,d1,rfl,hk,S,e⟩
  refine⟨λhge=>?_,λhlt=>?_⟩
  ·obtain⟨k,rfl⟩:∃ j,k=j+1:=⟨k-1,by omega⟩
   have ek':((k+1:Nat):Int)-1=((k:Nat):Int):=by omega
   rw[ek',wP (by omega),wr64 (x:=(k:Int)-1) (by omega) (by omega)]
   unfold heapPop at e
   refine S.swp (i:=a+k) (j:=a) (by omega) (by omega) λg1 S1=>?_
   exact sift_s (lo:=0) S1.u (by omega) (by omega) hn λg2 S2=>⟨⟨k,_,rfl,by omega,S1.from S2,e⟩,by dsimp only;omega⟩
  ·have hk0:k=0:=by omega
   subst hk0
   unfold heapPop at e
   subst e
   exact hQ g S
end
end Go.Eng.YtbjnlacacapjiaaGreatDoor
end
section
namespace Go.Eng.YtbjnlacacapjiaaGreatDoor
theorem srt_ins{P S:List Tab}{x:Tab}(h:Srt (P++S))(h1:P=[]\/∃ P' y,P=P'++[y]/\Le y.least x.least)(h2:∀ s∈S,Bl x.least s.least):Srt (P++x::S):=by
 unfold Srt at h ⊢
 rw[List.pairwise_append] at h ⊢
 obtain⟨a,b,c⟩:=h
 have hx:∀ z∈P,Le z.least x.least:=by
  rcases h1 with rfl|⟨P',y,rfl,hy⟩
  ·intro z hz;cases hz
  ·intro z hz
   rw[List.pairwise_append] at a
   rcases mem_append.1 hz with hz|hz
   ·exact(a.2.2 z hz y (mem_singleton.2 rfl)).trans hy
   ·rw[mem_singleton] at hz;subst hz;exact hy
 refine⟨a,pairwise_cons.2 ⟨λs hs=>.of (h2 s hs),b⟩,λz hz w hw=>?_⟩
 rcases mem_cons.1 hw with rfl|hw
 ·exact hx z hz
 ·exact c z hz w hw
theorem snoc_of{α:Type}{P:List α}(h:P≠[]):∃ P' y,P=P'++[y]:=⟨P.dropLast,P.getLast h,(List.dropLast_concat_getLast h).symm⟩
theorem insertion_t{h:Hp}{l:Sl}{A M B:List Tab}{lo hi:Int}{Q:Value->Hp->Prop}(T:TB h l (A++(M++B)))(h1:lo=(A.length:Int))(h2:hi=((A.length+M.length:Nat):Int))(hn:l.n<=5000000)
  (hQ:∀ h' M',Sv h h' l (A++(M'++B))->M'.Perm M->Srt M'->Q (.tuple ⟨[]⟩) h'):F217.T l lo hi h Q:=by
 have hl:=T.n
 simp only[length_append] at hl
 unfold F217.T F217.G
 rw[wr64 (x:=lo+1) (by omega) (by omega)]
 cases M with
 |nil=>
  refine⟨λn g=>n=lo+1/\g=h,λ_ _=>0,⟨rfl,rfl⟩,?_⟩
  rintro n g ⟨rfl,rfl⟩
  refine⟨λhlt=>absurd hlt (by simp at h2;omega),λ_=>hQ g [] ⟨T,Upd.refl _ _⟩ (List.Perm.refl _) List.Pairwise.nil⟩
 |cons m0 M0=>
  simp only[length_cons] at h2 hl
  refine⟨λn g=>∃ D R,Sv h g l (A++(D++(R++B)))/\(D++R).Perm (m0::M0)/\Srt D/\n=((A.length+D.length:Nat):Int)/\D.length+R.length=M0.length+1,λn _=>(hi-n).toNat,⟨[m0],M0,⟨by simpa using T,Upd.refl _ _⟩,List.Perm.refl _,List.pairwise_singleton _ _,by simp;omega,by simp;omega⟩,?_⟩
  rintro n g ⟨D,R,S,hp,hs,rfl,hlen⟩
  refine⟨λhlt=>?_,λhge=>?_⟩
  ·cases R with
   |nil=>simp only[length_nil] at hlen;omega
   |cons x R=>
    simp only[length_cons] at hlen
    rw[wr64 (x:=((A.length+D.length:Nat):Int)+1) (by omega) (by omega)]
    have nxt:∀ {g:Hp} {P S':List Tab},Sv h g l (A++(P++x::(S'++(R++B))))->P++S'=D->Srt (P++x::S')->(∃ D R,Sv h g l (A++(D++(R++B)))/\(D++R).Perm (m0::M0)/\Srt D/\((A.length+(D).length:Nat):Int)=((A.length+(P++S').length:Nat):Int)+1/\D.length+R.length=M0.length+1):=by
     intro g P S' Sg hD hsrt
     refine⟨P++x::S',R,by simpa using Sg,?_,hsrt,by simp;omega,by rw[<- hD] at hlen;simp at hlen ⊢;omega⟩
     refine List.Perm.trans ?_ hp
     rw[<- hD]
     have:(P++x::S'++R)=P++([x]++S'++R):=by simp
     rw[this]
     have:(P++S'++x::R)=P++(S'++[x]++R):=by simp
     rw[this]
     exact((List.perm_append_comm (l₁:=[x]) (l₂:=S')).append_right R).append_left P
    have out:∀ {g:Hp} {P S':List Tab},Sv h g l (A++(P++x::(S'++(R++B))))->P++S'=D->Srt (P++x::S')->(∃ D_1 R,Sv h g l (A++(D_1++(R++B)))/\(D_1++R).Perm (m0::M0)/\Srt D_1/\((A.length+D.length:Nat):Int)+1=((A.length+D_1.length:Nat):Int)/\D_1.length+R.length=M0.length+1):=by
     intro g P S' Sg hD hsrt
     obtain⟨D1,R1,a1,a2,a3,a4,a5⟩:=nxt Sg hD hsrt
     exact⟨D1,R1,a1,a2,a3,by rw[a4,hD],a5⟩
    refine⟨λn3 g=>∃ P S',Sv h g l (A++(P++x::(S'++(R++B))))/\P++S'=D/\(∀ s∈S',Bl x.least s.least)/\n3=((A.length+P.length:Nat):Int),λn3 _=>n3.toNat,⟨D,[],by simpa using S,by simp,λs hs=>(by cases hs),rfl⟩,?_⟩
    rintro n3 g ⟨P,S',S,hD,hb,rfl⟩
    have hDl:P.length+S'.length=D.length:=by rw[<- hD];simp
    refine⟨λhlt2=>?_,λhge2=>?_⟩
    ·have hP:P≠[]:=λe=>by subst e;simp at hlt2;omega
     obtain⟨P',y,rfl⟩:=snoc_of hP
     simp only[length_append,length_singleton] at hDl hlt2
     have hi1:((A.length+(P'++[y]).length:Nat):Int)=((A.length+P'.length:Nat):Int)+1:=by simp;omega
     rw[hi1,wr64 (x:=((A.length+P'.length:Nat):Int)+1-1) (by omega) (by omega)]
     rw[show((A.length+P'.length:Nat):Int)+1-1=((A.length+P'.length:Nat):Int) by omega]
     have S1:Sv h g l ((A++P')++y::([]++x::(S'++(R++B)))):=⟨by simpa using S.b,S.up⟩
     refine S1.b.rd (P:=A++P'++[y]) (t:=x) (R:=S'++(R++B)) (by simp) (by simp<;>omega) λb1 o1=>S1.b.rd (P:=A++P') (t:=y) (R:=x::(S'++(R++B))) (by simp) (by simp) λb2 o2=>?_
     refine cmp_spec (λhbl n hn0=>⟨n,rfl,λ_=>?_,λhc=>absurd hn0 hc⟩) (λhle n hn0=>⟨n,rfl,λhc=>absurd hc hn0,λ_=>⟨out S hD (srt_ins (by rw[hD];exact hs) (.inr ⟨P',y,rfl,hle⟩) hb),by dsimp only;omega⟩⟩)
     clear b1 o1 b2 o2
     refine S1.b.rd (P:=(A++P')) (t:=y) (R:=[]++x::(S'++(R++B))) (by simp) (i:=((A.length+P'.length:Nat):Int)) (by simp<;>omega) λb1 o1=>S1.b.rd (P:=(A++P')++y::([])) (t:=x) (R:=S'++(R++B)) (by simp) (i:=((A.length+P'.length:Nat):Int)+1) (by simp<;>omega) λb2 o2=>TB.wr S1.b (P:=(A++P')++y::([])) (x:=x) (t:=y) (R:=S'++(R++B)) (by simp) (i:=((A.length+P'.length:Nat):Int)+1) (by simp<;>omega) λb3 B3 p3=>TB.wr B3 (P:=(A++P')) (x:=y) (t:=x) (R:=[]++y::(S'++(R++B))) (by simp) (i:=((A.length+P'.length:Nat):Int)) (by simp<;>omega) λb4 B4 p4=>?_
     have S2:Sv h ((g.wr b3 (0+(((A.length+P'.length:Nat):Int)+1).toNat*6) [.int .u64 y.num,.int .i64 y.weight,.int .i64 y.bytes,.int .i64 y.entries,.string y.least,.string y.greatest]).wr b4 (0+(((A.length+P'.length:Nat):Int)).toNat*6) [.int .u64 x.num,.int .i64 x.weight,.int .i64 x.bytes,.int .i64 x.entries,.string x.least,.string x.greatest]) l ((A++P')++x::([]++y::(S'++(R++B)))):=⟨by simpa using B4,(S1.up.trans p3).trans p4⟩
     generalize ((g.wr b3 (0+(((A.length+P'.length:Nat):Int)+1).toNat*6) [.int .u64 y.num,.int .i64 y.weight,.int .i64 y.bytes,.int .i64 y.entries,.string y.least,.string y.greatest]).wr b4 (0+(((A.length+P'.length:Nat):Int)).toNat*6) [.int .u64 x.num,.int .i64 x.weight,.int .i64 x.bytes,.int .i64 x.entries,.string x.least,.string x.greatest])=g2 at S2 ⊢
     clear B3 p3 B4 p4 b1 b2 b3 b4 o1 o2
     refine⟨⟨P',y::S',⟨by simpa using S2.b,S2.up⟩,by rw[<- hD];simp,λs hs=>?_,rfl⟩,by dsimp only;omega⟩
     rcases mem_cons.1 hs with rfl|hs
     ·exact hbl
     ·exact hb s hs
    ·have hP:P=[]:=eq_nil_of_length_eq_zero (by omega)
     subst hP
     exact⟨out S hD (srt_ins (by rw[hD];exact hs) (.inl rfl) hb),by dsimp only;omega⟩
  ·have hR:R=[]:=eq_nil_of_length_eq_zero (by omega)
   subst hR
   rw[append_nil] at hp
   exact hQ g D (by simpa using S) hp hs
theorem swap_range{h:Hp}{l:Sl}{A U M V B:List Tab}{a b n:Int}{Q:Value->Hp->Prop}(T:TB h l (A++(U++(M++(V++B)))))(hUV:U.length=V.length)(h1:a=(A.length:Int))(h2:b=((A.length+U.length+M.length:Nat):Int))(h3:n=(U.length:Int))(hn:l.n<=5000000)
  (hQ:∀ h',Sv h h' l (A++(V++(M++(U++B))))->Q (.tuple ⟨[]⟩) h'):F242.T l a b n h Q:=by
 have hl:=T.n
 simp only[length_append] at hl
 refine⟨λk g=>∃ U1 U2 V1 V2,U=U1++U2/\V=V1++V2/\U1.length=V1.length/\k=(U1.length:Int)/\Sv h g l (A++(V1++(U2++(M++(U1++(V2++B)))))),λk _=>(n-k).toNat,⟨[],U,[],V,rfl,rfl,rfl,rfl,⟨by simpa using T,Upd.refl _ _⟩⟩,?_⟩
 rintro k g ⟨U1,U2,V1,V2,rfl,rfl,hlen,rfl,S⟩
 simp only[length_append] at hUV h2 h3 hl
 refine⟨λhlt=>?_,λhge=>?_⟩
 ·cases U2 with
  |nil=>simp only[length_nil] at h3;omega
  |cons u U2=>
   cases V2 with
   |nil=>simp only[length_nil,length_cons] at hUV;omega
   |cons v V2=>
    simp only[length_cons] at hUV h2 h3 hl
    rw[wr64 (x:=b+(U1.length:Int)) (by omega) (by omega),wr64 (x:=a+(U1.length:Int)) (by omega) (by omega),wr64 (x:=(U1.length:Int)+1) (by omega) (by omega)]
    have S1:Sv h g l ((A++V1)++u::((U2++(M++U1))++v::(V2++B))):=⟨by simpa using S.b,S.up⟩
    refine S1.b.rd (P:=(A++V1)++u::((U2++(M++U1)))) (t:=v) (R:=V2++B) (by simp) (i:=b+(U1.length:Int)) (by simp<;>omega) λb1 o1=>S1.b.rd (P:=(A++V1)) (t:=u) (R:=(U2++(M++U1))++v::(V2++B)) (by simp) (i:=a+(U1.length:Int)) (by simp<;>omega) λb2 o2=>TB.wr S1.b (P:=(A++V1)) (x:=u) (t:=v) (R:=(U2++(M++U1))++v::(V2++B)) (by simp) (i:=a+(U1.length:Int)) (by simp<;>omega) λb3 B3 p3=>TB.wr B3 (P:=(A++V1)++v::((U2++(M++U1)))) (x:=v) (t:=u) (R:=V2++B) (by simp) (i:=b+(U1.length:Int)) (by simp<;>omega) λb4 B4 p4=>?_
    have S2:Sv h ((g.wr b3 (0+(a+(U1.length:Int)).toNat*6) [.int .u64 v.num,.int .i64 v.weight,.int .i64 v.bytes,.int .i64 v.entries,.string v.least,.string v.greatest]).wr b4 (0+(b+(U1.length:Int)).toNat*6) [.int .u64 u.num,.int .i64 u.weight,.int .i64 u.bytes,.int .i64 u.entries,.string u.least,.string u.greatest]) l ((A++V1)++v::((U2++(M++U1))++u::(V2++B))):=⟨by simpa using B4,(S1.up.trans p3).trans p4⟩
    generalize ((g.wr b3 (0+(a+(U1.length:Int)).toNat*6) [.int .u64 v.num,.int .i64 v.weight,.int .i64 v.bytes,.int .i64 v.entries,.string v.least,.string v.greatest]).wr b4 (0+(b+(U1.length:Int)).toNat*6) [.int .u64 u.num,.int .i64 u.weight,.int .i64 u.bytes,.int .i64 u.entries,.string u.least,.string u.greatest])=g2 at S2 ⊢
    clear B3 p3 B4 p4 b1 b2 b3 b4 o1 o2
    exact⟨⟨U1++[u],U2,V1++[v],V2,by simp,by simp,by simp;omega,by simp,⟨by simpa using S2.b,S2.up⟩⟩,by dsimp only;omega⟩
 ·have hU:U2=[]:=eq_nil_of_length_eq_zero (by omega)
  have hV:V2=[]:=eq_nil_of_length_eq_zero (by rw[hU] at hUV;simp at hUV;omega)
  subst hU hV
  exact hQ g ⟨by simpa using S.b,S.up⟩
theorem rotate_t{h:Hp}{l:Sl}{A U V B:List Tab}{a m b:Int}{Q:Value->Hp->Prop}(T:TB h l (A++(U++(V++B))))(hU:0<U.length)(hV:0<V.length)(h1:a=(A.length:Int))(h2:m=((A.length+U.length:Nat):Int))(h3:b=((A.length+U.length+V.length:Nat):Int))(hn:l.n<=5000000)
  (hQ:∀ h',Sv h h' l (A++(V++(U++B)))->Q (.tuple ⟨[]⟩) h'):F234.T l a m b h Q:=by
 have hl:=T.n
 simp only[length_append] at hl
 unfold F234.T F234.G
 rw[wr64 (x:=m-a) (by omega) (by omega),wr64 (x:=b-m) (by omega) (by omega)]
 refine⟨λi j g=>∃ P U' V' S',P++(V'++(U'++S'))=V++U/\Sv h g l (A++(P++(U'++(V'++(S'++B)))))/\i=(U'.length:Int)/\j=(V'.length:Int)/\0<U'.length/\0<V'.length/\m=((A.length+P.length+U'.length:Nat):Int),λi j _=>(i+j).toNat,⟨[],U,V,[],by simp,⟨by simpa using T,Upd.refl _ _⟩,by omega,by omega,hU,hV,by simp;omega⟩,?_⟩
 rintro i j g ⟨P,U',V',S',he,S,rfl,rfl,u0,v0,hm⟩
 have hlen:=congrArg List.length he
 simp only[length_append] at hlen
 rw[wr64 (x:=m-(U'.length:Int)) (by omega) (by omega)]
 refine⟨λheq=>?_,λhne=>⟨λhlt=>?_,λhge=>?_⟩⟩
 ·refine swap_range (A:=A++P) (U:=U') (M:=[]) (V:=V') (B:=S'++B) (by simpa using S.b) (by omega) (by simp<;>omega) (by simp<;>omega) rfl hn λg2 S2=>hQ g2 ⟨?_,S.up.trans S2.up⟩
  have e:A++(V++(U++B))=A++((V++U)++B):=by simp
  rw[e,<- he]
  simpa using S2.b
 ·obtain⟨U1,U2,rfl,hu1⟩:∃ U1 U2,U'=U1++U2/\U1.length=V'.length:=⟨U'.take V'.length,U'.drop V'.length,(List.take_append_drop _ _).symm,by rw[length_take];omega⟩
  simp only[length_append] at hlen u0 hlt hm hne
  refine swap_range (A:=A++P) (U:=U1) (M:=U2) (V:=V') (B:=S'++B) (by simpa using S.b) hu1 (by simp<;>omega) (by simp<;>omega) (by omega) hn λg2 S2=>?_
  rw[wr64 (by simp<;>omega) (by simp<;>omega)]
  refine⟨⟨P++V',U2,U1,S',by rw[<- he];simp,⟨by simpa using S2.b,S.up.trans S2.up⟩,by simp;omega,by omega,by omega,by omega,by simp;omega⟩,by simp;omega⟩
 ·obtain⟨V1,V2,rfl,hv2⟩:∃ V1 V2,V'=V1++V2/\V2.length=U'.length:=⟨V'.take (V'.length-U'.length),V'.drop (V'.length-U'.length),(List.take_append_drop _ _).symm,by rw[List.length_drop];omega⟩
  simp only[length_append] at hlen v0 hge hm hne
  have e1:wrap .i64 (wrap .i64 (m+((V1++V2).length:Int))-(U'.length:Int))=m+(V1.length:Int):=by
   simp only[length_append]
   rw[wr64 (x:=m+((V1.length+V2.length:Nat):Int)) (by omega) (by omega),wr64 (by omega) (by omega)];omega
  rw[e1]
  refine swap_range (A:=A++P) (U:=U') (M:=V1) (V:=V2) (B:=S'++B) (by simpa using S.b) (by omega) (by simp<;>omega) (by simp<;>omega) rfl hn λg2 S2=>?_
  rw[wr64 (by simp<;>omega) (by simp<;>omega)]
  refine⟨⟨P,V2,V1,U'++S',by rw[<- he];simp,⟨by simpa using S2.b,S.up.trans S2.up⟩,by omega,by simp;omega,by omega,by omega,by omega⟩,by simp;omega⟩
end Go.Eng.YtbjnlacacapjiaaGreatDoor
end
section
namespace Go.Eng.YtbjnlacacapjiaaGreatDoor
theorem half{x y:Int}(h0:0<=x+y)(h1:x+y<=100000000):wrap .i64 (shrI .u64 (wrap .u64 (wrap .i64 (x+y))) 1)=(x+y) / 2:=by
 rw[wr64 (x:=x+y) (by omega) (by omega),wrap_u64 (by omega) (by omega)]
 unfold shrI
 have:(2:Int) ^ (min (1:Int).toNat (IntKind.bits .u64))=2:=by decide
 rw[this,Int.fdiv_eq_ediv_of_nonneg _ (by decide),wr64 (by omega) (by omega)]
theorem cut_at{α:Type}{l:List α}{k:Nat}(h:k<=l.length):∃ A B,l=A++B/\A.length=k:=⟨l.take k,l.drop k,(List.take_append_drop _ _).symm,by rw[length_take];omega⟩
theorem split_i{α:Type}{l:List α}{i:Nat}(h:i<l.length):∃ A x B,l=A++x::B/\A.length=i/\l[i]?=some x:=
 ⟨l.take i,l[i],l.drop (i+1),by rw[<- List.drop_eq_getElem_cons h,List.take_append_drop],by rw[length_take];omega,getElem?_eq_getElem h⟩
theorem srt_app{P S:List Tab}(hP:Srt P)(hS:Srt S)(h:∀ x∈P,∀ y∈S,Le x.least y.least):Srt (P++S):=List.pairwise_append.2 ⟨hP,hS,h⟩
theorem srt_l{P S:List Tab}(h:Srt (P++S)):Srt P:=(List.pairwise_append.1 h).1
theorem srt_r{P S:List Tab}(h:Srt (P++S)):Srt S:=(List.pairwise_append.1 h).2.1
theorem last_le{P:List Tab}{x:Tab}(h:Srt P)(hx:P[P.length-1]?=some x):∀ z∈P,Le z.least x.least:=by
 have hne:P≠[]:=λe=>by subst e;simp at hx
 obtain⟨P',y,rfl⟩:=snoc_of hne
 have:y=x:=by simpa using hx
 subst this
 intro z hz
 rcases mem_append.1 hz with hz|hz
 ·exact(List.pairwise_append.1 h).2.2 z hz y (mem_singleton.2 rfl)
 ·rw[mem_singleton] at hz;subst hz;exact Le.refl _
theorem first_le{S:List Tab}{y:Tab}(h:Srt S)(hy:S[0]?=some y):∀ z∈S,Le y.least z.least:=by
 cases S with
 |nil=>simp at hy
 |cons a S=>
  have:a=y:=by simpa using hy
  subst this
  intro z hz
  rcases mem_cons.1 hz with rfl|hz
  ·exact Le.refl _
  ·exact(pairwise_cons.1 h).1 z hz
theorem cross{P S:List Tab}(hP:Srt P)(hS:Srt S)(h:P=[]\/S=[]\/∃ x y,P[P.length-1]?=some x/\S[0]?=some y/\Le x.least y.least):∀ x∈P,∀ y∈S,Le x.least y.least:=by
 rcases h with rfl|rfl|⟨x,y,h1,h2,h3⟩
 ·intro x hx;cases hx
 ·intro x _ y hy;cases hy
 ·exact λz hz w hw=>((last_le hP h1 z hz).trans h3).trans (first_le hS h2 w hw)
theorem get_l{P S:List Tab}(h:P≠[]):(P++S)[P.length-1]?=P[P.length-1]?:=List.getElem?_append_left (by have:=List.length_pos_iff.2 h;omega)
theorem get_r{P S:List Tab}:(P++S)[P.length]?=S[0]?:=by rw[List.getElem?_append_right (Nat.le_refl _),Nat.sub_self]
def MergeOk(l:Sl)(T:Sl->Int->Int->Int->PT)(N:Nat):Prop:=∀ (A X Y B:List Tab) (a m b:Int) (h:Hp) (Q:Value->Hp->Prop),TB h l (A++(X++(Y++B)))->Srt X->Srt Y->0<X.length->0<Y.length->X.length+Y.length<N ->
 a=(A.length:Int)->m=((A.length+X.length:Nat):Int)->b=((A.length+X.length+Y.length:Nat):Int)->(∀ h' Z,Sv h h' l (A++(Z++B))->Z.Perm (X++Y)->Srt Z->Q (.tuple ⟨[]⟩) h')->T l a m b h Q
theorem merge_step{l:Sl}(hn:l.n<=5000000){T:Sl->Int->Int->Int->PT}{N:Nat}(hT:MergeOk l T N){A X Y B:List Tab}{a m b:Int}{h:Hp}{Q:Value->Hp->Prop}(Tb:TB h l (A++(X++(Y++B))))(hX:Srt X)(hY:Srt Y)(x0:0<X.length)(y0:0<Y.length)(hN:X.length+Y.length<=N)
  (ea:a=(A.length:Int)) (em:m=((A.length+X.length:Nat):Int)) (eb:b=((A.length+X.length+Y.length:Nat):Int)) (hQ:∀ h' Z,Sv h h' l (A++(Z++B))->Z.Perm (X++Y)->Srt Z->Q (.tuple ⟨[]⟩) h'):F218.G T l a m b h Q:=by
 have hl:=Tb.n
 simp only[length_append] at hl
 unfold F218.G F218.B
 rw[wr64 (x:=m-a) (by omega) (by omega),wr64 (x:=b-m) (by omega) (by omega)]
 refine⟨λh1=>?_,λhne1=>⟨λh1=>?_,λhne2=>?_⟩⟩
 ·-- one on the left
  obtain⟨x,rfl⟩:∃ x,X=[x]:=by
   match X,x0 with
   |[x],_=>exact⟨x,rfl⟩
   |_::_::_,_=>simp only[length_cons] at em;omega
  simp only[length_cons,length_nil] at em eb hl hN
  refine⟨λi j g=>∃ i' j':Nat,i=m+(i':Int)/\j=m+(j':Int)/\i'<=j'/\j'<=Y.length/\(i'=0\/∃ y,Y[i'-1]?=some y/\Bl y.least x.least)/\(j'=Y.length\/∃ y,Y[j']?=some y/\Le x.least y.least)/\h=g,λi j _=>(j-i).toNat,⟨0,Y.length,by omega,by omega,Nat.zero_le _,Nat.le_refl _,.inl rfl,.inl rfl,rfl⟩,?_⟩
  rintro i j g ⟨i',j',rfl,rfl,hij,hj,f1,f2,rfl⟩
  refine⟨λhlt=>⟨by decide,?_⟩,λhge=>?_⟩
  ·rw[half (x:=m+(i':Int)) (y:=m+(j':Int)) (by omega) (by omega)]
   obtain⟨c,hc⟩:∃ c:Nat,(m+(i':Int)+(m+(j':Int))) / 2=m+(c:Int):=⟨((m+(i':Int)+(m+(j':Int))) / 2-m).toNat,by omega⟩
   have c0:i'<=c:=by omega
   have c1:c<j':=by omega
   rw[hc,wr64 (x:=m+(c:Int)+1) (by omega) (by omega)]
   obtain⟨Y1,y,Y2,hYs,hy1,hyc⟩:=split_i (l:=Y) (i:=c) (by omega)
   refine Tb.rd (P:=A++x::Y1) (t:=y) (R:=Y2++B) (by rw[hYs];simp) (by simp;omega) λb1 o1=>Tb.rd (P:=A) (t:=x) (R:=Y++B) (by simp) ea λb2 o2=>cmp_spec (λhb n hn0=>⟨n,rfl,λ_=>?_,λhc=>absurd hn0 hc⟩) (λhle n hn0=>⟨n,rfl,λhc=>absurd hc hn0,λ_=>?_⟩)
   ·exact⟨⟨c+1,j',by omega,rfl,by omega,hj,.inr ⟨y,by simpa using hyc,hb⟩,f2,rfl⟩,by dsimp only;omega⟩
   ·exact⟨⟨i',c,rfl,rfl,by omega,by omega,f1,.inr ⟨y,hyc,hle⟩,rfl⟩,by dsimp only;omega⟩
  ·have hij':i'=j':=by omega
   subst hij'
   obtain⟨Y1,Y2,hYs,hy1⟩:=cut_at (l:=Y) hj
   subst hYs
   rw[wr64 (x:=m+(i':Int)-1) (by omega) (by omega)]
   have srt:Srt (Y1++x::Y2):=by
    refine srt_app (srt_l hY) (srt_app (P:=[x]) (List.pairwise_singleton _ _) (srt_r hY) (cross (List.pairwise_singleton _ _) (srt_r hY) ?_)) ?_
    ·rcases f2 with f|⟨y,f,g⟩
     ·right;left;apply eq_nil_of_length_eq_zero;rw[length_append] at f;omega
     ·right;right;rw[<- hy1,get_r] at f;exact⟨x,y,rfl,f,g⟩
    ·refine cross (srt_l hY) ?_ ?_
     ·exact srt_app (P:=[x]) (List.pairwise_singleton _ _) (srt_r hY) (cross (List.pairwise_singleton _ _) (srt_r hY) (by
       rcases f2 with f|⟨y,f,g⟩
       ·right;left;apply eq_nil_of_length_eq_zero;rw[length_append] at f;omega
       ·right;right;rw[<- hy1,get_r] at f;exact⟨x,y,rfl,f,g⟩))
     ·rcases f1 with f|⟨y,f,g⟩
      ·left;exact eq_nil_of_length_eq_zero (by omega)
      ·by_cases hne:Y1=[]
       ·left;exact hne
       ·right;right;rw[<- hy1,get_l hne] at f;exact⟨y,x,f,rfl,.of g⟩
   refine⟨λk g=>∃ W W',Y1=W++W'/\k=((A.length+W.length:Nat):Int)/\Sv h g l (A++(W++x::(W'++(Y2++B)))),λk _=>(m+(i':Int)-k).toNat,⟨[],Y1,rfl,by simp;omega,⟨by simpa using Tb,Upd.refl _ _⟩⟩,?_⟩
   rintro k g ⟨W,W',rfl,rfl,S⟩
   simp only[length_append] at hy1
   refine⟨λhlt=>?_,λhge=>?_⟩
   ·cases W' with
    |nil=>simp only[length_nil] at hy1;omega
    |cons w W'=>
     simp only[length_cons] at hy1
     rw[wr64 (x:=((A.length+W.length:Nat):Int)+1) (by omega) (by omega)]
     have S1:Sv h g l ((A++W)++x::([]++w::(W'++(Y2++B)))):=⟨by simpa using S.b,S.up⟩
     refine S1.b.rd (P:=(A++W)++x::([])) (t:=w) (R:=W'++(Y2++B)) (by simp) (i:=((A.length+W.length:Nat):Int)+1) (by simp<;>omega) λb1 o1=>S1.b.rd (P:=(A++W)) (t:=x) (R:=[]++w::(W'++(Y2++B))) (by simp) (i:=((A.length+W.length:Nat):Int)) (by simp<;>omega) λb2 o2=>TB.wr S1.b (P:=(A++W)) (x:=x) (t:=w) (R:=[]++w::(W'++(Y2++B))) (by simp) (i:=((A.length+W.length:Nat):Int)) (by simp<;>omega) λb3 B3 p3=>TB.wr B3 (P:=(A++W)++w::([])) (x:=w) (t:=x) (R:=W'++(Y2++B)) (by simp) (i:=((A.length+W.length:Nat):Int)+1) (by simp<;>omega) λb4 B4 p4=>?_
     have S2:Sv h ((g.wr b3 (0+(((A.length+W.length:Nat):Int)).toNat*6) [.int .u64 w.num,.int .i64 w.weight,.int .i64 w.bytes,.int .i64 w.entries,.string w.least,.string w.greatest]).wr b4 (0+(((A.length+W.length:Nat):Int)+1).toNat*6) [.int .u64 x.num,.int .i64 x.weight,.int .i64 x.bytes,.int .i64 x.entries,.string x.least,.string x.greatest]) l ((A++W)++w::([]++x::(W'++(Y2++B)))):=⟨by simpa using B4,(S1.up.trans p3).trans p4⟩
     generalize ((g.wr b3 (0+(((A.length+W.length:Nat):Int)).toNat*6) [.int .u64 w.num,.int .i64 w.weight,.int .i64 w.bytes,.int .i64 w.entries,.string w.least,.string w.greatest]).wr b4 (0+(((A.length+W.length:Nat):Int)+1).toNat*6) [.int .u64 x.num,.int .i64 x.weight,.int .i64 x.bytes,.int .i64 x.entries,.string x.least,.string x.greatest])=g2 at S2 ⊢
     clear B3 p3 B4 p4 b1 b2 b3 b4 o1 o2
     exact⟨⟨W++[w],W',by simp,by simp;omega,⟨by simpa using S2.b,S2.up⟩⟩,by dsimp only;omega⟩
   ·have hW:W'=[]:=eq_nil_of_length_eq_zero (by omega)
    subst hW
    refine hQ g (W++x::Y2) ⟨by simpa using S.b,S.up⟩ ?_ (by simpa using srt)
    simp only[append_nil,List.singleton_append]
    exact List.perm_middle
 ·-- one on the right
  obtain⟨y,rfl⟩:∃ y,Y=[y]:=by
   match Y,y0 with
   |[y],_=>exact⟨y,rfl⟩
   |_::_::_,_=>simp only[length_cons] at eb;omega
  simp only[length_cons,length_nil] at eb hl hN
  refine⟨λi j g=>∃ i' j':Nat,i=a+(i':Int)/\j=a+(j':Int)/\i'<=j'/\j'<=X.length/\(i'=0\/∃ x,X[i'-1]?=some x/\Le x.least y.least)/\(j'=X.length\/∃ x,X[j']?=some x/\Bl y.least x.least)/\h=g,λi j _=>(j-i).toNat,⟨0,X.length,by omega,by omega,Nat.zero_le _,Nat.le_refl _,.inl rfl,.inl rfl,rfl⟩,?_⟩
  rintro i j g ⟨i',j',rfl,rfl,hij,hj,f1,f2,rfl⟩
  refine⟨λhlt=>⟨by decide,?_⟩,λhge=>?_⟩
  ·rw[half (x:=a+(i':Int)) (y:=a+(j':Int)) (by omega) (by omega)]
   obtain⟨c,hc⟩:∃ c:Nat,(a+(i':Int)+(a+(j':Int))) / 2=a+(c:Int):=⟨((a+(i':Int)+(a+(j':Int))) / 2-a).toNat,by omega⟩
   have c0:i'<=c:=by omega
   have c1:c<j':=by omega
   rw[hc,wr64 (x:=a+(c:Int)+1) (by omega) (by omega)]
   obtain⟨X1,x,X2,hXs,hx1,hxc⟩:=split_i (l:=X) (i:=c) (by omega)
   refine Tb.rd (P:=A++X) (t:=y) (R:=B) (by simp) (by simp;omega) λb1 o1=>Tb.rd (P:=A++X1) (t:=x) (R:=X2++([y]++B)) (by rw[hXs];simp) (by simp;omega) λb2 o2=>cmp_spec (λhb n hn0=>⟨n,rfl,λ_=>?_,λhc=>absurd hn0 hc⟩) (λhle n hn0=>⟨n,rfl,λhc=>absurd hc hn0,λ_=>?_⟩)
   ·exact⟨⟨i',c,rfl,rfl,by omega,by omega,f1,.inr ⟨x,hxc,hb⟩,rfl⟩,by dsimp only;omega⟩
   ·exact⟨⟨c+1,j',by omega,rfl,by omega,hj,.inr ⟨x,by simpa using hxc,hle⟩,f2,rfl⟩,by dsimp only;omega⟩
  ·have hij':i'=j':=by omega
   subst hij'
   obtain⟨X1,X2,hXs,hx1⟩:=cut_at (l:=X) hj
   subst hXs
   have s2:Srt ([y]++X2):=srt_app (List.pairwise_singleton _ _) (srt_r hX) (cross (List.pairwise_singleton _ _) (srt_r hX) (by
    rcases f2 with f|⟨x,f,g⟩
    ·right;left;apply eq_nil_of_length_eq_zero;rw[length_append] at f;omega
    ·right;right;rw[<- hx1,get_r] at f;exact⟨y,x,rfl,f,.of g⟩))
   have srt:Srt (X1++y::X2):=by
    refine srt_app (srt_l hX) s2 (cross (srt_l hX) s2 ?_)
    rcases f1 with f|⟨x,f,g⟩
    ·left;exact eq_nil_of_length_eq_zero (by omega)
    ·by_cases hne:X1=[]
     ·left;exact hne
     ·right;right;rw[<- hx1,get_l hne] at f;exact⟨x,y,f,rfl,g⟩
   simp only[length_append] at em eb hl
   refine⟨λk g=>∃ W W',X2=W++W'/\k=((A.length+X1.length+W.length:Nat):Int)/\Sv h g l (A++(X1++(W++y::(W'++B)))),λk _=>k.toNat,⟨X2,[],by simp,by omega,⟨by simpa using Tb,Upd.refl _ _⟩⟩,?_⟩
   rintro k g ⟨W,W',rfl,rfl,S⟩
   simp only[length_append] at em eb hl
   refine⟨λhlt=>?_,λhge=>?_⟩
   ·have hne:W≠[]:=λe=>by subst e;simp at hlt;omega
    obtain⟨W0,w,rfl⟩:=snoc_of hne
    simp only[length_append,length_singleton] at em eb hl hlt
    have e1:((A.length+X1.length+(W0++[w]).length:Nat):Int)=((A.length+X1.length+W0.length:Nat):Int)+1:=by simp;omega
    rw[e1,wr64 (x:=((A.length+X1.length+W0.length:Nat):Int)+1-1) (by omega) (by omega),show((A.length+X1.length+W0.length:Nat):Int)+1-1=((A.length+X1.length+W0.length:Nat):Int) by omega]
    have S1:Sv h g l ((A++(X1++W0))++w::([]++y::(W'++B))):=⟨by simpa using S.b,S.up⟩
    refine S1.b.rd (P:=(A++(X1++W0))) (t:=w) (R:=[]++y::(W'++B)) (by simp) (i:=((A.length+X1.length+W0.length:Nat):Int)) (by simp<;>omega) λb1 o1=>S1.b.rd (P:=(A++(X1++W0))++w::([])) (t:=y) (R:=W'++B) (by simp) (i:=((A.length+X1.length+W0.length:Nat):Int)+1) (by simp<;>omega) λb2 o2=>TB.wr S1.b (P:=(A++(X1++W0))++w::([])) (x:=y) (t:=w) (R:=W'++B) (by simp) (i:=((A.length+X1.length+W0.length:Nat):Int)+1) (by simp<;>omega) λb3 B3 p3=>TB.wr B3 (P:=(A++(X1++W0))) (x:=w) (t:=y) (R:=[]++w::(W'++B)) (by simp) (i:=((A.length+X1.length+W0.length:Nat):Int)) (by simp<;>omega) λb4 B4 p4=>?_
    have S2:Sv h ((g.wr b3 (0+(((A.length+X1.length+W0.length:Nat):Int)+1).toNat*6) [.int .u64 w.num,.int .i64 w.weight,.int .i64 w.bytes,.int .i64 w.entries,.string w.least,.string w.greatest]).wr b4 (0+(((A.length+X1.length+W0.length:Nat):Int)).toNat*6) [.int .u64 y.num,.int .i64 y.weight,.int .i64 y.bytes,.int .i64 y.entries,.string y.least,.string y.greatest]) l ((A++(X1++W0))++y::([]++w::(W'++B))):=⟨by simpa using B4,(S1.up.trans p3).trans p4⟩
    generalize ((g.wr b3 (0+(((A.length+X1.length+W0.length:Nat):Int)+1).toNat*6) [.int .u64 w.num,.int .i64 w.weight,.int .i64 w.bytes,.int .i64 w.entries,.string w.least,.string w.greatest]).wr b4 (0+(((A.length+X1.length+W0.length:Nat):Int)).toNat*6) [.int .u64 y.num,.int .i64 y.weight,.int .i64 y.bytes,.int .i64 y.entries,.string y.least,.string y.greatest])=g2 at S2 ⊢
    clear B3 p3 B4 p4 b1 b2 b3 b4 o1 o2
    exact⟨⟨W0,w::W',by simp,rfl,⟨by simpa using S2.b,S2.up⟩⟩,by dsimp only;omega⟩
   ·have hW:W=[]:=eq_nil_of_length_eq_zero (by omega)
    subst hW
    refine hQ g (X1++y::W') ⟨by simpa using S.b,S.up⟩ ?_ (by simpa using srt)
    simp only[List.nil_append]
    rw[List.append_assoc]
    refine List.Perm.append_left X1 ?_
    exact(List.perm_append_comm (l₁:=[y]) (l₂:=W'))
 ·-- more
  have hm:=half (x:=a) (y:=b) (by omega) (by omega)
  rw[hm]
  obtain⟨d,hd⟩:∃ d:Nat,(a+b) / 2=((A.length+d:Nat):Int):=⟨((a+b) / 2-a).toNat,by omega⟩
  have d0:0<d:=by omega
  have d1:2*d<=X.length+Y.length:=by omega
  have d2:X.length+Y.length<=2*d+1:=by omega
  rw[hd]
  have hN2:3<=X.length+Y.length:=by omega
  generalize hmid:((A.length+d:Nat):Int)=mid
  rw[wr64 (x:=mid+m) (by omega) (by omega),wr64 (x:=mid+m-1) (by omega) (by omega),wr64 (x:=mid+m-b) (by omega) (by omega)]
  refine⟨by decide,λlo hi g=>h=g/\((mid<m/\lo=mid+m-b/\hi=mid)\/(m<=mid/\lo=a/\hi=m)),?_,λhc=>⟨rfl,.inl ⟨hc,rfl,rfl⟩⟩,λhc=>⟨rfl,.inr ⟨by omega,rfl,rfl⟩⟩⟩
  rintro lo hi g ⟨rfl,hcase⟩
  have lo0:a<=lo:=by omega
  have hi0:hi<=m:=by omega
  have him:hi<=mid:=by omega
  have lohi:lo<=hi:=by omega
  have lob:mid+m-lo<=b:=by omega
  have him2:m<=mid+m-hi:=by omega
  refine⟨λs r g=>lo<=s/\s<=r/\r<=hi/\(s=lo\/∃ x y,X[(s-1-a).toNat]?=some x/\Y[(mid-s).toNat]?=some y/\Le x.least y.least)/\(r=hi\/∃ x y,X[(r-a).toNat]?=some x/\Y[(mid-1-r).toNat]?=some y/\Bl y.least x.least)/\h=g,λs r _=>(r-s).toNat,⟨Int.le_refl _,lohi,Int.le_refl _,.inl rfl,.inl rfl,rfl⟩,?_⟩
  rintro s r g ⟨s0,s1,s2,f1,f2,rfl⟩
  refine⟨λhlt=>⟨by decide,?_⟩,λhge=>?_⟩
  ·rw[half (x:=s) (y:=r) (by omega) (by omega)]
   obtain⟨c,hc⟩:∃ c:Int,(s+r) / 2=c:=⟨_,rfl⟩
   rw[hc,wr64 (x:=mid+m-1-c) (by omega) (by omega),wr64 (x:=c+1) (by omega) (by omega)]
   have c0:s<=c:=by omega
   have c1:c<r:=by omega
   obtain⟨X1,x,X2,hXs,hx1,hxc⟩:=split_i (l:=X) (i:=(c-a).toNat) (by omega)
   obtain⟨Y1,y,Y2,hYs,hy1,hyc⟩:=split_i (l:=Y) (i:=(mid-1-c).toNat) (by omega)
   refine Tb.rd (P:=A++(X++Y1)) (t:=y) (R:=Y2++B) (by rw[hYs];simp) (by simp;omega) λb1 o1=>Tb.rd (P:=A++X1) (t:=x) (R:=X2++(Y++B)) (by rw[hXs];simp) (by simp;omega) λb2 o2=>cmp_spec (λhb n hn0=>⟨n,rfl,λ_=>?_,λhc=>absurd hn0 hc⟩) (λhle n hn0=>⟨n,rfl,λhc=>absurd hc hn0,λ_=>?_⟩)
   ·exact⟨⟨s0,by omega,by omega,f1,.inr ⟨x,y,hxc,hyc,hb⟩,rfl⟩,by dsimp only;omega⟩
   ·exact⟨⟨by omega,by omega,by omega,.inr ⟨x,y,by rw[show c+1-1-a=c-a by omega];exact hxc,by rw[show mid-(c+1)=mid-1-c by omega];exact hyc,hle⟩,f2,rfl⟩,by dsimp only;omega⟩
  ·have hsr:r=s:=by omega
   subst hsr
   rw[wr64 (x:=mid+m-r) (by omega) (by omega)]
   obtain⟨X1,X2,hXs,hx1⟩:=cut_at (l:=X) (k:=(r-a).toNat) (by omega)
   obtain⟨Y1,Y2,hYs,hy1⟩:=cut_at (l:=Y) (k:=(mid-r).toNat) (by omega)
   have hxl:X.length=X1.length+X2.length:=by rw[hXs,length_append]
   have hyl:Y.length=Y1.length+Y2.length:=by rw[hYs,length_append]
   subst hXs hYs
   have k1:∀ x∈X1,∀ y∈Y2,Le x.least y.least:=by
    refine cross (srt_l hX) (srt_r hY) ?_
    rcases f1 with f|⟨x,y,fx,fy,g⟩
    ·rcases hcase with⟨c1,c2,c3⟩|⟨c1,c2,c3⟩
     ·right;left;exact eq_nil_of_length_eq_zero (by omega)
     ·left;exact eq_nil_of_length_eq_zero (by omega)
    ·by_cases hne:X1=[]
     ·left;exact hne
     ·right;right
      refine⟨x,y,?_,?_,g⟩
      ·rw[<- get_l (S:=X2) hne,hx1,<- fx];congr 1;omega
      ·rw[<- hy1,get_r] at fy;exact fy
   have k2:∀ y∈Y1,∀ x∈X2,Le y.least x.least:=by
    refine cross (srt_l hY) (srt_r hX) ?_
    rcases f2 with f|⟨x,y,fx,fy,g⟩
    ·rcases hcase with⟨c1,c2,c3⟩|⟨c1,c2,c3⟩
     ·left;exact eq_nil_of_length_eq_zero (by omega)
     ·right;left;exact eq_nil_of_length_eq_zero (by omega)
    ·by_cases hne:Y1=[]
     ·left;exact hne
     ·right;right
      refine⟨y,x,?_,?_,.of g⟩
      ·rw[<- get_l (S:=Y2) hne,hy1,<- fy];congr 1;omega
      ·rw[<- hx1,get_r] at fx;exact fx
   have k3:=(List.pairwise_append.1 hX).2.2
   have k4:=(List.pairwise_append.1 hY).2.2
   refine⟨λg=>Sv h g l (A++(X1++(Y1++(X2++(Y2++B))))),?_,?_⟩
   ·intro g S
    refine⟨λg=>∃ Z1,Sv h g l (A++(Z1++(X2++(Y2++B))))/\Z1.Perm (X1++Y1)/\Srt Z1,?_,?_⟩
    ·rintro g ⟨Z1,S,hp1,hs1⟩
     have hz1:Z1.length=d:=by have:=hp1.length_eq;rw[length_append] at this;omega
     have fin:∀ {g:Hp} {Z2:List Tab},Sv h g l (A++(Z1++(Z2++B)))->Z2.Perm (X2++Y2)->Srt Z2->Q (.tuple ⟨[]⟩) g:=by
      intro g Z2 S hp2 hs2
      refine hQ g (Z1++Z2) ⟨by simpa using S.b,S.up⟩ ?_ (srt_app hs1 hs2 λz hz w hw=>?_)
      ·refine(hp1.append hp2).trans ?_
       have e1:X1++Y1++(X2++Y2)=X1++((Y1++X2)++Y2):=by simp
       have e2:X1++X2++(Y1++Y2)=X1++((X2++Y1)++Y2):=by simp
       rw[e1,e2]
       exact List.Perm.append_left X1 (List.Perm.append_right Y2 List.perm_append_comm)
      ·have hz':=hp1.mem_iff.1 hz
       have hw':=hp2.mem_iff.1 hw
       rcases mem_append.1 hz' with hz'|hz'<;>rcases mem_append.1 hw' with hw'|hw'
       ·exact k3 z hz' w hw'
       ·exact k1 z hz' w hw'
       ·exact k2 z hz' w hw'
       ·exact k4 z hz' w hw'
     refine⟨λc1=>⟨λc2=>?_,λc2=>?_⟩,λc1=>?_⟩
     ·refine hT (A++Z1) X2 Y2 B mid (mid+m-r) b g _ (by simpa using S.b) (srt_r hX) (srt_r hY) (by omega) (by omega) (by omega) (by simp;omega) (by simp;omega) (by simp;omega) λg2 Z2 S2 hp2 hs2=>fin ⟨by simpa using S2.b,S.up.trans S2.up⟩ hp2 hs2
     ·have:Y2=[]:=eq_nil_of_length_eq_zero (by omega)
      subst this
      exact fin (Z2:=X2) (by simpa using S) (by simp) (srt_r hX)
     ·have:X2=[]:=eq_nil_of_length_eq_zero (by omega)
      subst this
      exact fin (Z2:=Y2) (by simpa using S) (by simp) (srt_r hY)
    ·refine⟨λc1=>⟨λc2=>?_,λc2=>?_⟩,λc1=>?_⟩
     ·refine hT A X1 Y1 (X2++(Y2++B)) a r mid g _ S.b (srt_l hX) (srt_l hY) (by omega) (by omega) (by omega) ea (by omega) (by omega) λg2 Z1 S2 hp1 hs1=>⟨Z1,⟨S2.b,S.up.trans S2.up⟩,hp1,hs1⟩
     ·have:Y1=[]:=eq_nil_of_length_eq_zero (by omega)
      subst this
      exact⟨X1,by simpa using S,by simp,srt_l hX⟩
     ·have:X1=[]:=eq_nil_of_length_eq_zero (by omega)
      subst this
      exact⟨Y1,by simpa using S,by simp,srt_l hY⟩
   ·refine⟨λc1=>⟨λc2=>?_,λc2=>?_⟩,λc1=>?_⟩
    ·refine rotate_t (A:=A++X1) (U:=X2) (V:=Y1) (B:=Y2++B) (by simpa using Tb) (by omega) (by omega) (by simp;omega) (by simp;omega) (by simp;omega) hn λg2 S2=>⟨by simpa using S2.b,S2.up⟩
    ·have:Y1=[]:=eq_nil_of_length_eq_zero (by omega)
     subst this
     exact⟨by simpa using Tb,Upd.refl _ _⟩
    ·have:X2=[]:=eq_nil_of_length_eq_zero (by omega)
     subst this
     exact⟨by simpa using Tb,Upd.refl _ _⟩
theorem merge_ok{l:Sl}(hn:l.n<=5000000):∀ (nf:Nat),MergeOk l (F218.TN nf) nf
 |0=>λA X Y B a m b h Q T hX hY x0 y0 hN ea em eb hQ=>absurd hN (by omega)
 |nf+1=>λA X Y B a m b h Q T hX hY x0 y0 hN ea em eb hQ=>merge_step hn (merge_ok hn nf) T hX hY x0 y0 (by omega) ea em eb hQ
theorem merge_t{h:Hp}{l:Sl}(hn:l.n<=5000000){A X Y B:List Tab}{a m b:Int}{Q:Value->Hp->Prop}(T:TB h l (A++(X++(Y++B))))(hX:Srt X)(hY:Srt Y)(x0:0<X.length)(y0:0<Y.length)
  (ea:a=(A.length:Int)) (em:m=((A.length+X.length:Nat):Int)) (eb:b=((A.length+X.length+Y.length:Nat):Int)) (hQ:∀ h' Z,Sv h h' l (A++(Z++B))->Z.Perm (X++Y)->Srt Z->Q (.tuple ⟨[]⟩) h'):F218.T l a m b h Q:=
 ⟨X.length+Y.length+1,merge_ok hn (X.length+Y.length+1) A X Y B a m b h Q T hX hY x0 y0 (by omega) ea em eb hQ⟩
end Go.Eng.YtbjnlacacapjiaaGreatDoor
end
section
set_option maxRecDepth 10000000
namespace Go.Eng.YtbjnlacacapjiaaGreatDoor
def Blk(k:Nat)(bl:List (List Tab)):Prop:=∀ b∈bl,Srt b/\b.length=k
theorem blk_len{k:Nat}:∀ {bl:List (List Tab)},Blk k bl->bl.flatten.length=bl.length*k
 |[],_=>by simp
 |b::bl,h=>by
  have h1:=(h b mem_cons_self).2
  have h2:=blk_len (bl:=bl) λc hc=>h c (mem_cons_of_mem _ hc)
  rw[List.flatten_cons,length_append,h1,h2,length_cons,Nat.succ_mul];omega
theorem blk_snoc{k:Nat}{bl:List (List Tab)}{b:List Tab}(h:Blk k bl)(h1:Srt b)(h2:b.length=k):Blk k (bl++[b]):=λc hc=>by
 rcases mem_append.1 hc with hc|hc
 ·exact h c hc
 ·rw[mem_singleton] at hc;subst hc;exact⟨h1,h2⟩
theorem fl_snoc(bl:List (List Tab))(b:List Tab):(bl++[b]).flatten=bl.flatten++b:=by simp
def Runs(k:Nat)(ts:List Tab):Prop:=∃ bl R,ts=bl.flatten++R/\Blk k bl/\Srt R/\R.length<k
theorem runs_end{k:Nat}{ts:List Tab}(h:Runs k ts)(hk:ts.length<=k):Srt ts:=by
 obtain⟨bl,R,rfl,hb,hs,hl⟩:=h
 rw[length_append,blk_len hb] at hk
 match bl,hb with
 |[],_=>simpa using hs
 |[b],hb=>
  have:=hb b mem_cons_self
  simp only[length_cons,length_nil] at hk
  have hR:R=[]:=eq_nil_of_length_eq_zero (by omega)
  subst hR
  simpa using this.1
 |_::_::bl,_=>
  exfalso
  simp only[length_cons] at hk
  have:(bl.length+1+1)*k=bl.length*k+2*k:=by rw[Nat.succ_mul,Nat.succ_mul];omega
  have h0:0<=bl.length*k:=Nat.zero_le _
  omega
theorem stable_t{h:Hp}{l:Sl}{ts:List Tab}{Q:Value->Hp->Prop}(T:TB h l ts)(hn:l.n<=5000000)(hQ:∀ h' us,Sv h h' l us->us.Perm ts->Srt us->Q (.tuple ⟨[]⟩) h'):F157.T l h Q:=by
 have hl:=T.n
 unfold F157.T F210.T F157.G F210.G
 refine⟨λa b g=>∃ bl R,Sv h g l (bl.flatten++R)/\(bl.flatten++R).Perm ts/\Blk 20 bl/\a=((bl.flatten.length:Nat):Int)/\b=a+20/\bl.flatten.length+R.length=l.n,λa _ _=>((l.n:Int)-a).toNat,⟨[],ts,⟨T,Upd.refl _ _⟩,List.Perm.refl _,λb hb=>(by cases hb),rfl,rfl,by simp;omega⟩,?_⟩
 rintro a b g ⟨bl,R,S,hp,hb,rfl,rfl,hlen⟩
 refine⟨λhle=>?_,λhgt=>?_⟩
 ·obtain⟨R1,R2,rfl,hr1⟩:=cut_at (l:=R) (k:=20) (by omega)
  rw[length_append] at hlen
  rw[wr64 (by omega) (by omega)]
  refine insertion_t (A:=bl.flatten) (M:=R1) (B:=R2) (by simpa using S.b) rfl (by omega) hn λg2 M' S2 hp2 hs2=>?_
  have hml:=hp2.length_eq
  refine⟨⟨bl++[M'],R2,⟨by simpa using S2.b,S.up.trans S2.up⟩,?_,blk_snoc hb hs2 (by omega),by rw[fl_snoc,length_append];omega,by omega,by rw[fl_snoc,length_append];omega⟩,by dsimp only;omega⟩
  refine List.Perm.trans ?_ hp
  have e1:(bl++[M']).flatten++R2=bl.flatten++(M'++R2):=by simp
  rw[e1]
  exact List.Perm.append_left _ (hp2.append_right R2)
 ·refine insertion_t (A:=bl.flatten) (M:=R) (B:=[]) (by simpa using S.b) rfl (by omega) hn λg2 M' S2 hp2 hs2=>?_
  have hml:=hp2.length_eq
  have hp':(bl.flatten++M').Perm ts:=(List.Perm.append_left _ hp2).trans hp
  have hruns:Runs 20 (bl.flatten++M'):=⟨bl,M',rfl,hb,hs2,by omega⟩
  have hlen':(bl.flatten++M').length=l.n:=by rw[length_append];omega
  have S3:Sv h g2 l (bl.flatten++M'):=⟨by simpa using S2.b,S.up.trans S2.up⟩
  generalize bl.flatten++M'=us at hp' hruns hlen' S3
  clear hp hb hlen hgt S S2 hp2 hs2 hml bl R M' g
  refine⟨λk g=>∃ us kk,k=((kk:Nat):Int)/\20<=kk/\kk<=20000000/\Sv h g l us/\us.Perm ts/\Runs kk us,λk _=>((l.n:Int)-k).toNat,⟨us,20,rfl,by decide,by decide,S3,hp',hruns⟩,?_⟩
  clear S3 hp' hruns hlen' us g2
  rintro k g ⟨us,kk,rfl,k0,k1,S,hp,hr⟩
  have hul:us.length=l.n:=by have:=S.b.n;omega
  refine⟨λhlt=>?_,λhge=>hQ g us S hp (runs_end hr (by omega))⟩
  rw[wr64 (x:=2*(kk:Int)) (by omega) (by omega),wr64 (x:=(kk:Int)*2) (by omega) (by omega)]
  obtain⟨bl,R,rfl,hb,hs,hR⟩:=hr
  refine⟨λa b g=>∃ d bl,Sv h g l (d.flatten++(bl.flatten++R))/\(d.flatten++(bl.flatten++R)).Perm ts/\Blk (2*kk) d/\Blk kk bl/\a=((d.flatten.length:Nat):Int)/\b=a+2*(kk:Int)/\d.flatten.length+(bl.flatten.length+R.length)=l.n,λa _ _=>((l.n:Int)-a).toNat,⟨[],bl,by simpa using S,by simpa using hp,λb hb=>(by cases hb),hb,rfl,by simp,by rw[length_append] at hul;simp only[List.flatten_nil,length_nil];omega⟩,?_⟩
  clear hul hp hb S bl
  rintro a b g ⟨d,bl,S,hp,hd,hb,rfl,rfl,hlen⟩
  have hbl:=blk_len hb
  have nxt:∀ {g:Hp} {R':List Tab},Sv h g l (d.flatten++R')->R'.Perm (bl.flatten++R)->Srt R'->R'.length<2*kk->(∃ us kk_1,((2*kk:Nat):Int)=((kk_1:Nat):Int)/\20<=kk_1/\kk_1<=20000000/\Sv h g l us/\us.Perm ts/\Runs kk_1 us):=λSg hp2 hs2 hl2=>⟨_,2*kk,rfl,by omega,by omega,Sg,(List.Perm.append_left _ hp2).trans hp,d,_,rfl,hd,hs2,hl2⟩
  rw[wr64 (x:=((d.flatten.length:Nat):Int)+(kk:Int)) (by omega) (by omega),wr64 (x:=((d.flatten.length:Nat):Int)+2*(kk:Int)+2*(kk:Int)) (by omega) (by omega)]
  have ek:(kk:Int)*2=((2*kk:Nat):Int):=by omega
  refine⟨λhle=>?_,λhgt=>⟨λhm=>?_,λhm=>?_⟩⟩
  ·match bl,hb with
   |[],hb=>simp only[List.flatten_nil,length_nil] at hlen hbl;omega
   |[b0],hb=>
    simp only[length_cons,length_nil] at hbl
    omega
   |b0::b1::bl,hb=>
    have h0:=hb b0 mem_cons_self
    have h1:=hb b1 (mem_cons_of_mem _ mem_cons_self)
    have hlen2:d.flatten.length+(b0.length+(b1.length+bl.flatten.length)+R.length)=l.n:=by
     rw[List.flatten_cons,List.flatten_cons,length_append,length_append] at hlen;omega
    refine merge_t (A:=d.flatten) (X:=b0) (Y:=b1) (B:=bl.flatten++R) hn (by simpa using S.b) h0.1 h1.1 (by omega) (by omega) rfl (by omega) (by omega) λg2 Z S2 hp2 hs2=>?_
    have hzl:=hp2.length_eq
    rw[length_append] at hzl
    refine⟨⟨d++[Z],bl,⟨by rw[fl_snoc];simpa using S2.b,S.up.trans S2.up⟩,?_,blk_snoc hd hs2 (by omega),λc hc=>hb c (mem_cons_of_mem _ (mem_cons_of_mem _ hc)),by rw[fl_snoc,length_append];omega,by omega,by rw[fl_snoc,length_append];omega⟩,by dsimp only;omega⟩
    refine List.Perm.trans ?_ hp
    have e1:(d++[Z]).flatten++(bl.flatten++R)=d.flatten++(Z++(bl.flatten++R)):=by simp
    have e2:d.flatten++((b0::b1::bl).flatten++R)=d.flatten++((b0++b1)++(bl.flatten++R)):=by simp
    rw[e1,e2]
    exact List.Perm.append_left _ (hp2.append_right _)
  ·match bl,hb with
   |[],hb=>simp only[List.flatten_nil,length_nil] at hlen hbl;omega
   |[b0],hb=>
    have h0:=hb b0 mem_cons_self
    have e0:[b0].flatten=b0:=by simp
    rw[e0] at S hp hlen hbl nxt
    refine merge_t (A:=d.flatten) (X:=b0) (Y:=R) (B:=[]) hn (by simpa using S.b) h0.1 hs (by omega) (by omega) rfl (by omega) (by omega) λg2 Z S2 hp2 hs2=>?_
    have hzl:=hp2.length_eq
    rw[length_append] at hzl
    rw[ek]
    exact⟨nxt (R':=Z) ⟨by simpa using S2.b,S.up.trans S2.up⟩ hp2 hs2 (by omega),by dsimp only;omega⟩
   |b0::b1::bl,hb=>
    exfalso
    simp only[length_cons] at hbl
    have:(bl.length+1+1)*kk=bl.length*kk+2*kk:=by rw[Nat.succ_mul,Nat.succ_mul];omega
    have h0:0<=bl.length*kk:=Nat.zero_le _
    omega
  ·rw[ek]
   match bl,hb with
   |[],hb=>exact⟨nxt (R':=R) (by simpa using S) (by simp) hs (by omega),by dsimp only;omega⟩
   |[b0],hb=>
    have h0:=hb b0 mem_cons_self
    have e0:[b0].flatten=b0:=by simp
    rw[e0] at S hp hlen hbl nxt
    have hR0:R=[]:=eq_nil_of_length_eq_zero (by omega)
    subst hR0
    exact⟨nxt (R':=b0) (by simpa using S) (by simp) h0.1 (by omega),by dsimp only;omega⟩
   |b0::b1::bl,hb=>
    exfalso
    simp only[length_cons] at hbl
    have:(bl.length+1+1)*kk=bl.length*kk+2*kk:=by rw[Nat.succ_mul,Nat.succ_mul];omega
    have h0:0<=bl.length*kk:=Nat.zero_le _
    omega
end Go.Eng.YtbjnlacacapjiaaGreatDoor
end
section
namespace Go.Eng.YtbjnlacacapjiaaGreatDoor
def Placed.tab(p:Placed):Tab:=⟨p.num,p.weight,p.bytes,p.entries,p.least,p.greatest⟩
abbrev Lv:=List (List Tab)
def blB(a b:ByteArray):Bool:=decide (cmpI a b<0)
theorem blB_t{a b:ByteArray}:blB a b=true↔Bl a b:=by unfold blB Bl;exact decide_eq_true_iff
def cutN(n:Int):List Tab->Option (List Tab)
 |[]=>none
 |t::ts=>if t.num=n then some ts else(cutN n ts).map (t::·)
theorem cutN_some{n:Int}:∀ {P:List Tab} {x:Tab} {R:List Tab},(∀ y∈P,y.num≠n)->x.num=n->cutN n (P++x::R)=some (P++R)
 |[],x,R,_,hx=>by simp[cutN,hx]
 |y::P,x,R,hP,hx=>by
  simp only[List.cons_append,cutN]
  rw[if_neg (hP y mem_cons_self),cutN_some (λz hz=>hP z (mem_cons_of_mem _ hz)) hx]
  rfl
theorem cutN_none{n:Int}:∀ {ts:List Tab},(∀ y∈ts,y.num≠n)->cutN n ts=none
 |[],_=>rfl
 |y::P,hP=>by
  simp only[cutN]
  rw[if_neg (hP y mem_cons_self),cutN_none (λz hz=>hP z (mem_cons_of_mem _ hz))]
  rfl
theorem cutN_sub{n:Int}:∀ {ts us:List Tab},cutN n ts=some us->us.length<=ts.length/\∀ y∈us,y∈ts
 |[],us,h=>by cases h
 |t::ts,us,h=>by
  simp only[cutN] at h
  by_cases ht:t.num=n
  ·rw[if_pos ht] at h;cases h;exact⟨by simp,λy hy=>mem_cons_of_mem _ hy⟩
  ·rw[if_neg ht] at h
   cases hc:cutN n ts with
   |none=>rw[hc] at h;cases h
   |some vs=>
    rw[hc] at h;cases h
    have:=cutN_sub hc
    exact⟨by simp;exact this.1,λy hy=>by
     rcases mem_cons.1 hy with rfl|hy
     ·exact mem_cons_self
     ·exact mem_cons_of_mem _ (this.2 y hy)⟩
def totL(lv:Lv):Nat:=(lv.map List.length).sum
def nums(lv:Lv):List Int:=lv.flatten.map Tab.num
def Hulls(lv:Lv):Prop:=∀ l∈lv,∀ t∈l,Le t.least t.greatest
def outM:List Place->Lv->Int×Lv
 |[],lv=>(0,lv)
 |p::ps,lv=>if p.lv<0 then(133,lv) else match lv[p.lv.toNat]? with
  |none=>(133,lv)
  |some ts=>match cutN p.num ts with
   |none=>(130,lv)
   |some us=>outM ps (lv.set p.lv.toNat us)
def inM:List Placed->Lv->Int×Lv
 |[],lv=>(0,lv)
 |p::ps,lv=>if p.lv<0 then(133,lv) else match lv[p.lv.toNat]? with
  |none=>(133,lv)
  |some ts=>if p.num∈nums lv then(131,lv) else if blB p.greatest p.least then(132,lv) else inM ps (lv.set p.lv.toNat (ts++[p.tab]))
theorem totL_set:∀ {lv:Lv} {k:Nat} {ts us:List Tab},lv[k]?=some ts->totL (lv.set k us)+ts.length=totL lv+us.length
 |[],k,ts,us,h=>by simp at h
 |l::lv,0,ts,us,h=>by
  simp only[List.getElem?_cons_zero,Option.some.injEq] at h
  subst h
  simp only[totL,List.set_cons_zero,map_cons,List.sum_cons];omega
 |l::lv,k+1,ts,us,h=>by
  simp only[List.getElem?_cons_succ] at h
  have:=totL_set (us:=us) h
  simp only[totL,List.set_cons_succ,map_cons,List.sum_cons] at this ⊢;omega
theorem totL_mem:∀ {lv:Lv} {l:List Tab},l∈lv->l.length<=totL lv
 |[],l,h=>by cases h
 |m::lv,l,h=>by
  simp only[totL,map_cons,List.sum_cons]
  rcases mem_cons.1 h with rfl|h
  ·omega
  ·have:=totL_mem h;unfold totL at this;omega
theorem Hulls.set{lv:Lv}(H:Hulls lv){k:Nat}{us:List Tab}(hu:∀ t∈us,Le t.least t.greatest):Hulls (lv.set k us):=λl hl=>by
 rcases List.mem_or_eq_of_mem_set hl with h|rfl
 ·exact H l h
 ·exact hu
theorem outM_sum:∀ (ps:List Place) (lv:Lv),totL (outM ps lv).2<=totL lv/\(outM ps lv).2.length=lv.length/\(Hulls lv->Hulls (outM ps lv).2)
 |[],lv=>⟨Nat.le_refl _,rfl,id⟩
 |p::ps,lv=>by
  unfold outM
  split
  ·exact⟨Nat.le_refl _,rfl,id⟩
  ·split
   ·exact⟨Nat.le_refl _,rfl,id⟩
   ·next ts h=>
    split
    ·exact⟨Nat.le_refl _,rfl,id⟩
    ·next us hc=>
     obtain⟨h1,h2,h3⟩:=outM_sum ps (lv.set p.lv.toNat us)
     have h4:=totL_set (us:=us) h
     have h5:=cutN_sub hc
     refine⟨by omega,by rw[h2,length_set],λH=>h3 (H.set λt ht=>H ts (mem_of_getElem? h) t (h5.2 t ht))⟩
theorem inM_sum:∀ (ps:List Placed) (lv:Lv),totL (inM ps lv).2<=totL lv+ps.length/\(inM ps lv).2.length=lv.length/\(Hulls lv->Hulls (inM ps lv).2)
 |[],lv=>⟨Nat.le_refl _,rfl,id⟩
 |p::ps,lv=>by
  unfold inM
  split
  ·exact⟨Nat.le_add_right _ _,rfl,id⟩
  ·split
   ·exact⟨Nat.le_add_right _ _,rfl,id⟩
   ·next ts h=>
    split
    ·exact⟨Nat.le_add_right _ _,rfl,id⟩
    ·split
     ·exact⟨Nat.le_add_right _ _,rfl,id⟩
     ·next hb=>
      obtain⟨h1,h2,h3⟩:=inM_sum ps (lv.set p.lv.toNat (ts++[p.tab]))
      have h4:=totL_set (us:=ts++[p.tab]) h
      rw[length_append,length_singleton] at h4
      refine⟨by simp only[length_cons];omega,by rw[h2,length_set],λH=>h3 (H.set λt ht=>?_)⟩
      rcases mem_append.1 ht with ht|ht
      ·exact H ts (mem_of_getElem? h) t ht
      ·rw[mem_singleton] at ht;subst ht
       intro hbl
       exact hb (blB_t.2 hbl)
def Adj(us:List Tab):Prop:=∀ i x y,us[i]?=some x->us[i+1]?=some y->Bl x.greatest y.least
theorem adj_strict{us:List Tab}(A:Adj us)(H:∀ t∈us,Le t.least t.greatest):us.Pairwise λx y=>Bl x.least y.least:=by
 rw[List.pairwise_iff_getElem]
 intro i j hi hj hij
 induction j with
 |zero=>omega
 |succ j ih=>
  have h1:Bl us[j].least us[j+1].least:=(H us[j] (List.getElem_mem _)).bl (A j _ _ (getElem?_eq_getElem (by omega)) (getElem?_eq_getElem hj))
  by_cases he:i=j
  ·subst he;exact h1
  ·exact(ih (by omega) (by omega)).trans h1
theorem srt_unique:∀ {us vs:List Tab},us.Perm vs->us.Pairwise (λx y=>Bl x.least y.least)->Srt vs->us=vs
 |[],vs,hp,_,_=>(List.nil_perm.1 hp).symm
 |x::us,[],hp,_,_=>absurd hp.length_eq (by simp)
 |x::us,y::vs,hp,hu,hv=>by
  rw[pairwise_cons] at hu
  have hv':=pairwise_cons.1 hv
  have hxy:x=y:=by
   have h1:x∈y::vs:=hp.mem_iff.1 mem_cons_self
   have h2:y∈x::us:=hp.mem_iff.2 mem_cons_self
   rcases mem_cons.1 h1 with h1|h1
   ·exact h1
   ·rcases mem_cons.1 h2 with h2|h2
    ·exact h2.symm
    ·exact absurd (hu.1 y h2) (hv'.1 x h1)
  subst hxy
  rw[srt_unique (List.Perm.cons_inv hp) hu.2 hv'.2]
def Fine(ts us:List Tab):Prop:=us.Perm ts/\Srt us/\Adj us
def Bad(ts:List Tab):Prop:=∃ us:List Tab,us.Perm ts/\Srt us/\∃ (i:Nat) (x y:Tab),us[i]?=some x/\us[i+1]?=some y/\¬ Bl x.greatest y.least
theorem good_one{ts us vs:List Tab}(H:∀ t∈ts,Le t.least t.greatest)(hu:Fine ts us)(hv:vs.Perm ts)(hs:Srt vs):us=vs:=
 srt_unique (hu.1.trans hv.symm) (adj_strict hu.2.2 λt ht=>H t (hu.1.mem_iff.1 ht)) hs
theorem good_bad{ts us:List Tab}(H:∀ t∈ts,Le t.least t.greatest)(hu:Fine ts us):¬ Bad ts:=by
 rintro⟨vs,hp,hs,i,x,y,h1,h2,h3⟩
 obtain rfl:=good_one H hu hp hs
 exact h3 (hu.2.2 i x y h1 h2)
def Sorted(lv lw:Lv):Prop:=lw.length=lv.length/\lw[0]?=lv[0]?/\∀ i ts us,1<=i->lv[i]?=some ts->lw[i]?=some us->Fine ts us
theorem Sorted.one{lv lw lx:Lv}(H:Hulls lv)(h:Sorted lv lw)(k:Sorted lv lx):lw=lx:=by
 apply List.ext_getElem?
 intro i
 rcases Nat.eq_zero_or_pos i with rfl|hi
 ·rw[h.2.1,k.2.1]
 ·by_cases hl:i<lv.length
  ·have a1:=getElem?_eq_getElem hl
   have b1:=getElem?_eq_getElem (l:=lw) (i:=i) (by rw[h.1];exact hl)
   have c1:=getElem?_eq_getElem (l:=lx) (i:=i) (by rw[k.1];exact hl)
   rw[b1,c1,good_one (H _ (mem_of_getElem? a1)) (h.2.2 i _ _ hi a1 b1) (k.2.2 i _ _ hi a1 c1).1 (k.2.2 i _ _ hi a1 c1).2.1]
  ·rw[List.getElem?_eq_none (by rw[h.1];omega),List.getElem?_eq_none (by rw[k.1];omega)]
def Res(lv:Lv)(e:Edit)(c:Int)(lw:Lv):Prop:=
 if e.ptr.length=lv.length then
  if (outM e.out lv).1=0 then
   if (inM e.inn (outM e.out lv).2).1=0 then
    (c=132/\∃ i ts,1<=i/\(inM e.inn (outM e.out lv).2).2[i]?=some ts/\Bad ts)\/(c=0/\Sorted (inM e.inn (outM e.out lv).2).2 lw)
   else c=(inM e.inn (outM e.out lv).2).1
  else c=(outM e.out lv).1
 else c=133
theorem Res.one{lv lw lx:Lv}{e:Edit}{c d:Int}(H:Hulls lv)(h:Res lv e c lw)(k:Res lv e d lx):c=d/\(c=0->lw=lx):=by
 unfold Res at h k
 by_cases h1:e.ptr.length=lv.length
 ·rw[if_pos h1] at h k
  by_cases h2:(outM e.out lv).1=0
  ·rw[if_pos h2] at h k
   by_cases h3:(inM e.inn (outM e.out lv).2).1=0
   ·rw[if_pos h3] at h k
    have H2:Hulls (inM e.inn (outM e.out lv).2).2:=(inM_sum _ _).2.2 ((outM_sum _ _).2.2 H)
    generalize (inM e.inn (outM e.out lv).2).2=l2 at h k H2
    have no:∀ {l3:Lv},Sorted l2 l3->¬ ∃ i ts,1<=i/\l2[i]?=some ts/\Bad ts:=λ{l3} S=>by
     rintro⟨i,ts,hi,hts,hb⟩
     have hl:i<l3.length:=by rw[S.1];exact(List.getElem?_eq_some_iff.1 hts).1
     exact good_bad (H2 _ (mem_of_getElem? hts)) (S.2.2 i ts _ hi hts (getElem?_eq_getElem hl)) hb
    rcases h with⟨rfl,hb⟩|⟨rfl,hs⟩<;>rcases k with⟨rfl,kb⟩|⟨rfl,ks⟩
    ·exact⟨rfl,λh=>absurd h (by decide)⟩
    ·exact absurd hb (no ks)
    ·exact absurd kb (no hs)
    ·exact⟨rfl,λ_=>hs.one H2 ks⟩
   ·rw[if_neg h3] at h k
    exact⟨h.trans k.symm,λh0=>absurd (h.symm.trans h0) h3⟩
  ·rw[if_neg h2] at h k
   exact⟨h.trans k.symm,λh0=>absurd (h.symm.trans h0) h2⟩
 ·rw[if_neg h1] at h k
  exact⟨h.trans k.symm,λh0=>absurd (h.symm.trans h0) (by decide)⟩
theorem Sorted.hulls{lv lw:Lv}(H:Hulls lv)(h:Sorted lv lw):Hulls lw:=λl hl t ht=>by
 obtain⟨i,hi,rfl⟩:=List.mem_iff_getElem.1 hl
 have hi':i<lv.length:=by rw[<- h.1];exact hi
 have a1:=getElem?_eq_getElem hi
 have b1:=getElem?_eq_getElem hi'
 rcases Nat.eq_zero_or_pos i with rfl|h0
 ·have:=h.2.1
  rw[a1,b1] at this
  simp only[Option.some.injEq] at this
  exact H _ (List.getElem_mem hi') t (by rw[<- this];exact ht)
 ·exact H _ (List.getElem_mem hi') t ((h.2.2 i _ _ h0 b1 a1).1.mem_iff.1 ht)
theorem Sorted.totL{lv lw:Lv}(h:Sorted lv lw):totL lw=totL lv:=by
 have:lw.map List.length=lv.map List.length:=by
  apply List.ext_getElem (by simp[h.1])
  intro i h1 h2
  simp only[length_map] at h1 h2
  simp only[List.getElem_map]
  have a1:=getElem?_eq_getElem h1
  have b1:=getElem?_eq_getElem h2
  rcases Nat.eq_zero_or_pos i with rfl|h0
  ·have:=h.2.1
   rw[a1,b1] at this
   simp only[Option.some.injEq] at this
   rw[this]
  ·exact(h.2.2 i _ _ h0 b1 a1).1.length_eq
 unfold Go.Eng.YtbjnlacacapjiaaGreatDoor.totL;rw[this]
theorem Res.ok{lv lw:Lv}{e:Edit}(h:Res lv e 0 lw):e.ptr.length=lv.length/\∃ l2,Sorted l2 lw/\totL l2<=totL lv+e.inn.length/\l2.length=lv.length/\(Hulls lv->Hulls l2):=by
 unfold Res at h
 split at h
 ·next h1=>
  split at h
  ·split at h
   ·rcases h with⟨h,_⟩|⟨_,h⟩
    ·exact absurd h (by decide)
    ·have a:=outM_sum e.out lv
     have b:=inM_sum e.inn (outM e.out lv).2
     exact⟨h1,_,h,by omega,by omega,λH=>b.2.2 (a.2.2 H)⟩
   ·next h3=>exact absurd h.symm h3
  ·next h2=>exact absurd h.symm h2
 ·exact absurd h (by decide)
end Go.Eng.YtbjnlacacapjiaaGreatDoor
end
section
namespace Go.Eng.YtbjnlacacapjiaaGreatDoor
theorem wr_nil(h:Hp)(b o:Nat):h.wr b o []=h:=by
 funext k
 unfold Hp.wr
 by_cases hk:k=b
 ·subst hk
  rw[if_pos rfl]
  split
  ·next c t f e=>rw[e];simp[setL]
  ·rfl
 ·rw[if_neg hk]
theorem bufWr'{h:Hp}{s:Sl}{sz t b:Nat}{A U V B:List Value}(Bf:Buf h s sz t (A++(U++B)))(hu:U.length=V.length)(hb:s.a=some ⟨b,0,none⟩) :
  h.canWA (some ⟨b,A.length,none⟩) V.length/\Upd h (h.wrA (some ⟨b,A.length,none⟩) V) s s/\Buf (h.wrA (some ⟨b,A.length,none⟩) V) s sz t (A++(V++B)):=by
 rcases Nat.eq_zero_or_pos U.length with h0|h0
 ·have hU:U=[]:=eq_nil_of_length_eq_zero h0
  have hV:V=[]:=eq_nil_of_length_eq_zero (by omega)
  subst hU hV
  refine⟨.inl rfl,?_⟩
  show Upd h (h.wr b A.length []) s s/\Buf (h.wr b A.length []) s sz t _
  rw[wr_nil]
  exact⟨Upd.refl _ _,Bf⟩
 ·obtain⟨b',hb',hc,Up,Bw⟩:=bufWr Bf hu h0
  rw[hb] at hb'
  simp only[Option.some.injEq,Addr.mk.injEq,and_true] at hb'
  subst hb'
  exact⟨.inr ⟨_,_,rfl,hc⟩,Up,Bw⟩
theorem buf_shrink{h:Hp}{s:Sl}{sz t k:Nat}{A B:List Value}(Bf:Buf h s sz t (A++B))(hA:A.length=k*sz)(hk:k<=s.n):Buf h ⟨s.a,k,s.c⟩ sz t A:=by
 refine⟨hA,Nat.le_trans hk Bf.cap,Bf.own.imp id ?_⟩
 rintro⟨b,c,f,h1,h2,h3,h4,h5⟩
 refine⟨b,c,f,h1,h2,h3,h4,?_⟩
 have:=congrArg (List.take A.length) h5
 rw[List.take_take,List.take_left' rfl,length_append,Nat.min_eq_left (Nat.le_add_right _ _)] at this
 exact this
theorem tabV_app(P R:List Tab):tabV (P++R)=tabV P++tabV R:=by unfold tabV;simp
theorem tabV_cons(x:Tab)(R:List Tab):tabV (x::R)=x.cells++tabV R:=by unfold tabV;simp
theorem tab_one:∀ (ts:List Tab),∀ v∈tabV ts,Value.oneCell' v=true
 |[],v,h=>by cases h
 |t::ts,v,h=>by
  rw[tabV_cons,mem_append] at h
  rcases h with h|h
  ·simp only[Tab.cells,mem_cons,List.not_mem_nil,or_false] at h
   rcases h with rfl|rfl|rfl|rfl|rfl|rfl<;>rfl
  ·exact tab_one ts v h
def zT:Tab:=⟨0,0,0,0,⟨#[]⟩,⟨#[]⟩⟩
theorem zeros_tab(n:Nat):zerosV [.int .u64 0,.int .i64 0,.int .i64 0,.int .i64 0,.string ⟨#[]⟩,.string ⟨#[]⟩] n=tabV (List.replicate n zT):=by
 apply List.ext_getElem
 ·rw[zerosV_length,tabV_len,length_replicate];rfl
 ·intro i h1 h2
  rw[tabV_len,length_replicate] at h2
  have hg:(tabV (List.replicate n zT))[i / 6*6+i % 6]?=(Tab.cells zT)[i % 6]?:=by
   have:=flat_get Tab.cells 6 (λ_=>rfl) (List.replicate n zT) (i / 6) (i % 6) (by rw[length_replicate];omega) (by omega)
   rw[List.getElem_replicate] at this
   exact this
  have he:i / 6*6+i % 6=i:=by omega
  rw[he] at hg
  rw[<- Option.some_inj,<- getElem?_eq_getElem,<- getElem?_eq_getElem,hg]
  unfold zerosV Builtin.zeroCells
  have hi:i<n*6:=h2
  rw[Array.toList_map,Array.toList_range]
  simp only[getElem?_map,List.size_toArray,length_cons,length_nil]
  rw[List.getElem?_range (by simpa using hi)]
  simp only[Option.map_some]
  have hm:i % 6<6:=Nat.mod_lt _ (by decide)
  generalize i % 6=j at hm
  match j,hm with
  |0,_=>rfl
  |1,_=>rfl
  |2,_=>rfl
  |3,_=>rfl
  |4,_=>rfl
  |5,_=>rfl
theorem off_upd{h h1:Hp}{s s' y:Sl}{sz t:Nat}{vs:List Value}(U:Upd h h1 s s')(B:Buf h y sz t vs)(o:Off s y/\Off y s):Off s' y/\Off y s':=by
 rcases U.at_ with e|⟨b,e,hn⟩
 ·exact⟨λk p q a=>o.1 k p q (by rw[<- e];exact a),λk p q a a'=>o.2 k p q a (by rw[<- e];exact a')⟩
 ·have:=NewN.off (s:=s') (.inr ⟨b,e,hn⟩) B
  exact⟨this.2,this.1⟩
structure Lvs(g h:Hp)(ls:Sl)(xs:List (Sl×List Tab)):Prop where
 k:Keep g h
 nl:NewN g ls
 l:Buf h ls 1 77 (slV (xs.map (·.1)))
 t:∀ x∈xs,TB h x.1 x.2
 n:∀ x∈xs,NewN g x.1
 d:∀ (i j:Nat) x y,xs[i]?=some x->xs[j]?=some y->i≠j->Off x.1 y.1
variable{g h h1:Hp}{ls:Sl}{xs:List (Sl×List Tab)}
theorem Lvs.len(L:Lvs g h ls xs):ls.n=xs.length:=by have:=L.l.len;rw[slV_length,length_map] at this;omega
theorem Lvs.ck{κ:List Nat}(L:Lvs g h ls xs)(C:Ck κ h h1)(K:Keep g h1)(a:79∉κ)(b:65∉κ):Lvs g h1 ls xs:=
 ⟨K,L.nl,C.buf a L.l,λx hx=>C.buf b (L.t x hx),L.n,L.d⟩
theorem Lvs.keep(L:Lvs g h ls xs)(K:Keep h h1):Lvs g h1 ls xs:=L.ck (κ:=[]) (Ck.of_keep K) (L.k.trans K) (by simp) (by simp)
theorem Lvs.rd(L:Lvs g h ls xs){i:Nat}{x:Sl×List Tab}(hx:xs[i]?=some x):∃ b,ls.a=some ⟨b,0,none⟩/\h.at b i=some (.slice x.1.a x.1.n x.1.c):=by
 have hi:i<xs.length:=(List.getElem?_eq_some_iff.1 hx).1
 obtain⟨b,ha,hat,_⟩:=buf_set L.l (k:=i) (by rw[slV_length,length_map];exact hi)
 refine⟨b,ha,?_⟩
 rw[hat]
 unfold slV
 rw[getElem?_map,getElem?_map,hx]
 rfl
theorem set_get{α:Type}{xs:List α}{i j:Nat}{a y:α}(h:(xs.set i a)[j]?=some y):(j=i/\y=a/\i<xs.length)\/(j≠i/\xs[j]?=some y):=by
 rw[List.getElem?_set] at h
 by_cases hj:i=j
 ·rw[if_pos hj] at h
  split at h
  ·next hl=>exact .inl ⟨hj.symm,(Option.some.inj h).symm,hl⟩
  ·cases h
 ·rw[if_neg hj] at h
  exact .inr ⟨λe=>hj e.symm,h⟩
theorem Lvs.put(L:Lvs g h ls xs){i:Nat}{x:Sl×List Tab}(hx:xs[i]?=some x){s':Sl}{us:List Tab}(U:Upd h h1 x.1 s')(T:TB h1 s' us) :
  ∃ b,ls.a=some ⟨b,0,none⟩/\h1.at b i=some (.slice x.1.a x.1.n x.1.c)/\h1.canW b i 1/\Lvs g (h1.wr b i [.slice s'.a s'.n s'.c]) ls (xs.set i (s',us))/\Ck [65,79] h (h1.wr b i [.slice s'.a s'.n s'.c]):=by
 have hm:x∈xs:=mem_of_getElem? hx
 have hi:i<xs.length:=(List.getElem?_eq_some_iff.1 hx).1
 have C1:Ck [65] h h1:=Ck.of_upd (L.t x hm) U
 have B1:=C1.buf (by decide) L.l
 obtain⟨K1,N1⟩:=(L.n x hm).upd L.k U
 obtain⟨b,ha,hat,hc,hw⟩:=buf_set B1 (k:=i) (by rw[slV_length,length_map];exact hi)
 obtain⟨U2,B2⟩:=hw (.slice s'.a s'.n s'.c)
 have C2:Ck [79] h1 _:=Ck.of_upd B1 U2
 refine⟨b,ha,?_,hc,⟨(L.nl.upd K1 U2).1,L.nl,?_,?_,?_,?_⟩,(C1.mono (by simp)).trans (C2.mono (by simp))⟩
 ·rw[hat];unfold slV;rw[getElem?_map,getElem?_map,hx];rfl
 ·have e:(slV (xs.map (·.1))).set i (.slice s'.a s'.n s'.c)=slV ((xs.set i (s',us)).map (·.1)):=by
   unfold slV;rw[List.map_set,List.map_set]
  rw[<- e];exact B2
 ·intro y hy
  obtain⟨j,hj⟩:=List.mem_iff_getElem?.1 hy
  rcases set_get hj with⟨_,rfl,_⟩|⟨hne,hj⟩
  ·exact C2.buf (by decide) T
  ·exact C2.buf (by decide) ((L.t y (mem_of_getElem? hj)).upd U (L.d j i y x hj hx hne))
 ·intro y hy
  obtain⟨j,hj⟩:=List.mem_iff_getElem?.1 hy
  rcases set_get hj with⟨_,rfl,_⟩|⟨hne,hj⟩
  ·exact N1
  ·exact L.n y (mem_of_getElem? hj)
 ·intro p q y z hp hq hpq
  rcases set_get hp with⟨rfl,rfl,_⟩|⟨hne,hp'⟩<;>rcases set_get hq with⟨rfl,rfl,_⟩|⟨hne2,hq'⟩
  ·exact absurd rfl hpq
  ·exact(off_upd U (L.t z (mem_of_getElem? hq')) ⟨L.d _ _ x z hx hq' hpq,L.d _ _ z x hq' hx (Ne.symm hpq)⟩).1
  ·exact(off_upd U (L.t y (mem_of_getElem? hp')) ⟨L.d _ _ x y hx hp' (Ne.symm hpq),L.d _ _ y x hp' hx hpq⟩).2
  ·exact L.d p q y z hp' hq' hpq
theorem Lvs.fill(L:Lvs g h ls xs){i:Nat}{x:Sl×List Tab}(hx:xs[i]?=some x){us:List Tab}(U:Upd h h1 x.1 x.1)(T:TB h1 x.1 us):Lvs g h1 ls (xs.set i (x.1,us))/\Ck [65] h h1:=by
 have hm:x∈xs:=mem_of_getElem? hx
 have C1:Ck [65] h h1:=Ck.of_upd (L.t x hm) U
 obtain⟨K1,N1⟩:=(L.n x hm).upd L.k U
 have eq1:(xs.set i (x.1,us)).map (·.1)=xs.map (·.1):=by
  rw[List.map_set]
  apply List.ext_getElem?
  intro j
  rw[List.getElem?_set]
  by_cases hj:i=j
  ·subst hj
   rw[if_pos rfl,getElem?_map,hx]
   simp[(List.getElem?_eq_some_iff.1 hx).1]
  ·rw[if_neg hj]
 refine⟨⟨K1,L.nl,by rw[eq1];exact C1.buf (by decide) L.l,?_,?_,?_⟩,C1⟩
 ·intro y hy
  obtain⟨j,hj⟩:=List.mem_iff_getElem?.1 hy
  rcases set_get hj with⟨_,rfl,_⟩|⟨hne,hj⟩
  ·exact T
  ·exact(L.t y (mem_of_getElem? hj)).upd U (L.d j i y x hj hx hne)
 ·intro y hy
  obtain⟨j,hj⟩:=List.mem_iff_getElem?.1 hy
  rcases set_get hj with⟨_,rfl,_⟩|⟨hne,hj⟩
  ·exact N1
  ·exact L.n y (mem_of_getElem? hj)
 ·intro p q y z hp hq hpq
  rcases set_get hp with⟨rfl,rfl,_⟩|⟨hne,hp'⟩<;>rcases set_get hq with⟨rfl,rfl,_⟩|⟨hne2,hq'⟩
  ·exact absurd rfl hpq
  ·exact L.d _ _ x z hx hq' hpq
  ·exact L.d _ _ y x hp' hx hpq
  ·exact L.d p q y z hp' hq' hpq
end Go.Eng.YtbjnlacacapjiaaGreatDoor
end
section
namespace Go.Eng.YtbjnlacacapjiaaGreatDoor
theorem buf_b{h:Hp}{s:Sl}{sz t:Nat}{vs:List Value}(B:Buf h s sz t vs)(hk:0<vs.length):∃ b,s.a=some ⟨b,0,none⟩:=by
 obtain⟨b,hb,_⟩:=buf_set B hk
 exact⟨b,hb⟩
end Go.Eng.YtbjnlacacapjiaaGreatDoor
end
section
namespace Go.Eng.YtbjnlacacapjiaaGreatDoor
theorem cut_a(s:Sl)(k m:Int){sz:Nat}:(Sl.cut s sz 0 k m).a=s.a:=by
 unfold Sl.cut
 simp only[Int.toNat_zero,Nat.zero_mul]
 split
 ·rfl
 ·cases s.a with
  |none=>rfl
  |some a=>simp[Addr.add]
end Go.Eng.YtbjnlacacapjiaaGreatDoor
end
section
namespace Go.Eng.YtbjnlacacapjiaaGreatDoor
def VerR(h:Hp)(vb:Nat)(lv:Lv):Prop:=∃ (ls:Sl) (xs:List (Sl×List Tab)),h vb=some (.cells ⟨[.slice ls.a ls.n ls.c]⟩ 146 (0,0))/\h.row ls.a (ls.n*1) (slV (xs.map (·.1)))/\(∀ x∈xs,h.row x.1.a (x.1.n*6) (tabV x.2))/\xs.map (·.2)=lv
theorem VerR.keep{h h':Hp}{vb:Nat}{lv:Lv}(k:Keep h h')(V:VerR h vb lv):VerR h' vb lv:=by
 obtain⟨ls,xs,h1,h2,h3,h4⟩:=V
 exact⟨ls,xs,k _ _ h1,k.row h2,λx hx=>k.row (h3 x hx),h4⟩
structure Ver(g h:Hp)(vb:Nat)(ls:Sl)(xs:List (Sl×List Tab)):Prop where
 L:Lvs g h ls xs
 nv:g vb=none
 v:h vb=some (.cells ⟨[.slice ls.a ls.n ls.c]⟩ 146 (0,0))
theorem Ver.r{g h:Hp}{vb:Nat}{ls:Sl}{xs:List (Sl×List Tab)}(V:Ver g h vb ls xs):VerR h vb (xs.map (·.2)):=⟨ls,xs,V.v,V.L.l.row,λx hx=>(V.L.t x hx).row,rfl⟩
theorem Ver.keep{g h h':Hp}{vb:Nat}{ls:Sl}{xs:List (Sl×List Tab)}(V:Ver g h vb ls xs)(K:Keep h h'):Ver g h' vb ls xs:=⟨V.L.keep K,V.nv,K _ _ V.v⟩
theorem Ver.ck{κ:List Nat}{g h h':Hp}{vb:Nat}{ls:Sl}{xs:List (Sl×List Tab)}(V:Ver g h vb ls xs)(C:Ck κ h h')(K:Keep g h')(a:79∉κ)(b:65∉κ)(c:148∉κ):Ver g h' vb ls xs:=⟨V.L.ck C K a b,V.nv,C.keep _ _ V.v c⟩
theorem rows_rd{h:Hp}{ls:Sl}{xs:List (Sl×List Tab)}(hr:h.row ls.a (ls.n*1) (slV (xs.map (·.1)))){i:Nat}{x:Sl×List Tab}(hx:xs[i]?=some x):ls.n=xs.length/\∃ b o,ls.a=some ⟨b,o,none⟩/\h.at b (o+i)=some (.slice x.1.a x.1.n x.1.c):=by
 have hi:i<xs.length:=(List.getElem?_eq_some_iff.1 hx).1
 have hn:ls.n=xs.length:=by have:=hr.1;rw[slV_length,length_map] at this;omega
 obtain⟨b,o,ha,hat⟩:=row_get hr (i:=i) (by omega)
 refine⟨hn,b,o,ha,?_⟩
 rw[hat i (by omega)]
 unfold slV;rw[getElem?_map,getElem?_map,hx];rfl
theorem upd_new{h:Hp}{b t n c:Nat}{x:Array Value}(hb:h b=none)(sz:Nat):Upd h (h.new b (.cells x t (0,0))) ⟨none,0,0⟩ ⟨some ⟨b,0,none⟩,n,c⟩:=
 ⟨λk y _ e=>Keep.new hb _ k y e,.inr ⟨b,rfl,hb⟩,(Keep.new hb _).dom⟩
theorem rep_get{α:Type}{ys:List α}{n:Nat}{z:α}(hn:0<n):(ys++List.replicate n z)[ys.length]?=some z:=by
 rw[List.getElem?_append_right (Nat.le_refl _),Nat.sub_self,List.getElem?_replicate,if_pos hn]
theorem rep_set{α:Type}{ys:List α}{n:Nat}{z a:α}:(ys++List.replicate (n+1) z).set ys.length a=(ys++[a])++List.replicate n z:=by
 rw[List.set_append_right _ _ (Nat.le_refl _),Nat.sub_self,List.replicate_succ]
 simp
theorem copied_ver{h:Hp}{vb:Nat}{lv:Lv}{Q:Value->Hp->Prop}(V:VerR h vb lv)(h5:lv.length<=5)(hs:totL lv<=5000000)
  (hQ:∀ h' vb' ls xs,Ver h h' vb' ls xs->xs.map (·.2)=lv->Q (.pointer (some ⟨vb',0,none⟩)) h'):F95.T (some ⟨vb,0,none⟩) h Q:=by
 obtain⟨ls,xs,hv,hr,ht,rfl⟩:=V
 rw[length_map] at h5
 have hn:ls.n=xs.length:=by have:=hr.1;rw[slV_length,length_map] at this;omega
 unfold F95.T
 simp only[Int.toNat_natCast]
 refine⟨vb,0,rfl,ls,at_of hv 0,⟨by omega,by omega,by omega⟩,λb1 hb1=>?_⟩
 have K1:=Keep.new hb1 (.cells (Builtin.zeroCells (List.toArray [.slice none 0 0]) ls.n) 77 (0,0))
 refine⟨vb,0,rfl,ls,at_of (K1 _ _ hv) 0,λn h1=>∃ ys:List (Sl×List Tab),n=(ys.length:Int)/\ys.map (·.2)=(xs.map (·.2)).take ys.length/\ys.length<=xs.length/\Lvs h h1 ⟨some ⟨b1,0,none⟩,ls.n,ls.n⟩ (ys++List.replicate (xs.length-ys.length) (⟨none,0,0⟩,[])),λn _=>xs.length-n.toNat,⟨[],rfl,rfl,Nat.zero_le _,K1,.inr ⟨b1,rfl,hb1⟩,?_,?_,?_,?_⟩,?_⟩
 ·have B:=buf_make h b1 ls.n 77 [.slice none 0 0] (by decide)
  rw[zerosV_one] at B
  have e:slV ((([]:List (Sl×List Tab))++List.replicate (xs.length-([]:List (Sl×List Tab)).length) ((⟨none,0,0⟩:Sl),([]:List Tab))).map (·.1))=List.replicate ls.n (.slice none 0 0):=by
   rw[hn];simp[slV]
  rw[e];exact B
 ·intro x hx
  simp only[List.nil_append,List.mem_replicate] at hx
  rw[hx.2];exact Buf.nil _ _ _
 ·intro x hx
  simp only[List.nil_append,List.mem_replicate] at hx
  rw[hx.2];exact .inl rfl
 ·intro i j x y hx _ _
  have:=mem_of_getElem? hx
  simp only[List.nil_append,List.mem_replicate] at this
  rw[this.2];exact off_nil (.inl rfl)
 rintro n h1 ⟨ys,rfl,he,hl,L⟩
 refine⟨λhlt=>?_,λhge=>?_⟩
 ·have hlt':ys.length<xs.length:=by omega
  have hx:=getElem?_eq_getElem hlt'
  generalize xs[ys.length]=x at hx
  have hxm:=mem_of_getElem? hx
  obtain⟨_,b3,o2,ha3,hat3⟩:=rows_rd (L.k.row hr) hx
  have htx:=ht x hxm
  have hxn:x.1.n=x.2.length:=by have:=htx.1;rw[tabV_len] at this;omega
  have hxs:x.2.length<=totL (xs.map (·.2)):=totL_mem (List.mem_map_of_mem hxm)
  refine⟨b3,o2,ha3,⟨by omega,by omega⟩,x.1,hat3,⟨by omega,by omega,by omega⟩,λb4 hb4=>?_⟩
  have B4:=buf_make h1 b4 x.1.n 63 [.int .u64 0,.int .i64 0,.int .i64 0,.int .i64 0,.string ⟨#[]⟩,.string ⟨#[]⟩] (by decide)
  rw[zeros_tab] at B4
  have U4:Upd h1 _ ⟨none,0,0⟩ ⟨some ⟨b4,0,none⟩,x.1.n,x.1.n⟩:=upd_new (t:=63) (x:=Builtin.zeroCells (List.toArray [.int .u64 0,.int .i64 0,.int .i64 0,.int .i64 0,.string ⟨#[]⟩,.string ⟨#[]⟩]) x.1.n) hb4 6
  have hz:(ys++List.replicate (xs.length-ys.length) ((⟨none,0,0⟩:Sl),([]:List Tab)))[ys.length]?=some (⟨none,0,0⟩,[]):=rep_get (by omega)
  obtain⟨b5,ha5,_,hc5,L5,C5⟩:=L.put hz U4 B4
  have hb15:b1=b5:=by simpa using ha5
  subst hb15
  obtain⟨k,hk⟩:∃ k,xs.length-ys.length=k+1:=⟨xs.length-ys.length-1,by omega⟩
  rw[hk,rep_set] at L5
  have hz5:(ys++[((⟨some ⟨b4,0,none⟩,x.1.n,x.1.n⟩:Sl),List.replicate x.1.n zT)]++List.replicate k ((⟨none,0,0⟩:Sl),([]:List Tab)))[ys.length]?=some (⟨some ⟨b4,0,none⟩,x.1.n,x.1.n⟩,List.replicate x.1.n zT):=by
   rw[List.append_assoc,List.getElem?_append_right (Nat.le_refl _),Nat.sub_self];rfl
  obtain⟨b6,ha6,hat6⟩:=L5.rd hz5
  have hb16:b1=b6:=by simpa using ha6
  subst hb16
  refine⟨b1,0,rfl,⟨by omega,by omega⟩,by rw[Nat.zero_add];exact hc5,b1,0,rfl,⟨by omega,by omega⟩,⟨some ⟨b4,0,none⟩,x.1.n,x.1.n⟩,by rw[Nat.zero_add];exact hat6,tabV x.2,?_⟩
  simp only[Nat.zero_add]
  have hT5:=L5.t _ (mem_of_getElem? hz5)
  have hmin:Nat.min x.1.n x.1.n=x.1.n:=Nat.min_self _
  obtain⟨hc6,U6,T6⟩:=bufWr' (A:=[]) (U:=tabV (List.replicate x.1.n zT)) (V:=tabV x.2) (B:=[]) (b:=b4) (by rw[List.nil_append,append_nil];exact hT5) (by rw[tabV_len,tabV_len,length_replicate,hxn]) rfl
  simp only[List.nil_append,append_nil,length_nil] at hc6 U6 T6
  obtain⟨L6,C6⟩:=L5.fill hz5 U6 T6
  refine⟨by rw[hmin];exact L5.k.row htx,tab_one _,hc6,⟨ys++[(⟨some ⟨b4,0,none⟩,x.1.n,x.1.n⟩,x.2)],?_,?_,?_,?_⟩,?_⟩
  ·rw[next_i (n:=100) (by omega) (by omega)];simp
  ·rw[map_append,he,length_append,length_singleton,List.take_succ_eq_append_getElem (by rw[length_map];exact hlt')]
   rw[List.getElem_map]
   rw[getElem?_eq_getElem hlt'] at hx
   simp only[Option.some.injEq] at hx
   rw[hx];rfl
  ·rw[length_append,length_singleton];omega
  ·have e1:xs.length-(ys++[((⟨some ⟨b4,0,none⟩,x.1.n,x.1.n⟩:Sl),x.2)]).length=k:=by rw[length_append,length_singleton];omega
   rw[e1]
   have e2:(ys++[((⟨some ⟨b4,0,none⟩,x.1.n,x.1.n⟩:Sl),List.replicate x.1.n zT)]++List.replicate k ((⟨none,0,0⟩:Sl),([]:List Tab))).set ys.length (⟨some ⟨b4,0,none⟩,x.1.n,x.1.n⟩,x.2)=ys++[((⟨some ⟨b4,0,none⟩,x.1.n,x.1.n⟩:Sl),x.2)]++List.replicate k ((⟨none,0,0⟩:Sl),([]:List Tab)):=by
    rw[List.append_assoc,List.set_append_right _ _ (Nat.le_refl _),Nat.sub_self];simp
   rw[<- e2]
   exact L6
  ·rw[next_i (n:=100) (by omega) (by omega)];omega
 ·have hl2:ys.length=xs.length:=by omega
  intro b7 hb7
  have K7:=Keep.new hb7 (.cells ⟨[.slice (some ⟨b1,0,none⟩) ls.n ls.n]⟩ 146 (0,0))
  refine hQ _ b7 ⟨some ⟨b1,0,none⟩,ls.n,ls.n⟩ ys ⟨?_,L.k.dom b7 hb7,new_at _ _ _⟩ ?_
  ·rw[hl2,Nat.sub_self,List.replicate_zero,append_nil] at L
   exact L.keep K7
  ·rw[he,hl2,<- length_map (f:=λx:Sl×List Tab=>x.2),List.take_length]
theorem has_spec{h:Hp}{vb:Nat}{ls:Sl}{n:Int}{Q:Value->Hp->Prop}(hv:h vb=some (.cells ⟨[.slice ls.a ls.n ls.c]⟩ 146 (0,0)))(hT:0<=n->n<(ls.n:Int)->Q (.bool true) h)(hF:n<0\/(ls.n:Int)<=n->Q (.bool false) h):F143.T (some ⟨vb,0,none⟩) n h Q:=
 ⟨λh0=>⟨vb,0,rfl,ls,at_of hv 0,λh1=>hT h0 h1,λh1=>hF (.inr (by omega))⟩,λh0=>hF (.inl (by omega))⟩
theorem index_spec{h:Hp}{l:Sl}{ts:List Tab}{b:Nat}{num:Int}{Q:Value->Hp->Prop}(hr:h.row l.a (l.n*6) (tabV ts))(hn:l.n<=5000000)(hb:h.at b 1=some (.int .u64 num))
  (h1:∀ P x R,ts=P++x::R->(∀ y∈P,y.num≠num)->x.num=num->Q (.int .i64 (P.length:Int)) h) (h2:(∀ y∈ts,y.num≠num)->Q (.int .i64 (-1)) h):F153.T l b 0 h Q:=by
 have hl:l.n=ts.length:=by have:=hr.1;rw[tabV_len] at this;omega
 refine⟨λn g=>g=h/\∃ P R,ts=P++R/\n=(P.length:Int)/\∀ y∈P,y.num≠num,λn _=>ts.length-n.toNat,⟨rfl,[],ts,rfl,rfl,λy hy=>by cases hy⟩,?_⟩
 rintro n g ⟨rfl,P,R,rfl,rfl,hP⟩
 rw[length_append] at hl
 refine⟨λhlt=>?_,λhge=>?_⟩
 ·rcases R with _|⟨x,R⟩
  ·exact absurd hlt (by simp at hl;omega)
  refine tab_rd hr rfl λb1 o1=>⟨num,hb,λhe=>⟨true,rfl,λ_=>h1 P x R rfl hP he,λh0=>(by cases h0)⟩,λhne=>⟨false,rfl,λh0=>(by cases h0),λ_=>?_⟩⟩
  rw[length_cons] at hl
  rw[next_i (n:=5100000) (by omega) (by omega)]
  refine⟨⟨rfl,P++[x],R,by simp,by simp,λy hy=>?_⟩,by dsimp only;rw[length_append,length_cons];omega⟩
  rcases mem_append.1 hy with hy|hy
  ·exact hP y hy
  ·rw[mem_singleton] at hy;subst hy;exact hne
 ·have:R=[]:=eq_nil_of_length_eq_zero (by omega)
  subst this
  exact h2 (by simpa using hP)
theorem delete_spec{h:Hp}{l:Sl}{P R:List Tab}{x:Tab}{n n1:Int}{Q:Value->Hp->Prop}(B:TB h l (P++x::R))(hn:l.n<=5000000)(e:n=(P.length:Int))(e1:n1=((P.length+1:Nat):Int))
  (hQ:∀ h' l',TB h' l' (P++R)->Upd h h' l l'->Q (.slice l'.a l'.n l'.c) h'):F155.T l n n1 h Q:=by
 subst e e1
 have hl:=B.n
 have hcap:=Buf.cap B
 rw[length_append,length_cons] at hl
 obtain⟨b,hb⟩:=buf_b B (by rw[tabV_len,length_append,length_cons];omega)
 have hcb:=cut_back (k:=P.length+1) (Buf.row B) (by omega) hcap
 have hdrop:(tabV (P++x::R)).drop ((P.length+1)*6)=tabV R:=by
  rw[tabV_app,tabV_cons,<- List.append_assoc]
  exact List.drop_left' (by rw[length_append,tabV_len];show P.length*6+6=_;omega)
 rw[hdrop] at hcb
 have hbn:(Sl.cut l 6 ((P.length+1:Nat):Int) (l.n:Int) (l.c:Int)).n=R.length:=by unfold Sl.cut;dsimp only;omega
 have hfn:(Sl.cut l 6 0 (P.length:Int) (l.c:Int)).n=P.length:=by unfold Sl.cut;dsimp only;omega
 have hfc:(Sl.cut l 6 0 (P.length:Int) (l.c:Int)).c=l.c:=by unfold Sl.cut;dsimp only;omega
 refine⟨⟨by omega,by omega,by omega,by omega⟩,λhe=>absurd he (by omega),λ_=>⟨⟨by omega,by omega,by omega,by omega⟩,⟨by omega,by omega,by omega,by omega⟩,tabV R,hcb,tab_one _,?_⟩⟩
 unfold appendD
 rw[hbn,hfn,hfc,cut_a,hb]
 have hadd:(some (⟨b,0,none⟩:Addr)).map (·.add (P.length*6))=some ⟨b,P.length*6,none⟩:=by simp[addr_add]
 rw[hadd]
 refine⟨by omega,λ_=>?_,λhlt=>absurd hlt (by omega)⟩
 -- the tail over what goes
 obtain⟨U2,B2,hUB,hUl⟩:=cut_at (l:=x.cells++tabV R) (k:=R.length*6) (by rw[length_append,tabV_len];omega)
 have hB2:B2.length=6:=by
  have:=congrArg List.length hUB
  rw[length_append,length_append,tabV_len] at this
  have h6:x.cells.length=6:=rfl
  omega
 have Bf:Buf h l 6 63 (tabV P++(U2++B2)):=by rw[<- hUB,<- tabV_cons,<- tabV_app];exact B
 obtain⟨c1,Up1,W1⟩:=bufWr' (V:=tabV R) Bf (by rw[tabV_len];exact hUl) hb
 rw[tabV_len] at c1 Up1 W1
 refine⟨c1,⟨by dsimp only;omega,by dsimp only;omega,by dsimp only;omega,by dsimp only;omega⟩,?_⟩
 have hcn:(Sl.cut ⟨some ⟨b,0,none⟩,P.length+R.length,l.c⟩ 6 ((P.length+R.length:Nat):Int) (l.n:Int) (l.c:Int)).n=1:=by unfold Sl.cut;dsimp only;omega
 have hca:(Sl.cut ⟨some ⟨b,0,none⟩,P.length+R.length,l.c⟩ 6 ((P.length+R.length:Nat):Int) (l.n:Int) (l.c:Int)).a=some ⟨b,(tabV P++tabV R).length,none⟩:=by
  unfold Sl.cut
  dsimp only
  rw[if_neg (by omega)]
  simp only[Option.map_some,addr_add,length_append,tabV_len,Option.some.injEq,Addr.mk.injEq,and_true,true_and]
  omega
 have W1':Buf (h.wrA (some ⟨b,P.length*6,none⟩) (tabV R)) l 6 63 ((tabV P++tabV R)++(B2++[])):=by simpa using W1
 have hz:zerosV [.int .u64 0,.int .i64 0,.int .i64 0,.int .i64 0,.string ⟨#[]⟩,.string ⟨#[]⟩] 1=tabV [zT]:=zeros_tab 1
 obtain⟨c2,Up2,W2⟩:=bufWr' (V:=tabV [zT]) W1' (by rw[tabV_len];exact hB2) hb
 rw[tabV_len] at c2
 dsimp only
 rw[hcn,hca,hz]
 refine⟨c2,hQ _ ⟨some ⟨b,0,none⟩,P.length+R.length,l.c⟩ ?_ ?_⟩
 ·have:=buf_shrink (k:=P.length+R.length) W2 (by rw[length_append,tabV_len,tabV_len];omega) (by omega)
  rw[hb] at this
  show Buf _ _ 6 63 (tabV (P++R))
  rw[tabV_app]
  exact this
 ·have Up:=Up1.trans Up2
  exact⟨Up.keep,.inl hb.symm,Up.dom⟩
end Go.Eng.YtbjnlacacapjiaaGreatDoor
end
section
namespace Go.Eng.YtbjnlacacapjiaaGreatDoor
theorem out_rd{h:Hp}{l:Sl}{P R:List Place}{p:Place}(hr:h.row l.a (l.n*2) (outV (P++p::R))):∃ b o,l.a=some ⟨b,o,none⟩/\(P.length:Int)<(l.n:Int)/\h.at b (o+(P.length:Int).toNat*2)=some (.int .i64 p.lv)/\h.at b ((o+(P.length:Int).toNat*2)+1)=some (.int .u64 p.num):=by
 have hl:=hr.1
 rw[outV_len,length_append,length_cons] at hl
 obtain⟨b,o,ha,hat⟩:=row_get hr (i:=P.length*2) (by omega)
 have c:∀ j,j<2->h.at b ((o+(P.length:Int).toNat*2)+j)=(Place.cells p)[j]?:=λj hj=>by
  rw[Int.toNat_natCast,Nat.add_assoc,hat _ (by omega)]
  have:=flat_get Place.cells 2 (λ_=>rfl) (P++p::R) P.length j (by rw[length_append,length_cons];omega) hj
  rw[List.getElem_append_right (Nat.le_refl _)] at this
  simp only[Nat.sub_self,List.getElem_cons_zero] at this
  exact this
 exact⟨b,o,ha,by omega,c 0 (by decide),c 1 (by decide)⟩
theorem out_spec{g h:Hp}{vb:Nat}{ls l:Sl}{xs:List (Sl×List Tab)}{ps:List Place}{Q:Value->Hp->Prop}(V:Ver g h vb ls xs)(hr:g.row l.a (l.n*2) (outV ps))(hs:totL (xs.map (·.2))<=5000000)(hp:ps.length<=5000000)
  (hQ:∀ h' xs',Ver g h' vb ls xs'->Ck [65,79] h h'->xs'.map (·.2)=(outM ps (xs.map (·.2))).2->Q (.int .i64 (outM ps (xs.map (·.2))).1) h'):F96.T (some ⟨vb,0,none⟩) l h Q:=by
 have hln:l.n=ps.length:=by have:=hr.1;rw[outV_len] at this;omega
 refine⟨λn h1=>∃ P R xs1,ps=P++R/\n=(P.length:Int)/\Ver g h1 vb ls xs1/\Ck [65,79] h h1/\outM ps (xs.map (·.2))=outM R (xs1.map (·.2))/\totL (xs1.map (·.2))<=5000000,λn _=>ps.length-n.toNat,⟨[],ps,xs,rfl,rfl,V,Ck.refl _ _,rfl,hs⟩,?_⟩
 rintro n h1 ⟨P,R,xs1,rfl,rfl,V1,C1,he,ht⟩
 rw[length_append] at hln hp
 rw[he] at hQ
 refine⟨λhlt=>?_,λhge=>?_⟩
 ·rcases R with _|⟨p,R⟩
  ·exact absurd hlt (by simp at hln;omega)
  rw[length_cons] at hln hp
  obtain⟨b,o,ha,hb,h0,hn1⟩:=out_rd (V1.L.k.row hr)
  refine⟨b,o,ha,⟨by omega,hb⟩,p.lv,h0,p.num,hn1,λb1 hb1=>?_⟩
  rw[new_wr]
  have eS:(setL ((⟨[Value.int .i64 0,Value.int .u64 0]⟩:Array Value).toList) 0 [.int .i64 p.lv,.int .u64 p.num]).toArray=⟨[.int .i64 p.lv,.int .u64 p.num]⟩:=rfl
  rw[eS]
  have K1:=Keep.new hb1 (.cells ⟨[.int .i64 p.lv,.int .u64 p.num]⟩ 116 (0,0))
  have hx1:(h1.new b1 (.cells ⟨[.int .i64 p.lv,.int .u64 p.num]⟩ 116 (0,0))) b1=some (.cells ⟨[.int .i64 p.lv,.int .u64 p.num]⟩ 116 (0,0)):=new_at _ _ _
  have V2:=V1.keep K1
  have C2:Ck [65,79] h (h1.new b1 (.cells ⟨[.int .i64 p.lv,.int .u64 p.num]⟩ 116 (0,0))):=C1.trans (Ck.of_keep K1)
  refine⟨canW_new (new_at _ _ _) (Nat.le_refl _),p.lv,at_of hx1 0,?_⟩
  clear V1 C1 K1 h0 hn1
  generalize h1.new b1 (.cells ⟨[.int .i64 p.lv,.int .u64 p.num]⟩ 116 (0,0))=h2 at hx1 V2 C2 ⊢
  refine has_spec V2.v (λc0 c1=>⟨true,rfl,λ_=>?_,λh0=>(by cases h0)⟩) (λhc=>⟨false,rfl,λh0=>(by cases h0),λ_=>?_⟩)
  ·have hlx:=V2.L.len
   obtain⟨x,hx⟩:∃ x,xs1[p.lv.toNat]?=some x:=⟨_,getElem?_eq_getElem (by omega)⟩
   obtain⟨b4,ha4,hat4⟩:=V2.L.rd hx
   have hxm:=mem_of_getElem? hx
   have T2:=V2.L.t x hxm
   have hx6:x.2.length<=5000000:=Nat.le_trans (totL_mem (List.mem_map_of_mem hxm)) ht
   have hlv:(xs1.map (·.2))[p.lv.toNat]?=some x.2:=by rw[getElem?_map,hx];rfl
   refine⟨vb,0,rfl,ls,at_of V2.v 0,p.lv,at_of hx1 0,b4,0,ha4,⟨c0,c1⟩,x.1,by rw[Nat.zero_add];exact hat4,at_of V2.v 0,at_of hx1 0,by rw[Nat.zero_add];exact hat4,?_⟩
   refine index_spec (Buf.row T2) (by rw[T2.n];exact hx6) (at_of hx1 1) (λA y B e hA hy=>⟨(A.length:Int),rfl,λh0=>absurd h0 (by omega),λ_=>?_⟩) (λhno=>⟨-1,rfl,λ_=>?_,λh0=>absurd (by decide) h0⟩)
   ·refine⟨vb,0,rfl,ls,at_of V2.v 0,p.lv,at_of hx1 0,vb,0,rfl,ls,at_of V2.v 0,p.lv,at_of hx1 0,b4,0,ha4,⟨c0,c1⟩,x.1,by rw[Nat.zero_add];exact hat4,?_⟩
    have hcut:cutN p.num x.2=some (A++B):=by rw[e];exact cutN_some hA hy
    have T2':TB h2 x.1 (A++y::B):=by rw[<- e];exact T2
    have eA:x.2.length=A.length+(B.length+1):=by rw[e,length_append,length_cons]
    refine delete_spec T2' (by rw[T2.n];exact hx6) rfl (by rw[next_i (n:=5100000) (by omega) (by omega)]) λh4 l' T4 U4=>⟨l',rfl,?_⟩
    have C4:Ck [65] h2 h4:=Ck.of_upd T2' U4
    obtain⟨b8,ha8,_,hc8,L8,C8⟩:=V2.L.put hx U4 T4
    refine⟨by rw[C4.at V2.v (by decide)];rfl,by rw[C4.at hx1 (by decide)];rfl,b8,0,ha8,⟨c0,c1⟩,by rw[Nat.zero_add];exact hc8,?_⟩
    rw[Nat.zero_add,next_i (n:=5100000) (by omega) (by omega)]
    refine⟨⟨P++[p],R,xs1.set p.lv.toNat (l',A++B),by simp,by simp,⟨L8,V2.nv,C8.keep _ _ V2.v (show 148∉[65,79] by decide)⟩,C2.trans C8,?_,?_⟩,by dsimp only;rw[length_append,length_cons];omega⟩
    ·rw[he,outM,if_neg (by omega),hlv]
     dsimp only
     rw[hcut]
     dsimp only
     rw[List.map_set]
    ·rw[List.map_set]
     have:=totL_set (us:=A++B) hlv
     rw[length_append] at this
     dsimp only
     omega
   ·have e1:outM (p::R) (xs1.map (·.2))=(130,xs1.map (·.2)):=by
     rw[outM,if_neg (by omega),hlv]
     dsimp only
     rw[cutN_none hno]
    rw[e1] at hQ
    exact hQ h2 xs1 V2 C2 rfl
  ·have e1:outM (p::R) (xs1.map (·.2))=(133,xs1.map (·.2)):=by
    rw[outM]
    by_cases h0:p.lv<0
    ·rw[if_pos h0]
    ·rw[if_neg h0,List.getElem?_eq_none (by rw[length_map,<- V2.L.len];omega)]
   rw[e1] at hQ
   exact hQ h2 xs1 V2 C2 rfl
 ·have:R=[]:=eq_nil_of_length_eq_zero (by omega)
  subst this
  exact hQ h1 xs1 V1 C1 rfl
theorem nums_app(A B:Lv):nums (A++B)=nums A++nums B:=by unfold nums;simp
theorem nums_one(l:List Tab):nums [l]=l.map Tab.num:=by unfold nums;simp
theorem nums_len(A:Lv):(nums A).length=totL A:=by unfold nums totL;rw[length_map,List.length_flatten]
def cnt(l:List Int)(k:Int):Int:=((l.count k:Nat):Int)
theorem cnt_nil(k:Int):cnt [] k=0:=rfl
theorem cnt_app(A B:List Int)(k:Int):cnt (A++B) k=cnt A k+cnt B k:=by unfold cnt;rw[List.count_append];omega
theorem cnt_one(j k:Int):cnt [j] k=if k=j then 1 else 0:=by
 unfold cnt
 by_cases h:k=j
 ·subst h;simp
 ·rw[if_neg h,List.count_eq_zero.2 (by simpa using h)];rfl
theorem cnt_le(l:List Int)(k:Int):0<=cnt l k/\cnt l k<=(l.length:Int):=by
 unfold cnt
 have:=List.count_le_length (a:=k) (l:=l)
 omega
theorem cnt_pos(l:List Int)(k:Int):0<cnt l k↔k∈l:=by
 unfold cnt
 rw[<- List.count_pos_iff]
 omega
theorem Mp.congr{h:Hp}{b:Nat}{f f':Int->Int}(M:Mp h b f)(e:∀ k,f k=f' k):Mp h b f':=by
 have:f=f':=funext e
 rw[<- this];exact M
theorem counted_spec{h:Hp}{vb b:Nat}{lv:Lv}{f:Int->Int}{Q:Value->Hp->Prop}(V:VerR h vb lv)(M:Mp h b f)(hf:∀ k,0<=f k/\f k<=4000000000000000)(hs:totL lv<=5000000)(h5:lv.length<=5)
  (hQ:∀ h',Mp h' b (λk=>f k+cnt (nums lv) k)->One b h h'->Q (.tuple ⟨[]⟩) h'):F156.T (some ⟨vb,0,none⟩) (some b) h Q:=by
 obtain⟨ls,xs,hv,hr,ht,rfl⟩:=V
 obtain⟨es0,c0,hb0,_⟩:=id M
 rw[length_map] at h5
 have hn:ls.n=xs.length:=by have:=hr.1;rw[slV_length,length_map] at this;omega
 refine⟨vb,0,rfl,ls,at_of hv 0,λn h1=>∃ P R,xs=P++R/\n=(P.length:Int)/\Mp h1 b (λk=>f k+cnt (nums (P.map (·.2))) k)/\One b h h1,λn _=>xs.length-n.toNat,⟨[],xs,rfl,rfl,Mp.congr M λk=>by show f k=f k+cnt [] k;rw[cnt_nil];omega,One.refl _ _⟩,?_⟩
 rintro n h1 ⟨P,R,rfl,rfl,M1,O1⟩
 rw[length_append] at hn h5
 refine⟨λhlt=>?_,λhge=>?_⟩
 ·rcases R with _|⟨x,R⟩
  ·exact absurd hlt (by simp at hn;omega)
  rw[length_cons] at hn h5
  obtain⟨_,b1,o1,ha1,hat1⟩:=rows_rd (O1.row hb0 hr) (i:=P.length) (x:=x) (by simp)
  have htx:=ht x (by simp)
  have hxn:x.1.n=x.2.length:=by have:=htx.1;rw[tabV_len] at this;omega
  have hxs:totL (P.map (·.2))+x.2.length<=5000000:=by
   unfold totL at hs ⊢
   rw[map_append,map_cons,map_append,map_cons,List.sum_append,List.sum_cons] at hs
   omega
  refine⟨b1,o1,ha1,⟨by omega,hlt⟩,x.1,by rw[Int.toNat_natCast];exact hat1,λn1 h2=>∃ A B,x.2=A++B/\n1=(A.length:Int)/\Mp h2 b (λk=>f k+cnt (nums (P.map (·.2))) k+cnt (A.map Tab.num) k)/\One b h h2,λn1 _=>x.2.length-n1.toNat,⟨[],x.2,rfl,rfl,Mp.congr M1 λk=>by rw[List.map_nil,cnt_nil];omega,O1⟩,?_⟩
  rintro n1 h2 ⟨A,B,eAB,rfl,M2,O2⟩
  refine⟨λhlt1=>?_,λhge1=>?_⟩
  ·rcases B with _|⟨t,B⟩
   ·exact absurd hlt1 (by rw[hxn,eAB];simp)
   rw[eAB] at htx
   have eL:x.2.length=A.length+(B.length+1):=by rw[eAB,length_append,length_cons]
   refine tab_rd (O2.row hb0 htx) rfl λb2 o2=>?_
   refine Mp.add M2 t.num λes c hes M3=>?_
   rw[next_i (n:=5100000) (by omega) (by omega)]
   have b1:=cnt_le (nums (P.map (·.2))) t.num
   have b2:=cnt_le (A.map Tab.num) t.num
   rw[nums_len] at b1
   rw[length_map] at b2
   have b3:=hf t.num
   refine⟨⟨A++[t],B,by rw[eAB];simp,by simp,Mp.congr M3 λk=>?_,O2.trans (One.new _ (by rw[hes];simp))⟩,by rw[eL];dsimp only;omega⟩
   rw[wrap_i64 (by omega) (by omega),map_append,cnt_app,map_cons,List.map_nil,cnt_one]
   by_cases hk:k=t.num
   ·rw[if_pos hk,if_pos hk,hk];omega
   ·rw[if_neg hk,if_neg hk];omega
  ·have hB:B=[]:=eq_nil_of_length_eq_zero (by have:=congrArg List.length eAB;rw[length_append] at this;omega)
   subst hB
   rw[append_nil] at eAB
   rw[next_i (n:=100) (by omega) (by omega)]
   refine⟨⟨P++[x],R,by simp,by simp,Mp.congr M2 λk=>?_,O2⟩,by(try dsimp only);rw[length_append,length_cons];omega⟩
   rw[map_append,nums_app,cnt_app,map_cons,List.map_nil,nums_one,eAB];omega
 ·have:R=[]:=eq_nil_of_length_eq_zero (by omega)
  subst this
  rw[append_nil] at hQ
  exact hQ h1 M1 O1
end Go.Eng.YtbjnlacacapjiaaGreatDoor
end
section
namespace Go.Eng.YtbjnlacacapjiaaGreatDoor
theorem tab_at{h:Hp}{l:Sl}{ts:List Tab}(hr:h.row l.a (l.n*6) (tabV ts)){i:Nat}{x:Tab}(hx:ts[i]?=some x):∃ b o,l.a=some ⟨b,o,none⟩/\i<l.n/\∀ j,j<6->h.at b ((o+i*6)+j)=(Tab.cells x)[j]?:=by
 have hi:i<ts.length:=(List.getElem?_eq_some_iff.1 hx).1
 have hl:=hr.1
 rw[tabV_len] at hl
 obtain⟨b,o,ha,hat⟩:=row_get hr (i:=i*6) (by omega)
 refine⟨b,o,ha,by omega,λj hj=>?_⟩
 rw[Nat.add_assoc,hat _ (by omega)]
 have:=flat_get Tab.cells 6 (λ_=>rfl) ts i j hi hj
 rw[getElem?_eq_getElem hi] at hx
 rw[Option.some.inj hx] at this
 exact this
theorem in_rd{h:Hp}{l:Sl}{P R:List Placed}{p:Placed}(hr:h.row l.a (l.n*7) (inV (P++p::R))){i:Int}(hi:i=(P.length:Int)){K:Nat->Nat->Int->Int->Int->Int->Int->ByteArray->ByteArray->Prop}(hK:∀ b o,K b o p.lv p.num p.weight p.bytes p.entries p.least p.greatest) :
  ∃ b o,(l.a:Option Addr)=some ⟨b,o,none⟩/\((0:Int)<=i/\i<(l.n:Int))/\∃ n1:Int,h.at b (o+i.toNat*7)=some (.int .i64 n1)/\∃ n2:Int,h.at b ((o+i.toNat*7)+1)=some (.int .u64 n2)/\∃ n3:Int,h.at b ((o+i.toNat*7)+2)=some (.int .i64 n3)/\∃ n4:Int,h.at b ((o+i.toNat*7)+3)=some (.int .i64 n4)/\∃ n5:Int,h.at b ((o+i.toNat*7)+4)=some (.int .i64 n5)/\∃ s:ByteArray,h.at b ((o+i.toNat*7)+5)=some (.string s)/\∃ s1:ByteArray,h.at b ((o+i.toNat*7)+6)=some (.string s1)/\K b o n1 n2 n3 n4 n5 s s1:=by
 subst hi
 have hl:=hr.1
 rw[inV_len,length_append,length_cons] at hl
 obtain⟨b,o,ha,hat⟩:=row_get hr (i:=P.length*7) (by omega)
 have c:∀ j,j<7->h.at b ((o+(P.length:Int).toNat*7)+j)=(Placed.cells p)[j]?:=λj hj=>by
  rw[Int.toNat_natCast,Nat.add_assoc,hat _ (by omega)]
  have:=flat_get Placed.cells 7 (λ_=>rfl) (P++p::R) P.length j (by rw[length_append,length_cons];omega) hj
  rw[List.getElem_append_right (Nat.le_refl _)] at this
  simp only[Nat.sub_self,List.getElem_cons_zero] at this
  exact this
 exact⟨b,o,ha,⟨by omega,by omega⟩,_,c 0 (by decide),_,c 1 (by decide),_,c 2 (by decide),_,c 3 (by decide),_,c 4 (by decide),_,c 5 (by decide),_,c 6 (by decide),hK b o⟩
theorem cnt_set:∀ {lv:Lv} {k:Nat} {ts:List Tab} (t:Tab),lv[k]?=some ts->∀ j,cnt (nums (lv.set k (ts++[t]))) j=cnt (nums lv) j+if j=t.num then 1 else 0
 |[],k,ts,t,h,j=>by simp at h
 |l::lv,0,ts,t,h,j=>by
  simp only[List.getElem?_cons_zero,Option.some.injEq] at h
  subst h
  rw[List.set_cons_zero,show(l++[t])::lv=[l++[t]]++lv from rfl,show l::lv=[l]++lv from rfl,nums_app,nums_app,nums_one,nums_one,map_append,cnt_app,cnt_app,cnt_app,map_cons,List.map_nil,cnt_one];omega
 |l::lv,k+1,ts,t,h,j=>by
  simp only[List.getElem?_cons_succ] at h
  have:=cnt_set t h j
  rw[List.set_cons_succ,show l::lv.set k (ts++[t])=[l]++lv.set k (ts++[t]) from rfl,show l::lv=[l]++lv from rfl,nums_app,nums_app,cnt_app,cnt_app,this];omega
def InR(lv:Lv)(ps:List Placed)(c:Int)(lw:Lv):Prop:=
 if (inM ps lv).1=0 then(c=132/\∃ i ts,1<=i/\(inM ps lv).2[i]?=some ts/\Bad ts)\/(c=0/\Sorted (inM ps lv).2 lw) else c=(inM ps lv).1
def SortTo(k:Nat)(lv lw:Lv):Prop:=lw.length=lv.length/\∀ i ts us,lv[i]?=some ts->lw[i]?=some us->if 1<=i/\i<k then Fine ts us else us=ts
theorem SortTo.step{k:Nat}{lv lw:Lv}{us:List Tab}(S:SortTo k lv lw)(hk:1<=k){ts:List Tab}(h1:lw[k]?=some ts)(hF:Fine ts us):SortTo (k+1) lv (lw.set k us):=by
 refine⟨by rw[length_set];exact S.1,λi x y hx hy=>?_⟩
 rcases set_get hy with⟨rfl,rfl,_⟩|⟨hne,hy⟩
 ·have:=S.2 i x ts hx h1
  rw[if_neg (by omega)] at this
  rw[if_pos ⟨hk,by omega⟩,<- this];exact hF
 ·have:=S.2 i x y hx hy
  by_cases hi:1<=i/\i<k
  ·rw[if_pos hi] at this;rw[if_pos ⟨hi.1,by omega⟩];exact this
  ·rw[if_neg hi] at this;rw[if_neg (by omega)];exact this
theorem SortTo.done{k:Nat}{lv lw:Lv}(S:SortTo k lv lw)(hk:lv.length<=k):Sorted lv lw:=by
 refine⟨S.1,?_,λi ts us hi h1 h2=>?_⟩
 ·by_cases h0:0<lv.length
  ·have h1:=getElem?_eq_getElem h0
   have h2:=getElem?_eq_getElem (l:=lw) (i:=0) (by rw[S.1];exact h0)
   have:=S.2 0 _ _ h1 h2
   rw[if_neg (by omega)] at this
   rw[h1,h2,this]
  ·have e1:=S.1
   have e2:lv=[]:=eq_nil_of_length_eq_zero (by omega)
   have e3:lw=[]:=eq_nil_of_length_eq_zero (by omega)
   rw[e2,e3]
 ·have:=S.2 i ts us h1 h2
  rw[if_pos ⟨hi,by have:=(List.getElem?_eq_some_iff.1 h1).1;omega⟩] at this
  exact this
theorem sle{a b:ByteArray}:(sLt a b\/a=b)↔¬ Bl b a:=by
 rw[sLt_bl]
 constructor
 ·rintro(h|rfl)
  ·exact h.asym
  ·exact Bl.irr
 ·intro h
  rcases bl_tri a b with x|x|x
  ·exact .inl x
  ·exact absurd x h
  ·exact .inr x
theorem sort_levels{g h:Hp}{vb:Nat}{ls:Sl}{xs:List (Sl×List Tab)}{Q:Value->Hp->Prop}(V:Ver g h vb ls xs)(hs:totL (xs.map (·.2))<=5000000)(h1:1<=xs.length)(h5:xs.length<=5)
  (hB:∀ h' xs',Ver g h' vb ls xs'->Ck [65,79] h h'->(∃ i ts,1<=i/\(xs.map (·.2))[i]?=some ts/\Bad ts)->Q (.int .i64 132) h')
  (hG:∀ h' xs',Ver g h' vb ls xs'->Ck [65,79] h h'->Sorted (xs.map (·.2)) (xs'.map (·.2))->Q (.int .i64 0) h') :
  ∃ b8 o5,((some ⟨vb,0,none⟩):Option Addr)=some ⟨b8,o5,none⟩/\∃ l5:Sl,h.at b8 o5=some (.slice l5.a l5.n l5.c)/\Sl.okCut l5 1 (l5.n:Int) (l5.c:Int)/\∃ (I1:Int->Hp->Prop) (m1:Int->Hp->Nat),I1 0 h/\(∀ n8:Int,∀ h5:Hp,I1 n8 h5->par (n8<((Sl.cut l5 1 1 (l5.n:Int) (l5.c:Int)).n:Int)) (∃ b9 o6,((Sl.cut l5 1 1 (l5.n:Int) (l5.c:Int)).a:Option Addr)=some ⟨b9,o6,none⟩/\((0:Int)<=n8/\n8<((Sl.cut l5 1 1 (l5.n:Int) (l5.c:Int)).n:Int))/\∃ l6:Sl,h5.at b9 (o6+n8.toNat)=some (.slice l6.a l6.n l6.c)/\F157.T l6 h5 λr2 h6=>∃ (I2:Int->Hp->Prop) (m2:Int->Hp->Nat),I2 1 h6/\(∀ n9:Int,∀ h7:Hp,I2 n9 h7->par (n9<(l6.n:Int)) (∃ b10 o7,(l6.a:Option Addr)=some ⟨b10,o7,none⟩/\((0:Int)<=n9/\n9<(l6.n:Int))/\∃ s2:ByteArray,h7.at b10 ((o7+n9.toNat*6)+4)=some (.string s2)/\∃ b11 o8,(l6.a:Option Addr)=some ⟨b11,o8,none⟩/\((0:Int)<=(wrap .i64 (n9-1))/\(wrap .i64 (n9-1))<(l6.n:Int))/\∃ s3:ByteArray,h7.at b11 ((o8+((wrap .i64 (n9-1))).toNat*6)+5)=some (.string s3)/\par (sLt s2 s3\/s2=s3) (Q (.int .i64 132) h7) (I2 (wrap .i64 (n9+1)) h7/\m2 (wrap .i64 (n9+1)) h7<m2 n9 h7)) (I1 (wrap .i64 (n8+1)) h7/\m1 (wrap .i64 (n8+1)) h7<m1 n8 h5))) (Q (.int .i64 0) h5)):=by
 have hln:=V.L.len
 have hcap:=V.L.l.cap
 have hcn:(Sl.cut ls 1 1 (ls.n:Int) (ls.c:Int)).n=xs.length-1:=by unfold Sl.cut;dsimp only;omega
 refine⟨vb,0,rfl,ls,at_of V.v 0,⟨by omega,by omega,by omega,by omega⟩,λn h'=>∃ (j:Nat) (xs2:List (Sl×List Tab)),n=(j:Int)/\j+1<=xs.length/\Ver g h' vb ls xs2/\Ck [65,79] h h'/\SortTo (j+1) (xs.map (·.2)) (xs2.map (·.2)),λn _=>xs.length-n.toNat,⟨0,xs,rfl,by omega,V,Ck.refl _ _,rfl,λi ts us a b=>by rw[if_neg (by omega)];rw[a] at b;exact(Option.some.inj b).symm⟩,?_⟩
 rintro n h2 ⟨j,xs2,rfl,hj,V2,C2,S2⟩
 have hl2:=V2.L.len
 rw[hcn]
 refine⟨λhlt=>?_,λhge=>?_⟩
 ·obtain⟨x,hx⟩:∃ x,xs2[j+1]?=some x:=⟨_,getElem?_eq_getElem (by omega)⟩
  have hxm:=mem_of_getElem? hx
  obtain⟨b,ha,hat⟩:=V2.L.rd hx
  have hlv2:(xs2.map (·.2))[j+1]?=some x.2:=by rw[getElem?_map,hx];rfl
  obtain⟨ts,hts⟩:∃ ts,(xs.map (·.2))[j+1]?=some ts:=⟨_,getElem?_eq_getElem (by rw[length_map];omega)⟩
  have hxts:x.2=ts:=by
   have:=S2.2 (j+1) ts x.2 hts hlv2
   rw[if_neg (by omega)] at this;exact this
  have hx6:x.2.length<=5000000:=by rw[hxts];exact Nat.le_trans (totL_mem (mem_of_getElem? hts)) hs
  have hca:(Sl.cut ls 1 1 (ls.n:Int) (ls.c:Int)).a=some ⟨b,1,none⟩:=by
   unfold Sl.cut
   dsimp only
   rw[if_neg (by omega),ha]
   simp[addr_add]
  have T2:=V2.L.t x hxm
  refine⟨b,1,hca,⟨by omega,by omega⟩,x.1,by rw[Int.toNat_natCast,Nat.add_comm];exact hat,?_⟩
  refine stable_t T2 (by rw[T2.n];exact hx6) λh3 us Sv3 hp hsrt=>?_
  obtain⟨L3,C3⟩:=V2.L.fill hx Sv3.up Sv3.b
  have V3:Ver g h3 vb ls (xs2.set (j+1) (x.1,us)):=⟨L3,V2.nv,C3.keep _ _ V2.v (show 148∉[65] by decide)⟩
  have C23:Ck [65,79] h h3:=C2.trans (C3.mono (by simp))
  have hun:x.1.n=us.length:=Sv3.b.n
  have hul:us.length<=5000000:=by rw[hp.length_eq];exact hx6
  refine⟨λn9 h7=>h7=h3/\∃ q:Nat,n9=(q:Int)/\1<=q/\q<=us.length+1/\∀ i a b,i+1<q->us[i]?=some a->us[i+1]?=some b->Bl a.greatest b.least,λn9 _=>us.length+1-n9.toNat,⟨rfl,1,rfl,Nat.le_refl _,by omega,λi a b h0=>absurd h0 (by omega)⟩,?_⟩
  rintro n9 h7 ⟨rfl,q,rfl,q1,q2,hA⟩
  refine⟨λhq=>?_,λhq=>?_⟩
  ·obtain⟨y,hy⟩:∃ y,us[q]?=some y:=⟨_,getElem?_eq_getElem (by omega)⟩
   obtain⟨z,hz⟩:∃ z,us[q-1]?=some z:=⟨_,getElem?_eq_getElem (by omega)⟩
   obtain⟨b1,o1,a1,l1,r1⟩:=tab_at (Buf.row Sv3.b) hy
   obtain⟨b2,o2,a2,l2,r2⟩:=tab_at (Buf.row Sv3.b) hz
   have ew:wrap .i64 ((q:Int)-1)=((q-1:Nat):Int):=by rw[wrap_i64 (by omega) (by omega)];omega
   rw[ew]
   refine⟨b1,o1,a1,⟨by omega,hq⟩,y.least,r1 4 (by decide),b2,o2,a2,⟨by omega,by omega⟩,z.greatest,r2 5 (by decide),λhc=>?_,λhc=>?_⟩
   ·exact hB h7 _ V3 C23 ⟨j+1,ts,by omega,hts,us,by rw[<- hxts];exact hp,hsrt,q-1,z,y,hz,by rw[Nat.sub_add_cancel q1];exact hy,sle.1 hc⟩
   ·rw[next_i (n:=5100000) (by omega) (by omega)]
    refine⟨⟨rfl,q+1,rfl,by omega,by omega,λi a b hi ea eb=>?_⟩,by(try dsimp only);omega⟩
    by_cases hiq:i+1<q
    ·exact hA i a b hiq ea eb
    ·have:i=q-1:=by omega
     subst this
     rw[Nat.sub_add_cancel q1,hy] at eb
     rw[hz] at ea
     cases ea;cases eb
     rcases bl_tri z.greatest y.least with t|t|t
     ·exact t
     ·exact absurd (sle.2 t.asym) hc
     ·exact absurd (Or.inr t.symm) hc
  ·rw[next_i (n:=100) (by omega) (by omega)]
   refine⟨⟨j+1,_,rfl,by omega,V3,C23,?_⟩,by(try dsimp only);omega⟩
   rw[List.map_set]
   exact S2.step (by omega) hlv2 ⟨hp,hsrt,λi a b ea eb=>hA i a b (by have:=(List.getElem?_eq_some_iff.1 eb).1;dsimp only at this;omega) ea eb⟩
 ·exact hG h2 xs2 V2 C2 (S2.done (by rw[length_map];omega))
theorem in_spec{g h:Hp}{vb:Nat}{ls l:Sl}{xs:List (Sl×List Tab)}{ps:List Placed}{Q:Value->Hp->Prop}(V:Ver g h vb ls xs)(hr:g.row l.a (l.n*7) (inV ps))(hs:totL (xs.map (·.2))+ps.length<=5000000)(h1:1<=xs.length)(h5:xs.length<=5)
  (hQ:∀ h' c xs',Ver g h' vb ls xs'->Ck [65,79] h h'->InR (xs.map (·.2)) ps c (xs'.map (·.2))->Q (.int .i64 c) h'):F97.T (some ⟨vb,0,none⟩) l h Q:=by
 have hln:l.n=ps.length:=by have:=hr.1;rw[inV_len] at this;omega
 intro b hb
 have gb:g b=none:=V.L.k.dom b hb
 have K0:=Keep.new hb (.map #[] 0)
 refine counted_spec (V.r.keep K0) (Mp.new h b 0) (λk=>⟨Int.le_refl _,by omega⟩) (by omega) (by rw[length_map];exact h5) λh1 M1 O1=>?_
 have hb0:=new_at h b (.map #[] 0)
 have V1:Ver g h1 vb ls xs:=(V.keep K0).ck (O1.ck hb0) ((V.L.k.trans K0).one O1 gb) (by decide) (by decide) (by decide)
 have C1:Ck [65,79] h h1:=(Ck.of_keep K0).one O1 hb
 refine⟨λn h2=>∃ P R xs1,ps=P++R/\n=(P.length:Int)/\Ver g h2 vb ls xs1/\Ck [65,79] h h2/\inM ps (xs.map (·.2))=inM R (xs1.map (·.2))/\totL (xs1.map (·.2))+R.length<=5000000/\Mp h2 b (λk=>cnt (nums (xs1.map (·.2))) k),λn _=>ps.length-n.toNat,⟨[],ps,xs,rfl,rfl,V1,C1,rfl,hs,Mp.congr M1 λk=>by omega⟩,?_⟩
 rintro n h2 ⟨P,R,xs1,rfl,rfl,V2,C2,he,ht,M2⟩
 rw[length_append] at hln
 have hs':=hs
 rw[length_append] at hs'
 have hxl:=V2.L.len
 have hx0:=V.L.len
 refine⟨λhlt=>?_,λhge=>?_⟩
 ·rcases R with _|⟨p,R⟩
  ·exact absurd hlt (by simp at hln;omega)
  rw[length_cons] at hln ht hs'
  have err:∀ {c:Int},c≠0->inM (p::R) (xs1.map (·.2))=(c,xs1.map (·.2))->Q (.int .i64 c) h2:=λ{c} hc e=>hQ h2 c xs1 V2 C2 (by unfold InR;rw[he,e,if_neg hc])
  refine in_rd (V2.L.k.row hr) rfl λb1 o1=>?_
  refine has_spec V2.v (λc0 c1=>⟨true,rfl,λ_=>?_,λh0=>(by cases h0)⟩) (λhc=>⟨false,rfl,λh0=>(by cases h0),λ_=>?_⟩)
  ·obtain⟨x,hx⟩:∃ x,xs1[p.lv.toNat]?=some x:=⟨_,getElem?_eq_getElem (by omega)⟩
   have hxm:=mem_of_getElem? hx
   have hlv:(xs1.map (·.2))[p.lv.toNat]?=some x.2:=by rw[getElem?_map,hx];rfl
   refine Mp.get M2 p.num λes c=>⟨λh0=>?_,λh0=>⟨λhlt2=>?_,λhge2=>?_⟩⟩
   ·refine err (by decide) ?_
    rw[inM,if_neg (by omega),hlv]
    dsimp only
    rw[if_pos ((cnt_pos _ _).1 h0)]
   ·refine err (by decide) ?_
    rw[inM,if_neg (by omega),hlv]
    dsimp only
    rw[if_neg (λhm=>h0 ((cnt_pos _ _).2 hm)),if_pos (blB_t.2 ((sLt_bl _ _).1 hlt2))]
   ·refine Mp.add M2 p.num λes1 c1' hes M3=>?_
    have hcb:=cnt_le (nums (xs1.map (·.2))) p.num
    rw[nums_len] at hcb
    have O3:One b h2 _:=One.new (mPut es1 c1' (.int .u64 p.num) (.int .i64 (wrap .i64 (cnt (nums (xs1.map (·.2))) p.num+1)))) (by rw[hes];simp)
    have V3:=V2.ck (O3.ck hes) (V2.L.k.one O3 gb) (show 79∉[0] by decide) (show 65∉[0] by decide) (show 148∉[0] by decide)
    have C3:=C2.one O3 hb
    rw[wrap_i64 (by omega) (by omega)] at M3 V3 C3 ⊢
    clear O3
    generalize h2.new b (mPut es1 c1' (.int .u64 p.num) (.int .i64 (cnt (nums (xs1.map (·.2))) p.num+1)))=h3 at M3 V3 C3 ⊢
    obtain⟨b6,ha6,hat6⟩:=V3.L.rd hx
    have T3:=V3.L.t x hxm
    have hx6:x.2.length+1<=5000000:=by have:=totL_mem (mem_of_getElem? hlv);omega
    refine⟨vb,0,rfl,ls,at_of V3.v 0,vb,0,rfl,ls,at_of V3.v 0,b6,0,ha6,⟨c0,c1⟩,x.1,by rw[Nat.zero_add];exact hat6,at_of V3.v 0,at_of V3.v 0,by rw[Nat.zero_add];exact hat6,?_⟩
    refine append_buf T3 rfl rfl (by have:=T3.n;omega) λl' h4 B4 hl4 U4=>?_
    have T4:TB h4 l' (x.2++[p.tab]):=by
     show Buf _ _ 6 63 (tabV _)
     rw[tabV_app];exact B4
    have C4:Ck [65] h3 h4:=Ck.of_upd T3 U4
    obtain⟨b8,ha8,_,hc8,L8,C8⟩:=V3.L.put hx U4 T4
    refine⟨by rw[C4.at V3.v (by decide)];rfl,b8,0,ha8,⟨c0,c1⟩,by rw[Nat.zero_add];exact hc8,?_⟩
    rw[Nat.zero_add,next_i (n:=5100000) (by omega) (by omega)]
    refine⟨⟨P++[p],R,xs1.set p.lv.toNat (l',x.2++[p.tab]),by simp,by simp,⟨L8,V3.nv,C8.keep _ _ V3.v (show 148∉[65,79] by decide)⟩,C3.trans C8,?_,?_,?_⟩,by(try dsimp only);simp only[length_append,length_cons];omega⟩
    ·rw[he,inM,if_neg (by omega),hlv]
     dsimp only
     rw[if_neg (λhm=>h0 ((cnt_pos _ _).2 hm)),if_neg (λhbl=>hge2 ((sLt_bl _ _).2 (blB_t.1 hbl))),List.map_set]
    ·rw[List.map_set]
     have:=totL_set (us:=x.2++[p.tab]) hlv
     rw[length_append,length_singleton] at this
     dsimp only
     omega
    ·refine Mp.congr (Mp.ck C8 (by decide) M3) λk=>?_
     rw[List.map_set,cnt_set p.tab hlv k]
     show(if k=p.num then _ else _)=_+if k=p.num then 1 else 0
     by_cases hk:k=p.num
     ·rw[if_pos hk,if_pos hk,hk]
     ·rw[if_neg hk,if_neg hk];omega
  ·refine err (by decide) ?_
   rw[inM]
   by_cases h0:p.lv<0
   ·rw[if_pos h0]
   ·rw[if_neg h0,List.getElem?_eq_none (by rw[length_map];omega)]
 ·have:R=[]:=eq_nil_of_length_eq_zero (by omega)
  subst this
  refine sort_levels V2 (by simpa using ht) (by omega) (by omega) (λh3 xs3 V3 C3 hbad=>hQ h3 132 xs3 V3 (C2.trans C3) ?_) (λh3 xs3 V3 C3 hS=>hQ h3 0 xs3 V3 (C2.trans C3) ?_)
  ·unfold InR;rw[he];exact .inl ⟨rfl,hbad⟩
  ·unfold InR;rw[he];exact .inr ⟨rfl,hS⟩
end Go.Eng.YtbjnlacacapjiaaGreatDoor
end
section
namespace Go.Eng.YtbjnlacacapjiaaGreatDoor
section
open Go.Sort
theorem scU_go(p:Int->Bool)(d:Array Int){j i:Nat}(h:i<=j)(hp:p d[i]! = true):scanUp p d j i=scanUp p d j (i+1):=by
 rw[scanUp,if_pos (by simp only[Bool.and_eq_true,decide_eq_true_eq];exact⟨h,hp⟩)]
theorem scU_end(p:Int->Bool)(d:Array Int){j i:Nat}(h:¬ i<=j\/p d[i]! = false):scanUp p d j i=i:=by
 rw[scanUp,if_neg]
 simp only[Bool.and_eq_true,decide_eq_true_eq]
 rintro⟨h1,h2⟩
 rcases h with h|h
 ·exact h h1
 ·rw[h] at h2;cases h2
theorem scD_go(p:Int->Bool)(d:Array Int){i j:Nat}(h:i<=j)(h0:0<j)(hp:p d[j]! = true):scanDown p d i j=scanDown p d i (j-1):=by
 obtain⟨k,rfl⟩:∃ k,j=k+1:=⟨j-1,by omega⟩
 rw[scanDown,if_pos (by simp only[Bool.and_eq_true,decide_eq_true_eq];exact⟨h,hp⟩)];rfl
theorem scD_end(p:Int->Bool)(d:Array Int){i j:Nat}(h:¬ i<=j\/p d[j]! = false):scanDown p d i j=j:=by
 cases j with
 |zero=>rfl
 |succ k=>
  rw[scanDown,if_neg]
  simp only[Bool.and_eq_true,decide_eq_true_eq]
  rintro⟨h1,h2⟩
  rcases h with h|h
  ·exact h h1
  ·rw[h] at h2;cases h2
theorem scU_le(p:Int->Bool)(d:Array Int){j i:Nat}(h:i<=j+2):scanUp p d j i<=j+2:=by
 have key:∀ n i,j+2-i=n->i<=j+2->scanUp p d j i<=j+2:=λn=>by
  induction n with
  |zero=>intro i h1 h2;rw[scU_end p d (.inl (by omega))];exact h2
  |succ n ih=>
   intro i h1 h2
   by_cases hc:i<=j/\p d[i]! = true
   ·rw[scU_go p d hc.1 hc.2];exact ih (i+1) (by omega) (by omega)
   ·rw[scU_end p d (by
     by_cases h3:i<=j
     ·exact .inr (by cases hp:p d[i]! with|false=>rfl|true=>exact absurd ⟨h3,hp⟩ hc)
     ·exact .inl h3)]
    exact h2
 exact key _ i rfl h
variable{h:Hp}{l:Sl}{d:Array Int}{a b p:Nat}{Q:Value->Hp->Prop}
theorem partEq_s(B:Buf h l 1 48 (uvs d.toList))(ha:a<=p)(hp:p<b)(hb:b<=l.n)(hn:l.n<=100000000000)(hQ:∀ h',Dx h h' l (partitionEqual ltI d a b p).2->Q (.int .i64 ((partitionEqual ltI d a b p).1:Nat)) h'):F227.T l (a:Int) (b:Int) (p:Int) h Q:=by
 unfold F227.T F227.G
 rw[wA (by omega),wS (by omega) (by omega)]
 refine(Dx.refl B).swp (i:=p) (j:=a) (by omega) (by omega) λg0 S0=>?_
 generalize hD:partitionEqual ltI d a b p=D at hQ
 unfold partitionEqual at hD
 refine⟨λn n1 h1=>∃ i j d',n=((i:Nat):Int)/\n1=((j:Nat):Int)/\a+1<=i/\i<=j+2/\j<b/\Dx h h1 l d'/\partEqLoop ltI a i j d'=D,λn n1 _=>(n1-n+1).toNat,⟨a+1,b-1,_,rfl,rfl,Nat.le_refl _,by omega,by omega,S0,hD⟩,?_⟩
 rintro n n1 g ⟨i,j,d1,rfl,rfl,i0,i1,j0,S,e⟩
 rw[partEqLoop_eq] at e
 have u1:=scU_le (λx=>!ltI d1[a]! x) d1 i1
 have u2:=scanUp_ge (λx=>!ltI d1[a]! x) d1 j i
 generalize hi2:scanUp (λx=>!ltI d1[a]! x) d1 j i=i2 at e u1 u2
 have v1:=scanDown_le (λx=>ltI d1[a]! x) d1 i2 j
 generalize hj2:scanDown (λx=>ltI d1[a]! x) d1 i2 j=j2 at e v1
 refine⟨λn h2=>n=((i2:Nat):Int)/\Dx h h2 l d1,?_,?_⟩
 ·rintro n g2 ⟨rfl,S⟩
  have fin:∀ g3,Dx h g3 l d1->par ((j2:Int)<(i2:Int)) (Q (.int .i64 (i2:Int)) g3) (ix l.a (j2:Int) l.n λb6 o6=>ldI .u64 g3 b6 (o6+((j2:Nat):Int).toNat) λn11=>ix l.a (i2:Int) l.n λb7 o7=>ldI .u64 g3 b7 (o7+((i2:Nat):Int).toNat) λn12=>ix l.a (i2:Int) l.n λb8 o8=>st g3 b8 (o8+((i2:Nat):Int).toNat) 1 [.int .u64 n11] λh7=>ix l.a (j2:Int) l.n λb9 o9=>st h7 b9 (o9+((j2:Nat):Int).toNat) 1 [.int .u64 n12] λh8=>(∃ i' j' d',wrap .i64 ((i2:Int)+1)=((i':Nat):Int)/\wrap .i64 ((j2:Int)-1)=((j':Nat):Int)/\a+1<=i'/\i'<=j'+2/\j'<b/\Dx h h8 l d'/\partEqLoop ltI a i' j' d'=D)/\(wrap .i64 ((j2:Int)-1)-wrap .i64 ((i2:Int)+1)+1).toNat<((j:Int)-(i:Int)+1).toNat):=λg3 S3=>by
   refine⟨λhlt=>?_,λhge=>?_⟩
   ·rw[if_pos (by omega)] at e
    subst e
    exact hQ g3 S3
   ·rw[if_neg (by omega)] at e
    refine S3.swp (i:=j2) (j:=i2) (by omega) (by omega) λg4 S4=>?_
    rw[wA (by omega),wS (by omega) (by omega)]
    exact⟨⟨i2+1,j2-1,_,rfl,rfl,by omega,by omega,by omega,S4,e⟩,by omega⟩
  refine⟨λn h3=>∃ j':Nat,n=((j':Nat):Int)/\j'<=j/\Dx h h3 l d1/\scanDown (λx=>ltI d1[a]! x) d1 i2 j'=j2,λn _=>n.toNat,⟨j,rfl,Nat.le_refl _,S,hj2⟩,?_⟩
  rintro n g3 ⟨j',rfl,hj',S3,e3⟩
  refine⟨λhle=>?_,λhgt=>?_⟩
  ·refine S3.less (i:=a) (j:=j') (by omega) (by omega) (λhl=>?_) (λhl=>?_)
   ·rw[wS (by omega) (by omega)]
    rw[scD_go _ d1 (by omega) (by omega) hl] at e3
    exact⟨⟨j'-1,rfl,by omega,S3,e3⟩,by dsimp only;omega⟩
   ·rw[scD_end _ d1 (.inr hl)] at e3
    subst e3
    exact fin g3 S3
  ·rw[scD_end _ d1 (.inl (by omega))] at e3
   subst e3
   exact fin g3 S3
 ·refine⟨λn h2=>∃ i':Nat,n=((i':Nat):Int)/\i'<=j+2/\a+1<=i'/\Dx h h2 l d1/\scanUp (λx=>!ltI d1[a]! x) d1 j i'=i2,λn _=>j+1-n.toNat,⟨i,rfl,i1,i0,S,hi2⟩,?_⟩
  rintro n g2 ⟨i',rfl,hi',hi0,S2,e2⟩
  refine⟨λhle=>?_,λhgt=>?_⟩
  ·refine S2.less (i:=a) (j:=i') (by omega) (by omega) (λhl=>?_) (λhl=>?_)
   ·rw[scU_end _ d1 (.inr (by rw[hl];rfl))] at e2
    exact⟨by rw[e2],S2⟩
   ·rw[wA (by omega)]
    rw[scU_go _ d1 (by omega) (by rw[hl];rfl)] at e2
    exact⟨⟨i'+1,rfl,by omega,by omega,S2,e2⟩,by dsimp only;omega⟩
  ·rw[scU_end _ d1 (.inl (by omega))] at e2
   exact⟨by rw[e2],S2⟩
theorem part_s(B:Buf h l 1 48 (uvs d.toList))(ha:a<=p)(hp:p<b)(hb:b<=l.n)(hn:l.n<=100000000000)(hQ:∀ h',Dx h h' l (partition ltI d a b p).2.2->Q (.tuple ⟨[.int .i64 ((partition ltI d a b p).1:Nat),.bool (partition ltI d a b p).2.1]⟩) h'):F228.T l (a:Int) (b:Int) (p:Int) h Q:=by
 unfold F228.T F228.G
 rw[wA (by omega),wS (by omega) (by omega)]
 refine(Dx.refl B).swp (i:=p) (j:=a) (by omega) (by omega) λg0 S0=>?_
 generalize hD:partition ltI d a b p=D at hQ
 unfold partition at hD
 dsimp only at hD
 generalize swp d a p=d1 at hD S0
 have u1:=scU_le (λx=>ltI x d1[a]!) d1 (j:=b-1) (i:=a+1) (by omega)
 have u2:=scanUp_ge (λx=>ltI x d1[a]!) d1 (b-1) (a+1)
 generalize hi2:scanUp (λx=>ltI x d1[a]!) d1 (b-1) (a+1)=i1 at hD u1 u2
 have v1:=scanDown_le (λx=>!ltI x d1[a]!) d1 i1 (b-1)
 generalize hj2:scanDown (λx=>!ltI x d1[a]!) d1 i1 (b-1)=j1 at hD v1
 refine⟨λn h2=>n=((i1:Nat):Int)/\Dx h h2 l d1,?_,?_⟩
 ·rintro n g2 ⟨rfl,S⟩
  refine⟨λn h2=>n=((j1:Nat):Int)/\Dx h h2 l d1,?_,?_⟩
  ·rintro n g3 ⟨rfl,S⟩
   refine⟨λhlt=>?_,λhge=>?_⟩
   ·rw[if_pos (by omega)] at hD
    subst hD
    exact S.swp (i:=a) (j:=j1) (by omega) (by omega) λg4 S4=>hQ g4 S4
   ·rw[if_neg (by omega)] at hD
    refine S.swp (i:=j1) (j:=i1) (by omega) (by omega) λg4 S4=>?_
    rw[wA (by omega),wS (by omega) (by omega)]
    generalize hr:partLoop ltI a (i1+1) (j1-1) (swp d1 i1 j1)=r at hD
    subst hD
    refine⟨λn n1 h1=>∃ i j d',n=((i:Nat):Int)/\n1=((j:Nat):Int)/\a+1<=i/\i<=j+2/\j<b/\Dx h h1 l d'/\partLoop ltI a i j d'=r,λn n1 _=>(n1-n+1).toNat,⟨i1+1,j1-1,_,rfl,rfl,by omega,by omega,by omega,S4,hr⟩,?_⟩
    clear hr S4 S S0 hi2 hj2 u1 u2 v1 hge
    rintro n n1 g ⟨i,j,d1,rfl,rfl,i0,i1,j0,S,e⟩
    rw[partLoop_eq] at e
    have u1:=scU_le (λx=>ltI x d1[a]!) d1 i1
    have u2:=scanUp_ge (λx=>ltI x d1[a]!) d1 j i
    generalize hi2:scanUp (λx=>ltI x d1[a]!) d1 j i=i2 at e u1 u2
    have v1:=scanDown_le (λx=>!ltI x d1[a]!) d1 i2 j
    generalize hj2:scanDown (λx=>!ltI x d1[a]!) d1 i2 j=j2 at e v1
    refine⟨λn h2=>n=((i2:Nat):Int)/\Dx h h2 l d1,?_,?_⟩
    ·rintro n g2 ⟨rfl,S⟩
     have fin:∀ g3,Dx h g3 l d1->par ((j2:Int)<(i2:Int)) (ix l.a (a:Int) l.n λb14 o14=>ldI .u64 g3 b14 (o14+((a:Nat):Int).toNat) λn17=>ix l.a (j2:Int) l.n λb15 o15=>ldI .u64 g3 b15 (o15+((j2:Nat):Int).toNat) λn18=>ix l.a (j2:Int) l.n λb16 o16=>st g3 b16 (o16+((j2:Nat):Int).toNat) 1 [.int .u64 n17] λh13=>ix l.a (a:Int) l.n λb17 o17=>st h13 b17 (o17+((a:Nat):Int).toNat) 1 [.int .u64 n18] λh14=>Q (.tuple ⟨[.int .i64 (j2:Int),.bool false]⟩) h14) (ix l.a (j2:Int) l.n λb6 o6=>ldI .u64 g3 b6 (o6+((j2:Nat):Int).toNat) λn11=>ix l.a (i2:Int) l.n λb7 o7=>ldI .u64 g3 b7 (o7+((i2:Nat):Int).toNat) λn12=>ix l.a (i2:Int) l.n λb8 o8=>st g3 b8 (o8+((i2:Nat):Int).toNat) 1 [.int .u64 n11] λh7=>ix l.a (j2:Int) l.n λb9 o9=>st h7 b9 (o9+((j2:Nat):Int).toNat) 1 [.int .u64 n12] λh8=>(∃ i' j' d',wrap .i64 ((i2:Int)+1)=((i':Nat):Int)/\wrap .i64 ((j2:Int)-1)=((j':Nat):Int)/\a+1<=i'/\i'<=j'+2/\j'<b/\Dx h h8 l d'/\partLoop ltI a i' j' d'=r)/\(wrap .i64 ((j2:Int)-1)-wrap .i64 ((i2:Int)+1)+1).toNat<((j:Int)-(i:Int)+1).toNat):=λg3 S3=>by
      refine⟨λhlt=>?_,λhge=>?_⟩
      ·rw[if_pos (by omega)] at e
       subst e
       exact S3.swp (i:=a) (j:=j2) (by omega) (by omega) λg4 S4=>hQ g4 S4
      ·rw[if_neg (by omega)] at e
       refine S3.swp (i:=j2) (j:=i2) (by omega) (by omega) λg4 S4=>?_
       rw[wA (by omega),wS (by omega) (by omega)]
       exact⟨⟨i2+1,j2-1,_,rfl,rfl,by omega,by omega,by omega,S4,e⟩,by omega⟩
     refine⟨λn h3=>∃ j':Nat,n=((j':Nat):Int)/\j'<=j/\Dx h h3 l d1/\scanDown (λx=>!ltI x d1[a]!) d1 i2 j'=j2,λn _=>n.toNat,⟨j,rfl,Nat.le_refl _,S,hj2⟩,?_⟩
     rintro n g3 ⟨j',rfl,hj',S3,e3⟩
     refine⟨λhle=>?_,λhgt=>?_⟩
     ·refine S3.less (i:=j') (j:=a) (by omega) (by omega) (λhl=>?_) (λhl=>?_)
      ·rw[scD_end _ d1 (.inr (by rw[hl];rfl))] at e3
       subst e3
       exact fin g3 S3
      ·rw[wS (by omega) (by omega)]
       rw[scD_go _ d1 (by omega) (by omega) (by rw[hl];rfl)] at e3
       exact⟨⟨j'-1,rfl,by omega,S3,e3⟩,by dsimp only;omega⟩
     ·rw[scD_end _ d1 (.inl (by omega))] at e3
      subst e3
      exact fin g3 S3
    ·refine⟨λn h2=>∃ i':Nat,n=((i':Nat):Int)/\i'<=j+2/\a+1<=i'/\Dx h h2 l d1/\scanUp (λx=>ltI x d1[a]!) d1 j i'=i2,λn _=>j+1-n.toNat,⟨i,rfl,i1,i0,S,hi2⟩,?_⟩
     rintro n g2 ⟨i',rfl,hi',hi0,S2,e2⟩
     refine⟨λhle=>?_,λhgt=>?_⟩
     ·refine S2.less (i:=i') (j:=a) (by omega) (by omega) (λhl=>?_) (λhl=>?_)
      ·rw[wA (by omega)]
       rw[scU_go (λx=>ltI x d1[a]!) d1 (by omega) hl] at e2
       exact⟨⟨i'+1,rfl,by omega,by omega,S2,e2⟩,by dsimp only;omega⟩
      ·rw[scU_end (λx=>ltI x d1[a]!) d1 (.inr hl)] at e2
       exact⟨by rw[e2],S2⟩
     ·rw[scU_end _ d1 (.inl (by omega))] at e2
      exact⟨by rw[e2],S2⟩
  ·refine⟨λn h3=>∃ j':Nat,n=((j':Nat):Int)/\j'<=b-1/\Dx h h3 l d1/\scanDown (λx=>!ltI x d1[a]!) d1 i1 j'=j1,λn _=>n.toNat,⟨b-1,rfl,Nat.le_refl _,S,hj2⟩,?_⟩
   rintro n g3 ⟨j',rfl,hj',S3,e3⟩
   refine⟨λhle=>?_,λhgt=>?_⟩
   ·refine S3.less (i:=j') (j:=a) (by omega) (by omega) (λhl=>?_) (λhl=>?_)
    ·rw[scD_end _ d1 (.inr (by rw[hl];rfl))] at e3
     exact⟨by rw[e3],S3⟩
    ·rw[wS (by omega) (by omega)]
     rw[scD_go _ d1 (by omega) (by omega) (by rw[hl];rfl)] at e3
     exact⟨⟨j'-1,rfl,by omega,S3,e3⟩,by dsimp only;omega⟩
   ·rw[scD_end _ d1 (.inl (by omega))] at e3
    exact⟨by rw[e3],S3⟩
 ·refine⟨λn h2=>∃ i':Nat,n=((i':Nat):Int)/\i'<=b+1/\a+1<=i'/\Dx h h2 l d1/\scanUp (λx=>ltI x d1[a]!) d1 (b-1) i'=i1,λn _=>b-n.toNat,⟨a+1,rfl,by omega,Nat.le_refl _,S0,hi2⟩,?_⟩
  rintro n g2 ⟨i',rfl,hi',hi0,S2,e2⟩
  refine⟨λhle=>?_,λhgt=>?_⟩
  ·refine S2.less (i:=i') (j:=a) (by omega) (by omega) (λhl=>?_) (λhl=>?_)
   ·rw[wA (by omega)]
    rw[scU_go (λx=>ltI x d1[a]!) d1 (by omega) hl] at e2
    exact⟨⟨i'+1,rfl,by omega,by omega,S2,e2⟩,by dsimp only;omega⟩
   ·rw[scU_end (λx=>ltI x d1[a]!) d1 (.inr hl)] at e2
    exact⟨by rw[e2],S2⟩
  ·rw[scU_end _ d1 (.inl (by omega))] at e2
   exact⟨by rw[e2],S2⟩
theorem partial_s(B:Buf h l 1 48 (uvs d.toList))(hab:a<b)(hb:b<=l.n)(hn:l.n<=100000000000)(hQ:∀ h',Dx h h' l (partialInsertionSort ltI d a b).1->Q (.bool (partialInsertionSort ltI d a b).2) h'):F225.T l (a:Int) (b:Int) h Q:=by
 unfold F225.T F225.G
 rw[wA (by omega),wM (by omega) (by omega)]
 generalize hD:partialInsertionSort ltI d a b=D at hQ
 unfold partialInsertionSort at hD
 refine⟨λn n1 h1=>∃ i s d',n=((i:Nat):Int)/\n1=((5-s:Nat):Int)/\s<=5/\a+1<=i/\i<=b/\Dx h h1 l d'/\partialIns ltI a b s i d'=D,λ_ n1 _=>5-n1.toNat,⟨a+1,5,d,rfl,rfl,Nat.le_refl _,Nat.le_refl _,hab,Dx.refl B,hD⟩,?_⟩
 rintro n n1 g ⟨i,s,d1,rfl,rfl,s5,i0,i1,S,e⟩
 cases s with
 |zero=>
  unfold partialIns at e
  subst e
  exact⟨λhlt=>absurd hlt (by decide),λ_=>hQ g S⟩
 |succ s=>
 refine⟨λhlt=>?_,λhge=>absurd (show((5-(s+1):Nat):Int)<5 by omega) hge⟩
 have es:wrap .i64 (((5-(s+1):Nat):Int)+1)=((5-s:Nat):Int):=by rw[wr64 (by omega) (by omega)];omega
 rw[es]
 unfold partialIns at e
 dsimp only at e
 have sc1:∀ i,i<=b->scanSorted ltI d1 b i<=b/\i<=scanSorted ltI d1 b i:=λi=>by
  have:∀ n i,b-i=n->i<=b->scanSorted ltI d1 b i<=b/\i<=scanSorted ltI d1 b i:=λn=>by
   induction n with
   |zero=>intro i h1 h2;rw[scanSorted,if_neg (by simp;omega)];exact⟨h2,Nat.le_refl _⟩
   |succ n ih=>
    intro i h1 h2
    rw[scanSorted]
    split
    ·have:=ih (i+1) (by omega) (by omega);exact⟨this.1,by omega⟩
    ·exact⟨h2,Nat.le_refl _⟩
  exact this _ i rfl
 obtain⟨k1,k2⟩:=sc1 i i1
 generalize hk:scanSorted ltI d1 b i=k at e k1 k2
 refine⟨λn h2=>n=((k:Nat):Int)/\Dx h h2 l d1,?_,?_⟩
 ·rintro n g2 ⟨rfl,S⟩
  refine⟨λhe=>?_,λhne=>?_⟩
  ·rw[if_pos (by omega)] at e
   subst e
   exact hQ g2 S
  rw[if_neg (by omega)] at e
  refine⟨λh50=>?_,λh50=>?_⟩
  ·rw[if_pos (by omega)] at e
   subst e
   exact hQ g2 S
  rw[if_neg (by omega)] at e
  rw[wS (by omega) (by omega),wM (by omega) (by omega),wM (by omega) (by omega)]
  refine S.swp (i:=k-1) (j:=k) (by omega) (by omega) λg3 S3=>?_
  generalize swp d1 k (k-1)=d2 at e S3
  generalize hdn:(if k-a ≥ 2 then shiftDown ltI (k-1) d2 else d2)=d3 at e
  refine⟨λh5=>Dx h h5 l d3,?_,λh2=>?_,λh2=>?_⟩
  ·intro g4 S4
   refine⟨λh2=>?_,λh2=>?_⟩
   ·rw[if_pos (by omega)] at e
    rw[wA (by omega)]
    generalize hup:shiftUp ltI b (k+1) d3=d4 at e
    refine⟨λn h6=>∃ j d',n=((j:Nat):Int)/\k+1<=j/\j<=b/\Dx h h6 l d'/\shiftUp ltI b j d'=d4,λn _=>b-n.toNat,⟨k+1,d3,rfl,Nat.le_refl _,by omega,S4,hup⟩,?_⟩
    rintro n g5 ⟨j,d5,rfl,j0,j1,S5,e5⟩
    rw[shiftUp] at e5
    refine⟨λhlt=>?_,λhge=>?_⟩
    ·rw[if_pos (by omega)] at e5
     rw[wS (by omega) (by omega),wA (by omega)]
     refine S5.less (i:=j) (j:=j-1) (by omega) (by omega) (λhl=>?_) (λhl=>?_)
     ·rw[if_neg (by rw[hl];decide)] at e5
      exact S5.swp (i:=j-1) (j:=j) (by omega) (by omega) λg6 S6=>⟨⟨j+1,_,rfl,by omega,by omega,S6,e5⟩,by dsimp only;omega⟩
     ·rw[if_pos (by rw[hl];decide)] at e5
      subst e5
      exact⟨⟨k,s,_,rfl,rfl,by omega,by omega,by omega,S5,e⟩,by dsimp only;omega⟩
    ·rw[if_neg (by omega)] at e5
     subst e5
     exact⟨⟨k,s,_,rfl,rfl,by omega,by omega,by omega,S5,e⟩,by dsimp only;omega⟩
   ·rw[if_neg (by omega)] at e
    exact⟨⟨k,s,_,rfl,rfl,by omega,by omega,by omega,S4,e⟩,by dsimp only;omega⟩
  ·rw[if_pos (by omega)] at hdn
   refine⟨λn h6=>∃ j d',n=((j:Nat):Int)/\j<=k-1/\Dx h h6 l d'/\shiftDown ltI j d'=d3,λn _=>n.toNat,⟨k-1,d2,rfl,Nat.le_refl _,S3,hdn⟩,?_⟩
   rintro n g5 ⟨j,d5,rfl,j1,S5,e5⟩
   cases j with
   |zero=>
    rw[shiftDown] at e5
    subst e5
    exact⟨λhlt=>absurd hlt (by decide),λ_=>S5⟩
   |succ j=>
    rw[shiftDown] at e5
    refine⟨λhlt=>?_,λhge=>absurd (show(1:Int)<=((j+1:Nat):Int) by omega) hge⟩
    rw[wS (by omega) (by omega),Nat.add_sub_cancel]
    refine S5.less (i:=j+1) (j:=j) (by omega) (by omega) (λhl=>?_) (λhl=>?_)
    ·rw[if_neg (by rw[hl];decide)] at e5
     exact S5.swp (i:=j) (j:=j+1) (by omega) (by omega) λg6 S6=>⟨⟨j,_,rfl,by omega,S6,e5⟩,by dsimp only;omega⟩
    ·rw[if_pos (by rw[hl];decide)] at e5
     subst e5
     exact S5
  ·rw[if_neg (by omega)] at hdn
   subst hdn
   exact S3
 ·refine⟨λn h2=>∃ i':Nat,n=((i':Nat):Int)/\i'<=b/\a+1<=i'/\Dx h h2 l d1/\scanSorted ltI d1 b i'=k,λn _=>b-n.toNat,⟨i,rfl,i1,i0,S,hk⟩,?_⟩
  rintro n g2 ⟨i',rfl,hi',hi0,S2,e2⟩
  rw[scanSorted] at e2
  refine⟨λhlt'=>?_,λhge'=>?_⟩
  ·rw[wS (by omega) (by omega),wA (by omega)]
   refine S2.less (i:=i') (j:=i'-1) (by omega) (by omega) (λhl=>?_) (λhl=>?_)
   ·rw[if_neg (by rw[hl];simp)] at e2
    exact⟨by rw[e2],S2⟩
   ·rw[if_pos (by rw[hl];simp;omega)] at e2
    exact⟨⟨i'+1,rfl,by omega,by omega,S2,e2⟩,by dsimp only;omega⟩
  ·rw[if_neg (by simp;omega)] at e2
   exact⟨by rw[e2],S2⟩
end
end Go.Eng.YtbjnlacacapjiaaGreatDoor
end
section
namespace Go.Eng.YtbjnlacacapjiaaGreatDoor
section
open Go.Sort
structure Ct(h0 h:Hp)(b n:Nat):Prop where
 nb:h0 b=none
 k:Keep h0 h
 c:h b=some (.cells ⟨[.int .i64 (n:Int)]⟩ 3 (0,0))
variable{h h0:Hp}{l:Sl}{d:Array Int}{a b c p cb sw:Nat}{Q:Value->Hp->Prop}
theorem order2_le(d:Array Int)(a b sw:Nat):(order2 ltI d a b sw).2.2<=sw+1/\((order2 ltI d a b sw).1=a\/(order2 ltI d a b sw).1=b)/\((order2 ltI d a b sw).2.1=a\/(order2 ltI d a b sw).2.1=b):=by
 unfold order2
 split
 ·exact⟨Nat.le_refl _,.inr rfl,.inl rfl⟩
 ·exact⟨Nat.le_succ _,.inl rfl,.inr rfl⟩
theorem order2_s(B:Buf h0 l 1 48 (uvs d.toList))(C:Ct h0 h cb sw)(ha:a<l.n)(hb:b<l.n)(hs:sw<=100)
  (hQ:∀ h',Ct h0 h' cb (order2 ltI d a b sw).2.2->Q (.tuple ⟨[.int .i64 ((order2 ltI d a b sw).1:Nat),.int .i64 ((order2 ltI d a b sw).2.1:Nat)]⟩) h'):F243.T l (a:Int) (b:Int) (some ⟨cb,0,none⟩) h Q:=by
 unfold F243.T F243.G
 have S:=Dx.refl (B.keep C.k)
 unfold order2 at hQ
 refine S.less (i:=b) (j:=a) hb ha (λhl=>?_) (λhl=>?_)
 ·rw[if_pos hl] at hQ
  have x:=C.c
  refine⟨cb,0,rfl,(sw:Int),by unfold Hp.at;rw[x];rfl,cb,0,rfl,⟨_,_,_,x,Nat.le_refl _,λj _ _=>by simp⟩,?_⟩
  refine hQ _ ⟨C.nb,keep_wr_new C.nb C.k _ _,?_⟩
  rw[wA (by omega),wr_at x];rfl
 ·rw[if_neg (by rw[hl];decide)] at hQ
  exact hQ h C
theorem median_s(B:Buf h0 l 1 48 (uvs d.toList))(C:Ct h0 h cb sw)(ha:a<l.n)(hb:b<l.n)(hc:c<l.n)(hs:sw<=90)
  (hQ:∀ h',Ct h0 h' cb (median ltI d a b c sw).2->Q (.int .i64 ((median ltI d a b c sw).1:Nat)) h'):F239.T l (a:Int) (b:Int) (c:Int) (some ⟨cb,0,none⟩) h Q:=by
 unfold F239.T F239.G
 unfold median at hQ
 dsimp only at hQ
 have e1:=order2_le d a b sw
 refine order2_s B C ha hb (by omega) λg1 C1=>⟨_,_,rfl,?_⟩
 generalize order2 ltI d a b sw=r1 at e1 hQ C1
 have e2:=order2_le d r1.2.1 c r1.2.2
 refine order2_s B C1 (by rcases e1.2.2 with h|h<;>omega) hc (by omega) λg2 C2=>⟨_,_,rfl,?_⟩
 generalize order2 ltI d r1.2.1 c r1.2.2=r2 at e2 hQ C2
 refine order2_s B C2 (by rcases e1.2.1 with h|h<;>omega) (by rcases e2.2.1 with h|h<;>rcases e1.2.2 with h'|h'<;>omega) (by omega) λg3 C3=>⟨_,_,rfl,hQ g3 C3⟩
theorem median_le(d:Array Int)(a b c sw:Nat):(median ltI d a b c sw).2<=sw+3/\((median ltI d a b c sw).1=a\/(median ltI d a b c sw).1=b\/(median ltI d a b c sw).1=c):=by
 unfold median
 dsimp only
 have e1:=order2_le d a b sw
 generalize order2 ltI d a b sw=r1 at e1
 have e2:=order2_le d r1.2.1 c r1.2.2
 generalize order2 ltI d r1.2.1 c r1.2.2=r2 at e2
 have e3:=order2_le d r1.1 r2.1 r2.2.2
 refine⟨by omega,?_⟩
 rcases e3.2.2 with h|h<;>rw[h]
 ·rcases e1.2.1 with h|h
  ·exact .inl h
  ·exact .inr (.inl h)
 ·rcases e2.2.1 with h|h
  ·rw[h];rcases e1.2.2 with h|h
   ·exact .inl h
   ·exact .inr (.inl h)
  ·exact .inr (.inr h)
theorem medianAdj_le(d:Array Int)(a sw:Nat):(medianAdjacent ltI d a sw).2<=sw+3/\(medianAdjacent ltI d a sw).1<=a+1:=by
 unfold medianAdjacent
 have:=median_le d (a-1) a (a+1) sw
 refine⟨this.1,?_⟩
 rcases this.2 with h|h|h<;>omega
theorem medianAdj_s(B:Buf h0 l 1 48 (uvs d.toList))(C:Ct h0 h cb sw)(h1:1<=a)(ha:a+1<l.n)(hn:l.n<=100000000000)(hs:sw<=90)
  (hQ:∀ h',Ct h0 h' cb (medianAdjacent ltI d a sw).2->Q (.int .i64 ((medianAdjacent ltI d a sw).1:Nat)) h'):F238.T l (a:Int) (some ⟨cb,0,none⟩) h Q:=by
 unfold F238.T F238.G
 rw[wS h1 (by omega),wA (by omega)]
 exact median_s B C (by omega) (by omega) (by omega) hs λh' C'=>⟨_,rfl,hQ h' C'⟩
theorem choose_s(B:Buf h l 1 48 (uvs d.toList))(hab:a<b)(hb:b<=l.n)(hn:l.n<=100000000000)
  (hQ:∀ h',Keep h h'->Q (.tuple ⟨[.int .i64 ((choosePivot ltI d a b).1:Nat),.int .i64 (match (choosePivot ltI d a b).2 with|.increasing=>1|.decreasing=>2|.unknown=>0)]⟩) h'):F223.T l (a:Int) (b:Int) h Q:=by
 unfold F223.T F223.G
 intro cb hcb
 have C:Ct h (h.new cb (.cells ⟨[.int .i64 0]⟩ 3 (0,0))) cb 0:=⟨hcb,Keep.new hcb _,new_self h cb _⟩
 generalize h.new cb (.cells ⟨[.int .i64 0]⟩ 3 (0,0))=h1 at C ⊢
 unfold choosePivot at hQ
 dsimp only at hQ
 rw[wM (by omega) (by omega)]
 generalize hL:b-a=L at hQ ⊢
 have hd:Int.tdiv (L:Int) 4=((L / 4:Nat):Int):=by rw[Int.tdiv_eq_ediv_of_nonneg (by omega)];omega
 have w0:wrap .i64 ((L / 4:Nat):Int)=((L / 4:Nat):Int):=wr64 (by omega) (by omega)
 have wk:∀ k:Nat,k<=3->wrap .i64 (((L / 4:Nat):Int)*(k:Int))=((L / 4*k:Nat):Int):=λk hk=>by
  have e:((L / 4:Nat):Int)*(k:Int)=((L / 4*k:Nat):Int):=(Int.natCast_mul _ _).symm
  rw[e]
  have:L / 4*k<=L / 4*3:=Nat.mul_le_mul_left _ hk
  exact wr64 (by omega) (by omega)
 have w1:=wk 1 (by omega)
 have w2:=wk 2 (by omega)
 have w3:=wk 3 (by omega)
 have n1:((1:Nat):Int)=1:=rfl
 have n2:((2:Nat):Int)=2:=rfl
 have n3:((3:Nat):Int)=3:=rfl
 rw[n1] at w1
 rw[n2] at w2
 rw[n3] at w3
 rw[hd,w0,w1,w2,w3,wP (by omega),wP (by omega),wP (by omega)]
 generalize hr:(if L ≥ 8 then if L ≥ 50 then median ltI d (medianAdjacent ltI d (a+L / 4*1) 0).1 (medianAdjacent ltI d (a+L / 4*2) (medianAdjacent ltI d (a+L / 4*1) 0).2).1 (medianAdjacent ltI d (a+L / 4*3) (medianAdjacent ltI d (a+L / 4*2) (medianAdjacent ltI d (a+L / 4*1) 0).2).2).1 (medianAdjacent ltI d (a+L / 4*3) (medianAdjacent ltI d (a+L / 4*2) (medianAdjacent ltI d (a+L / 4*1) 0).2).2).2 else median ltI d (a+L / 4*1) (a+L / 4*2) (a+L / 4*3) 0 else(a+L / 4*2,0))=r at hQ
 refine⟨by decide,by decide,by decide,λx h'=>x=((r.1:Nat):Int)/\Ct h h' cb r.2,?_,λh8=>⟨λh50=>?_,λh50=>?_⟩,λh8=>?_⟩
 ·rintro x h' ⟨rfl,C'⟩
  have hq:=hQ h' C'.k
  have x':=C'.c
  refine⟨(r.2:Int),by unfold Hp.at;rw[x'];rfl,λh0=>?_,λh0=>⟨λh12=>?_,λh12=>?_⟩⟩
  ·rw[if_pos (show r.2=0 by omega)] at hq;exact hq
  ·rw[if_neg (show ¬ r.2=0 by omega),if_pos (show r.2=12 by omega)] at hq;exact hq
  ·rw[if_neg (show ¬ r.2=0 by omega),if_neg (show ¬ r.2=12 by omega)] at hq;exact hq
 ·rw[if_pos (by omega),if_pos (by omega)] at hr
  have m1:=medianAdj_le d (a+L / 4*1) 0
  refine medianAdj_s B C (by omega) (by omega) hn (by omega) λg1 C1=>⟨_,rfl,?_⟩
  generalize medianAdjacent ltI d (a+L / 4*1) 0=r1 at m1 hr C1 ⊢
  have m2:=medianAdj_le d (a+L / 4*2) r1.2
  refine medianAdj_s B C1 (by omega) (by omega) hn (by omega) λg2 C2=>⟨_,rfl,?_⟩
  generalize medianAdjacent ltI d (a+L / 4*2) r1.2=r2 at m2 hr C2 ⊢
  have m3:=medianAdj_le d (a+L / 4*3) r2.2
  refine medianAdj_s B C2 (by omega) (by omega) hn (by omega) λg3 C3=>⟨_,rfl,?_⟩
  generalize medianAdjacent ltI d (a+L / 4*3) r2.2=r3 at m3 hr C3 ⊢
  refine median_s B C3 (by omega) (by omega) (by omega) (by omega) λg4 C4=>⟨_,rfl,by rw[hr],by rw[hr] at C4;exact C4⟩
 ·rw[if_pos (by omega),if_neg (by omega)] at hr
  exact median_s B C (by omega) (by omega) (by omega) (by omega) λg4 C4=>⟨_,rfl,by rw[hr],by rw[hr] at C4;exact C4⟩
 ·rw[if_neg (by omega)] at hr
  subst hr
  exact⟨rfl,C⟩
end
end Go.Eng.YtbjnlacacapjiaaGreatDoor
end
section
namespace Go.Eng.YtbjnlacacapjiaaGreatDoor
section
open Go.Sort
def tabL:List UInt8:=[0,1,2,2,3,3,3,3,4,4,4,4,4,4,4,4,5,5,5,5,5,5,5,5,5,5,5,5,5,5,5,5]++List.replicate 32 6++List.replicate 64 7++List.replicate 128 8
theorem tab8_size:bytes8.size=256:=by decide +kernel
theorem tab8_list:bytes8.data.toList=tabL:=by decide +kernel
theorem tabL_at:∀ k,k<256->(tabL.getD k 0).toNat=bitsLen k:=by decide +kernel
theorem tab8_at{k:Nat}(h:k<256):bt bytes8 (k:Int)=(bitsLen k:Int):=by
 unfold bt
 have hs:((k:Int)).toNat<bytes8.size:=by rw[tab8_size];omega
 rw[dif_pos hs]
 have e:bytes8[((k:Int)).toNat]'hs=tabL.getD k 0:=by
  show bytes8.data[((k:Int)).toNat]'hs=_
  rw[<- Array.getElem_toList (h:=hs),List.getD_eq_getElem?_getD,<- tab8_list]
  simp only[Int.toNat_natCast]
  rw[getElem?_eq_getElem (by rw[Array.length_toList];rw[Int.toNat_natCast] at hs;exact hs)]
  rfl
 rw[e]
 exact congrArg (λn:Nat=>(n:Int)) (tabL_at k h)
theorem bitsLen_shift{n s:Nat}(h:2 ^ s<=n):bitsLen n=s+bitsLen (n / 2 ^ s):=by
 have hp:0<2 ^ s:=Nat.two_pow_pos s
 have h1:n / 2 ^ s≠0:=by
  have:=Nat.div_le_div_right (c:=2 ^ s) h
  rw[Nat.div_self hp] at this;omega
 have h0:n≠0:=by omega
 unfold bitsLen
 rw[if_neg h0,if_neg h1]
 have e:=(Nat.log2_eq_iff h1 (k:=(n / 2 ^ s).log2)).1 rfl
 have:n.log2=s+(n / 2 ^ s).log2:=by
  refine(Nat.log2_eq_iff h0).2 ⟨?_,?_⟩
  ·rw[Nat.pow_add]
   have:=Nat.mul_le_mul_left (2 ^ s) e.1
   exact Nat.le_trans this (Nat.mul_div_le n (2 ^ s))
  ·rw[Nat.add_assoc,Nat.pow_add]
   have h2:=Nat.lt_div_mul_add (a:=n) (b:=2 ^ s) hp
   have h3:n / 2 ^ s+1<=2 ^ ((n / 2 ^ s).log2+1):=e.2
   have h4:=Nat.mul_le_mul_left (2 ^ s) h3
   rw[Nat.mul_add,Nat.mul_one,Nat.mul_comm] at h4
   omega
 omega
theorem shrN{k:IntKind}(a j:Nat)(hk:j<=k.bits):shrI k (a:Int) (j:Int)=((a / 2 ^ j:Nat):Int):=by
 unfold shrI
 have h1:min (j:Int).toNat k.bits=j:=by omega
 have h2:(2:Int) ^ j=((2 ^ j:Nat):Int):=by rw[Int.natCast_pow];rfl
 rw[h1,h2,Int.fdiv_eq_ediv_of_nonneg _ (Int.natCast_nonneg _)]
 exact(Int.natCast_ediv a (2 ^ j)).symm
theorem wrap8{x:Int}(h0:0<=x)(h1:x<256):wrap .u8 x=x:=by rw[IntKind.wrap_u8];omega
theorem len_b{h:Hp}{n s:Nat}{e:Int}{Q:Value->Hp->Prop}(he:e=(s:Int))(hs:s<=100)(hn:n<256)(hQ:Q (.int .i64 ((s+bitsLen n:Nat):Int)) h) :
  ((0:Int)<=(wrap .u8 (n:Int))/\(wrap .u8 (n:Int))<(bytes8.size:Int))/\Q (.int .i64 (wrap .i64 (e+wrap .i64 (bt bytes8 (wrap .u8 (n:Int)))))) h:=by
 have hsz:(bytes8.size:Int)=256:=by rw[tab8_size];rfl
 have hb:bitsLen n<=8:=by
  have:∀ k,k<256->bitsLen k<=8:=by decide +kernel
  exact this n hn
 rw[wrap8 (by omega) (by omega),tab8_at hn,hsz,he,wr64 (x:=(bitsLen n:Int)) (by omega) (by omega),wP (by omega)]
 exact⟨by omega,hQ⟩
theorem len64_s{h:Hp}{n:Nat}{Q:Value->Hp->Prop}(h1:n<18446744073709551616)(hQ:Q (.int .i64 ((bitsLen n:Nat):Int)) h):F230.T (n:Int) h Q:=by
 have s32:shrI .u64 (n:Int) 32=((n / 2 ^ 32:Nat):Int):=shrN (k:=.u64) n 32 (by decide)
 have s16:∀ m:Nat,shrI .u64 (m:Int) 16=((m / 2 ^ 16:Nat):Int):=λm=>shrN (k:=.u64) m 16 (by decide)
 have s8:∀ m:Nat,shrI .u64 (m:Int) 8=((m / 2 ^ 8:Nat):Int):=λm=>shrN (k:=.u64) m 8 (by decide)
 have w1:wrap .i64 (32+16)=((48:Nat):Int):=by rw[wr64 (by omega) (by omega)];rfl
 have w2:wrap .i64 (32+8)=((40:Nat):Int):=by rw[wr64 (by omega) (by omega)];rfl
 have w3:wrap .i64 (16+8)=((24:Nat):Int):=by rw[wr64 (by omega) (by omega)];rfl
 have w4:wrap .i64 (((48:Nat):Int)+8)=((56:Nat):Int):=by rw[wr64 (by omega) (by omega)];rfl
 have w5:wrap .i64 (0+8)=((8:Nat):Int):=by rw[wr64 (by omega) (by omega)];rfl
 have w6:wrap .i64 (0+16)=((16:Nat):Int):=by rw[wr64 (by omega) (by omega)];rfl
 have w7:wrap .i64 (((16:Nat):Int)+8)=((24:Nat):Int):=by rw[wr64 (by omega) (by omega)];rfl
 have w8:wrap .i64 (0+32)=((32:Nat):Int):=by rw[wr64 (by omega) (by omega)];rfl
 unfold F230.T
 refine⟨λc1=>⟨by decide,?_⟩,λc1=>?_⟩
 ·rw[bitsLen_shift (s:=32) (by omega)] at hQ
  rw[s32]
  generalize hm:n / 2 ^ 32=m at hQ ⊢
  have hm2:m<4294967296:=by omega
  refine⟨λc2=>⟨by decide,?_⟩,λc2=>?_⟩
  ·rw[bitsLen_shift (n:=m) (s:=16) (by omega)] at hQ
   rw[s16]
   generalize hk:m / 2 ^ 16=k at hQ ⊢
   refine⟨λc3=>⟨by decide,?_⟩,λc3=>?_⟩
   ·rw[bitsLen_shift (n:=k) (s:=8) (by omega)] at hQ
    rw[s8]
    exact len_b (s:=56) (by rw[w1,w4]) (by decide) (by omega) (by rw[<- Nat.add_assoc,<- Nat.add_assoc] at hQ;exact hQ)
   ·exact len_b (s:=48) (by rw[w1]) (by decide) (by omega) (by rw[<- Nat.add_assoc] at hQ;exact hQ)
  ·refine⟨λc3=>⟨by decide,?_⟩,λc3=>?_⟩
   ·rw[bitsLen_shift (n:=m) (s:=8) (by omega)] at hQ
    rw[s8]
    exact len_b (s:=40) (by rw[w2]) (by decide) (by omega) (by rw[<- Nat.add_assoc] at hQ;exact hQ)
   ·exact len_b (s:=32) rfl (by decide) (by omega) hQ
 ·refine⟨λc2=>⟨by decide,?_⟩,λc2=>?_⟩
  ·rw[bitsLen_shift (n:=n) (s:=16) (by omega)] at hQ
   rw[s16]
   generalize hk:n / 2 ^ 16=k at hQ ⊢
   refine⟨λc3=>⟨by decide,?_⟩,λc3=>?_⟩
   ·rw[bitsLen_shift (n:=k) (s:=8) (by omega)] at hQ
    rw[s8]
    exact len_b (s:=24) (by rw[w6,w7]) (by decide) (by omega) (by rw[<- Nat.add_assoc] at hQ;exact hQ)
   ·exact len_b (s:=16) rfl (by decide) (by omega) hQ
  ·refine⟨λc3=>⟨by decide,?_⟩,λc3=>?_⟩
   ·rw[bitsLen_shift (n:=n) (s:=8) (by omega)] at hQ
    rw[s8]
    exact len_b (s:=8) rfl (by decide) (by omega) hQ
   ·exact len_b (s:=0) rfl (by decide) (by omega) (by rw[Nat.zero_add];exact hQ)
theorem len_s{h:Hp}{n:Nat}{Q:Value->Hp->Prop}(h1:n<18446744073709551616)(hQ:Q (.int .i64 ((bitsLen n:Nat):Int)) h):F213.T (n:Int) h Q:=by
 unfold F213.T F213.G
 exact len64_s h1 ⟨_,rfl,hQ⟩
theorem bitsLen_le{n k:Nat}(h:n<2 ^ k):bitsLen n<=k:=by
 unfold bitsLen
 split
 ·exact Nat.zero_le _
 ·next h0=>exact(Nat.log2_lt h0).2 h
theorem pow_s{h:Hp}{n:Nat}{Q:Value->Hp->Prop}(h1:n<2 ^ 40)(hQ:Q (.int .u64 ((1 <<< bitsLen n:Nat):Int)) h):F236.T (n:Int) h Q:=by
 unfold F236.T F236.G
 have hn:n<18446744073709551616:=Nat.lt_trans h1 (by decide)
 rw[wrap_u64 (by omega) (by omega)]
 refine len_s hn ⟨_,rfl,by omega,?_⟩
 have hb:=bitsLen_le h1
 have e:shlI .u64 1 ((bitsLen n:Nat):Int)=((1 <<< bitsLen n:Nat):Int):=by
  unfold shlI
  have:min (((bitsLen n:Nat):Int)).toNat (IntKind.bits .u64)=bitsLen n:=by show min _ 64=_;omega
  rw[this,Int.one_mul,Nat.one_shiftLeft]
  have h2:(2:Int) ^ (bitsLen n)=((2 ^ (bitsLen n):Nat):Int):=by rw[Int.natCast_pow];rfl
  have h3:2 ^ (bitsLen n)<=2 ^ 40:=Nat.pow_le_pow_right (by decide) hb
  rw[h2]
  generalize 2 ^ (bitsLen n)=z at h3 ⊢
  exact wrap_u64 (by omega) (by omega)
 rw[e];exact hQ
theorem ofU(u:UInt64):BitVec.ofInt 64 (u.toNat:Int)=u.toBitVec:=by
 apply BitVec.eq_of_toNat_eq
 rw[BitVec.ofInt_natCast,BitVec.toNat_ofNat]
 exact Nat.mod_eq_of_lt u.toNat_lt
theorem xorU(u v:UInt64):bitsI .xor .u64 (u.toNat:Int) (v.toNat:Int)=((u ^^^ v).toNat:Int):=by
 have:=(u ^^^ v).toNat_lt
 show wrap .u64 (((BitVec.ofInt 64 (u.toNat:Int) ^^^ BitVec.ofInt 64 (v.toNat:Int)).toNat:Nat):Int)=_
 rw[ofU,ofU]
 have e:(u.toBitVec ^^^ v.toBitVec).toNat=(u ^^^ v).toNat:=rfl
 rw[e,wrap_u64 (by omega) (by omega)]
theorem andU(u:UInt64){m:Nat}(hm:m<18446744073709551616):bitsI .and .u64 (u.toNat:Int) (m:Int)=((u.toNat &&& m:Nat):Int):=by
 have h1:u.toNat &&& m<=m:=Nat.and_le_right
 show wrap .u64 (((BitVec.ofInt 64 (u.toNat:Int) &&& BitVec.ofInt 64 (m:Int)).toNat:Nat):Int)=_
 have e:(BitVec.ofInt 64 (u.toNat:Int) &&& BitVec.ofInt 64 (m:Int)).toNat=u.toNat &&& m:=by
  rw[ofU,BitVec.ofInt_natCast,BitVec.toNat_and,BitVec.toNat_ofNat,Nat.mod_eq_of_lt hm];rfl
 rw[e,wrap_u64 (by omega) (by omega)]
theorem wu(n:Nat):wrap .u64 (n:Int)=((n % 2 ^ 64:Nat):Int):=by
 simp[IntKind.wrap,IntKind.signed,IntKind.bits]
theorem shlU(u:UInt64)(k:UInt64)(j:Nat)(hk:k.toNat=j)(hj:j<64):shlI .u64 (u.toNat:Int) (j:Int)=((u <<< k).toNat:Int):=by
 unfold shlI
 have h1:min ((j:Int)).toNat (IntKind.bits .u64)=j:=by show min _ 64=_;omega
 have h2:(2:Int) ^ j=((2 ^ j:Nat):Int):=by rw[Int.natCast_pow];rfl
 have h3:(u.toNat:Int)*((2 ^ j:Nat):Int)=((u.toNat*2 ^ j:Nat):Int):=(Int.natCast_mul _ _).symm
 rw[h1,h2,h3,UInt64.toNat_shiftLeft,hk,Nat.mod_eq_of_lt hj,Nat.shiftLeft_eq]
 exact wu _
theorem shrU(u:UInt64)(k:UInt64)(j:Nat)(hk:k.toNat=j)(hj:j<64):shrI .u64 (u.toNat:Int) (j:Int)=((u >>> k).toNat:Int):=by
 rw[shrN (k:=.u64) _ _ (by show j<=64;omega),UInt64.toNat_shiftRight,hk,Nat.mod_eq_of_lt hj,Nat.shiftRight_eq_div_pow]
theorem xnext_s{h:Hp}{b:Nat}{u:UInt64}{Q:Value->Hp->Prop}(hb:h b=some (.cells ⟨[.int .u64 (u.toNat:Int)]⟩ 247 (0,0)))(hQ:∀ h',h' b=some (.cells ⟨[.int .u64 ((xorNext u).toNat:Int)]⟩ 247 (0,0))->(∀ k,k≠b->h' k=h k)->Q (.int .u64 ((xorNext u).toNat:Int)) h'):F237.T (some ⟨b,0,none⟩) h Q:=by
 have at_:∀ {g:Hp} {x:Int},g b=some (.cells ⟨[.int .u64 x]⟩ 247 (0,0))->g.at b 0=some (.int .u64 x):=λhg=>by unfold Hp.at;rw[hg];rfl
 have can:∀ {g:Hp} {x:Int},g b=some (.cells ⟨[.int .u64 x]⟩ 247 (0,0))->g.canW b 0 1:=λhg=>⟨_,_,_,hg,Nat.le_refl _,λj _ _=>by simp⟩
 have st:∀ {g:Hp} {x:Int} (y:Int),g b=some (.cells ⟨[.int .u64 x]⟩ 247 (0,0))->(g.wr b 0 [.int .u64 y]) b=some (.cells ⟨[.int .u64 y]⟩ 247 (0,0)):=λy hg=>by rw[wr_at hg];rfl
 have ot:∀ {g:Hp} {vs:List Value} {k:Nat},k≠b->(g.wr b 0 vs) k=g k:=λhk=>by unfold Hp.wr;rw[if_neg hk]
 have e1:bitsI .xor .u64 (u.toNat:Int) (shlI .u64 (u.toNat:Int) 13)=((u ^^^ (u <<< 13)).toNat:Int):=by
  have:=shlU u 13 13 rfl (by decide)
  rw[show(13:Int)=((13:Nat):Int) from rfl,this,xorU]
 generalize hu1:u ^^^ (u <<< 13)=u1 at e1
 have e2:bitsI .xor .u64 (u1.toNat:Int) (shrI .u64 (u1.toNat:Int) 7)=((u1 ^^^ (u1 >>> 7)).toNat:Int):=by
  have:=shrU u1 7 7 rfl (by decide)
  rw[show(7:Int)=((7:Nat):Int) from rfl,this,xorU]
 generalize hu2:u1 ^^^ (u1 >>> 7)=u2 at e2
 have e3:bitsI .xor .u64 (u2.toNat:Int) (shlI .u64 (u2.toNat:Int) 17)=((u2 ^^^ (u2 <<< 17)).toNat:Int):=by
  have:=shlU u2 17 17 rfl (by decide)
  rw[show(17:Int)=((17:Nat):Int) from rfl,this,xorU]
 have ex:xorNext u=u2 ^^^ (u2 <<< 17):=by unfold xorNext;dsimp only;rw[hu1,hu2]
 rw[<- ex] at e3
 unfold F237.T
 refine⟨b,0,rfl,_,at_ hb,b,0,rfl,_,at_ hb,by decide,b,0,rfl,?_⟩
 rw[e1]
 refine⟨can hb,b,0,rfl,_,at_ (st _ hb),b,0,rfl,_,at_ (st _ hb),by decide,b,0,rfl,?_⟩
 rw[e2]
 refine⟨can (st _ hb),b,0,rfl,_,at_ (st _ (st _ hb)),b,0,rfl,_,at_ (st _ (st _ hb)),by decide,b,0,rfl,?_⟩
 rw[e3]
 refine⟨can (st _ (st _ hb)),b,0,rfl,_,at_ (st _ (st _ (st _ hb))),?_⟩
 exact hQ _ (st _ (st _ (st _ hb))) λk hk=>by rw[ot hk,ot hk,ot hk]
structure Rn(h h':Hp)(l:Sl)(b:Nat)(u:UInt64)(d:Array Int):Prop where
 s:Dx h h' l d
 nb:h b=none
 c:h' b=some (.cells ⟨[.int .u64 (u.toNat:Int)]⟩ 247 (0,0))
theorem rn_buf{h:Hp}{b:Nat}{r:Int}(hb:h b=some (.cells ⟨[.int .u64 r]⟩ 247 (0,0))):Buf h (rb b) 1 247 [.int .u64 r]:=
 ⟨rfl,Nat.le_refl _,.inr ⟨b,_,(0,0),rfl,hb,Nat.le_refl _,λj _=>by simp,rfl⟩⟩
theorem Rn.sw{h g g':Hp}{l:Sl}{b:Nat}{u:UInt64}{d d':Array Int}(R:Rn h g l b u d)(S:Dx g g' l d'):Rn h g' l b u d':=
 ⟨R.s.from S,R.nb,S.up.keep b _ (λo ho=>buf_off (rn_buf R.c) R.s.u (by decide) b 0 o rfl ho) R.c⟩
theorem Rn.draw{h g g':Hp}{l:Sl}{b:Nat}{u u':UInt64}{d:Array Int}(R:Rn h g l b u d)(h1:g' b=some (.cells ⟨[.int .u64 (u'.toNat:Int)]⟩ 247 (0,0)))(h2:∀ k,k≠b->g' k=g k):Rn h g' l b u' d:=by
 have hU:Upd g g' (rb b) (rb b):=⟨λk x hk e=>by
  have hkb:k≠b:=λq=>hk 0 (by rw[q];rfl)
  rw[h2 k hkb];exact e,.inl rfl,λk e=>by
  by_cases hkb:k=b
  ·rw[hkb,h1] at e;cases e
  ·rw[h2 k hkb] at e;exact e⟩
 refine⟨⟨R.s.u.upd hU (buf_off R.s.u (rn_buf R.c) (by decide)),⟨λk x hk e=>?_,.inl rfl,λk e=>R.s.up.dom k (hU.dom k e)⟩⟩,R.nb,h1⟩
 have hkb:k≠b:=λq=>by rw[q,R.nb] at e;cases e
 rw[h2 k hkb]
 exact R.s.up.keep k x hk e
variable{h:Hp}{l:Sl}{d:Array Int}{a b p:Nat}{Q:Value->Hp->Prop}
def stK(a L:Nat)(d:Array Int):Nat->UInt64×Array Int
 |0=>(UInt64.ofNat L,d)
 |k+1=>breakStep a L (1 <<< bitsLen L) (stK a L d k) (a+(L / 4)*2-1+k)
theorem break_s(B:Buf h l 1 48 (uvs d.toList))(hab:a<=b)(hb:b<=l.n)(hn:l.n<=100000000000)(hQ:∀ h',Dx h h' l (breakPatterns d a b)->Q (.tuple ⟨[]⟩) h'):F222.T l (a:Int) (b:Int) h Q:=by
 unfold F222.T F222.G
 rw[wM hab (by omega)]
 unfold breakPatterns at hQ
 dsimp only at hQ
 generalize hL:b-a=L at hQ ⊢
 refine⟨λh8=>?_,λh8=>?_⟩
 ·rw[if_pos (by omega)] at hQ
  have h3:∀ h',Dx h h' l (stK a L d 3).2->Q (.tuple ⟨[]⟩) h':=hQ
  clear hQ
  have hd:Int.tdiv (L:Int) 4=((L / 4:Nat):Int):=by rw[Int.tdiv_eq_ediv_of_nonneg (by omega)];omega
  have w2:wrap .i64 (((L / 4:Nat):Int)*2)=((L / 4*2:Nat):Int):=by rw[wr64 (by omega) (by omega)];omega
  rw[hd,wr64 (x:=((L / 4:Nat):Int)) (by omega) (by omega),w2,wP (by omega),wS (by omega) (by omega),wA (by omega)]
  intro xb hxb
  have x0:=new_self h xb (.cells ⟨[.int .u64 0]⟩ 247 (0,0))
  have R0:Rn h (h.new xb (.cells ⟨[.int .u64 0]⟩ 247 (0,0))) l xb 0 d:=⟨⟨B.keep (Keep.new hxb _),Upd.of_keep (Keep.new hxb _) l⟩,hxb,x0⟩
  refine⟨⟨_,_,_,x0,Nat.le_refl _,λj _ _=>by simp⟩,?_⟩
  have eL:wrap .u64 (L:Int)=((UInt64.ofNat L).toNat:Int):=by
   rw[wrap_u64 (by omega) (by omega),UInt64.toNat_ofNat',Nat.mod_eq_of_lt (by show L<18446744073709551616;omega)]
  rw[eL]
  have R1:Rn h ((h.new xb (.cells ⟨[.int .u64 0]⟩ 247 (0,0))).wr xb 0 [.int .u64 ((UInt64.ofNat L).toNat:Int)]) l xb (UInt64.ofNat L) d:=R0.draw (by rw[wr_at x0];rfl) λk hk=>by unfold Hp.wr;rw[if_neg hk]
  generalize ((h.new xb (.cells ⟨[.int .u64 0]⟩ 247 (0,0))).wr xb 0 [.int .u64 ((UInt64.ofNat L).toNat:Int)])=g1 at R1 ⊢
  refine pow_s (by show L<1099511627776;omega) ⟨_,rfl,by decide,?_⟩
  have hmod:1 <<< bitsLen L<=1099511627776:=by
   rw[Nat.one_shiftLeft]
   exact Nat.le_trans (Nat.pow_le_pow_right (by decide) (bitsLen_le (k:=37) (by show L<137438953472;omega))) (by decide)
  have hmod1:1<=1 <<< bitsLen L:=by rw[Nat.one_shiftLeft];exact Nat.one_le_two_pow
  have hmod2:1 <<< bitsLen L<=2*L:=by
   rw[Nat.one_shiftLeft]
   unfold bitsLen
   rw[if_neg (by omega),Nat.pow_succ]
   have:=Nat.log2_self_le (n:=L) (by omega)
   omega
  refine⟨λn g=>∃ k,n=((a+L / 4*2-1+k:Nat):Int)/\k<=3/\Rn h g l xb (stK a L d k).1 (stK a L d k).2,λn _=>a+L / 4*2+2-n.toNat,⟨0,rfl,by decide,R1⟩,?_⟩
  rintro n g ⟨k,rfl,hk,R⟩
  refine⟨by decide,λhle=>?_,λhgt=>?_⟩
  ·refine Go.Eng.YtbjnlacacapjiaaGreatDoor.xnext_s R.c λg2 hg hot=>⟨_,rfl,?_⟩
   have R2:=R.draw hg hot
   clear hg hot
   have hw:wrap .u64 (((1 <<< bitsLen L:Nat):Int)-1)=((1 <<< bitsLen L-1:Nat):Int):=by rw[wrap_u64 (by omega) (by omega)];omega
   dsimp only
   rw[hw,andU (xorNext (stK a L d k).1) (m:=1 <<< bitsLen L-1) (by omega)]
   have hq:(xorNext (stK a L d k).1).toNat &&& (1 <<< bitsLen L-1)<=1 <<< bitsLen L-1:=Nat.and_le_right
   have es:stK a L d (k+1)=breakStep a L (1 <<< bitsLen L) (stK a L d k) (a+(L / 4)*2-1+k):=rfl
   unfold breakStep at es
   dsimp only at es
   generalize (xorNext (stK a L d k).1).toNat &&& (1 <<< bitsLen L-1)=q at hq es ⊢
   rw[wr64 (x:=(q:Int)) (by omega) (by omega)]
   have S2:=Dx.refl R2.s.u
   refine⟨λhge=>?_,λhlt=>?_⟩
   ·rw[if_pos (by omega)] at es
    rw[wM (by omega) (by omega),wP (by omega),wA (by omega)]
    refine S2.swp (i:=a+(q-L)) (j:=a+L / 4*2-1+k) (by omega) (by omega) λg3 S3=>⟨⟨k+1,by rw[Nat.add_assoc],by omega,?_⟩,by omega⟩
    rw[es];exact R2.sw S3
   ·rw[if_neg (by omega)] at es
    rw[wP (by omega),wA (by omega)]
    refine S2.swp (i:=a+q) (j:=a+L / 4*2-1+k) (by omega) (by omega) λg3 S3=>⟨⟨k+1,by rw[Nat.add_assoc],by omega,?_⟩,by omega⟩
    rw[es];exact R2.sw S3
  ·have:k=3:=by omega
   subst this
   exact h3 g R.s
 ·rw[if_neg (by omega)] at hQ
  exact hQ h (Dx.refl B)
end
end Go.Eng.YtbjnlacacapjiaaGreatDoor
end
