/-
  JOINED.
-/
import Derived.Test.YtekflkpnpibneaaGreatDoorK2
import Derived.Lib.Bytealg
import Derived.MapKept
import Derived.Test.YtekflkpnpibneaaGreatDoorProg
import Derived.WalkKit
import Derived.Laws.Externs
import Derived.Shelf.SlIter.Nil
import Derived.Shelf.SortM.Plain
import Derived.Shelf.SortM.SortNone
import Derived.Ground.GgzProg
import Derived.Ground.SlgmProg
set_option linter.unusedSimpArgs false
set_option linter.unusedVariables false
set_option maxRecDepth 100000
open Go.IntKind (wrap)
open List (length_append length_map length_cons mem_of_getElem? mem_cons_self getElem?_eq_getElem getElem?_map mem_cons_of_mem map_cons length_set mem_cons mem_append mem_singleton pairwise_cons)
section
namespace Go.Eng
def cmpI(a b:ByteArray):Int:=Go.Lib.compareBytes a.data.toList b.data.toList
def lcmp:List UInt8->List UInt8->Int:=Go.Lib.compareBytes
theorem lcmp_cons(a b:UInt8)(l m:List UInt8):lcmp (a::l) (b::m)=if a<b then -1 else if b<a then 1 else lcmp l m:=rfl
theorem u8_tri(a b:UInt8):a<b\/b<a\/a=b:=by
 rcases Nat.lt_trichotomy a.toNat b.toNat with h|h|h
 ·exact .inl h
 ·exact .inr (.inr (UInt8.toNat_inj.1 h))
 ·exact .inr (.inl h)
theorem u8_irr{a:UInt8}:¬ a<a:=λh=>Nat.lt_irrefl _ (show a.toNat<a.toNat from h)
theorem u8_asym{a b:UInt8}(h:a<b):¬ b<a:=λk=>Nat.lt_asymm (show a.toNat<b.toNat from h) k
theorem u8_trans{a b c:UInt8}(h:a<b)(k:b<c):a<c:=Nat.lt_trans (show a.toNat<b.toNat from h) k
theorem lcmp_flip:∀ l m,lcmp l m=- lcmp m l
 |[],[]=>rfl
 |[],_::_=>rfl
 |_::_,[]=>rfl
 |a::l,b::m=>by
  rw[lcmp_cons,lcmp_cons]
  rcases u8_tri a b with h|h|rfl
  ·rw[if_pos h,if_neg (u8_asym h),if_pos h]
  ·rw[if_neg (u8_asym h),if_pos h,if_pos h];rfl
  ·rw[if_neg u8_irr,if_neg u8_irr,if_neg u8_irr,if_neg u8_irr,lcmp_flip l m]
theorem lcmp_zero:∀ l m,lcmp l m=0->l=m
 |[],[],_=>rfl
 |[],_::_,h=>(by cases h)
 |_::_,[],h=>(by cases h)
 |a::l,b::m,h=>by
  rw[lcmp_cons] at h
  rcases u8_tri a b with k|k|rfl
  ·rw[if_pos k] at h;cases h
  ·rw[if_neg (u8_asym k),if_pos k] at h;cases h
  ·rw[if_neg u8_irr,if_neg u8_irr] at h;rw[lcmp_zero l m h]
theorem lcmp_trans:∀ l m n,lcmp l m<0->lcmp m n<0->lcmp l n<0
 |[],[],_,h,_=>(by cases h)
 |_::_,[],_,h,_=>absurd h (by decide:¬ (1:Int)<0)
 |[],_::_,[],_,k=>absurd k (by decide:¬ (1:Int)<0)
 |[],_::_,_::_,_,_=>(by decide:(-1:Int)<0)
 |_::_,_::_,[],_,k=>absurd k (by decide:¬ (1:Int)<0)
 |a::l,b::m,c::n,h,k=>by
  rw[lcmp_cons] at h k ⊢
  rcases u8_tri a b with x|x|rfl
  ·rcases u8_tri b c with y|y|rfl
   ·rw[if_pos (u8_trans x y)];decide
   ·rw[if_neg (u8_asym y),if_pos y] at k;exact absurd k (by decide)
   ·rw[if_pos x];decide
  ·rw[if_neg (u8_asym x),if_pos x] at h;exact absurd h (by decide)
  ·rw[if_neg u8_irr,if_neg u8_irr] at h
   rcases u8_tri a c with y|y|rfl
   ·rw[if_pos y];decide
   ·rw[if_neg (u8_asym y),if_pos y] at k;exact absurd k (by decide)
   ·rw[if_neg u8_irr,if_neg u8_irr] at k ⊢
    exact lcmp_trans l m n h k
def Bl(a b:ByteArray):Prop:=cmpI a b<0
theorem cmpI_eq(a b:ByteArray):cmpI a b=lcmp a.data.toList b.data.toList:=rfl
theorem Bl.trans{a b c:ByteArray}(h:Bl a b)(k:Bl b c):Bl a c:=lcmp_trans _ _ _ h k
theorem Bl.asym{a b:ByteArray}(h:Bl a b):¬ Bl b a:=by
 unfold Bl at h ⊢
 rw[cmpI_eq,lcmp_flip] at h
 rw[cmpI_eq]
 omega
theorem Bl.irr{a:ByteArray}:¬ Bl a a:=λh=>h.asym h
theorem bl_tri(a b:ByteArray):Bl a b\/Bl b a\/a=b:=by
 unfold Bl
 have h:=lcmp_flip a.data.toList b.data.toList
 rw[cmpI_eq,cmpI_eq]
 rcases Int.lt_trichotomy (lcmp a.data.toList b.data.toList) 0 with k|k|k
 ·exact .inl k
 ·right;right
  have:=lcmp_zero _ _ k
  exact ByteArray.ext (Array.ext' this)
 ·exact .inr (.inl (by omega))
def Le(a b:ByteArray):Prop:=¬ Bl b a
theorem Le.refl(a:ByteArray):Le a a:=Bl.irr
theorem Le.of{a b:ByteArray}(h:Bl a b):Le a b:=h.asym
theorem bytesLess_eq:∀ l m,Op.bytesLess l m=decide (lcmp l m<0)
 |[],[]=>rfl
 |_::_,[]=>rfl
 |[],_::_=>rfl
 |a::l,b::m=>by
  rw[lcmp_cons]
  unfold Op.bytesLess
  rcases u8_tri a b with h|h|rfl
  ·rw[if_pos h,decide_eq_true h];rfl
  ·have hne:(a == b)=false:=by
    rw[beq_eq_false_iff_ne];rintro rfl;exact u8_irr h
   rw[if_neg (u8_asym h),if_pos h,decide_eq_false (u8_asym h),hne];rfl
  ·rw[if_neg u8_irr,if_neg u8_irr,decide_eq_false u8_irr,beq_self_eq_true,bytesLess_eq l m];rfl
theorem sLt_bl(a b:ByteArray):sLt a b↔Bl a b:=by
 unfold sLt Bl
 rw[ByteArray.toList_eq,ByteArray.toList_eq,bytesLess_eq,decide_eq_true_eq]
 rfl
theorem lt_lcmp : ∀ (l m : List UInt8), l < m ↔ lcmp l m < 0
  | [], [] => by constructor
                 · intro h; exact absurd h (List.not_lt_nil _)
                 · intro h; exact absurd h (by decide)
  | [], b :: m => by constructor
                     · intro _; show (-1 : Int) < 0; decide
                     · intro _; exact List.nil_lt_cons _ _
  | a :: l, [] => by constructor
                     · intro h; exact absurd h (List.not_lt_nil _)
                     · intro h; exact absurd h (show ¬ (1 : Int) < 0 by decide)
  | a :: l, b :: m => by
    rw [List.cons_lt_cons_iff, lcmp_cons, lt_lcmp l m]
    rcases u8_tri a b with h | h | rfl
    · rw [if_pos h]; constructor
      · intro _; decide
      · intro _; exact .inl h
    · rw [if_neg (u8_asym h), if_pos h]; constructor
      · rintro (k | ⟨rfl, _⟩)
        · exact absurd k (u8_asym h)
        · exact absurd h u8_irr
      · intro k; exact absurd k (by decide)
    · rw [if_neg u8_irr, if_neg u8_irr]; constructor
      · rintro (k | ⟨_, k⟩)
        · exact absurd k u8_irr
        · exact k
      · intro k; exact .inr ⟨rfl, k⟩
theorem le_bl{a b:ByteArray}:a.data.toList<=b.data.toList↔Le a b:=by
 unfold Le Bl
 rw[cmpI_eq,<- lt_lcmp]
 exact List.not_lt.symm
end Go.Eng
end
section
namespace Go.Eng
open Go.MapKept
structure Tr2(D D':Nat->Prop)(h h':Hp):Prop where
 keep:∀ k x,¬ D k->h k=some x->h' k=some x
 dom:∀ k,h' k=none->h k=none
 grow:∀ k,D' k->D k\/h k=none
theorem Tr2.refl(D:Nat->Prop)(h:Hp):Tr2 D D h h:=⟨λ_ _ _ e=>e,λ_ e=>e,λ_ e=>.inl e⟩
theorem Tr2.of_keep(D:Nat->Prop){h h':Hp}(K:Keep h h'):Tr2 D D h h':=⟨λk x _ e=>K k x e,K.dom,λ_ e=>.inl e⟩
theorem Tr2.trans{D D' D'':Nat->Prop}{h h1 h2:Hp}(x:Tr2 D D' h h1)(y:Tr2 D' D'' h1 h2):Tr2 D D'' h h2:=
 ⟨λk o n e=>y.keep k o (λd=>(x.grow k d).elim n (λe'=>by rw[e'] at e;cases e)) (x.keep k o n e),λk e=>x.dom k (y.dom k e),
  λk d=>(y.grow k d).elim (x.grow k) λe=>.inr (x.dom k e)⟩
theorem Tr2.keepTr{D D':Nat->Prop}{h h1 h2:Hp}(K:Keep h h1)(y:Tr2 D D' h1 h2):Tr2 D D' h h2:=(Tr2.of_keep D K).trans y
theorem Tr2.trKeep{D D':Nat->Prop}{h h1 h2:Hp}(y:Tr2 D D' h h1)(K:Keep h1 h2):Tr2 D D' h h2:=y.trans (Tr2.of_keep D' K)
theorem Tr2.one{D D':Nat->Prop}{b:Nat}{h h':Hp}(O:One b h h')(hb:D b)(g:∀ k,D' k->D k\/h k=none):Tr2 D D' h h':=⟨λk x n e=>O.keep k x (by rintro rfl;exact n hb) e,O.dom,g⟩
theorem Tr2.upd{D D':Nat->Prop}{h h':Hp}{s s':Sl}(U:Upd h h' s s')(hb:∀ k o,s.a=some ⟨k,o,none⟩->D k)(g:∀ k,D' k->D k\/h k=none):Tr2 D D' h h':=⟨λk x n e=>U.keep k x (λo hs=>n (hb k o hs)) e,U.dom,g⟩
theorem Tr2.base{D D':Nat->Prop}{g h h':Hp}(T:Tr2 D D' h h')(K:Keep g h)(n:∀ k,D k->g k=none):Keep g h':=λk x e=>T.keep k x (λd=>by rw[n k d] at e;cases e) (K k x e)
theorem Tr2.newer{D D':Nat->Prop}{g h h':Hp}(T:Tr2 D D' h h')(K:Keep g h)(n:∀ k,D k->g k=none):∀ k,D' k->g k=none:=λk d=>(T.grow k d).elim (n k) (K.dom k)
def inS(s:Sl)(k:Nat):Prop:=∃ o,s.a=some ⟨k,o,none⟩
theorem inS_nil(k:Nat):¬ inS ⟨none,0,0⟩ k:=λ⟨o,h⟩=>by cases h
theorem buf_alive{h:Hp}{s:Sl}{sz t k:Nat}{vs:List Value}(B:Buf h s sz t vs)(hk:inS s k):∃ c f,h k=some (.cells c t f):=by
 obtain⟨o,hs⟩:=hk
 rcases B.own with⟨ha,_⟩|⟨b,c,f,ha,hb,_⟩
 ·rw[ha] at hs;cases hs
 ·rw[ha] at hs
  simp only[Option.some.injEq,Addr.mk.injEq,and_true] at hs
  exact⟨c,f,by rw[<- hs.1];exact hb⟩
theorem buf_mono{h h':Hp}{s:Sl}{sz t:Nat}{vs:List Value}(B:Buf h s sz t vs)(m:∀ k x,inS s k->h k=some x->h' k=some x):Buf h' s sz t vs:=by
 refine⟨B.len,B.cap,B.own.imp id ?_⟩
 rintro⟨b,c,f,h1,h2,h3,h4,h5⟩
 exact⟨b,c,f,h1,m b _ ⟨0,h1⟩ h2,h3,h4,h5⟩
theorem upd_in{h h':Hp}{s s':Sl}(U:Upd h h' s s'){k:Nat}(hk:inS s' k):inS s k\/h k=none:=by
 obtain⟨o,hs⟩:=hk
 rcases U.at_ with e|⟨b,e,hn⟩
 ·exact .inl ⟨o,by rw[<- e];exact hs⟩
 ·rw[e] at hs
  simp only[Option.some.injEq,Addr.mk.injEq,and_true] at hs
  exact .inr (by rw[<- hs.1];exact hn)
theorem newN_in{h:Hp}{s:Sl}(N:NewN h s){k:Nat}(hk:inS s k):h k=none:=by
 obtain⟨o,hs⟩:=hk
 rcases N with e|⟨b,e,hn⟩
 ·rw[e] at hs;cases hs
 ·rw[e] at hs
  simp only[Option.some.injEq,Addr.mk.injEq,and_true] at hs
  rw[<- hs.1];exact hn
def bB(a b:ByteArray):Bool:=decide (cmpI a b<0)
theorem bB_t{a b:ByteArray}:bB a b=true↔Bl a b:=by unfold bB Bl;exact decide_eq_true_iff
abbrev Dir:=List (ByteArray×Nat)
def dget:Dir->ByteArray->Option Nat
 |[],_=>none
 |x::d,s=>if x.1=s then some x.2 else dget d s
def dins:Dir->ByteArray->Nat->Dir
 |[],s,i=>[(s,i)]
 |x::d,s,i=>if x.1=s then(s,i)::d else if bB s x.1 then(s,i)::x::d else x::dins d s i
def ddel:Dir->ByteArray->Dir
 |[],_=>[]
 |x::d,s=>if x.1=s then d else x::ddel d s
def DSrt(d:Dir):Prop:=d.Pairwise λx y=>Bl x.1 y.1
theorem dget_none{d:Dir}{s:ByteArray}:dget d s=none↔∀ x∈d,x.1≠s:=by
 induction d with
 |nil=>simp[dget]
 |cons x d ih=>
  unfold dget
  by_cases h:x.1=s
  ·rw[if_pos h];constructor
   ·intro h0;cases h0
   ·intro h0;exact absurd h (h0 x mem_cons_self)
  ·rw[if_neg h,ih];constructor
   ·intro h0 y hy
    rcases mem_cons.1 hy with rfl|hy
    ·exact h
    ·exact h0 y hy
   ·exact λh0 y hy=>h0 y (mem_cons_of_mem _ hy)
theorem dget_mem{d:Dir}{s:ByteArray}{i:Nat}(h:dget d s=some i):(s,i)∈d:=by
 induction d with
 |nil=>cases h
 |cons x d ih=>
  unfold dget at h
  by_cases hx:x.1=s
  ·rw[if_pos hx] at h;cases h;rw[<- hx];exact mem_cons_self
  ·rw[if_neg hx] at h;exact mem_cons_of_mem _ (ih h)
theorem mem_dget{d:Dir}(S:DSrt d){s:ByteArray}{i:Nat}(h:(s,i)∈d):dget d s=some i:=by
 induction d with
 |nil=>cases h
 |cons x d ih=>
  have S':=pairwise_cons.1 S
  unfold dget
  rcases mem_cons.1 h with rfl|h
  ·rw[if_pos rfl]
  ·rw[if_neg (λe=>by have:=S'.1 _ h;rw[e] at this;exact Bl.irr this),ih S'.2 h]
theorem dins_mem{d:Dir}{s:ByteArray}{i:Nat}{x:ByteArray×Nat}(h:x∈dins d s i):x=(s,i)\/x∈d:=by
 induction d with
 |nil=>exact .inl (by simpa[dins] using h)
 |cons y d ih=>
  unfold dins at h
  by_cases hy:y.1=s
  ·rw[if_pos hy] at h
   rcases mem_cons.1 h with h|h
   ·exact .inl h
   ·exact .inr (mem_cons_of_mem _ h)
  ·rw[if_neg hy] at h
   by_cases hb:bB s y.1=true
   ·rw[if_pos hb] at h
    rcases mem_cons.1 h with h|h
    ·exact .inl h
    ·exact .inr h
   ·rw[if_neg hb] at h
    rcases mem_cons.1 h with h|h
    ·exact .inr (by rw[h];exact mem_cons_self)
    ·exact(ih h).imp id (mem_cons_of_mem _)
theorem dins_srt{d:Dir}(S:DSrt d)(s:ByteArray)(i:Nat):DSrt (dins d s i):=by
 induction d with
 |nil=>exact List.pairwise_singleton _ _
 |cons y d ih=>
  have S':=pairwise_cons.1 S
  unfold dins
  by_cases hy:y.1=s
  ·rw[if_pos hy];exact pairwise_cons.2 ⟨λz hz=>by have:=S'.1 z hz;rw[hy] at this;exact this,S'.2⟩
  ·rw[if_neg hy]
   by_cases hb:bB s y.1=true
   ·rw[if_pos hb]
    have hb':=bB_t.1 hb
    refine pairwise_cons.2 ⟨λz hz=>?_,S⟩
    rcases mem_cons.1 hz with rfl|hz
    ·exact hb'
    ·exact hb'.trans (S'.1 z hz)
   ·rw[if_neg hb]
    refine pairwise_cons.2 ⟨λz hz=>?_,ih S'.2⟩
    rcases dins_mem hz with rfl|hz
    ·rcases bl_tri y.1 s with h|h|h
     ·exact h
     ·exact absurd (bB_t.2 h) hb
     ·exact absurd h hy
    ·exact S'.1 z hz
theorem dget_ins {d : Dir} (s : ByteArray) (i : Nat) (t : ByteArray) : dget (dins d s i) t = if t = s then some i else dget d t := by
  induction d with
  | nil => simp only [dins, dget]; by_cases h : t = s
           · rw [if_pos h, if_pos h.symm]
           · rw [if_neg h, if_neg (fun e => h e.symm)]
  | cons y d ih =>
    unfold dins
    by_cases hy : y.1 = s
    · rw [if_pos hy]
      simp only [dget]
      by_cases h : t = s
      · rw [if_pos h, if_pos h.symm]
      · rw [if_neg h, if_neg (fun e => h e.symm), if_neg (fun e => h (e.symm.trans hy))]
    · rw [if_neg hy]
      by_cases hb : bB s y.1 = true
      · rw [if_pos hb]
        simp only [dget]
        by_cases h : t = s
        · rw [if_pos h, if_pos h.symm]
        · rw [if_neg h, if_neg (fun e => h e.symm)]
      · rw [if_neg hb]
        simp only [dget]
        by_cases h : y.1 = t
        · rw [if_pos h, if_neg (fun e => hy (h.trans e)), if_pos h]
        · rw [if_neg h, ih, if_neg h]
theorem ddel_sub{d:Dir}{s:ByteArray}{x:ByteArray×Nat}(h:x∈ddel d s):x∈d:=by
 induction d with
 |nil=>cases h
 |cons y d ih=>
  unfold ddel at h
  by_cases hy:y.1=s
  ·rw[if_pos hy] at h;exact mem_cons_of_mem _ h
  ·rw[if_neg hy] at h
   rcases mem_cons.1 h with h|h
   ·rw[h];exact mem_cons_self
   ·exact mem_cons_of_mem _ (ih h)
theorem ddel_srt{d:Dir}(S:DSrt d)(s:ByteArray):DSrt (ddel d s):=by
 induction d with
 |nil=>exact S
 |cons y d ih=>
  have S':=pairwise_cons.1 S
  unfold ddel
  by_cases hy:y.1=s
  ·rw[if_pos hy];exact S'.2
  ·rw[if_neg hy];exact pairwise_cons.2 ⟨λz hz=>S'.1 z (ddel_sub hz),ih S'.2⟩
theorem dget_del{d:Dir}(S:DSrt d)(s t:ByteArray):dget (ddel d s) t=if t=s then none else dget d t:=by
 induction d with
 |nil=>simp[ddel,dget]
 |cons y d ih=>
  have S':=pairwise_cons.1 S
  unfold ddel
  by_cases hy:y.1=s
  ·rw[if_pos hy]
   simp only[dget]
   by_cases h:t=s
   ·rw[if_pos h];subst h
    exact dget_none.2 λx hx e=>by have:=S'.1 x hx;rw[e,hy] at this;exact Bl.irr this
   ·rw[if_neg h,if_neg (λe=>h (e.symm.trans hy))]
  ·rw[if_neg hy]
   simp only[dget]
   by_cases h:y.1=t
   ·rw[if_pos h,if_neg (λe=>hy (h.trans e)),if_pos h]
   ·rw[if_neg h,ih S'.2,if_neg h]
theorem dir_ext:∀ {d e:Dir},DSrt d->DSrt e->(∀ s,dget d s=dget e s)->d=e
 |[],[],_,_,_=>rfl
 |[],y::e,_,_,h=>by have:=h y.1;simp[dget] at this
 |x::d,[],_,_,h=>by have:=h x.1;simp[dget] at this
 |x::d,y::e,S,T,h=>by
  have S':=pairwise_cons.1 S
  have T':=pairwise_cons.1 T
  have hxy:x.1=y.1:=by
   rcases bl_tri x.1 y.1 with k|k|k
   ·have h1:=h x.1
    rw[show dget (x::d) x.1=some x.2 by simp[dget]] at h1
    have:=dget_mem h1.symm
    rcases mem_cons.1 this with e0|e0
    ·rw[<- e0] at k;exact absurd k Bl.irr
    ·exact absurd (k.trans (T'.1 _ e0)) Bl.irr
   ·have h1:=h y.1
    rw[show dget (y::e) y.1=some y.2 by simp[dget]] at h1
    have:=dget_mem h1
    rcases mem_cons.1 this with e0|e0
    ·rw[<- e0] at k;exact absurd k Bl.irr
    ·exact absurd (k.trans (S'.1 _ e0)) Bl.irr
   ·exact k
  have h2:x.2=y.2:=by
   have h1:=h x.1
   simp only[dget,hxy,if_pos] at h1
   exact Option.some.inj h1
  have:x=y:=Prod.ext hxy h2
  subst this
  rw[dir_ext S'.2 T'.2 λs=>by
   have h1:=h s
   by_cases hs:x.1=s
   ·subst hs
    rw[dget_none.2 λz hz e0=>by have:=S'.1 z hz;rw[e0] at this;exact Bl.irr this,dget_none.2 λz hz e0=>by have:=T'.1 z hz;rw[e0] at this;exact Bl.irr this]
   ·simp only[dget,if_neg hs] at h1;exact h1]
theorem dins_len{d:Dir}(s:ByteArray)(i:Nat):(dins d s i).length<=d.length+1:=by
 induction d with
 |nil=>simp[dins]
 |cons y d ih=>
  unfold dins
  split
  ·simp
  ·split
   ·simp
   ·simp only[length_cons];omega
theorem ddel_len{d:Dir}(s:ByteArray):(ddel d s).length<=d.length:=by
 induction d with
 |nil=>simp[ddel]
 |cons y d ih=>
  unfold ddel
  split
  ·simp
  ·simp only[length_cons];omega
theorem ddel_len1{d:Dir}{s:ByteArray}{i:Nat}(h:dget d s=some i):(ddel d s).length+1=d.length:=by
 induction d with
 |nil=>cases h
 |cons y d ih=>
  unfold ddel
  unfold dget at h
  split
  ·simp
  ·next hy=>rw[if_neg hy] at h;simp only[length_cons];rw[ih h]
structure SM(es:Array MapEntry)(c:Nat)(d:Dir)(val:Nat->Value):Prop where
 st:Stamped es c
 mem:∀ e∈es.toList,∃ s i,e.key=.string s/\dget d s=some i/\e.val=val i
 all:∀ s i,dget d s=some i->∃ e∈es.toList,e.key=.string s
theorem SM.empty(c:Nat)(val:Nat->Value):SM #[] c [] val:=⟨⟨λx hx=>by simp at hx,by simp,by simp⟩,λe he=>by simp at he,λs i h=>by cases h⟩
section
variable{es:Array MapEntry}{c:Nat}{d:Dir}{val:Nat->Value}
theorem SM.fit(M:SM es c d val)(s:ByteArray):keysFit (.string s) es:=λe he=>by
 obtain⟨t,i,h,_⟩:=M.mem e he
 rw[h];rfl
theorem kEq_s(a b:ByteArray):kEq (.string a) (.string b)=decide (a=b):=rfl
theorem SM.get(M:SM es c d val)(s:ByteArray)(z:Value):mget es (.string s) z=match dget d s with|some i=>val i|none=>z:=by
 unfold mget
 split
 ·next e he=>
  have h1:=List.find?_some he
  obtain⟨t,i,h2,h3,h4⟩:=M.mem e (List.mem_of_find?_eq_some he)
  rw[h2,kEq_s,decide_eq_true_eq] at h1
  subst h1
  rw[h3];exact h4
 ·next he=>
  cases hd:dget d s with
  |none=>rfl
  |some i=>
   obtain⟨e,he',hk⟩:=M.all s i hd
   have:=List.find?_eq_none.1 he e he'
   rw[hk,kEq_s] at this
   exact absurd (decide_eq_true rfl) this
theorem key_ne{e e':MapEntry}(M:SM es c d val){i j:Nat}(hi:es.toList[i]?=some e)(hj:es.toList[j]?=some e')(hk:e.key=e'.key):i=j:=by
 have hil:=(List.getElem?_eq_some_iff.1 hi)
 have hjl:=(List.getElem?_eq_some_iff.1 hj)
 obtain⟨h1,h2⟩:=hil
 obtain⟨h3,h4⟩:=hjl
 have hn:=List.pairwise_iff_getElem.1 M.st.2.2
 rcases Nat.lt_trichotomy i j with h|h|h
 ·exact absurd (by rw[List.getElem_map,List.getElem_map,h2,h4,hk]) (hn i j (by rw[length_map];exact h1) (by rw[length_map];exact h3) h)
 ·exact h
 ·exact absurd (by rw[List.getElem_map,List.getElem_map,h2,h4,hk]) (hn j i (by rw[length_map];exact h3) (by rw[length_map];exact h1) h)
theorem SM.put(M:SM es c d val)(s:ByteArray)(i:Nat):∃ es' c',mPut es c (.string s) (val i)=.map es' c'/\SM es' c' (dins d s i) val:=by
 unfold mPut
 split
 ·next q hq=>
  obtain⟨hql,hqk,_⟩:=List.findIdx?_eq_some_iff_getElem.1 hq
  obtain⟨t,j,h2,h3,h4⟩:=M.mem _ (List.getElem_mem hql)
  rw[h2,kEq_s,decide_eq_true_eq] at hqk
  subst hqk
  have get:∀ {n:Nat} {e:MapEntry},(es.toList.modify q λe=>{ e with key:=.string s,val:=val i })[n]?=some e->(n=q/\e.key=.string s/\e.val=val i/\e.born=es.toList[q].born)\/(n≠q/\es.toList[n]?=some e):=λ{n e} h=>by
   rw[List.getElem?_modify] at h
   by_cases hn:q=n
   ·subst hn
    rw[getElem?_eq_getElem hql] at h
    simp at h
    rw[<- h]
    exact .inl ⟨rfl,rfl,rfl,by simp⟩
   ·cases hg:es.toList[n]? with
    |none=>rw[hg] at h;cases h
    |some e0=>
     rw[hg] at h
     simp[hn] at h
     exact .inr ⟨λe=>hn e.symm,by rw[h]⟩
  refine⟨_,_,rfl,⟨?_,?_,?_⟩,λe he=>?_,λt k hk=>?_⟩
  ·intro x hx
   rw[Array.toList_modify] at hx
   obtain⟨n,hn⟩:=List.mem_iff_getElem?.1 hx
   rcases get hn with⟨_,_,_,hb⟩|⟨_,hn⟩
   ·rw[hb];exact M.st.1 _ (List.getElem_mem hql)
   ·exact M.st.1 _ (mem_of_getElem? hn)
  ·rw[Array.toList_modify]
   have:(es.toList.modify q λe=>{ e with key:=.string s,val:=val i }).map (·.born)=es.toList.map (·.born):=by
    apply List.ext_getElem?
    intro n
    rw[getElem?_map,getElem?_map,List.getElem?_modify]
    cases es.toList[n]? with
    |none=>rfl
    |some e=>by_cases hn:q=n<;>simp[hn]
   rw[this];exact M.st.2.1
  ·rw[Array.toList_modify]
   have:(es.toList.modify q λe=>{ e with key:=.string s,val:=val i }).map (·.key)=es.toList.map (·.key):=by
    apply List.ext_getElem?
    intro n
    rw[getElem?_map,getElem?_map,List.getElem?_modify]
    by_cases hn:q=n
    ·subst hn
     rw[getElem?_eq_getElem hql];simp only[if_true,Option.map_some,h2];rfl
    ·cases es.toList[n]? with
     |none=>rfl
     |some e=>simp[hn]
   rw[this];exact M.st.2.2
  ·rw[Array.toList_modify] at he
   obtain⟨n,hn⟩:=List.mem_iff_getElem?.1 he
   rcases get hn with⟨_,hk,hv,_⟩|⟨hne,hn'⟩
   ·exact⟨s,i,hk,by rw[dget_ins,if_pos rfl],hv⟩
   ·obtain⟨t,k,k1,k2,k3⟩:=M.mem e (mem_of_getElem? hn')
    refine⟨t,k,k1,?_,k3⟩
    rw[dget_ins,if_neg ?_]
    ·exact k2
    ·intro ht
     exact hne (key_ne M hn' (getElem?_eq_getElem hql) (by rw[k1,h2,ht]))
  ·rw[dget_ins] at hk
   rw[Array.toList_modify]
   have hmem:∀ n e,es.toList[n]?=some e->∃ e'∈es.toList.modify q (λe=>{ e with key:=.string s,val:=val i }),e'.key=if n=q then .string s else e.key:=λn e hn=>by
    by_cases hq2:q=n
    ·subst hq2
     exact⟨{ e with key:=.string s,val:=val i },mem_of_getElem? (i:=q) (by rw[List.getElem?_modify,hn];simp),by rw[if_pos rfl]⟩
    ·exact⟨e,mem_of_getElem? (i:=n) (by rw[List.getElem?_modify,hn];simp[hq2]),by rw[if_neg (λe=>hq2 e.symm)]⟩
   by_cases ht:t=s
   ·obtain⟨e',h1,h2'⟩:=hmem q _ (getElem?_eq_getElem hql)
    rw[if_pos rfl] at h2'
    exact⟨e',h1,by rw[ht];exact h2'⟩
   ·rw[if_neg ht] at hk
    obtain⟨e,he,hke⟩:=M.all t k hk
    obtain⟨n,hn⟩:=List.mem_iff_getElem?.1 he
    obtain⟨e',h1,h2'⟩:=hmem n e hn
    refine⟨e',h1,?_⟩
    rw[h2',if_neg ?_]
    ·exact hke
    ·rintro rfl
     rw[getElem?_eq_getElem hql] at hn
     rw[Option.some.inj hn] at h2
     rw[hke] at h2
     exact ht (by simpa using h2)
 ·next hq=>
  have hno:∀ e∈es.toList,e.key≠.string s:=λe he hk=>by
   have:=List.findIdx?_eq_none_iff.1 hq e he
   rw[hk,kEq_s] at this
   simp at this
  refine⟨_,_,rfl,⟨?_,?_,?_⟩,λe he=>?_,λt k hk=>?_⟩
  ·intro x hx
   rw[Array.toList_push,mem_append,mem_singleton] at hx
   rcases hx with hx|rfl
   ·exact Nat.lt_succ_of_lt (M.st.1 x hx)
   ·exact Nat.lt_succ_self c
  ·rw[Array.toList_push,List.map_append]
   refine List.nodup_append.2 ⟨M.st.2.1,by simp,λa ha b hb=>?_⟩
   simp at hb
   obtain⟨x,hx,rfl⟩:=List.mem_map.1 ha
   have:=M.st.1 x hx
   omega
  ·rw[Array.toList_push,List.map_append]
   refine List.nodup_append.2 ⟨M.st.2.2,by simp,λa ha b hb=>?_⟩
   simp at hb
   obtain⟨x,hx,rfl⟩:=List.mem_map.1 ha
   rw[hb];exact hno x hx
  ·rw[Array.toList_push,mem_append,mem_singleton] at he
   rcases he with he|rfl
   ·obtain⟨t,k,k1,k2,k3⟩:=M.mem e he
    refine⟨t,k,k1,?_,k3⟩
    rw[dget_ins,if_neg (by rintro rfl;exact hno e he k1)];exact k2
   ·exact⟨s,i,rfl,by rw[dget_ins,if_pos rfl],rfl⟩
  ·rw[dget_ins] at hk
   rw[Array.toList_push]
   by_cases ht:t=s
   ·exact⟨_,List.mem_append_right _ (mem_singleton.2 rfl),by rw[ht]⟩
   ·rw[if_neg ht] at hk
    obtain⟨e,he,hke⟩:=M.all t k hk
    exact⟨e,List.mem_append_left _ he,hke⟩
theorem SM.del(M:SM es c d val)(S:DSrt d)(s:ByteArray):SM (mDel es (.string s)) c (ddel d s) val:=by
 unfold mDel
 split
 ·next q hq=>
  obtain⟨hql,hqk,_⟩:=List.findIdx?_eq_some_iff_getElem.1 hq
  obtain⟨t,j,h2,h3,h4⟩:=M.mem _ (List.getElem_mem hql)
  rw[h2,kEq_s,decide_eq_true_eq] at hqk
  subst hqk
  have hsz:q<es.size:=by simpa using hql
  have hlist:(es.eraseIdxIfInBounds q).toList=es.toList.eraseIdx q:=by
   unfold Array.eraseIdxIfInBounds
   rw[dif_pos hsz,Array.toList_eraseIdx]
  have hsub:(es.toList.eraseIdx q).Sublist es.toList:=List.eraseIdx_sublist _ _
  have hin:∀ e∈es.toList,e.key≠.string s->e∈es.toList.eraseIdx q:=λe he hk=>by
   rw[List.mem_eraseIdx_iff_getElem?]
   obtain⟨n,hn⟩:=List.mem_iff_getElem?.1 he
   refine⟨n,?_,hn⟩
   rintro rfl
   rw[getElem?_eq_getElem hql] at hn
   rw[Option.some.inj hn] at h2
   exact hk h2
  have hout:∀ e∈es.toList.eraseIdx q,e.key≠.string s:=λe he hk=>by
   rw[List.mem_eraseIdx_iff_getElem?] at he
   obtain⟨n,hne,hn⟩:=he
   exact hne (key_ne M hn (getElem?_eq_getElem hql) (hk.trans h2.symm))
  refine⟨?_,λe he=>?_,λt k hk=>?_⟩
  ·show Stamped (es.eraseIdxIfInBounds q) c
   unfold Stamped
   rw[hlist]
   exact⟨λx hx=>M.st.1 x (hsub.subset hx),M.st.2.1.sublist (hsub.map _),M.st.2.2.sublist (hsub.map _)⟩
  ·rw[hlist] at he
   obtain⟨t,k,k1,k2,k3⟩:=M.mem e (hsub.subset he)
   exact⟨t,k,k1,by rw[dget_del S,if_neg (by rintro rfl;exact hout e he k1)];exact k2,k3⟩
  ·rw[dget_del S] at hk
   by_cases ht:t=s
   ·rw[if_pos ht] at hk;cases hk
   ·rw[if_neg ht] at hk
    obtain⟨e,he,hke⟩:=M.all t k hk
    exact⟨e,by rw[hlist];exact hin e he (by rw[hke];simpa using ht),hke⟩
 ·next hq=>
  have hno:dget d s=none:=by
   cases hd:dget d s with
   |none=>rfl
   |some i=>
    obtain⟨e,he,hk⟩:=M.all s i hd
    have:=List.findIdx?_eq_none_iff.1 hq e he
    rw[hk,kEq_s] at this
    simp at this
  have:ddel d s=d:=dir_ext (ddel_srt S s) S λt=>by
   rw[dget_del S]
   by_cases ht:t=s
   ·rw[if_pos ht,ht,hno]
   ·rw[if_neg ht]
  rw[this];exact M
theorem SM.perm(M:SM es c d val)(S:DSrt d):(es.toList.map λe=>(e.key,e.val)).Perm (d.map λx=>(Value.string x.1,val x.2)):=by
 refine(List.perm_ext_iff_of_nodup ?_ ?_).2 λx=>?_
 ·have hn:=M.st.2.2
  refine List.pairwise_map.2 ((List.pairwise_map.1 hn).imp λ{a b} h e=>h (congrArg Prod.fst e))
 ·refine List.pairwise_map.2 (S.imp λ{a b} h e=>?_)
  have:a.1=b.1:=by simpa using congrArg Prod.fst e
  rw[this] at h;exact Bl.irr h
 ·constructor
  ·intro hx
   obtain⟨e,he,rfl⟩:=List.mem_map.1 hx
   obtain⟨s,i,h1,h2,h3⟩:=M.mem e he
   exact List.mem_map.2 ⟨(s,i),dget_mem h2,by rw[h1,h3]⟩
  ·intro hx
   obtain⟨⟨s,i⟩,hs,rfl⟩:=List.mem_map.1 hx
   have hg:=mem_dget S hs
   obtain⟨e,he,hk⟩:=M.all s i hg
   obtain⟨t,j,h1,h2,h3⟩:=M.mem e he
   rw[hk] at h1
   have hts:s=t:=by simpa using h1
   subst hts
   rw[hg] at h2
   obtain rfl:=Option.some.inj h2
   exact List.mem_map.2 ⟨e,he,by rw[hk,h3]⟩
theorem SM.len(M:SM es c d val)(S:DSrt d):es.size=d.length:=by
 have:=(M.perm S).length_eq
 simpa using this
theorem SM.keys(M:SM es c d val)(S:DSrt d):∃ ks:List ByteArray,es.toList.map (·.key)=ks.map Value.string/\ks.Perm (d.map (·.1)):=by
 have h1:∀ l:List MapEntry,(∀ e∈l,∃ s,e.key=.string s)->∃ ks:List ByteArray,l.map (·.key)=ks.map Value.string:=by
  intro l
  induction l with
  |nil=>exact λ_=>⟨[],rfl⟩
  |cons e l ih=>
   intro h
   obtain⟨ks,hk⟩:=ih λe he=>h e (mem_cons_of_mem _ he)
   obtain⟨s,hs⟩:=h e mem_cons_self
   exact⟨s::ks,by rw[map_cons,map_cons,hk,hs]⟩
 obtain⟨ks,hk⟩:=h1 es.toList λe he=>by obtain⟨s,_,h,_⟩:=M.mem e he;exact⟨s,h⟩
 refine⟨ks,hk,?_⟩
 have hp:=(M.perm S).map Prod.fst
 rw[List.map_map,List.map_map] at hp
 have hp2:(ks.map Value.string).Perm ((d.map (·.1)).map Value.string):=by
  rw[<- hk,List.map_map];exact hp
 have:=hp2.map λv=>match v with|.string s=>s|_=>ByteArray.empty
 rw[List.map_map,List.map_map] at this
 simpa[Function.comp_def] using this
theorem SM.congr{val':Nat->Value}(M:SM es c d val)(h:∀ s i,dget d s=some i->val i=val' i):SM es c d val':=
 ⟨M.st,λe he=>by obtain⟨s,i,h1,h2,h3⟩:=M.mem e he;exact⟨s,i,h1,h2,by rw[h3,h s i h2]⟩,M.all⟩
end
end Go.Eng
end
section
namespace Go.Eng
structure Fil where
 data:List UInt8
 sure:Nat
structure Cg where
 kind:Int
 nm:ByteArray
 to:ByteArray
 id:Nat
structure FileR where
 nm:ByteArray
 data:List UInt8
 sure:Nat
structure Dk where
 room:Int
 fl:List Fil
 now:Dir
 sure:Dir
 chg:List Cg
 left:Int
 well:Int
 fails:Int
 part:Int
 down:Bool
def dlay(d:Dir)(c:Cg):Dir:=
 if c.kind=0 then dins d c.nm c.id
 else if c.kind=1 then(match dget d c.nm with|some i=>dins (ddel d c.nm) c.to i|none=>d)
 else ddel d c.nm
def byteOk(b:UInt8):Bool:=(97<=b.toNat && b.toNat<=122) || (48<=b.toNat && b.toNat<=57) || b.toNat == 45
def nameOk(s:ByteArray):Bool:=decide (1<=s.size) && decide (s.size<=24) && s.data.toList.all byteOk
def dbegin(S:Dk)(ok:Bool):Int×Dk:=
 if S.down=true then(30,S) else if ok=false then(33,S) else if 0<S.well then(0,{ S with well:=S.well-1 }) else if 0<S.fails then(31,{ S with fails:=S.fails-1 }) else(0,S)
def dfalls(S:Dk)(cost:Int):Option Int×Dk:=
 if S.left=0 then(none,S) else if cost<S.left then(none,{ S with left:=S.left-cost }) else(some (S.left-1),{ S with left:=0,well:=0,fails:=0,part:=0,down:=true })
def dlen(S:Dk)(i:Nat):Nat:=match S.fl[i]? with|some f=>f.data.length|none=>0
def dtot(S:Dk):Nat:=(S.now.map λx=>dlen S x.2).sum
def dfull(S:Dk)(i:Nat)(n:Int):Bool:=decide (2147483648<(dlen S i:Int)+n) || (decide (S.room≠0) && decide (S.room<n+(dtot S:Int)))
def addTo(S:Dk)(i:Nat)(b:List UInt8):Dk:=match S.fl[i]? with|some f=>{ S with fl:=S.fl.set i ⟨f.data++b,f.sure⟩ }|none=>S
def kThen(x:Int×Dk)(f:Dk->Int×Dk):Int×Dk:=if x.1=0 then f x.2 else x
def kFalls(S:Dk)(cost:Int)(f:Dk->Int×Dk):Int×Dk:=match (dfalls S cost).1 with
 |some _=>(30,(dfalls S cost).2)
 |none=>f (dfalls S cost).2
def kDo(S:Dk)(c:Cg):Dk:={ S with now:=dlay S.now c,chg:=S.chg++[c] }
def kNew(S:Dk):Dk:={ S with fl:=S.fl++[⟨[],0⟩] }
def kCreate2(s:ByteArray)(S:Dk):Int×Dk:=if (dget S.now s).isSome=true then(35,S) else if 8388608<=(S.now.length:Int) then(32,S) else kFalls S 1 λS2=>(0,kDo (kNew S2) ⟨0,s,⟨#[]⟩,S2.fl.length⟩)
def kCreate(S:Dk)(s:ByteArray):Int×Dk:=kThen (dbegin S (nameOk s)) (kCreate2 s)
def kAppend3(i:Nat)(b:List UInt8)(S:Dk):Int×Dk:=if dfull S i (b.length:Int)=true then(32,S) else match (dfalls S (1+(b.length:Int))).1 with
 |some n=>(30,addTo (dfalls S (1+(b.length:Int))).2 i (b.take n.toNat))
 |none=>(0,addTo (dfalls S (1+(b.length:Int))).2 i b)
def kAppend2(s:ByteArray)(b:List UInt8)(S:Dk):Int×Dk:=match dget S.now s with
 |none=>(34,S)
 |some i=>kAppend3 i b S
def kPart(s:ByteArray)(b:List UInt8)(n:Int)(S:Dk):Int×Dk:=match dget S.now s with
 |none=>(31,S)
 |some i=>if dfull S i n=true then(31,S) else(31,addTo S i (b.take n.toNat))
def kAppend(S:Dk)(s:ByteArray)(b:List UInt8):Int×Dk:=
 if (dbegin S (nameOk s)).1=31 then kPart s b (iMin S.part (b.length:Int)) (dbegin S (nameOk s)).2 else kThen (dbegin S (nameOk s)) (kAppend2 s b)
def sureAll(S:Dk)(i:Nat):Dk:=match S.fl[i]? with|some f=>{ S with fl:=S.fl.set i ⟨f.data,f.data.length⟩ }|none=>S
def kSync2(s:ByteArray)(S:Dk):Int×Dk:=match dget S.now s with
 |none=>(34,S)
 |some i=>kFalls S 1 λS2=>(0,sureAll S2 i)
def kSync(S:Dk)(s:ByteArray):Int×Dk:=kThen (dbegin S (nameOk s)) (kSync2 s)
def kRename2(s t:ByteArray)(S:Dk):Int×Dk:=match dget S.now s with
 |none=>(34,S)
 |some _=>kFalls S 1 λS2=>if s=t then(0,S2) else(0,kDo S2 ⟨1,s,t,0⟩)
def kRename(S:Dk)(s t:ByteArray):Int×Dk:=kThen (dbegin S (nameOk s && nameOk t)) (kRename2 s t)
def kDelete2(s:ByteArray)(S:Dk):Int×Dk:=match dget S.now s with
 |none=>(34,S)
 |some _=>kFalls S 1 λS2=>(0,kDo S2 ⟨2,s,⟨#[]⟩,0⟩)
def kDelete(S:Dk)(s:ByteArray):Int×Dk:=kThen (dbegin S (nameOk s)) (kDelete2 s)
def kSyncDir(S:Dk):Int×Dk:=kThen (dbegin S true) λS=>kFalls S 1 λS2=>(0,{ S2 with sure:=S2.now,chg:=[] })
def kRead(S:Dk)(s:ByteArray):Int×List UInt8:=
 if S.down=true then(30,[]) else if nameOk s=false then(33,[]) else match dget S.now s with
  |none=>(34,[])
  |some i=>(0,match S.fl[i]? with|some f=>f.data|none=>[])
def fileR(S:Dk)(x:ByteArray×Nat):FileR:=match S.fl[x.2]? with|some f=>⟨x.1,f.data,f.sure⟩|none=>⟨x.1,[],0⟩
def dtold(S:Dk)(d:Dir):List FileR:=d.map (fileR S)
def drest(S:Dk)(dir:Int):Dir:=(S.chg.take dir.toNat).foldl dlay S.sure
def leftOf(keep:List Int)(i:Nat)(f:FileR):FileR:=
 let n:=f.sure+(match keep[i % keep.length]? with|some k=>(iMin (iMax k 0) ((f.data.length:Int)-f.sure)).toNat|none=>0)
 ⟨f.nm,f.data.take n,n⟩
def leftAll(keep:List Int):Nat->List FileR->List FileR
 |_,[]=>[]
 |i,f::l=>leftOf keep i f::leftAll keep (i+1) l
def kImage(S:Dk)(dir:Int)(keep:List Int):List FileR:=leftAll keep 0 (dtold S (drest S dir))
def putAll:Nat->Dir->List FileR->Dir
 |_,d,[]=>d
 |i,d,f::l=>putAll (i+1) (dins d f.nm i) l
def fresh(room:Int)(l:List FileR):Dk:=⟨room,l.map λf=>⟨f.data,f.sure⟩,putAll 0 [] l,putAll 0 [] l,[],0,0,0,0,false⟩
structure RawF where
 nm:ByteArray
 data:List UInt8
 sure:Int
def RawF.ok(f:RawF)(d:Dir):Bool:=nameOk f.nm && (dget d f.nm).isNone && decide ((f.data.length:Int)<=2147483648) && decide (0<=f.sure) && decide (f.sure<=(f.data.length:Int))
def RawF.f(f:RawF):FileR:=⟨f.nm,f.data,f.sure.toNat⟩
def rawOk:Nat->Dir->List RawF->Bool
 |_,_,[]=>true
 |i,d,f::l=>f.ok d && rawOk (i+1) (dins d f.nm i) l
def rawSum(l:List RawF):Int:=(l.map λf=>(f.data.length:Int)).sum
def newOk(room:Int)(l:List RawF):Bool:=decide (0<=room) && decide ((l.length:Int)<=8388608) && rawOk 0 [] l && (decide (room=0) || decide (rawSum l<=room))
def kFall(S:Dk)(dir:Int)(keep:List Int):Dk:=fresh S.room (kImage S dir keep)
def kArm(S:Dk)(u:Int):Dk:=if S.down=true then S else { S with left:=iMax u 0 }
def kFail(S:Dk)(a b c:Int):Dk:=if S.down=true then S else { S with well:=iMax a 0,fails:=iMax b 0,part:=iMax c 0 }
def CgOk(d:Dir)(c:Cg):Prop:=c.kind=0\/(c.kind=1/\(dget d c.nm).isSome/\c.nm≠c.to)\/c.kind=2
def Lays:Dir->List Cg->Dir->Prop
 |d,[],e=>d=e
 |d,c::cs,e=>CgOk d c/\Lays (dlay d c) cs e
structure DirOk(n:Nat)(d:Dir):Prop where
 s:DSrt d
 i:∀ x∈d,x.2<n
 k:∀ x∈d,x.1.size<=24
def CgNm(n:Nat)(c:Cg):Prop:=c.nm.size<=24/\c.to.size<=24/\(c.kind=0->c.id<n)
structure DOk(S:Dk):Prop where
 now:DirOk S.fl.length S.now
 sure:DirOk S.fl.length S.sure
 fl:∀ f∈S.fl,f.data.length<=2147483648/\f.sure<=f.data.length
 chg:∀ c∈S.chg,CgNm S.fl.length c
 len:S.now.length<=8388608
 pre:∀ k,((S.chg.take k).foldl dlay S.sure).length<=8388608
 lays:Lays S.sure S.chg S.now
 room:0<=S.room/\S.room<=9223372036854775807
 pos:0<=S.left/\0<=S.well/\0<=S.fails/\0<=S.part
 top:S.left<=9223372036854775807/\S.well<=9223372036854775807/\S.fails<=9223372036854775807/\S.part<=9223372036854775807
theorem DirOk.ins{n:Nat}{d:Dir}(D:DirOk n d){s:ByteArray}{i:Nat}(hs:s.size<=24)(hi:i<n):DirOk n (dins d s i):=⟨dins_srt D.s s i,λx hx=>by
 rcases dins_mem hx with rfl|hx
 ·exact hi
 ·exact D.i x hx,λx hx=>by
 rcases dins_mem hx with rfl|hx
 ·exact hs
 ·exact D.k x hx⟩
theorem DirOk.del{n:Nat}{d:Dir}(D:DirOk n d)(s:ByteArray):DirOk n (ddel d s):=⟨ddel_srt D.s s,λx hx=>D.i x (ddel_sub hx),λx hx=>D.k x (ddel_sub hx)⟩
theorem DirOk.mono{n m:Nat}{d:Dir}(D:DirOk n d)(h:n<=m):DirOk m d:=⟨D.s,λx hx=>Nat.lt_of_lt_of_le (D.i x hx) h,D.k⟩
theorem DirOk.lay{n:Nat}{d:Dir}(D:DirOk n d){c:Cg}(hc:CgNm n c):DirOk n (dlay d c):=by
 unfold dlay
 split
 ·next h=>exact D.ins hc.1 (hc.2.2 h)
 ·split
  ·split
   ·next i hi=>exact(D.del _).ins hc.2.1 (D.i _ (dget_mem hi))
   ·exact D
  ·exact D.del _
theorem DirOk.nil(n:Nat):DirOk n []:=⟨List.Pairwise.nil,λx hx=>(by cases hx),λx hx=>(by cases hx)⟩
theorem DirOk.fold{n:Nat}:∀ (cs:List Cg) {d:Dir},DirOk n d->(∀ c∈cs,CgNm n c)->DirOk n (cs.foldl dlay d)
 |[],d,D,_=>D
 |c::cs,d,D,h=>DirOk.fold cs (D.lay (h c mem_cons_self)) λc hc=>h c (mem_cons_of_mem _ hc)
theorem DOk.rest{S:Dk}(D:DOk S)(dir:Int):DirOk S.fl.length (drest S dir):=DirOk.fold _ D.sure λc hc=>D.chg c (List.mem_of_mem_take hc)
theorem Lays.snoc:∀ {cs:List Cg} {d e:Dir} {c:Cg},Lays d cs e->CgOk e c->Lays d (cs++[c]) (dlay e c)
 |[],d,e,c,h,hc=>by
  have h:d=e:=h
  subst h
  exact⟨hc,rfl⟩
 |x::cs,d,e,c,h,hc=>⟨h.1,Lays.snoc h.2 hc⟩
theorem Lays.fold:∀ {cs:List Cg} {d e:Dir},Lays d cs e->cs.foldl dlay d=e
 |[],d,e,h=>h
 |x::cs,d,e,h=>Lays.fold (cs:=cs) h.2
theorem Lays.nth:∀ {cs:List Cg} {d e:Dir} {k:Nat} {c:Cg},Lays d cs e->cs[k]?=some c->CgOk ((cs.take k).foldl dlay d) c
 |[],d,e,k,c,_,hk=>by simp at hk
 |x::cs,d,e,0,c,h,hk=>by
  simp only[List.getElem?_cons_zero,Option.some.injEq] at hk
  subst hk
  exact h.1
 |x::cs,d,e,k+1,c,h,hk=>by
  simp only[List.getElem?_cons_succ] at hk
  exact Lays.nth (cs:=cs) h.2 hk
section
variable{S:Dk}
theorem DOk.begin(D:DOk S)(ok:Bool):DOk (dbegin S ok).2:=by
 have p:=D.pos
 have t:=D.top
 unfold dbegin
 split
 ·exact D
 ·split
  ·exact D
  ·split
   ·exact⟨D.now,D.sure,D.fl,D.chg,D.len,D.pre,D.lays,D.room,⟨p.1,by dsimp only;omega,p.2.2⟩,⟨t.1,by dsimp only;omega,t.2.2⟩⟩
   ·split
    ·exact⟨D.now,D.sure,D.fl,D.chg,D.len,D.pre,D.lays,D.room,⟨p.1,p.2.1,by dsimp only;omega,p.2.2.2⟩,⟨t.1,t.2.1,by dsimp only;omega,t.2.2.2⟩⟩
    ·exact D
theorem begin_same(S:Dk)(ok:Bool):(dbegin S ok).2.fl=S.fl/\(dbegin S ok).2.now=S.now/\(dbegin S ok).2.sure=S.sure/\(dbegin S ok).2.chg=S.chg/\(dbegin S ok).2.room=S.room/\(dbegin S ok).2.part=S.part/\(dbegin S ok).2.left=S.left/\(dbegin S ok).2.down=S.down:=by
 unfold dbegin
 split
 ·exact⟨rfl,rfl,rfl,rfl,rfl,rfl,rfl,rfl⟩
 ·split
  ·exact⟨rfl,rfl,rfl,rfl,rfl,rfl,rfl,rfl⟩
  ·split
   ·exact⟨rfl,rfl,rfl,rfl,rfl,rfl,rfl,rfl⟩
   ·split<;>exact⟨rfl,rfl,rfl,rfl,rfl,rfl,rfl,rfl⟩
theorem DOk.falls(D:DOk S){cost:Int}(hc:0<=cost):DOk (dfalls S cost).2:=by
 have p:=D.pos
 have t:=D.top
 unfold dfalls
 split
 ·exact D
 ·split
  ·exact⟨D.now,D.sure,D.fl,D.chg,D.len,D.pre,D.lays,D.room,⟨by dsimp only;omega,p.2⟩,⟨by dsimp only;omega,t.2⟩⟩
  ·exact⟨D.now,D.sure,D.fl,D.chg,D.len,D.pre,D.lays,D.room,⟨Int.le_refl _,Int.le_refl _,Int.le_refl _,Int.le_refl _⟩,⟨by dsimp only;omega,by dsimp only;omega,by dsimp only;omega,by dsimp only;omega⟩⟩
theorem falls_same(S:Dk)(cost:Int):(dfalls S cost).2.fl=S.fl/\(dfalls S cost).2.now=S.now/\(dfalls S cost).2.sure=S.sure/\(dfalls S cost).2.chg=S.chg/\(dfalls S cost).2.room=S.room:=by
 unfold dfalls
 split
 ·exact⟨rfl,rfl,rfl,rfl,rfl⟩
 ·split<;>exact⟨rfl,rfl,rfl,rfl,rfl⟩
theorem DOk.setFl(D:DOk S){i:Nat}{f g:Fil}(hg:g.data.length<=2147483648/\g.sure<=g.data.length):DOk { S with fl:=S.fl.set i g }:=by
 have hl:(S.fl.set i g).length=S.fl.length:=length_set
 exact⟨by dsimp only;rw[hl];exact D.now,by dsimp only;rw[hl];exact D.sure,λx hx=>by
  rcases List.mem_or_eq_of_mem_set hx with h|rfl
  ·exact D.fl x h
  ·exact hg,by dsimp only;rw[hl];exact D.chg,D.len,D.pre,D.lays,D.room,D.pos,D.top⟩
theorem full_len{S:Dk}{i:Nat}{n:Int}(h:dfull S i n=false):(dlen S i:Int)+n<=2147483648:=by
 unfold dfull at h
 simp only[Bool.or_eq_false_iff,decide_eq_false_iff_not] at h
 omega
theorem DOk.addTo(D:DOk S){i:Nat}{b:List UInt8}(h:dlen S i+b.length<=2147483648):DOk (addTo S i b):=by
 unfold Go.Eng.addTo
 unfold dlen at h
 split
 ·next f hf=>
  rw[hf] at h
  have:=D.fl f (mem_of_getElem? hf)
  exact D.setFl (f:=f) ⟨by rw[length_append];exact h,by dsimp only;rw[length_append];omega⟩
 ·exact D
theorem DOk.sureAll(D:DOk S)(i:Nat):DOk (sureAll S i):=by
 unfold Go.Eng.sureAll
 split
 ·next f hf=>exact D.setFl (f:=f) ⟨(D.fl f (mem_of_getElem? hf)).1,Nat.le_refl _⟩
 ·exact D
theorem kThen_0{x:Int×Dk}{f:Dk->Int×Dk}(e:x.1=0):kThen x f=f x.2:=by unfold kThen;rw[if_pos e]
theorem kThen_1{x:Int×Dk}{f:Dk->Int×Dk}(e:¬ x.1=0):kThen x f=x:=by unfold kThen;rw[if_neg e]
theorem kFalls_n{cost:Int}{f:Dk->Int×Dk}(e:(dfalls S cost).1=none):kFalls S cost f=f (dfalls S cost).2:=by unfold kFalls;rw[e]
theorem kFalls_s{cost n:Int}{f:Dk->Int×Dk}(e:(dfalls S cost).1=some n):kFalls S cost f=(30,(dfalls S cost).2):=by unfold kFalls;rw[e]
theorem kThen_ind{x:Int×Dk}{f:Dk->Int×Dk}{M:Dk->Prop}(h0:¬ x.1=0->M x.2)(h1:x.1=0->M (f x.2).2):M (kThen x f).2:=by
 by_cases e:x.1=0
 ·rw[kThen_0 e];exact h1 e
 ·rw[kThen_1 e];exact h0 e
theorem kFalls_ind{cost:Int}{f:Dk->Int×Dk}{M:Dk->Prop}(h0:M (dfalls S cost).2)(h1:M (f (dfalls S cost).2).2):M (kFalls S cost f).2:=by
 cases e:(dfalls S cost).1 with
 |none=>rw[kFalls_n e];exact h1
 |some n=>rw[kFalls_s e];exact h0
theorem begin_up{ok:Bool}(e:(dbegin S ok).1=0):S.down=false/\ok=true/\(dbegin S ok).2.down=false:=by
 have hd:=(begin_same S ok).2.2.2.2.2.2.2
 unfold dbegin at e
 split at e
 ·cases e
 ·next h=>
  have h:S.down=false:=by simpa using h
  split at e
  ·cases e
  ·next h2=>exact⟨h,by simpa using h2,hd.trans h⟩
theorem begin_31{ok:Bool}(e:(dbegin S ok).1=31):S.down=false/\ok=true/\(dbegin S ok).2.down=false:=by
 have hd:=(begin_same S ok).2.2.2.2.2.2.2
 unfold dbegin at e
 split at e
 ·cases e
 ·next h=>
  have h:S.down=false:=by simpa using h
  split at e
  ·cases e
  ·next h2=>exact⟨h,by simpa using h2,hd.trans h⟩
theorem name_size{s:ByteArray}(h:nameOk s=true):s.size<=24:=by
 unfold nameOk at h
 simp only[Bool.and_eq_true,decide_eq_true_eq] at h
 exact h.1.2
theorem CgNm.mono{n m:Nat}{c:Cg}(h:CgNm n c)(hm:n<=m):CgNm m c:=⟨h.1,h.2.1,λk=>Nat.lt_of_lt_of_le (h.2.2 k) hm⟩
theorem DOk.new(D:DOk S):DOk (kNew S):=by
 have hl:S.fl.length<=(S.fl++[(⟨[],0⟩:Fil)]).length:=by rw[length_append];exact Nat.le_add_right _ _
 exact⟨D.now.mono hl,D.sure.mono hl,λf hf=>by
  rcases mem_append.1 hf with hf|hf
  ·exact D.fl f hf
  ·rw[mem_singleton.1 hf];exact⟨Nat.zero_le _,Nat.le_refl _⟩,λc hc=>(D.chg c hc).mono hl,D.len,D.pre,D.lays,D.room,D.pos,D.top⟩
theorem DOk.do(D:DOk S){c:Cg}(hc:CgOk S.now c)(hn:CgNm S.fl.length c)(hl:(dlay S.now c).length<=8388608):DOk (kDo S c):=
 ⟨D.now.lay hn,D.sure,D.fl,λx hx=>by
  rcases mem_append.1 hx with hx|hx
  ·exact D.chg x hx
  ·rw[mem_singleton.1 hx];exact hn,hl,λk=>by
  show(((S.chg++[c]).take k).foldl dlay S.sure).length<=_
  rw[List.take_append]
  by_cases hk:k<=S.chg.length
  ·rw[Nat.sub_eq_zero_of_le hk,List.take_zero,List.append_nil];exact D.pre k
  ·rw[List.take_of_length_le (by omega),List.take_of_length_le (l:=[c]) (by simp;omega),List.foldl_append,Lays.fold D.lays];exact hl,D.lays.snoc hc,D.room,D.pos,D.top⟩
structure DN(n:Nat)(S:Dk):Prop where
 ok:DOk S
 c:S.chg.length<=n
 f:S.fl.length<=8388608+n
variable{n:Nat}
theorem DN.mono{m:Nat}(D:DN n S)(h:n<=m):DN m S:=⟨D.ok,Nat.le_trans D.c h,Nat.le_trans D.f (Nat.add_le_add_left h _)⟩
theorem DN.begin(D:DN n S)(ok:Bool):DN n (dbegin S ok).2:=⟨D.ok.begin ok,by rw[(begin_same S ok).2.2.2.1];exact D.c,by rw[(begin_same S ok).1];exact D.f⟩
theorem DN.falls(D:DN n S){cost:Int}(hc:0<=cost):DN n (dfalls S cost).2:=⟨D.ok.falls hc,by rw[(falls_same S cost).2.2.2.1];exact D.c,by rw[(falls_same S cost).1];exact D.f⟩
theorem DN.do(D:DN n S){c:Cg}(hc:CgOk S.now c)(hn:CgNm S.fl.length c)(hl:(dlay S.now c).length<=8388608):DN (n+1) (kDo S c):=⟨D.ok.do hc hn hl,by show(S.chg++[c]).length<=_;rw[length_append];have:=D.c;simp;omega,Nat.le_trans D.f (by omega)⟩
theorem addTo_len(S:Dk)(i:Nat)(b:List UInt8):(addTo S i b).fl.length=S.fl.length/\(addTo S i b).chg=S.chg:=by
 unfold addTo
 split
 ·exact⟨length_set,rfl⟩
 ·exact⟨rfl,rfl⟩
theorem sureAll_len(S:Dk)(i:Nat):(sureAll S i).fl.length=S.fl.length/\(sureAll S i).chg=S.chg:=by
 unfold sureAll
 split
 ·exact⟨length_set,rfl⟩
 ·exact⟨rfl,rfl⟩
theorem DN.addTo(D:DN n S){i:Nat}{b:List UInt8}(h:dlen S i+b.length<=2147483648):DN n (addTo S i b):=⟨D.ok.addTo h,by rw[(addTo_len S i b).2];exact D.c,by rw[(addTo_len S i b).1];exact D.f⟩
theorem DN.sureAll(D:DN n S)(i:Nat):DN n (sureAll S i):=⟨D.ok.sureAll i,by rw[(sureAll_len S i).2];exact D.c,by rw[(sureAll_len S i).1];exact D.f⟩
theorem falls_len(S:Dk)(cost:Int)(i:Nat):dlen (dfalls S cost).2 i=dlen S i:=by unfold dlen;rw[(falls_same S cost).1]
theorem DN.create(D:DN n S)(s:ByteArray):DN (n+1) (kCreate S s).2:=by
 refine kThen_ind (λ_=>(D.begin _).mono (Nat.le_succ n)) λe=>?_
 have hs:=name_size (begin_up e).2.1
 have D1:=D.begin (nameOk s)
 generalize (dbegin S (nameOk s)).2=S1 at D1 ⊢
 unfold kCreate2
 split
 ·exact D1.mono (Nat.le_succ n)
 ·next hg=>
  split
  ·exact D1.mono (Nat.le_succ n)
  ·next hl=>
   have hlay:∀ i,dlay S1.now ⟨0,s,⟨#[]⟩,i⟩=dins S1.now s i:=λi=>by unfold dlay;rw[if_pos rfl]
   have D2:=D1.falls (cost:=1) (by decide)
   refine kFalls_ind (D2.mono (Nat.le_succ n)) ?_
   have hnow:=(falls_same S1 1).2.1
   generalize (dfalls S1 1).2=S2 at D2 hnow ⊢
   have hl2:=dins_len (d:=S1.now) s S2.fl.length
   have D3:=(D2.ok.new).do (c:=⟨0,s,⟨#[]⟩,S2.fl.length⟩) (.inl rfl) ⟨hs,Nat.zero_le _,λ_=>by show _<(S2.fl++[_]).length;simp⟩ (by show(dlay S2.now _).length<=_;rw[hnow,hlay];omega)
   exact⟨D3,by show(S2.chg++[_]).length<=_;have:=D2.c;simp;omega,by show(S2.fl++[_]).length<=_;have:=D2.f;simp;omega⟩
theorem iMin_le(a b:Int):iMin a b<=a/\iMin a b<=b:=by unfold iMin;split<;>omega
theorem dlen_min{b:List UInt8}{k:Nat}{n:Int}(h:dfull S k n=false)(h0:0<=n):dlen S k+(b.take n.toNat).length<=2147483648:=by
 have:=full_len h
 rw[List.length_take]
 omega
theorem DN.append(D:DN n S)(s:ByteArray)(b:List UInt8):DN n (kAppend S s b).2:=by
 have D1:=D.begin (nameOk s)
 have hp:0<=iMin S.part (b.length:Int):=by unfold iMin;have:=D.ok.pos;split<;>omega
 unfold kAppend
 split
 ·generalize (dbegin S (nameOk s)).2=S1 at D1 ⊢
  unfold kPart
  split
  ·exact D1
  ·split
   ·exact D1
   ·next hf=>exact D1.addTo (dlen_min (by simpa using hf) hp)
 ·refine kThen_ind (λ_=>D1) λ_=>?_
  generalize (dbegin S (nameOk s)).2=S1 at D1 ⊢
  unfold kAppend2
  split
  ·exact D1
  ·next i hi=>
   unfold kAppend3
   split
   ·exact D1
   ·next hf=>
    have hf:dfull S1 i (b.length:Int)=false:=by simpa using hf
    have:=full_len hf
    have D2:=D1.falls (cost:=1+(b.length:Int)) (by omega)
    have hl:=falls_len S1 (1+(b.length:Int)) i
    split
    ·exact D2.addTo (by rw[hl,List.length_take];omega)
    ·exact D2.addTo (by rw[hl];omega)
theorem DN.sync(D:DN n S)(s:ByteArray):DN n (kSync S s).2:=by
 have D1:=D.begin (nameOk s)
 refine kThen_ind (λ_=>D1) λ_=>?_
 generalize (dbegin S (nameOk s)).2=S1 at D1 ⊢
 unfold kSync2
 split
 ·exact D1
 ·exact kFalls_ind (D1.falls (by decide)) ((D1.falls (by decide)).sureAll _)
theorem DN.rename(D:DN n S)(s t:ByteArray):DN (n+1) (kRename S s t).2:=by
 have D1:=D.begin (nameOk s && nameOk t)
 refine kThen_ind (λ_=>D1.mono (Nat.le_succ n)) λe=>?_
 have hst:=(begin_up e).2.1
 rw[Bool.and_eq_true] at hst
 generalize (dbegin S (nameOk s && nameOk t)).2=S1 at D1 ⊢
 unfold kRename2
 split
 ·exact D1.mono (Nat.le_succ n)
 ·next i hi=>
  have D2:=D1.falls (cost:=1) (by decide)
  refine kFalls_ind (D2.mono (Nat.le_succ n)) ?_
  have hnow:=(falls_same S1 1).2.1
  generalize (dfalls S1 1).2=S2 at D2 hnow ⊢
  split
  ·exact D2.mono (Nat.le_succ n)
  ·next hne=>
   have h1:dlay S2.now ⟨1,s,t,0⟩=dins (ddel S2.now s) t i:=by unfold dlay;rw[if_neg (by simp),if_pos rfl,hnow,hi]
   refine D2.do (.inr (.inl ⟨rfl,by rw[hnow,hi];rfl,hne⟩)) ⟨name_size hst.1,name_size hst.2,λh=>(by cases h)⟩ ?_
   rw[h1]
   have h2:=dins_len (d:=ddel S2.now s) t i
   have h3:=ddel_len1 (d:=S2.now) (s:=s) (i:=i) (by rw[hnow];exact hi)
   have:=D2.ok.len
   omega
theorem DN.delete(D:DN n S)(s:ByteArray):DN (n+1) (kDelete S s).2:=by
 have D1:=D.begin (nameOk s)
 refine kThen_ind (λ_=>D1.mono (Nat.le_succ n)) λe=>?_
 have hs:=(begin_up e).2.1
 generalize (dbegin S (nameOk s)).2=S1 at D1 ⊢
 unfold kDelete2
 split
 ·exact D1.mono (Nat.le_succ n)
 ·next i hi=>
  have D2:=D1.falls (cost:=1) (by decide)
  refine kFalls_ind (D2.mono (Nat.le_succ n)) ?_
  generalize (dfalls S1 1).2=S2 at D2 ⊢
  refine D2.do (.inr (.inr rfl)) ⟨name_size hs,Nat.zero_le _,λh=>(by cases h)⟩ ?_
  have h1:dlay S2.now ⟨2,s,⟨#[]⟩,0⟩=ddel S2.now s:=by unfold dlay;rw[if_neg (by simp),if_neg (by simp)]
  rw[h1]
  exact Nat.le_trans (ddel_len _) D2.ok.len
theorem DN.syncdir(D:DN n S):DN n (kSyncDir S).2:=by
 have D1:=D.begin true
 refine kThen_ind (λ_=>D1) λ_=>?_
 generalize (dbegin S true).2=S1 at D1 ⊢
 have D2:=D1.falls (cost:=1) (by decide)
 refine kFalls_ind D2 ?_
 generalize (dfalls S1 1).2=S2 at D2 ⊢
 exact⟨⟨D2.ok.now,D2.ok.now,D2.ok.fl,λc hc=>(by cases hc),D2.ok.len,λk=>by show((List.take k []).foldl dlay S2.now).length<=_;rw[List.take_nil];exact D2.ok.len,rfl,D2.ok.room,D2.ok.pos,D2.ok.top⟩,Nat.zero_le _,D2.f⟩
theorem iMax_0(a:Int):0<=iMax a 0:=by unfold iMax;split<;>omega
theorem iMax_top{a:Int}(h:a<=9223372036854775807):iMax a 0<=9223372036854775807:=by unfold iMax;split<;>omega
theorem DN.arm(D:DN n S){u:Int}(hu:u<=9223372036854775807):DN n (kArm S u):=by
 unfold kArm
 split
 ·exact D
 ·exact⟨⟨D.ok.now,D.ok.sure,D.ok.fl,D.ok.chg,D.ok.len,D.ok.pre,D.ok.lays,D.ok.room,⟨iMax_0 u,D.ok.pos.2⟩,⟨iMax_top hu,D.ok.top.2⟩⟩,D.c,D.f⟩
theorem DN.fail(D:DN n S){a b c:Int}(ha:a<=9223372036854775807)(hb:b<=9223372036854775807)(hc:c<=9223372036854775807):DN n (kFail S a b c):=by
 unfold kFail
 split
 ·exact D
 ·exact⟨⟨D.ok.now,D.ok.sure,D.ok.fl,D.ok.chg,D.ok.len,D.ok.pre,D.ok.lays,D.ok.room,⟨D.ok.pos.1,iMax_0 a,iMax_0 b,iMax_0 c⟩,⟨D.ok.top.1,iMax_top ha,iMax_top hb,iMax_top hc⟩⟩,D.c,D.f⟩
end
end Go.Eng
end
section
open Go.Proofs
namespace Go.Eng.YtekflkpnpibneaaGreatDoor
def F30.an:List (Nat×Ann):=[(26,.loop [(8,.int .i64)] [])]
def F30.T(s:ByteArray):PT:=λh Q=>
 ∀ b c,h b=none->s.size<=c->∃ (I:Int->Hp->Prop) (m:Int->Hp->Nat),I 0 (h.new b (.cells ⟨bytesV s++List.replicate (c-s.size) (.int .u8 0)⟩ 5 (c,c+1)))/\(∀ n:Int,∀ h1:Hp,I n h1->par (n<(s.size:Int)) (∃ b1 o,((some ⟨b,0,none⟩):Option Addr)=some ⟨b1,o,none⟩/\((0:Int)<=n/\n<(s.size:Int))/\∃ n1:Int,h1.at b1 (o+n.toNat)=some (.int .u8 n1)/\par (n1<97) (par (n1<48) (par (n1=45) (I (wrap .i64 (n+1)) h1/\m (wrap .i64 (n+1)) h1<m n h1) (Q (.bool false) h1)) (par ((57:Int)<n1) (par (n1=45) (I (wrap .i64 (n+1)) h1/\m (wrap .i64 (n+1)) h1<m n h1) (Q (.bool false) h1)) (I (wrap .i64 (n+1)) h1/\m (wrap .i64 (n+1)) h1<m n h1))) (par ((122:Int)<n1) (par (n1<48) (par (n1=45) (I (wrap .i64 (n+1)) h1/\m (wrap .i64 (n+1)) h1<m n h1) (Q (.bool false) h1)) (par ((57:Int)<n1) (par (n1=45) (I (wrap .i64 (n+1)) h1/\m (wrap .i64 (n+1)) h1<m n h1) (Q (.bool false) h1)) (I (wrap .i64 (n+1)) h1/\m (wrap .i64 (n+1)) h1<m n h1))) (I (wrap .i64 (n+1)) h1/\m (wrap .i64 (n+1)) h1<m n h1))) (par (s=(ByteArray.mk #[])) (Q (.bool false) h1) (par ((s.size:Int)<=24) (Q (.bool true) h1) (Q (.bool false) h1))))
theorem F30.den(V:Value->List Value->PT)(s:ByteArray):denF Tryz.prog [] [] V F30.an Tryz.f30 [.v (.string s)]=F30.T s:=by kernel_rfl
def F30.W(T30:ByteArray->PT)(args:List Value):PT:=match args with
 |[.string s]=>T30 s
 |_=>λ_ _=>False
def F30.V:List Value->PT:=F30.W F30.T
theorem F30.ok:FOk Tryz.prog 30 F30.V:=by
 refine⟨⟨_,Tryz.func30,rfl,rfl⟩,λargs=>?_⟩
 have hG:GOk Tryz.prog []:=GOk.nil
 have hV:VOk Tryz.prog noV:=noV_ok
 unfold F30.V F30.W
 split
 ·exact denF_okV hG hV Tryz.func30 (λh Q hq=>(F30.den _ _) ▸ hq)
 ·exact λh Q hq=>hq.elim
def F93.an:List (Nat×Ann):=[(58,.loop [(13,.int .i64)] [])]
def F93.G(T30:ByteArray->PT)(p:Option Addr)(l:Sl):PT:=λh Q=>
 ∃ b o,(p:Option Addr)=some ⟨b,o,none⟩/\∃ b1:Bool,h.at b (o+8)=some (.bool b1)/\parB b1 (Q (.int .i64 30) h) (∃ (I:Int->Hp->Prop) (m:Int->Hp->Nat),I 0 h/\(∀ n:Int,∀ h1:Hp,I n h1->par (n<(l.n:Int)) (∃ b2 o1,(l.a:Option Addr)=some ⟨b2,o1,none⟩/\((0:Int)<=n/\n<(l.n:Int))/\∃ s:ByteArray,h1.at b2 (o1+n.toNat)=some (.string s)/\T30 s h1 λr h2=>∃ b3:Bool,r=.bool b3/\parB b3 (I (wrap .i64 (n+1)) h2/\m (wrap .i64 (n+1)) h2<m n h1) (Q (.int .i64 33) h2)) (∃ b4 o2,(p:Option Addr)=some ⟨b4,o2,none⟩/\∃ n1:Int,h1.at b4 ((o2+4)+1)=some (.int .i64 n1)/\par ((0:Int)<n1) (∃ b5 o3,(p:Option Addr)=some ⟨b5,o3,none⟩/\∃ n2:Int,h1.at b5 ((o3+4)+1)=some (.int .i64 n2)/\∃ b6 o4,(p:Option Addr)=some ⟨b6,o4,none⟩/\h1.canW b6 ((o4+4)+1) 1/\Q (.int .i64 0) (h1.wr b6 ((o4+4)+1) [.int .i64 (wrap .i64 (n2-1))])) (∃ b7 o5,(p:Option Addr)=some ⟨b7,o5,none⟩/\∃ n3:Int,h1.at b7 ((o5+4)+2)=some (.int .i64 n3)/\par ((0:Int)<n3) (∃ b8 o6,(p:Option Addr)=some ⟨b8,o6,none⟩/\∃ n4:Int,h1.at b8 ((o6+4)+2)=some (.int .i64 n4)/\∃ b9 o7,(p:Option Addr)=some ⟨b9,o7,none⟩/\h1.canW b9 ((o7+4)+2) 1/\Q (.int .i64 31) (h1.wr b9 ((o7+4)+2) [.int .i64 (wrap .i64 (n4-1))])) (Q (.int .i64 0) h1)))))
def F93.T(p:Option Addr)(l:Sl):PT:=F93.G F30.T p l
theorem F93.gen(V:Value->List Value->PT)(T30:ByteArray->PT)(p:Option Addr)(l:Sl):denF Tryz.prog [] [(30,F30.W T30)] V F93.an Tryz.f93 [.v (.pointer p),.v (.slice l.a l.n l.c)]=F93.G T30 p l:=by kernel_rfl
theorem F93.den(V:Value->List Value->PT)(p:Option Addr)(l:Sl):denF Tryz.prog [] [(30,F30.V)] V F93.an Tryz.f93 [.v (.pointer p),.v (.slice l.a l.n l.c)]=F93.T p l:=F93.gen V F30.T p l
def F93.W(T93:Option Addr->Sl->PT)(args:List Value):PT:=match args with
 |[.pointer p,.slice l_a l_n l_c]=>T93 p ⟨l_a,l_n,l_c⟩
 |_=>λ_ _=>False
def F93.V:List Value->PT:=F93.W F93.T
theorem F93.ok:FOk Tryz.prog 93 F93.V:=by
 refine⟨⟨_,Tryz.func93,rfl,rfl⟩,λargs=>?_⟩
 have hG:GOk Tryz.prog [(30,F30.V)]:=GOk.cons F30.ok (GOk.nil)
 have hV:VOk Tryz.prog noV:=noV_ok
 unfold F93.V F93.W
 split
 ·exact denF_okV hG hV Tryz.func93 (λh Q hq=>(F93.den _ _ _) ▸ hq)
 ·exact λh Q hq=>hq.elim
def F96.an:List (Nat×Ann):=[]
def F96.T(p:Option Addr)(n:Int):PT:=λh Q=>
 ∃ b o,(p:Option Addr)=some ⟨b,o,none⟩/\∃ n1:Int,h.at b (o+4)=some (.int .i64 n1)/\par (n1=0) (Q (.tuple ⟨[.int .i64 0,.bool false]⟩) h) (par (n<n1) (∃ b1 o1,(p:Option Addr)=some ⟨b1,o1,none⟩/\∃ n2:Int,h.at b1 (o1+4)=some (.int .i64 n2)/\∃ b2 o2,(p:Option Addr)=some ⟨b2,o2,none⟩/\h.canW b2 (o2+4) 1/\Q (.tuple ⟨[.int .i64 0,.bool false]⟩) (h.wr b2 (o2+4) [.int .i64 (wrap .i64 (n2-n))])) (∃ b3 o3,(p:Option Addr)=some ⟨b3,o3,none⟩/\h.canW b3 (o3+8) 1/\∃ b4 o4,(p:Option Addr)=some ⟨b4,o4,none⟩/\(h.wr b3 (o3+8) [.bool true]).canW b4 (o4+4) 4/\Q (.tuple ⟨[.int .i64 (wrap .i64 (n1-1)),.bool true]⟩) ((h.wr b3 (o3+8) [.bool true]).wr b4 (o4+4) [.int .i64 0,.int .i64 0,.int .i64 0,.int .i64 0])))
theorem F96.den(V:Value->List Value->PT)(p:Option Addr)(n:Int):denF Tryz.prog [] [] V F96.an Tryz.f96 [.v (.pointer p),.v (.int .i64 n)]=F96.T p n:=by kernel_rfl
def F96.W(T96:Option Addr->Int->PT)(args:List Value):PT:=match args with
 |[.pointer p,.int .i64 n]=>T96 p n
 |_=>λ_ _=>False
def F96.V:List Value->PT:=F96.W F96.T
theorem F96.ok:FOk Tryz.prog 96 F96.V:=by
 refine⟨⟨_,Tryz.func96,rfl,rfl⟩,λargs=>?_⟩
 have hG:GOk Tryz.prog []:=GOk.nil
 have hV:VOk Tryz.prog noV:=noV_ok
 unfold F96.V F96.W
 split
 ·exact denF_okV hG hV Tryz.func96 (λh Q hq=>(F96.den _ _ _) ▸ hq)
 ·exact λh Q hq=>hq.elim
def F20.an:List (Nat×Ann):=[]
def F20.T(p:Option Addr):PT:=λh Q=>
 ∃ b o,(p:Option Addr)=some ⟨b,o,none⟩/\∃ b1:Bool,h.at b (o+8)=some (.bool b1)/\parB b1 (Q (.bool true) h) (Q (.bool false) h)
theorem F20.den(V:Value->List Value->PT)(p:Option Addr):denF Tryz.prog [] [] V F20.an Tryz.f20 [.v (.pointer p)]=F20.T p:=by kernel_rfl
def F20.W(T20:Option Addr->PT)(args:List Value):PT:=match args with
 |[.pointer p]=>T20 p
 |_=>λ_ _=>False
def F20.V:List Value->PT:=F20.W F20.T
theorem F20.ok:FOk Tryz.prog 20 F20.V:=by
 refine⟨⟨_,Tryz.func20,rfl,rfl⟩,λargs=>?_⟩
 have hG:GOk Tryz.prog []:=GOk.nil
 have hV:VOk Tryz.prog noV:=noV_ok
 unfold F20.V F20.W
 split
 ·exact denF_okV hG hV Tryz.func20 (λh Q hq=>(F20.den _ _) ▸ hq)
 ·exact λh Q hq=>hq.elim
def F26.an:List (Nat×Ann):=[]
def F26.T(p:Option Addr)(n n1 n2:Int):PT:=λh Q=>
 ∃ b o,(p:Option Addr)=some ⟨b,o,none⟩/\h.canW b ((o+4)+1) 1/\∃ b1 o1,(p:Option Addr)=some ⟨b1,o1,none⟩/\(h.wr b ((o+4)+1) [.int .i64 (iMax n 0)]).canW b1 ((o1+4)+2) 1/\∃ b2 o2,(p:Option Addr)=some ⟨b2,o2,none⟩/\((h.wr b ((o+4)+1) [.int .i64 (iMax n 0)]).wr b1 ((o1+4)+2) [.int .i64 (iMax n1 0)]).canW b2 ((o2+4)+3) 1/\Q (.tuple ⟨[]⟩) (((h.wr b ((o+4)+1) [.int .i64 (iMax n 0)]).wr b1 ((o1+4)+2) [.int .i64 (iMax n1 0)]).wr b2 ((o2+4)+3) [.int .i64 (iMax n2 0)])
theorem F26.den(V:Value->List Value->PT)(p:Option Addr)(n n1 n2:Int):denF Tryz.prog [] [] V F26.an Tryz.f26 [.v (.pointer p),.v (.int .i64 n),.v (.int .i64 n1),.v (.int .i64 n2)]=F26.T p n n1 n2:=by kernel_rfl
def F26.W(T26:Option Addr->Int->Int->Int->PT)(args:List Value):PT:=match args with
 |[.pointer p,.int .i64 n,.int .i64 n1,.int .i64 n2]=>T26 p n n1 n2
 |_=>λ_ _=>False
def F26.V:List Value->PT:=F26.W F26.T
theorem F26.ok:FOk Tryz.prog 26 F26.V:=by
 refine⟨⟨_,Tryz.func26,rfl,rfl⟩,λargs=>?_⟩
 have hG:GOk Tryz.prog []:=GOk.nil
 have hV:VOk Tryz.prog noV:=noV_ok
 unfold F26.V F26.W
 split
 ·exact denF_okV hG hV Tryz.func26 (λh Q hq=>(F26.den _ _ _ _ _) ▸ hq)
 ·exact λh Q hq=>hq.elim
def F5.an:List (Nat×Ann):=[(58,.loop [(5,.int .i64),(6,.int .i64)] []),(122,.loop [(5,.int .i64),(7,.int .i64)] []),(3912,.order [0,1,2,3,4,5,6,7,8,9,10,11,12,13,14,15])]
def F5.T(l l1:Sl):PT:=λh Q=>
 ∃ (I:Int->Int->Hp->Prop) (m:Int->Int->Hp->Nat),I 0 0 h/\(∀ n n1:Int,∀ h1:Hp,I n n1 h1->par (n1<(l.n:Int)) (∃ b o,(l.a:Option Addr)=some ⟨b,o,none⟩/\((0:Int)<=n1/\n1<(l.n:Int))/\∃ l2:Sl,h1.at b ((o+n1.toNat*3)+1)=some (.slice l2.a l2.n l2.c)/\par ((1048576:Int)<(wrap .i64 (n+(l2.n:Int)))) (Q (.bool false) h1) (I (wrap .i64 (n+(l2.n:Int))) (wrap .i64 (n1+1)) h1/\m (wrap .i64 (n+(l2.n:Int))) (wrap .i64 (n1+1)) h1<m n n1 h1)) (∃ (I1:Int->Int->Hp->Prop) (m1:Int->Int->Hp->Nat),I1 n 0 h1/\(∀ n2 n3:Int,∀ h2:Hp,I1 n2 n3 h2->par (n3<(l1.n:Int)) (∃ b1 o1,(l1.a:Option Addr)=some ⟨b1,o1,none⟩/\((0:Int)<=n3/\n3<(l1.n:Int))/\∃ l3:Sl,h2.at b1 ((o1+n3.toNat*8)+3)=some (.slice l3.a l3.n l3.c)/\∃ b2 o2,(l1.a:Option Addr)=some ⟨b2,o2,none⟩/\((0:Int)<=n3/\n3<(l1.n:Int))/\∃ l4:Sl,h2.at b2 ((o2+n3.toNat*8)+7)=some (.slice l4.a l4.n l4.c)/\par ((1048576:Int)<(wrap .i64 ((wrap .i64 (n2+(l3.n:Int)))+(l4.n:Int)))) (Q (.bool false) h2) (I1 (wrap .i64 ((wrap .i64 (n2+(l3.n:Int)))+(l4.n:Int))) (wrap .i64 (n3+1)) h2/\m1 (wrap .i64 ((wrap .i64 (n2+(l3.n:Int)))+(l4.n:Int))) (wrap .i64 (n3+1)) h2<m1 n2 n3 h2)) (par ((l1.n:Int)<=400) (Q (.bool true) h2) (Q (.bool false) h2)))))
theorem F5.den(V:Value->List Value->PT)(l l1:Sl):denF Tryz.prog [] [] V F5.an Tryz.f5 [.v (.slice l.a l.n l.c),.v (.slice l1.a l1.n l1.c)]=F5.T l l1:=by kernel_rfl
def F5.W(T5:Sl->Sl->PT)(args:List Value):PT:=match args with
 |[.slice l_a l_n l_c,.slice l1_a l1_n l1_c]=>T5 ⟨l_a,l_n,l_c⟩ ⟨l1_a,l1_n,l1_c⟩
 |_=>λ_ _=>False
def F5.V:List Value->PT:=F5.W F5.T
theorem F5.ok:FOk Tryz.prog 5 F5.V:=by
 refine⟨⟨_,Tryz.func5,rfl,rfl⟩,λargs=>?_⟩
 have hG:GOk Tryz.prog []:=GOk.nil
 have hV:VOk Tryz.prog noV:=noV_ok
 unfold F5.V F5.W
 split
 ·exact denF_okV hG hV Tryz.func5 (λh Q hq=>(F5.den _ _ _) ▸ hq)
 ·exact λh Q hq=>hq.elim
def F33.an:List (Nat×Ann):=[(58,.loop [(3,.int .i64)] [])]
def F33.T(s:ByteArray):PT:=λh Q=>
 par ((s.size:Int)<1) (Q (.bool false) h) (par ((24:Int)<(s.size:Int)) (Q (.bool false) h) (∃ (I:Int->Hp->Prop) (m:Int->Hp->Nat),I 0 h/\(∀ n:Int,∀ h1:Hp,I n h1->par (n<(s.size:Int)) (((0:Int)<=n/\n<(s.size:Int))/\par ((97:Int)<=(bt s n)) (par ((bt s n)<=122) (I (wrap .i64 (n+1)) h1/\m (wrap .i64 (n+1)) h1<m n h1) (par ((48:Int)<=(bt s n)) (par ((bt s n)<=57) (I (wrap .i64 (n+1)) h1/\m (wrap .i64 (n+1)) h1<m n h1) (par ((bt s n)=45) (I (wrap .i64 (n+1)) h1/\m (wrap .i64 (n+1)) h1<m n h1) (Q (.bool false) h1))) (par ((bt s n)=45) (I (wrap .i64 (n+1)) h1/\m (wrap .i64 (n+1)) h1<m n h1) (Q (.bool false) h1)))) (par ((48:Int)<=(bt s n)) (par ((bt s n)<=57) (I (wrap .i64 (n+1)) h1/\m (wrap .i64 (n+1)) h1<m n h1) (par ((bt s n)=45) (I (wrap .i64 (n+1)) h1/\m (wrap .i64 (n+1)) h1<m n h1) (Q (.bool false) h1))) (par ((bt s n)=45) (I (wrap .i64 (n+1)) h1/\m (wrap .i64 (n+1)) h1<m n h1) (Q (.bool false) h1)))) (Q (.bool true) h1))))
theorem F33.den(V:Value->List Value->PT)(s:ByteArray):denF Tryz.prog [] [] V F33.an Tryz.f33 [.v (.string s)]=F33.T s:=by kernel_rfl
def F33.W(T33:ByteArray->PT)(args:List Value):PT:=match args with
 |[.string s]=>T33 s
 |_=>λ_ _=>False
def F33.V:List Value->PT:=F33.W F33.T
theorem F33.ok:FOk Tryz.prog 33 F33.V:=by
 refine⟨⟨_,Tryz.func33,rfl,rfl⟩,λargs=>?_⟩
 have hG:GOk Tryz.prog []:=GOk.nil
 have hV:VOk Tryz.prog noV:=noV_ok
 unfold F33.V F33.W
 split
 ·exact denF_okV hG hV Tryz.func33 (λh Q hq=>(F33.den _ _) ▸ hq)
 ·exact λh Q hq=>hq.elim
def F34.an:List (Nat×Ann):=[(28,.loop [(6,.int .i64),(7,.int .i64)] []),(30,.order [0,1,2,3,4,5,6,7,8,9,10,11,12,13,14,15])]
def F34.T(l:Sl)(s:ByteArray):PT:=λh Q=>
 ∃ (I:Int->Int->Hp->Prop) (m:Int->Int->Hp->Nat),I 0 (l.n:Int) h/\(∀ n n1:Int,∀ h1:Hp,I n n1 h1->par (n<n1) ((2:Int)≠0/\∃ b o,(l.a:Option Addr)=some ⟨b,o,none⟩/\((0:Int)<=(wrap .i64 (Int.tdiv (wrap .i64 (n+n1)) 2))/\(wrap .i64 (Int.tdiv (wrap .i64 (n+n1)) 2))<(l.n:Int))/\∃ s1:ByteArray,h1.at b (o+((wrap .i64 (Int.tdiv (wrap .i64 (n+n1)) 2))).toNat*2)=some (.string s1)/\par (sLt s1 s) (I (wrap .i64 ((wrap .i64 (Int.tdiv (wrap .i64 (n+n1)) 2))+1)) n1 h1/\m (wrap .i64 ((wrap .i64 (Int.tdiv (wrap .i64 (n+n1)) 2))+1)) n1 h1<m n n1 h1) (I n (wrap .i64 (Int.tdiv (wrap .i64 (n+n1)) 2)) h1/\m n (wrap .i64 (Int.tdiv (wrap .i64 (n+n1)) 2)) h1<m n n1 h1)) (par (n<(l.n:Int)) (∃ b1 o1,(l.a:Option Addr)=some ⟨b1,o1,none⟩/\((0:Int)<=n/\n<(l.n:Int))/\∃ s2:ByteArray,h1.at b1 (o1+n.toNat*2)=some (.string s2)/\par (s2=s) (h1.at b1 (o1+n.toNat*2)=some (.string s2)/\Q (.tuple ⟨[.int .i64 n,.bool true]⟩) h1) (h1.at b1 (o1+n.toNat*2)=some (.string s2)/\Q (.tuple ⟨[.int .i64 n,.bool false]⟩) h1)) (Q (.tuple ⟨[.int .i64 n,.bool false]⟩) h1)))
theorem F34.den(V:Value->List Value->PT)(l:Sl)(s:ByteArray):denF Tryz.prog [] [] V F34.an Tryz.f34 [.v (.slice l.a l.n l.c),.v (.string s)]=F34.T l s:=by kernel_rfl
def F34.W(T34:Sl->ByteArray->PT)(args:List Value):PT:=match args with
 |[.slice l_a l_n l_c,.string s]=>T34 ⟨l_a,l_n,l_c⟩ s
 |_=>λ_ _=>False
def F34.V:List Value->PT:=F34.W F34.T
theorem F34.ok:FOk Tryz.prog 34 F34.V:=by
 refine⟨⟨_,Tryz.func34,rfl,rfl⟩,λargs=>?_⟩
 have hG:GOk Tryz.prog []:=GOk.nil
 have hV:VOk Tryz.prog noV:=noV_ok
 unfold F34.V F34.W
 split
 ·exact denF_okV hG hV Tryz.func34 (λh Q hq=>(F34.den _ _ _) ▸ hq)
 ·exact λh Q hq=>hq.elim
def F35.an:List (Nat×Ann):=[(62,.order [0,1,2,3,4,5,6,7])]
def F35.G(T34:Sl->ByteArray->PT)(l:Sl)(s:ByteArray)(n:Int):PT:=λh Q=>
 T34 l s h λr h1=>∃ n1:Int,∃ b:Bool,parB b (r=.tuple ⟨[.int .i64 n1,.bool true]⟩/\∃ b1 o,(l.a:Option Addr)=some ⟨b1,o,none⟩/\((0:Int)<=n1/\n1<(l.n:Int))/\h1.canW b1 ((o+n1.toNat*2)+1) 1/\Q (.slice l.a l.n l.c) (h1.wr b1 ((o+n1.toNat*2)+1) [.int .i64 n])) (r=.tuple ⟨[.int .i64 n1,.bool false]⟩/\appendD l 136 2 24 [.string ⟨#[]⟩,.int .i64 0] 1 [.string ⟨#[]⟩,.int .i64 0] h1 λl1 h2=>Sl.okCut l1 (wrap .i64 (n1+1)) (l1.n:Int) (l1.c:Int)/\Sl.okCut l1 n1 (l1.n:Int) (l1.c:Int)/\∃ vs,h2.row ((Sl.cut l1 2 n1 (l1.n:Int) (l1.c:Int)).a) ((Nat.min ((Sl.cut l1 2 n1 (l1.n:Int) (l1.c:Int)).n) ((Sl.cut l1 2 (wrap .i64 (n1+1)) (l1.n:Int) (l1.c:Int)).n))*2) vs/\(∀ v∈vs,Value.oneCell' v=true)/\h2.canWA ((Sl.cut l1 2 (wrap .i64 (n1+1)) (l1.n:Int) (l1.c:Int)).a) vs.length/\∃ b2 o1,(l1.a:Option Addr)=some ⟨b2,o1,none⟩/\((0:Int)<=n1/\n1<(l1.n:Int))/\(h2.wrA ((Sl.cut l1 2 (wrap .i64 (n1+1)) (l1.n:Int) (l1.c:Int)).a) vs).canW b2 (o1+n1.toNat*2) 2/\Q (.slice l1.a l1.n l1.c) ((h2.wrA ((Sl.cut l1 2 (wrap .i64 (n1+1)) (l1.n:Int) (l1.c:Int)).a) vs).wr b2 (o1+n1.toNat*2) [.string s,.int .i64 n]))
def F35.T(l:Sl)(s:ByteArray)(n:Int):PT:=F35.G F34.T l s n
theorem F35.gen(V:Value->List Value->PT)(T34:Sl->ByteArray->PT)(l:Sl)(s:ByteArray)(n:Int):denF Tryz.prog [24] [(34,F34.W T34)] V F35.an Tryz.f35 [.v (.slice l.a l.n l.c),.v (.string s),.v (.int .i64 n)]=F35.G T34 l s n:=by kernel_rfl
theorem F35.den(V:Value->List Value->PT)(l:Sl)(s:ByteArray)(n:Int):denF Tryz.prog [24] [(34,F34.V)] V F35.an Tryz.f35 [.v (.slice l.a l.n l.c),.v (.string s),.v (.int .i64 n)]=F35.T l s n:=F35.gen V F34.T l s n
def F35.W(T35:Sl->ByteArray->Int->PT)(args:List Value):PT:=match args with
 |[.slice l_a l_n l_c,.string s,.int .i64 n]=>T35 ⟨l_a,l_n,l_c⟩ s n
 |_=>λ_ _=>False
def F35.V:List Value->PT:=F35.W F35.T
theorem F35.ok:FOk Tryz.prog 35 F35.V:=by
 refine⟨⟨_,Tryz.func35,rfl,rfl⟩,λargs=>?_⟩
 have hG:GOk Tryz.prog [(34,F34.V)]:=GOk.cons F34.ok (GOk.nil)
 have hV:VOk Tryz.prog noV:=noV_ok
 unfold F35.V F35.W
 split
 ·exact denF_okV hG hV Tryz.func35 (λh Q hq=>(F35.den _ _ _ _) ▸ hq)
 ·exact λh Q hq=>hq.elim
def F36.an:List (Nat×Ann):=[]
def F36.T(l:Sl):PT:=λh Q=>
 ∃ vs,h.row l.a (l.n*2) vs/\(∀ v∈vs,Value.oneCell' v=true)/\appendD ⟨none,0,0⟩ 136 2 24 [.string ⟨#[]⟩,.int .i64 0] l.n vs h λl1 h1=>Q (.slice l1.a l1.n l1.c) h1
theorem F36.den(V:Value->List Value->PT)(l:Sl):denF Tryz.prog [] [] V F36.an Tryz.f36 [.v (.slice l.a l.n l.c)]=F36.T l:=by kernel_rfl
def F36.W(T36:Sl->PT)(args:List Value):PT:=match args with
 |[.slice l_a l_n l_c]=>T36 ⟨l_a,l_n,l_c⟩
 |_=>λ_ _=>False
def F36.V:List Value->PT:=F36.W F36.T
theorem F36.ok:FOk Tryz.prog 36 F36.V:=by
 refine⟨⟨_,Tryz.func36,rfl,rfl⟩,λargs=>?_⟩
 have hG:GOk Tryz.prog []:=GOk.nil
 have hV:VOk Tryz.prog noV:=noV_ok
 unfold F36.V F36.W
 split
 ·exact denF_okV hG hV Tryz.func36 (λh Q hq=>(F36.den _ _) ▸ hq)
 ·exact λh Q hq=>hq.elim
def F51.an:List (Nat×Ann):=[(58,.loop [(3,.sl),(4,.int .i64)] []),(932,.order [0,1,2,3,4,5,6,7,8,9,10,12,13,14,15,16,11,17,18,19,20])]
def F51.T(l:Sl):PT:=λh Q=>
 ∃ (I:Sl->Int->Hp->Prop) (m:Sl->Int->Hp->Nat),I ⟨none,0,0⟩ 0 h/\(∀ l1:Sl,∀ n:Int,∀ h1:Hp,I l1 n h1->par (n<(l.n:Int)) (∃ b o,(l.a:Option Addr)=some ⟨b,o,none⟩/\((0:Int)<=n/\n<(l.n:Int))/\∃ s:ByteArray,h1.at b (o+n.toNat*3)=some (.string s)/\∃ b1 o1,(l.a:Option Addr)=some ⟨b1,o1,none⟩/\((0:Int)<=n/\n<(l.n:Int))/\∃ l2:Sl,h1.at b1 ((o1+n.toNat*3)+1)=some (.slice l2.a l2.n l2.c)/\∃ b2 o2,(l.a:Option Addr)=some ⟨b2,o2,none⟩/\((0:Int)<=n/\n<(l.n:Int))/\∃ n1:Int,h1.at b2 ((o2+n.toNat*3)+2)=some (.int .i64 n1)/\∃ vs,h1.row l2.a (l2.n*1) vs/\(∀ v∈vs,Value.oneCell' v=true)/\appendD ⟨none,0,0⟩ 5 1 1 [.int .u8 0] l2.n vs h1 λl3 h2=>h2.at b (o+n.toNat*3)=some (.string s)/\h2.at b2 ((o2+n.toNat*3)+2)=some (.int .i64 n1)/\appendD l1 55 3 48 [.string ⟨#[]⟩,.slice none 0 0,.int .i64 0] 1 [.string s,.slice l3.a l3.n l3.c,.int .i64 n1] h2 λl4 h3=>I l4 (wrap .i64 (n+1)) h3/\m l4 (wrap .i64 (n+1)) h3<m l1 n h1) (Q (.slice l1.a l1.n l1.c) h1))
theorem F51.den(V:Value->List Value->PT)(l:Sl):denF Tryz.prog [29] [] V F51.an Tryz.f51 [.v (.slice l.a l.n l.c)]=F51.T l:=by kernel_rfl
def F51.W(T51:Sl->PT)(args:List Value):PT:=match args with
 |[.slice l_a l_n l_c]=>T51 ⟨l_a,l_n,l_c⟩
 |_=>λ_ _=>False
def F51.V:List Value->PT:=F51.W F51.T
theorem F51.ok:FOk Tryz.prog 51 F51.V:=by
 refine⟨⟨_,Tryz.func51,rfl,rfl⟩,λargs=>?_⟩
 have hG:GOk Tryz.prog []:=GOk.nil
 have hV:VOk Tryz.prog noV:=noV_ok
 unfold F51.V F51.W
 split
 ·exact denF_okV hG hV Tryz.func51 (λh Q hq=>(F51.den _ _) ▸ hq)
 ·exact λh Q hq=>hq.elim
def F15.an:List (Nat×Ann):=[]
def F15.T(l l1:Sl):PT:=λh Q=>
 ∃ s:ByteArray,h.row l.a l.n (bytesV s)/\∃ s1:ByteArray,h.row l1.a l1.n (bytesV s1)/\par (s=s1) (Q (.bool true) h) (Q (.bool false) h)
theorem F15.den(V:Value->List Value->PT)(l l1:Sl):denF Tryz.prog [] [] V F15.an Tryz.f15 [.v (.slice l.a l.n l.c),.v (.slice l1.a l1.n l1.c)]=F15.T l l1:=by kernel_rfl
def F15.W(T15:Sl->Sl->PT)(args:List Value):PT:=match args with
 |[.slice l_a l_n l_c,.slice l1_a l1_n l1_c]=>T15 ⟨l_a,l_n,l_c⟩ ⟨l1_a,l1_n,l1_c⟩
 |_=>λ_ _=>False
def F15.V:List Value->PT:=F15.W F15.T
theorem F15.ok:FOk Tryz.prog 15 F15.V:=by
 refine⟨⟨_,Tryz.func15,rfl,rfl⟩,λargs=>?_⟩
 have hG:GOk Tryz.prog []:=GOk.nil
 have hV:VOk Tryz.prog noV:=noV_ok
 unfold F15.V F15.W
 split
 ·exact denF_okV hG hV Tryz.func15 (λh Q hq=>(F15.den _ _ _) ▸ hq)
 ·exact λh Q hq=>hq.elim
def F9.an:List (Nat×Ann):=[(58,.loop [(5,.int .i64)] []),(1864,.order [0,1,2,3,4,5,6,7,8,9,10,11,12,13,14,15,16,17,18,19,20,21,22,23,24,25,26,27,28,29,30,31,32,33,34,35,36,37])]
def F9.G(T15:Sl->Sl->PT)(l l1:Sl):PT:=λh Q=>
 par ((l.n:Int)=(l1.n:Int)) (∃ (I:Int->Hp->Prop) (m:Int->Hp->Nat),I 0 h/\(∀ n:Int,∀ h1:Hp,I n h1->par (n<(l.n:Int)) (∃ b o,(l.a:Option Addr)=some ⟨b,o,none⟩/\((0:Int)<=n/\n<(l.n:Int))/\∃ s:ByteArray,h1.at b (o+n.toNat*3)=some (.string s)/\∃ b1 o1,(l1.a:Option Addr)=some ⟨b1,o1,none⟩/\((0:Int)<=n/\n<(l1.n:Int))/\∃ s1:ByteArray,h1.at b1 (o1+n.toNat*3)=some (.string s1)/\par (s=s1) (∃ b2 o2,(l.a:Option Addr)=some ⟨b2,o2,none⟩/\((0:Int)<=n/\n<(l.n:Int))/\∃ n1:Int,h1.at b2 ((o2+n.toNat*3)+2)=some (.int .i64 n1)/\∃ b3 o3,(l1.a:Option Addr)=some ⟨b3,o3,none⟩/\((0:Int)<=n/\n<(l1.n:Int))/\∃ n2:Int,h1.at b3 ((o3+n.toNat*3)+2)=some (.int .i64 n2)/\par (n1=n2) (∃ b4 o4,(l.a:Option Addr)=some ⟨b4,o4,none⟩/\((0:Int)<=n/\n<(l.n:Int))/\∃ l2:Sl,h1.at b4 ((o4+n.toNat*3)+1)=some (.slice l2.a l2.n l2.c)/\∃ b5 o5,(l1.a:Option Addr)=some ⟨b5,o5,none⟩/\((0:Int)<=n/\n<(l1.n:Int))/\∃ l3:Sl,h1.at b5 ((o5+n.toNat*3)+1)=some (.slice l3.a l3.n l3.c)/\T15 l2 l3 h1 λr h2=>∃ b6:Bool,r=.bool b6/\parB b6 (I (wrap .i64 (n+1)) h2/\m (wrap .i64 (n+1)) h2<m n h1) (Q (.bool false) h2)) (Q (.bool false) h1)) (Q (.bool false) h1)) (Q (.bool true) h1))) (Q (.bool false) h)
def F9.T(l l1:Sl):PT:=F9.G F15.T l l1
theorem F9.gen(V:Value->List Value->PT)(T15:Sl->Sl->PT)(l l1:Sl):denF Tryz.prog [] [(15,F15.W T15)] V F9.an Tryz.f9 [.v (.slice l.a l.n l.c),.v (.slice l1.a l1.n l1.c)]=F9.G T15 l l1:=by kernel_rfl
theorem F9.den(V:Value->List Value->PT)(l l1:Sl):denF Tryz.prog [] [(15,F15.V)] V F9.an Tryz.f9 [.v (.slice l.a l.n l.c),.v (.slice l1.a l1.n l1.c)]=F9.T l l1:=F9.gen V F15.T l l1
def F9.W(T9:Sl->Sl->PT)(args:List Value):PT:=match args with
 |[.slice l_a l_n l_c,.slice l1_a l1_n l1_c]=>T9 ⟨l_a,l_n,l_c⟩ ⟨l1_a,l1_n,l1_c⟩
 |_=>λ_ _=>False
def F9.V:List Value->PT:=F9.W F9.T
theorem F9.ok:FOk Tryz.prog 9 F9.V:=by
 refine⟨⟨_,Tryz.func9,rfl,rfl⟩,λargs=>?_⟩
 have hG:GOk Tryz.prog [(15,F15.V)]:=GOk.cons F15.ok (GOk.nil)
 have hV:VOk Tryz.prog noV:=noV_ok
 unfold F9.V F9.W
 split
 ·exact denF_okV hG hV Tryz.func9 (λh Q hq=>(F9.den _ _ _) ▸ hq)
 ·exact λh Q hq=>hq.elim
def F108.an:List (Nat×Ann):=[(30,.order [0,1,2,3,4,5,6,7])]
def F108.G(T34:Sl->ByteArray->PT)(l:Sl)(s:ByteArray):PT:=λh Q=>
 T34 l s h λr h1=>∃ n:Int,∃ b:Bool,parB b (r=.tuple ⟨[.int .i64 n,.bool true]⟩/\Sl.okCut l n (l.n:Int) (l.c:Int)/\Sl.okCut l (wrap .i64 (n+1)) (l.n:Int) (l.c:Int)/\∃ vs,h1.row ((Sl.cut l 2 (wrap .i64 (n+1)) (l.n:Int) (l.c:Int)).a) ((Nat.min ((Sl.cut l 2 (wrap .i64 (n+1)) (l.n:Int) (l.c:Int)).n) ((Sl.cut l 2 n (l.n:Int) (l.c:Int)).n))*2) vs/\(∀ v∈vs,Value.oneCell' v=true)/\h1.canWA ((Sl.cut l 2 n (l.n:Int) (l.c:Int)).a) vs.length/\Sl.okCut l 0 (wrap .i64 ((l.n:Int)-1)) (l.c:Int)/\Q (.slice (Sl.cut l 2 0 (wrap .i64 ((l.n:Int)-1)) (l.c:Int)).a (Sl.cut l 2 0 (wrap .i64 ((l.n:Int)-1)) (l.c:Int)).n (Sl.cut l 2 0 (wrap .i64 ((l.n:Int)-1)) (l.c:Int)).c) (h1.wrA ((Sl.cut l 2 n (l.n:Int) (l.c:Int)).a) vs)) (r=.tuple ⟨[.int .i64 n,.bool false]⟩/\Q (.slice l.a l.n l.c) h1)
def F108.T(l:Sl)(s:ByteArray):PT:=F108.G F34.T l s
theorem F108.gen(V:Value->List Value->PT)(T34:Sl->ByteArray->PT)(l:Sl)(s:ByteArray):denF Tryz.prog [] [(34,F34.W T34)] V F108.an Tryz.f108 [.v (.slice l.a l.n l.c),.v (.string s)]=F108.G T34 l s:=by kernel_rfl
theorem F108.den(V:Value->List Value->PT)(l:Sl)(s:ByteArray):denF Tryz.prog [] [(34,F34.V)] V F108.an Tryz.f108 [.v (.slice l.a l.n l.c),.v (.string s)]=F108.T l s:=F108.gen V F34.T l s
def F108.W(T108:Sl->ByteArray->PT)(args:List Value):PT:=match args with
 |[.slice l_a l_n l_c,.string s]=>T108 ⟨l_a,l_n,l_c⟩ s
 |_=>λ_ _=>False
def F108.V:List Value->PT:=F108.W F108.T
theorem F108.ok:FOk Tryz.prog 108 F108.V:=by
 refine⟨⟨_,Tryz.func108,rfl,rfl⟩,λargs=>?_⟩
 have hG:GOk Tryz.prog [(34,F34.V)]:=GOk.cons F34.ok (GOk.nil)
 have hV:VOk Tryz.prog noV:=noV_ok
 unfold F108.V F108.W
 split
 ·exact denF_okV hG hV Tryz.func108 (λh Q hq=>(F108.den _ _ _) ▸ hq)
 ·exact λh Q hq=>hq.elim
def F31.an:List (Nat×Ann):=[]
def F31.T(l:Sl):PT:=λh Q=>
 par ((l.a:Option Addr)=none) (Q (.slice none 0 0) h) (∀ b,h b=none->∃ vs,(h.new b (.cells ⟨[]⟩ 5 (0,0))).row l.a (l.n*1) vs/\(∀ v∈vs,Value.oneCell' v=true)/\appendD ⟨(some ⟨b,0,none⟩),0,0⟩ 5 1 1 [.int .u8 0] l.n vs (h.new b (.cells ⟨[]⟩ 5 (0,0))) λl1 h1=>Q (.slice l1.a l1.n l1.c) h1)
theorem F31.den(V:Value->List Value->PT)(l:Sl):denF Tryz.prog [] [] V F31.an Tryz.f31 [.v (.slice l.a l.n l.c)]=F31.T l:=by kernel_rfl
def F31.W(T31:Sl->PT)(args:List Value):PT:=match args with
 |[.slice l_a l_n l_c]=>T31 ⟨l_a,l_n,l_c⟩
 |_=>λ_ _=>False
def F31.V:List Value->PT:=F31.W F31.T
theorem F31.ok:FOk Tryz.prog 31 F31.V:=by
 refine⟨⟨_,Tryz.func31,rfl,rfl⟩,λargs=>?_⟩
 have hG:GOk Tryz.prog []:=GOk.nil
 have hV:VOk Tryz.prog noV:=noV_ok
 unfold F31.V F31.W
 split
 ·exact denF_okV hG hV Tryz.func31 (λh Q hq=>(F31.den _ _) ▸ hq)
 ·exact λh Q hq=>hq.elim
def F98.an:List (Nat×Ann):=[]
def F98.T(n:Int)(s s1:ByteArray)(p:Option Addr)(m:Option Nat):PT:=λh Q=>
 par (n=0) (∃ b es c,(m:Option Nat)=some b/\h b=some (.map es c)/\keysFit (.string s) es/\Q (.tuple ⟨[]⟩) (h.new b (mPut es c (.string s) (.pointer p)))) (par (n=1) (∃ es1 c1,h.mp m es1 c1/\keysFit (.string s) es1/\∃ p1:Option Addr,(mget es1 (.string s) (.pointer none))=.pointer p1/\∃ b1 es2 c2,(m:Option Nat)=some b1/\h b1=some (.map es2 c2)/\keysFit (.string s1) es2/\∃ es3 c3,(h.new b1 (mPut es2 c2 (.string s1) (.pointer p1))).mp m es3 c3/\keysFit (.string s) es3/\Q (.tuple ⟨[]⟩) ((h.new b1 (mPut es2 c2 (.string s1) (.pointer p1))).setM m (.map (mDel es3 (.string s)) c3))) (par (n=2) (∃ es4 c4,h.mp m es4 c4/\keysFit (.string s) es4/\Q (.tuple ⟨[]⟩) (h.setM m (.map (mDel es4 (.string s)) c4))) (Q (.tuple ⟨[]⟩) h)))
theorem F98.den(V:Value->List Value->PT)(n:Int)(s s1:ByteArray)(p:Option Addr)(m:Option Nat):denF Tryz.prog [2] [] V F98.an Tryz.f98 [.v (.agg ⟨[.int .i64 n,.string s,.string s1,.pointer p]⟩),.v (.map m)]=F98.T n s s1 p m:=by kernel_rfl
def F98.W(T98:Int->ByteArray->ByteArray->Option Addr->Option Nat->PT)(args:List Value):PT:=match args with
 |[.agg ⟨[.int .i64 n,.string s,.string s1,.pointer p]⟩,.map m]=>T98 n s s1 p m
 |_=>λ_ _=>False
def F98.V:List Value->PT:=F98.W F98.T
theorem F98.ok:FOk Tryz.prog 98 F98.V:=by
 refine⟨⟨_,Tryz.func98,rfl,rfl⟩,λargs=>?_⟩
 have hG:GOk Tryz.prog []:=GOk.nil
 have hV:VOk Tryz.prog noV:=noV_ok
 unfold F98.V F98.W
 split
 ·exact denF_okV hG hV Tryz.func98 (λh Q hq=>(F98.den _ _ _ _ _ _) ▸ hq)
 ·exact λh Q hq=>hq.elim
end Go.Eng.YtekflkpnpibneaaGreatDoor
end
section
open Go.Proofs
namespace Go.Eng.YtekflkpnpibneaaGreatDoor
def F94.an:List (Nat×Ann):=[(30,.order [0,1,2,3,4,5]),(62,.order [0,1,2,3,4,5,6,7,8,9,10])]
def F94.G(T96:Option Addr->Int->PT)(T98:Int->ByteArray->ByteArray->Option Addr->Option Nat->PT)(p:Option Addr)(n:Int)(s s1:ByteArray)(p1:Option Addr):PT:=λh Q=>
 T96 p 1 h λr h1=>∃ n1:Int,∃ b:Bool,parB b (r=.tuple ⟨[.int .i64 n1,.bool true]⟩/\Q (.int .i64 30) h1) (r=.tuple ⟨[.int .i64 n1,.bool false]⟩/\par (n=1) (par (s=s1) (Q (.int .i64 0) h1) (∃ b1 o,(p:Option Addr)=some ⟨b1,o,none⟩/\∃ m:Option Nat,h1.at b1 (o+1)=some (.map m)/\T98 n s s1 p1 m h1 λr1 h2=>∃ b2 o1,(p:Option Addr)=some ⟨b2,o1,none⟩/\∃ l:Sl,h2.at b2 (o1+3)=some (.slice l.a l.n l.c)/\h2.at b2 (o1+3)=some (.slice l.a l.n l.c)/\appendD l 127 4 48 [.int .i64 0,.string ⟨#[]⟩,.string ⟨#[]⟩,.pointer none] 1 [.int .i64 n,.string s,.string s1,.pointer p1] h2 λl1 h3=>∃ b3 o2,(p:Option Addr)=some ⟨b3,o2,none⟩/\h3.canW b3 (o2+3) 1/\Q (.int .i64 0) (h3.wr b3 (o2+3) [.slice l1.a l1.n l1.c]))) (∃ b4 o3,(p:Option Addr)=some ⟨b4,o3,none⟩/\∃ m1:Option Nat,h1.at b4 (o3+1)=some (.map m1)/\T98 n s s1 p1 m1 h1 λr2 h4=>∃ b5 o4,(p:Option Addr)=some ⟨b5,o4,none⟩/\∃ l2:Sl,h4.at b5 (o4+3)=some (.slice l2.a l2.n l2.c)/\h4.at b5 (o4+3)=some (.slice l2.a l2.n l2.c)/\appendD l2 127 4 48 [.int .i64 0,.string ⟨#[]⟩,.string ⟨#[]⟩,.pointer none] 1 [.int .i64 n,.string s,.string s1,.pointer p1] h4 λl3 h5=>∃ b6 o5,(p:Option Addr)=some ⟨b6,o5,none⟩/\h5.canW b6 (o5+3) 1/\Q (.int .i64 0) (h5.wr b6 (o5+3) [.slice l3.a l3.n l3.c])))
def F94.T(p:Option Addr)(n:Int)(s s1:ByteArray)(p1:Option Addr):PT:=F94.G F96.T F98.T p n s s1 p1
theorem F94.gen(V:Value->List Value->PT)(T96:Option Addr->Int->PT)(T98:Int->ByteArray->ByteArray->Option Addr->Option Nat->PT)(p:Option Addr)(n:Int)(s s1:ByteArray)(p1:Option Addr):denF Tryz.prog [3,35] [(96,F96.W T96),(98,F98.W T98)] V F94.an Tryz.f94 [.v (.pointer p),.v (.agg ⟨[.int .i64 n,.string s,.string s1,.pointer p1]⟩)]=F94.G T96 T98 p n s s1 p1:=by kernel_rfl
theorem F94.den(V:Value->List Value->PT)(p:Option Addr)(n:Int)(s s1:ByteArray)(p1:Option Addr):denF Tryz.prog [3,35] [(96,F96.V),(98,F98.V)] V F94.an Tryz.f94 [.v (.pointer p),.v (.agg ⟨[.int .i64 n,.string s,.string s1,.pointer p1]⟩)]=F94.T p n s s1 p1:=F94.gen V F96.T F98.T p n s s1 p1
def F94.W(T94:Option Addr->Int->ByteArray->ByteArray->Option Addr->PT)(args:List Value):PT:=match args with
 |[.pointer p,.agg ⟨[.int .i64 n,.string s,.string s1,.pointer p1]⟩]=>T94 p n s s1 p1
 |_=>λ_ _=>False
def F94.V:List Value->PT:=F94.W F94.T
theorem F94.ok:FOk Tryz.prog 94 F94.V:=by
 refine⟨⟨_,Tryz.func94,rfl,rfl⟩,λargs=>?_⟩
 have hG:GOk Tryz.prog [(96,F96.V),(98,F98.V)]:=GOk.cons F96.ok (GOk.cons F98.ok (GOk.nil))
 have hV:VOk Tryz.prog noV:=noV_ok
 unfold F94.V F94.W
 split
 ·exact denF_okV hG hV Tryz.func94 (λh Q hq=>(F94.den _ _ _ _ _ _) ▸ hq)
 ·exact λh Q hq=>hq.elim
def F21.an:List (Nat×Ann):=[]
def F21.G(T93:Option Addr->Sl->PT)(T94:Option Addr->Int->ByteArray->ByteArray->Option Addr->PT)(p:Option Addr)(s:ByteArray):PT:=λh Q=>
 ∀ b,h b=none->T93 p ⟨(some ⟨b,0,none⟩),1,1⟩ (h.new b (.cells ⟨[.string s]⟩ 9 (0,0))) λr h1=>∃ n:Int,r=.int .i64 n/\par (n=0) (∃ b1 o,(p:Option Addr)=some ⟨b1,o,none⟩/\∃ m:Option Nat,h1.at b1 (o+1)=some (.map m)/\∃ es c,h1.mp m es c/\keysFit (.string s) es/\∃ p1:Option Addr,(mget es (.string s) (.pointer none))=.pointer p1/\okPtr h1 p1 none/\par ((p1:Option Addr)=none) (∃ b2 o1,(p:Option Addr)=some ⟨b2,o1,none⟩/\∃ m1:Option Nat,h1.at b2 (o1+1)=some (.map m1)/\∃ es1 c1,h1.mp m1 es1 c1/\par ((8388608:Int)<=(es1.size:Int)) (Q (.int .i64 32) h1) (∀ b3,h1 b3=none->T94 p 0 s (ByteArray.mk #[]) (some ⟨b3,0,none⟩) (h1.new b3 (.cells ⟨[.slice none 0 0,.int .i64 0]⟩ 95 (0,0))) λr1 h2=>∃ n1:Int,r1=.int .i64 n1/\Q (.int .i64 n1) h2)) (Q (.int .i64 35) h1)) (Q (.int .i64 n) h1)
def F21.T(p:Option Addr)(s:ByteArray):PT:=F21.G F93.T F94.T p s
theorem F21.gen(V:Value->List Value->PT)(T93:Option Addr->Sl->PT)(T94:Option Addr->Int->ByteArray->ByteArray->Option Addr->PT)(p:Option Addr)(s:ByteArray):denF Tryz.prog [] [(93,F93.W T93),(94,F94.W T94)] V F21.an Tryz.f21 [.v (.pointer p),.v (.string s)]=F21.G T93 T94 p s:=by kernel_rfl
theorem F21.den(V:Value->List Value->PT)(p:Option Addr)(s:ByteArray):denF Tryz.prog [] [(93,F93.V),(94,F94.V)] V F21.an Tryz.f21 [.v (.pointer p),.v (.string s)]=F21.T p s:=F21.gen V F93.T F94.T p s
def F21.W(T21:Option Addr->ByteArray->PT)(args:List Value):PT:=match args with
 |[.pointer p,.string s]=>T21 p s
 |_=>λ_ _=>False
def F21.V:List Value->PT:=F21.W F21.T
theorem F21.ok:FOk Tryz.prog 21 F21.V:=by
 refine⟨⟨_,Tryz.func21,rfl,rfl⟩,λargs=>?_⟩
 have hG:GOk Tryz.prog [(93,F93.V),(94,F94.V)]:=GOk.cons F93.ok (GOk.cons F94.ok (GOk.nil))
 have hV:VOk Tryz.prog noV:=noV_ok
 unfold F21.V F21.W
 split
 ·exact denF_okV hG hV Tryz.func21 (λh Q hq=>(F21.den _ _ _) ▸ hq)
 ·exact λh Q hq=>hq.elim
def F95.an:List (Nat×Ann):=[(122,.loop [(2,.int .i64)] [])]
def F95.T(p p1:Option Addr)(n:Int):PT:=λh Q=>
 ∃ b o,(p1:Option Addr)=some ⟨b,o,none⟩/\∃ l:Sl,h.at b o=some (.slice l.a l.n l.c)/\par ((2147483648:Int)<(wrap .i64 ((l.n:Int)+n))) (Q (.bool true) h) (∃ b1 o1,(p:Option Addr)=some ⟨b1,o1,none⟩/\∃ n1:Int,h.at b1 o1=some (.int .i64 n1)/\par (n1=0) (Q (.bool false) h) (∃ b2 o2,(p:Option Addr)=some ⟨b2,o2,none⟩/\∃ m:Option Nat,h.at b2 (o2+1)=some (.map m)/\∃ es c,h.mp m es c/\∀ b3,h b3=none->∃ (I:Int->Hp->Prop) (m1:Int->Hp->Nat),I n (h.new b3 (.mapIter m c #[] c))/\(∀ n2:Int,∀ h1:Hp,I n2 h1->∃ ri mi si sn la es1 c1,((some ⟨b3,0,none⟩):Option Addr)=some ⟨ri,0,none⟩/\h1 ri=some (.mapIter mi si sn la)/\h1.mp mi es1 c1/\nextOk es1 sn la=true/\(∀ e,e∈es1.toList->sn.contains e.born=false->∃ ri1 b4 si1 sn1 es2 c2 st e1,((some ⟨b3,0,none⟩):Option Addr)=some ⟨ri1,0,none⟩/\(h1.new ri (.mapIter mi si (sn.push e.born) c1)) ri1=some (.mapIter (some b4) si1 sn1 c2)/\sn1.back?=some st/\(h1.new ri (.mapIter mi si (sn.push e.born) c1)) b4=some (.map es2 c2)/\es2.find? (λe=>e.born == st)=some e1/\∃ s:ByteArray,∃ p2:Option Addr,[e1.key,e1.val]=[.string s,.pointer p2]/\∃ b5 o3,(p2:Option Addr)=some ⟨b5,o3,none⟩/\∃ l1:Sl,(h1.new ri (.mapIter mi si (sn.push e.born) c1)).at b5 o3=some (.slice l1.a l1.n l1.c)/\I (wrap .i64 (n2+(l1.n:Int))) (h1.new ri (.mapIter mi si (sn.push e.born) c1))/\m1 (wrap .i64 (n2+(l1.n:Int))) (h1.new ri (.mapIter mi si (sn.push e.born) c1))<m1 n2 h1)/\((∀ e∈es1.toList,e.born<si->sn.contains e.born=true)->∃ b6 o4,(p:Option Addr)=some ⟨b6,o4,none⟩/\∃ n3:Int,h1.at b6 o4=some (.int .i64 n3)/\par (n3<n2) (Q (.bool true) h1) (Q (.bool false) h1)))))
theorem F95.den(V:Value->List Value->PT)(p p1:Option Addr)(n:Int):denF Tryz.prog [128849608797] [] V F95.an Tryz.f95 [.v (.pointer p),.v (.pointer p1),.v (.int .i64 n)]=F95.T p p1 n:=by kernel_rfl
def F95.W(T95:Option Addr->Option Addr->Int->PT)(args:List Value):PT:=match args with
 |[.pointer p,.pointer p1,.int .i64 n]=>T95 p p1 n
 |_=>λ_ _=>False
def F95.V:List Value->PT:=F95.W F95.T
theorem F95.ok:FOk Tryz.prog 95 F95.V:=by
 refine⟨⟨_,Tryz.func95,rfl,rfl⟩,λargs=>?_⟩
 have hG:GOk Tryz.prog []:=GOk.nil
 have hV:VOk Tryz.prog noV:=noV_ok
 unfold F95.V F95.W
 split
 ·exact denF_okV hG hV Tryz.func95 (λh Q hq=>(F95.den _ _ _ _) ▸ hq)
 ·exact λh Q hq=>hq.elim
def F22.an:List (Nat×Ann):=[(2028,.order [0,1,2,3,4,5,6,7,8,9,10,11]),(7974,.order [0,1,2,3,4,5,6,7,8,9,10,11])]
def F22.G(T93:Option Addr->Sl->PT)(T95:Option Addr->Option Addr->Int->PT)(T96:Option Addr->Int->PT)(p:Option Addr)(s:ByteArray)(l:Sl):PT:=λh Q=>
 ∃ b o,(p:Option Addr)=some ⟨b,o,none⟩/\∃ n:Int,h.at b ((o+4)+3)=some (.int .i64 n)/\∀ b1,h b1=none->T93 p ⟨(some ⟨b1,0,none⟩),1,1⟩ (h.new b1 (.cells ⟨[.string s]⟩ 9 (0,0))) λr h1=>∃ n1:Int,r=.int .i64 n1/\∃ b2 o1,(p:Option Addr)=some ⟨b2,o1,none⟩/\∃ m:Option Nat,h1.at b2 (o1+1)=some (.map m)/\∃ es c,h1.mp m es c/\keysFit (.string s) es/\∃ p1:Option Addr,(mget es (.string s) (.pointer none))=.pointer p1/\par (n1=31) (okPtr h1 p1 none/\par ((p1:Option Addr)=none) (Q (.int .i64 n1) h1) (T95 p p1 (iMin n (l.n:Int)) h1 λr1 h2=>∃ b3:Bool,r1=.bool b3/\parB b3 (Q (.int .i64 n1) h2) (∃ b4 o2,(p1:Option Addr)=some ⟨b4,o2,none⟩/\∃ l1:Sl,h2.at b4 o2=some (.slice l1.a l1.n l1.c)/\Sl.okCut l 0 (iMin n (l.n:Int)) (l.c:Int)/\∃ vs,h2.row ((Sl.cut l 1 0 (iMin n (l.n:Int)) (l.c:Int)).a) (((Sl.cut l 1 0 (iMin n (l.n:Int)) (l.c:Int)).n)*1) vs/\(∀ v∈vs,Value.oneCell' v=true)/\appendD l1 5 1 1 [.int .u8 0] ((Sl.cut l 1 0 (iMin n (l.n:Int)) (l.c:Int)).n) vs h2 λl2 h3=>∃ b5 o3,(p1:Option Addr)=some ⟨b5,o3,none⟩/\h3.canW b5 o3 1/\Q (.int .i64 n1) (h3.wr b5 o3 [.slice l2.a l2.n l2.c])))) (par (n1=0) (okPtr h1 p1 none/\par ((p1:Option Addr)=none) (Q (.int .i64 34) h1) (T95 p p1 (l.n:Int) h1 λr2 h4=>∃ b6:Bool,r2=.bool b6/\parB b6 (Q (.int .i64 32) h4) (T96 p (wrap .i64 (1+(l.n:Int))) h4 λr3 h5=>∃ n2:Int,∃ b7:Bool,parB b7 (r3=.tuple ⟨[.int .i64 n2,.bool true]⟩/\∃ b8 o4,(p1:Option Addr)=some ⟨b8,o4,none⟩/\∃ l3:Sl,h5.at b8 o4=some (.slice l3.a l3.n l3.c)/\Sl.okCut l 0 n2 (l.c:Int)/\∃ vs1,h5.row ((Sl.cut l 1 0 n2 (l.c:Int)).a) (((Sl.cut l 1 0 n2 (l.c:Int)).n)*1) vs1/\(∀ v∈vs1,Value.oneCell' v=true)/\appendD l3 5 1 1 [.int .u8 0] ((Sl.cut l 1 0 n2 (l.c:Int)).n) vs1 h5 λl4 h6=>∃ b9 o5,(p1:Option Addr)=some ⟨b9,o5,none⟩/\h6.canW b9 o5 1/\Q (.int .i64 30) (h6.wr b9 o5 [.slice l4.a l4.n l4.c])) (r3=.tuple ⟨[.int .i64 n2,.bool false]⟩/\∃ b10 o6,(p1:Option Addr)=some ⟨b10,o6,none⟩/\∃ l5:Sl,h5.at b10 o6=some (.slice l5.a l5.n l5.c)/\∃ vs2,h5.row l.a (l.n*1) vs2/\(∀ v∈vs2,Value.oneCell' v=true)/\appendD l5 5 1 1 [.int .u8 0] l.n vs2 h5 λl6 h7=>∃ b11 o7,(p1:Option Addr)=some ⟨b11,o7,none⟩/\h7.canW b11 o7 1/\Q (.int .i64 0) (h7.wr b11 o7 [.slice l6.a l6.n l6.c]))))) (Q (.int .i64 n1) h1))
def F22.T(p:Option Addr)(s:ByteArray)(l:Sl):PT:=F22.G F93.T F95.T F96.T p s l
theorem F22.gen(V:Value->List Value->PT)(T93:Option Addr->Sl->PT)(T95:Option Addr->Option Addr->Int->PT)(T96:Option Addr->Int->PT)(p:Option Addr)(s:ByteArray)(l:Sl):denF Tryz.prog [] [(93,F93.W T93),(95,F95.W T95),(96,F96.W T96)] V F22.an Tryz.f22 [.v (.pointer p),.v (.string s),.v (.slice l.a l.n l.c)]=F22.G T93 T95 T96 p s l:=by kernel_rfl
theorem F22.den(V:Value->List Value->PT)(p:Option Addr)(s:ByteArray)(l:Sl):denF Tryz.prog [] [(93,F93.V),(95,F95.V),(96,F96.V)] V F22.an Tryz.f22 [.v (.pointer p),.v (.string s),.v (.slice l.a l.n l.c)]=F22.T p s l:=F22.gen V F93.T F95.T F96.T p s l
def F22.W(T22:Option Addr->ByteArray->Sl->PT)(args:List Value):PT:=match args with
 |[.pointer p,.string s,.slice l_a l_n l_c]=>T22 p s ⟨l_a,l_n,l_c⟩
 |_=>λ_ _=>False
def F22.V:List Value->PT:=F22.W F22.T
theorem F22.ok:FOk Tryz.prog 22 F22.V:=by
 refine⟨⟨_,Tryz.func22,rfl,rfl⟩,λargs=>?_⟩
 have hG:GOk Tryz.prog [(93,F93.V),(95,F95.V),(96,F96.V)]:=GOk.cons F93.ok (GOk.cons F95.ok (GOk.cons F96.ok (GOk.nil)))
 have hV:VOk Tryz.prog noV:=noV_ok
 unfold F22.V F22.W
 split
 ·exact denF_okV hG hV Tryz.func22 (λh Q hq=>(F22.den _ _ _ _) ▸ hq)
 ·exact λh Q hq=>hq.elim
def F23.an:List (Nat×Ann):=[]
def F23.G(T93:Option Addr->Sl->PT)(T96:Option Addr->Int->PT)(p:Option Addr)(s:ByteArray):PT:=λh Q=>
 ∀ b,h b=none->T93 p ⟨(some ⟨b,0,none⟩),1,1⟩ (h.new b (.cells ⟨[.string s]⟩ 9 (0,0))) λr h1=>∃ n:Int,r=.int .i64 n/\par (n=0) (∃ b1 o,(p:Option Addr)=some ⟨b1,o,none⟩/\∃ m:Option Nat,h1.at b1 (o+1)=some (.map m)/\∃ es c,h1.mp m es c/\keysFit (.string s) es/\∃ p1:Option Addr,(mget es (.string s) (.pointer none))=.pointer p1/\okPtr h1 p1 none/\par ((p1:Option Addr)=none) (Q (.int .i64 34) h1) (T96 p 1 h1 λr1 h2=>∃ n1:Int,∃ b2:Bool,parB b2 (r1=.tuple ⟨[.int .i64 n1,.bool true]⟩/\Q (.int .i64 30) h2) (r1=.tuple ⟨[.int .i64 n1,.bool false]⟩/\∃ b3 o1,(p1:Option Addr)=some ⟨b3,o1,none⟩/\∃ l:Sl,h2.at b3 o1=some (.slice l.a l.n l.c)/\∃ b4 o2,(p1:Option Addr)=some ⟨b4,o2,none⟩/\h2.canW b4 (o2+1) 1/\Q (.int .i64 0) (h2.wr b4 (o2+1) [.int .i64 (l.n:Int)])))) (Q (.int .i64 n) h1)
def F23.T(p:Option Addr)(s:ByteArray):PT:=F23.G F93.T F96.T p s
theorem F23.gen(V:Value->List Value->PT)(T93:Option Addr->Sl->PT)(T96:Option Addr->Int->PT)(p:Option Addr)(s:ByteArray):denF Tryz.prog [] [(93,F93.W T93),(96,F96.W T96)] V F23.an Tryz.f23 [.v (.pointer p),.v (.string s)]=F23.G T93 T96 p s:=by kernel_rfl
theorem F23.den(V:Value->List Value->PT)(p:Option Addr)(s:ByteArray):denF Tryz.prog [] [(93,F93.V),(96,F96.V)] V F23.an Tryz.f23 [.v (.pointer p),.v (.string s)]=F23.T p s:=F23.gen V F93.T F96.T p s
def F23.W(T23:Option Addr->ByteArray->PT)(args:List Value):PT:=match args with
 |[.pointer p,.string s]=>T23 p s
 |_=>λ_ _=>False
def F23.V:List Value->PT:=F23.W F23.T
theorem F23.ok:FOk Tryz.prog 23 F23.V:=by
 refine⟨⟨_,Tryz.func23,rfl,rfl⟩,λargs=>?_⟩
 have hG:GOk Tryz.prog [(93,F93.V),(96,F96.V)]:=GOk.cons F93.ok (GOk.cons F96.ok (GOk.nil))
 have hV:VOk Tryz.prog noV:=noV_ok
 unfold F23.V F23.W
 split
 ·exact denF_okV hG hV Tryz.func23 (λh Q hq=>(F23.den _ _ _) ▸ hq)
 ·exact λh Q hq=>hq.elim
def F28.an:List (Nat×Ann):=[]
def F28.G(T30:ByteArray->PT)(T31:Sl->PT)(p:Option Addr)(s:ByteArray):PT:=λh Q=>
 ∃ b o,(p:Option Addr)=some ⟨b,o,none⟩/\∃ b1:Bool,h.at b (o+8)=some (.bool b1)/\parB b1 (Q (.tuple ⟨[.slice none 0 0,.int .i64 30]⟩) h) (T30 s h λr h1=>∃ b2:Bool,r=.bool b2/\parB b2 (∃ b3 o1,(p:Option Addr)=some ⟨b3,o1,none⟩/\∃ m:Option Nat,h1.at b3 (o1+1)=some (.map m)/\∃ es c,h1.mp m es c/\keysFit (.string s) es/\∃ p1:Option Addr,(mget es (.string s) (.pointer none))=.pointer p1/\okPtr h1 p1 none/\par ((p1:Option Addr)=none) (Q (.tuple ⟨[.slice none 0 0,.int .i64 34]⟩) h1) (∃ b4 o2,(p:Option Addr)=some ⟨b4,o2,none⟩/\∃ m1:Option Nat,h1.at b4 (o2+1)=some (.map m1)/\∃ es1 c1,h1.mp m1 es1 c1/\keysFit (.string s) es1/\∃ p2:Option Addr,(mget es1 (.string s) (.pointer none))=.pointer p2/\∃ b5 o3,(p2:Option Addr)=some ⟨b5,o3,none⟩/\∃ l:Sl,h1.at b5 o3=some (.slice l.a l.n l.c)/\T31 l h1 λr1 h2=>∃ l1:Sl,r1=.slice l1.a l1.n l1.c/\Q (.tuple ⟨[.slice l1.a l1.n l1.c,.int .i64 0]⟩) h2)) (Q (.tuple ⟨[.slice none 0 0,.int .i64 33]⟩) h1))
def F28.T(p:Option Addr)(s:ByteArray):PT:=F28.G F30.T F31.T p s
theorem F28.gen(V:Value->List Value->PT)(T30:ByteArray->PT)(T31:Sl->PT)(p:Option Addr)(s:ByteArray):denF Tryz.prog [] [(30,F30.W T30),(31,F31.W T31)] V F28.an Tryz.f28 [.v (.pointer p),.v (.string s)]=F28.G T30 T31 p s:=by kernel_rfl
theorem F28.den(V:Value->List Value->PT)(p:Option Addr)(s:ByteArray):denF Tryz.prog [] [(30,F30.V),(31,F31.V)] V F28.an Tryz.f28 [.v (.pointer p),.v (.string s)]=F28.T p s:=F28.gen V F30.T F31.T p s
def F28.W(T28:Option Addr->ByteArray->PT)(args:List Value):PT:=match args with
 |[.pointer p,.string s]=>T28 p s
 |_=>λ_ _=>False
def F28.V:List Value->PT:=F28.W F28.T
theorem F28.ok:FOk Tryz.prog 28 F28.V:=by
 refine⟨⟨_,Tryz.func28,rfl,rfl⟩,λargs=>?_⟩
 have hG:GOk Tryz.prog [(30,F30.V),(31,F31.V)]:=GOk.cons F30.ok (GOk.cons F31.ok (GOk.nil))
 have hV:VOk Tryz.prog noV:=noV_ok
 unfold F28.V F28.W
 split
 ·exact denF_okV hG hV Tryz.func28 (λh Q hq=>(F28.den _ _ _) ▸ hq)
 ·exact λh Q hq=>hq.elim
def F27.an:List (Nat×Ann):=[]
def F27.G(T93:Option Addr->Sl->PT)(T94:Option Addr->Int->ByteArray->ByteArray->Option Addr->PT)(p:Option Addr)(s:ByteArray):PT:=λh Q=>
 ∀ b,h b=none->T93 p ⟨(some ⟨b,0,none⟩),1,1⟩ (h.new b (.cells ⟨[.string s]⟩ 9 (0,0))) λr h1=>∃ n:Int,r=.int .i64 n/\par (n=0) (∃ b1 o,(p:Option Addr)=some ⟨b1,o,none⟩/\∃ m:Option Nat,h1.at b1 (o+1)=some (.map m)/\∃ es c,h1.mp m es c/\keysFit (.string s) es/\∃ p1:Option Addr,(mget es (.string s) (.pointer none))=.pointer p1/\okPtr h1 p1 none/\par ((p1:Option Addr)=none) (Q (.int .i64 34) h1) (T94 p 2 s (ByteArray.mk #[]) none h1 λr1 h2=>∃ n1:Int,r1=.int .i64 n1/\Q (.int .i64 n1) h2)) (Q (.int .i64 n) h1)
def F27.T(p:Option Addr)(s:ByteArray):PT:=F27.G F93.T F94.T p s
theorem F27.gen(V:Value->List Value->PT)(T93:Option Addr->Sl->PT)(T94:Option Addr->Int->ByteArray->ByteArray->Option Addr->PT)(p:Option Addr)(s:ByteArray):denF Tryz.prog [] [(93,F93.W T93),(94,F94.W T94)] V F27.an Tryz.f27 [.v (.pointer p),.v (.string s)]=F27.G T93 T94 p s:=by kernel_rfl
theorem F27.den(V:Value->List Value->PT)(p:Option Addr)(s:ByteArray):denF Tryz.prog [] [(93,F93.V),(94,F94.V)] V F27.an Tryz.f27 [.v (.pointer p),.v (.string s)]=F27.T p s:=F27.gen V F93.T F94.T p s
def F27.W(T27:Option Addr->ByteArray->PT)(args:List Value):PT:=match args with
 |[.pointer p,.string s]=>T27 p s
 |_=>λ_ _=>False
def F27.V:List Value->PT:=F27.W F27.T
theorem F27.ok:FOk Tryz.prog 27 F27.V:=by
 refine⟨⟨_,Tryz.func27,rfl,rfl⟩,λargs=>?_⟩
 have hG:GOk Tryz.prog [(93,F93.V),(94,F94.V)]:=GOk.cons F93.ok (GOk.cons F94.ok (GOk.nil))
 have hV:VOk Tryz.prog noV:=noV_ok
 unfold F27.V F27.W
 split
 ·exact denF_okV hG hV Tryz.func27 (λh Q hq=>(F27.den _ _ _) ▸ hq)
 ·exact λh Q hq=>hq.elim
def F60.an:List (Nat×Ann):=[]
def F60.G(T93:Option Addr->Sl->PT)(T94:Option Addr->Int->ByteArray->ByteArray->Option Addr->PT)(p:Option Addr)(s s1:ByteArray):PT:=λh Q=>
 ∀ b,h b=none->T93 p ⟨(some ⟨b,0,none⟩),2,2⟩ (h.new b (.cells ⟨[.string s,.string s1]⟩ 9 (0,0))) λr h1=>∃ n:Int,r=.int .i64 n/\par (n=0) (∃ b1 o,(p:Option Addr)=some ⟨b1,o,none⟩/\∃ m:Option Nat,h1.at b1 (o+1)=some (.map m)/\∃ es c,h1.mp m es c/\keysFit (.string s) es/\∃ p1:Option Addr,(mget es (.string s) (.pointer none))=.pointer p1/\okPtr h1 p1 none/\par ((p1:Option Addr)=none) (Q (.int .i64 34) h1) (T94 p 1 s s1 none h1 λr1 h2=>∃ n1:Int,r1=.int .i64 n1/\Q (.int .i64 n1) h2)) (Q (.int .i64 n) h1)
def F60.T(p:Option Addr)(s s1:ByteArray):PT:=F60.G F93.T F94.T p s s1
theorem F60.gen(V:Value->List Value->PT)(T93:Option Addr->Sl->PT)(T94:Option Addr->Int->ByteArray->ByteArray->Option Addr->PT)(p:Option Addr)(s s1:ByteArray):denF Tryz.prog [] [(93,F93.W T93),(94,F94.W T94)] V F60.an Tryz.f60 [.v (.pointer p),.v (.string s),.v (.string s1)]=F60.G T93 T94 p s s1:=by kernel_rfl
theorem F60.den(V:Value->List Value->PT)(p:Option Addr)(s s1:ByteArray):denF Tryz.prog [] [(93,F93.V),(94,F94.V)] V F60.an Tryz.f60 [.v (.pointer p),.v (.string s),.v (.string s1)]=F60.T p s s1:=F60.gen V F93.T F94.T p s s1
def F60.W(T60:Option Addr->ByteArray->ByteArray->PT)(args:List Value):PT:=match args with
 |[.pointer p,.string s,.string s1]=>T60 p s s1
 |_=>λ_ _=>False
def F60.V:List Value->PT:=F60.W F60.T
theorem F60.ok:FOk Tryz.prog 60 F60.V:=by
 refine⟨⟨_,Tryz.func60,rfl,rfl⟩,λargs=>?_⟩
 have hG:GOk Tryz.prog [(93,F93.V),(94,F94.V)]:=GOk.cons F93.ok (GOk.cons F94.ok (GOk.nil))
 have hV:VOk Tryz.prog noV:=noV_ok
 unfold F60.V F60.W
 split
 ·exact denF_okV hG hV Tryz.func60 (λh Q hq=>(F60.den _ _ _ _) ▸ hq)
 ·exact λh Q hq=>hq.elim
def F131.an:List (Nat×Ann):=[]
def F131.T(m:Option Nat):PT:=λh Q=>
 ∀ b,h b=none->Q (.func (.func 138) ⟨[]⟩ ⟨[.pointer (some ⟨b,0,none⟩)]⟩) (h.new b (.cells ⟨[.map m]⟩ 86 (0,0)))
theorem F131.den(V:Value->List Value->PT)(m:Option Nat):denF Tryz.prog [] [] V F131.an Tryz.f131 [.v (.map m)]=F131.T m:=by kernel_rfl
def F131.W(T131:Option Nat->PT)(args:List Value):PT:=match args with
 |[.map m]=>T131 m
 |_=>λ_ _=>False
def F131.V:List Value->PT:=F131.W F131.T
theorem F131.ok:FOk Tryz.prog 131 F131.V:=by
 refine⟨⟨_,Tryz.func131,rfl,rfl⟩,λargs=>?_⟩
 have hG:GOk Tryz.prog []:=GOk.nil
 have hV:VOk Tryz.prog noV:=noV_ok
 unfold F131.V F131.W
 split
 ·exact denF_okV hG hV Tryz.func131 (λh Q hq=>(F131.den _ _) ▸ hq)
 ·exact λh Q hq=>hq.elim
def F8.an:List (Nat×Ann):=[(250,.loop [(7,.int .i64),(8,.int .i64)] []),(32038,.order [0,1,2,3,4,5,6,7,8,9,10,11]),(128158,.order [0,1,2,3,4,5,6,8,9,7,10,11,12,13,14,15,16]),(256318,.order [0,1,2,3,4,5,6,7,8,9,10,11,12,13,14,15,16])]
def F8.G(T33:ByteArray->PT)(T34:Sl->ByteArray->PT)(T35:Sl->ByteArray->Int->PT)(T36:Sl->PT)(n:Int)(l:Sl):PT:=λh Q=>
 par (n<0) (Q (.tuple ⟨[.pointer none,.int .i64 36]⟩) h) (par ((8388608:Int)<(l.n:Int)) (Q (.tuple ⟨[.pointer none,.int .i64 36]⟩) h) (∀ b,h b=none->∃ (I:Int->Int->Hp->Prop) (m:Int->Int->Hp->Nat),I 0 0 (h.new b (.cells ⟨[.int .i64 n,.slice none 0 0,.slice none 0 0,.slice none 0 0,.slice none 0 0,.int .i64 0,.int .i64 0,.int .i64 0,.int .i64 0,.bool false]⟩ 101 (0,0)))/\(∀ n1 n2:Int,∀ h1:Hp,I n1 n2 h1->par (n2<(l.n:Int)) (∃ b1 o,(l.a:Option Addr)=some ⟨b1,o,none⟩/\((0:Int)<=n2/\n2<(l.n:Int))/\∃ s:ByteArray,h1.at b1 (o+n2.toNat*3)=some (.string s)/\∃ l1:Sl,h1.at b1 ((o+n2.toNat*3)+1)=some (.slice l1.a l1.n l1.c)/\∃ n3:Int,h1.at b1 ((o+n2.toNat*3)+2)=some (.int .i64 n3)/\T33 s h1 λr h2=>∃ b2:Bool,r=.bool b2/\parB b2 (par ((2147483648:Int)<(l1.n:Int)) (Q (.tuple ⟨[.pointer none,.int .i64 36]⟩) h2) (par (n3<0) (Q (.tuple ⟨[.pointer none,.int .i64 36]⟩) h2) (par ((l1.n:Int)<n3) (Q (.tuple ⟨[.pointer none,.int .i64 36]⟩) h2) (∃ l2:Sl,h2.at b 2=some (.slice l2.a l2.n l2.c)/\T34 l2 s h2 λr1 h3=>∃ n4:Int,∃ b3:Bool,parB b3 (r1=.tuple ⟨[.int .i64 n4,.bool true]⟩/\Q (.tuple ⟨[.pointer none,.int .i64 36]⟩) h3) (r1=.tuple ⟨[.int .i64 n4,.bool false]⟩/\∃ l3:Sl,h3.at b 1=some (.slice l3.a l3.n l3.c)/\∃ vs,h3.row l1.a (l1.n*1) vs/\(∀ v∈vs,Value.oneCell' v=true)/\appendD ⟨none,0,0⟩ 5 1 1 [.int .u8 0] l1.n vs h3 λl4 h4=>h4.at b 1=some (.slice l3.a l3.n l3.c)/\∀ b4,h4 b4=none->(h4.new b4 (.cells ⟨[.slice l4.a l4.n l4.c,.int .i64 n3]⟩ 106 (0,0))).at b 1=some (.slice l3.a l3.n l3.c)/\(h4.new b4 (.cells ⟨[.slice l4.a l4.n l4.c,.int .i64 n3]⟩ 106 (0,0))).at b 1=some (.slice l3.a l3.n l3.c)/\appendD l3 104 1 8 [.pointer none] 1 [.pointer (some ⟨b4,0,none⟩)] (h4.new b4 (.cells ⟨[.slice l4.a l4.n l4.c,.int .i64 n3]⟩ 106 (0,0))) λl5 h5=>h5.canW b 1 1/\∃ l6:Sl,(h5.wr b 1 [.slice l5.a l5.n l5.c]).at b 2=some (.slice l6.a l6.n l6.c)/\∃ l7:Sl,(h5.wr b 1 [.slice l5.a l5.n l5.c]).at b 1=some (.slice l7.a l7.n l7.c)/\T35 l6 s (wrap .i64 ((l7.n:Int)-1)) (h5.wr b 1 [.slice l5.a l5.n l5.c]) λr2 h6=>∃ l8:Sl,r2=.slice l8.a l8.n l8.c/\h6.canW b 2 1/\I (wrap .i64 (n1+(l1.n:Int))) (wrap .i64 (n2+1)) (h6.wr b 2 [.slice l8.a l8.n l8.c])/\m (wrap .i64 (n1+(l1.n:Int))) (wrap .i64 (n2+1)) (h6.wr b 2 [.slice l8.a l8.n l8.c])<m n1 n2 h1))))) (Q (.tuple ⟨[.pointer none,.int .i64 36]⟩) h2)) (par (n=0) (∃ l9:Sl,h1.at b 2=some (.slice l9.a l9.n l9.c)/\T36 l9 h1 λr3 h7=>∃ l10:Sl,r3=.slice l10.a l10.n l10.c/\h7.canW b 3 1/\Q (.tuple ⟨[.pointer (some ⟨b,0,none⟩),.int .i64 0]⟩) (h7.wr b 3 [.slice l10.a l10.n l10.c])) (par (n<n1) (Q (.tuple ⟨[.pointer none,.int .i64 36]⟩) h1) (∃ l11:Sl,h1.at b 2=some (.slice l11.a l11.n l11.c)/\T36 l11 h1 λr4 h8=>∃ l12:Sl,r4=.slice l12.a l12.n l12.c/\h8.canW b 3 1/\Q (.tuple ⟨[.pointer (some ⟨b,0,none⟩),.int .i64 0]⟩) (h8.wr b 3 [.slice l12.a l12.n l12.c])))))))
def F8.T(n:Int)(l:Sl):PT:=F8.G F33.T F34.T F35.T F36.T n l
theorem F8.gen(V:Value->List Value->PT)(T33:ByteArray->PT)(T34:Sl->ByteArray->PT)(T35:Sl->ByteArray->Int->PT)(T36:Sl->PT)(n:Int)(l:Sl):denF Tryz.prog [9,78] [(33,F33.W T33),(34,F34.W T34),(35,F35.W T35),(36,F36.W T36)] V F8.an Tryz.f8 [.v (.int .i64 n),.v (.slice l.a l.n l.c)]=F8.G T33 T34 T35 T36 n l:=by kernel_rfl
theorem F8.den(V:Value->List Value->PT)(n:Int)(l:Sl):denF Tryz.prog [9,78] [(33,F33.V),(34,F34.V),(35,F35.V),(36,F36.V)] V F8.an Tryz.f8 [.v (.int .i64 n),.v (.slice l.a l.n l.c)]=F8.T n l:=F8.gen V F33.T F34.T F35.T F36.T n l
def F8.W(T8:Int->Sl->PT)(args:List Value):PT:=match args with
 |[.int .i64 n,.slice l_a l_n l_c]=>T8 n ⟨l_a,l_n,l_c⟩
 |_=>λ_ _=>False
def F8.V:List Value->PT:=F8.W F8.T
theorem F8.ok:FOk Tryz.prog 8 F8.V:=by
 refine⟨⟨_,Tryz.func8,rfl,rfl⟩,λargs=>?_⟩
 have hG:GOk Tryz.prog [(33,F33.V),(34,F34.V),(35,F35.V),(36,F36.V)]:=GOk.cons F33.ok (GOk.cons F34.ok (GOk.cons F35.ok (GOk.cons F36.ok (GOk.nil))))
 have hV:VOk Tryz.prog noV:=noV_ok
 unfold F8.V F8.W
 split
 ·exact denF_okV hG hV Tryz.func8 (λh Q hq=>(F8.den _ _ _) ▸ hq)
 ·exact λh Q hq=>hq.elim
def F66.an:List (Nat×Ann):=[(58,.loop [(3,.sl),(4,.int .i64)] []),(1864,.order [0,1,2,3,4,5,6,7,8,9,10,11,12,13,14]),(1865,.order [0,1,2,3,4,5,6,7,8,9,10,11,12,14,15,16,17,13,18,19,20,21])]
def F66.T(p:Option Addr):PT:=λh Q=>
 ∃ (I:Sl->Int->Hp->Prop) (m:Sl->Int->Hp->Nat),I ⟨none,0,0⟩ 0 h/\(∀ l:Sl,∀ n:Int,∀ h1:Hp,I l n h1->∃ b o,(p:Option Addr)=some ⟨b,o,none⟩/\∃ l1:Sl,h1.at b (o+2)=some (.slice l1.a l1.n l1.c)/\par (n<(l1.n:Int)) (∃ b1 o1,(p:Option Addr)=some ⟨b1,o1,none⟩/\∃ l2:Sl,h1.at b1 (o1+1)=some (.slice l2.a l2.n l2.c)/\∃ b2 o2,(p:Option Addr)=some ⟨b2,o2,none⟩/\∃ l3:Sl,h1.at b2 (o2+2)=some (.slice l3.a l3.n l3.c)/\∃ b3 o3,(l3.a:Option Addr)=some ⟨b3,o3,none⟩/\((0:Int)<=n/\n<(l3.n:Int))/\∃ n1:Int,h1.at b3 ((o3+n.toNat*2)+1)=some (.int .i64 n1)/\∃ b4 o4,(l2.a:Option Addr)=some ⟨b4,o4,none⟩/\((0:Int)<=n1/\n1<(l2.n:Int))/\∃ p1:Option Addr,h1.at b4 (o4+n1.toNat)=some (.pointer p1)/\∃ b5 o5,(p:Option Addr)=some ⟨b5,o5,none⟩/\∃ l4:Sl,h1.at b5 (o5+2)=some (.slice l4.a l4.n l4.c)/\∃ b6 o6,(l4.a:Option Addr)=some ⟨b6,o6,none⟩/\((0:Int)<=n/\n<(l4.n:Int))/\∃ s:ByteArray,h1.at b6 (o6+n.toNat*2)=some (.string s)/\∃ b7 o7,(p1:Option Addr)=some ⟨b7,o7,none⟩/\∃ l5:Sl,h1.at b7 o7=some (.slice l5.a l5.n l5.c)/\∃ b8 o8,(p1:Option Addr)=some ⟨b8,o8,none⟩/\∃ n2:Int,h1.at b8 (o8+1)=some (.int .i64 n2)/\∃ vs,h1.row l5.a (l5.n*1) vs/\(∀ v∈vs,Value.oneCell' v=true)/\appendD ⟨none,0,0⟩ 5 1 1 [.int .u8 0] l5.n vs h1 λl6 h2=>h2.at b5 (o5+2)=some (.slice l4.a l4.n l4.c)/\h2.at b6 (o6+n.toNat*2)=some (.string s)/\h2.at b8 (o8+1)=some (.int .i64 n2)/\appendD l 55 3 48 [.string ⟨#[]⟩,.slice none 0 0,.int .i64 0] 1 [.string s,.slice l6.a l6.n l6.c,.int .i64 n2] h2 λl7 h3=>I l7 (wrap .i64 (n+1)) h3/\m l7 (wrap .i64 (n+1)) h3<m l n h1) (Q (.slice l.a l.n l.c) h1))
theorem F66.den(V:Value->List Value->PT)(p:Option Addr):denF Tryz.prog [48] [] V F66.an Tryz.f66 [.v (.pointer p)]=F66.T p:=by kernel_rfl
def F66.W(T66:Option Addr->PT)(args:List Value):PT:=match args with
 |[.pointer p]=>T66 p
 |_=>λ_ _=>False
def F66.V:List Value->PT:=F66.W F66.T
theorem F66.ok:FOk Tryz.prog 66 F66.V:=by
 refine⟨⟨_,Tryz.func66,rfl,rfl⟩,λargs=>?_⟩
 have hG:GOk Tryz.prog []:=GOk.nil
 have hV:VOk Tryz.prog noV:=noV_ok
 unfold F66.V F66.W
 split
 ·exact denF_okV hG hV Tryz.func66 (λh Q hq=>(F66.den _ _) ▸ hq)
 ·exact λh Q hq=>hq.elim
def F107.an:List (Nat×Ann):=[(58,.loop [(5,.sl),(6,.int .i64)] []),(1910509,.order [0,1,2,4,5,6,3,7,8])]
def F107.G(T34:Sl->ByteArray->PT)(T35:Sl->ByteArray->Int->PT)(T36:Sl->PT)(T108:Sl->ByteArray->PT)(p:Option Addr)(n:Int):PT:=λh Q=>
 ∃ b o,(p:Option Addr)=some ⟨b,o,none⟩/\∃ l:Sl,h.at b (o+3)=some (.slice l.a l.n l.c)/\T36 l h λr h1=>∃ l1:Sl,r=.slice l1.a l1.n l1.c/\∃ (I:Sl->Int->Hp->Prop) (m:Sl->Int->Hp->Nat),I l1 0 h1/\(∀ l2:Sl,∀ n1:Int,∀ h2:Hp,I l2 n1 h2->∃ b1 o1,(p:Option Addr)=some ⟨b1,o1,none⟩/\∃ l3:Sl,h2.at b1 (o1+4)=some (.slice l3.a l3.n l3.c)/\par (n1<(l3.n:Int)) (par (n1<n) (∃ b2 o2,(p:Option Addr)=some ⟨b2,o2,none⟩/\∃ l4:Sl,h2.at b2 (o2+4)=some (.slice l4.a l4.n l4.c)/\∃ b3 o3,(l4.a:Option Addr)=some ⟨b3,o3,none⟩/\((0:Int)<=n1/\n1<(l4.n:Int))/\∃ n2:Int,h2.at b3 (o3+n1.toNat*4)=some (.int .i64 n2)/\∃ s:ByteArray,h2.at b3 ((o3+n1.toNat*4)+1)=some (.string s)/\∃ s1:ByteArray,h2.at b3 ((o3+n1.toNat*4)+2)=some (.string s1)/\∃ n3:Int,h2.at b3 ((o3+n1.toNat*4)+3)=some (.int .i64 n3)/\par (n2=1) (T35 l2 s n3 h2 λr1 h3=>∃ l5:Sl,r1=.slice l5.a l5.n l5.c/\I l5 (wrap .i64 (n1+1)) h3/\m l5 (wrap .i64 (n1+1)) h3<m l2 n1 h2) (par (n2=2) (T34 l2 s h2 λr2 h4=>∃ n4:Int,∃ b4:Bool,parB b4 (r2=.tuple ⟨[.int .i64 n4,.bool true]⟩/\∃ b5 o4,(l2.a:Option Addr)=some ⟨b5,o4,none⟩/\((0:Int)<=n4/\n4<(l2.n:Int))/\∃ n5:Int,h4.at b5 ((o4+n4.toNat*2)+1)=some (.int .i64 n5)/\T108 l2 s h4 λr3 h5=>∃ l6:Sl,r3=.slice l6.a l6.n l6.c/\T35 l6 s1 n5 h5 λr4 h6=>∃ l7:Sl,r4=.slice l7.a l7.n l7.c/\I l7 (wrap .i64 (n1+1)) h6/\m l7 (wrap .i64 (n1+1)) h6<m l2 n1 h2) (r2=.tuple ⟨[.int .i64 n4,.bool false]⟩/\I l2 (wrap .i64 (n1+1)) h4/\m l2 (wrap .i64 (n1+1)) h4<m l2 n1 h2)) (par (n2=3) (T108 l2 s h2 λr5 h7=>∃ l8:Sl,r5=.slice l8.a l8.n l8.c/\I l8 (wrap .i64 (n1+1)) h7/\m l8 (wrap .i64 (n1+1)) h7<m l2 n1 h2) (I l2 (wrap .i64 (n1+1)) h2/\m l2 (wrap .i64 (n1+1)) h2<m l2 n1 h2)))) (Q (.slice l2.a l2.n l2.c) h2)) (Q (.slice l2.a l2.n l2.c) h2))
def F107.T(p:Option Addr)(n:Int):PT:=F107.G F34.T F35.T F36.T F108.T p n
theorem F107.gen(V:Value->List Value->PT)(T34:Sl->ByteArray->PT)(T35:Sl->ByteArray->Int->PT)(T36:Sl->PT)(T108:Sl->ByteArray->PT)(p:Option Addr)(n:Int):denF Tryz.prog [7] [(34,F34.W T34),(35,F35.W T35),(36,F36.W T36),(108,F108.W T108)] V F107.an Tryz.f107 [.v (.pointer p),.v (.int .i64 n)]=F107.G T34 T35 T36 T108 p n:=by kernel_rfl
theorem F107.den(V:Value->List Value->PT)(p:Option Addr)(n:Int):denF Tryz.prog [7] [(34,F34.V),(35,F35.V),(36,F36.V),(108,F108.V)] V F107.an Tryz.f107 [.v (.pointer p),.v (.int .i64 n)]=F107.T p n:=F107.gen V F34.T F35.T F36.T F108.T p n
def F107.W(T107:Option Addr->Int->PT)(args:List Value):PT:=match args with
 |[.pointer p,.int .i64 n]=>T107 p n
 |_=>λ_ _=>False
def F107.V:List Value->PT:=F107.W F107.T
theorem F107.ok:FOk Tryz.prog 107 F107.V:=by
 refine⟨⟨_,Tryz.func107,rfl,rfl⟩,λargs=>?_⟩
 have hG:GOk Tryz.prog [(34,F34.V),(35,F35.V),(36,F36.V),(108,F108.V)]:=GOk.cons F34.ok (GOk.cons F35.ok (GOk.cons F36.ok (GOk.cons F108.ok (GOk.nil))))
 have hV:VOk Tryz.prog noV:=noV_ok
 unfold F107.V F107.W
 split
 ·exact denF_okV hG hV Tryz.func107 (λh Q hq=>(F107.den _ _ _) ▸ hq)
 ·exact λh Q hq=>hq.elim
def F55.an:List (Nat×Ann):=[(122,.loop [(8,.sl),(9,.int .i64)] []),(3912,.order [0,1,2,3,4,5,6,7,8,9,10,11]),(7827,.join [(11,.int .i64)] []),(31310,.order [0,1,2,3,4,5,6,7,8,9,10,11,12]),(62618,.order [0,1,2,3,4,5,6,7,8,9,10,11,12,13,14,15,16,17,18,19])]
def F55.G(T107:Option Addr->Int->PT)(p:Option Addr)(n:Int)(l:Sl):PT:=λh Q=>
 T107 p n h λr h1=>∃ l1:Sl,r=.slice l1.a l1.n l1.c/\∃ (I:Sl->Int->Hp->Prop) (m:Sl->Int->Hp->Nat),I ⟨none,0,0⟩ 0 h1/\(∀ l2:Sl,∀ n1:Int,∀ h2:Hp,I l2 n1 h2->par (n1<(l1.n:Int)) (∃ b o,(p:Option Addr)=some ⟨b,o,none⟩/\∃ l3:Sl,h2.at b (o+1)=some (.slice l3.a l3.n l3.c)/\∃ b1 o1,(l1.a:Option Addr)=some ⟨b1,o1,none⟩/\((0:Int)<=n1/\n1<(l1.n:Int))/\∃ n2:Int,h2.at b1 ((o1+n1.toNat*2)+1)=some (.int .i64 n2)/\∃ b2 o2,(l3.a:Option Addr)=some ⟨b2,o2,none⟩/\((0:Int)<=n2/\n2<(l3.n:Int))/\∃ p1:Option Addr,h2.at b2 (o2+n2.toNat)=some (.pointer p1)/\∃ J:Int->Hp->Prop,(∀ n3:Int,∀ h3:Hp,J n3 h3->∃ b3 o3,(p1:Option Addr)=some ⟨b3,o3,none⟩/\∃ l4:Sl,h3.at b3 o3=some (.slice l4.a l4.n l4.c)/\∃ b4 o4,(p1:Option Addr)=some ⟨b4,o4,none⟩/\∃ n4:Int,h3.at b4 (o4+1)=some (.int .i64 n4)/\Sl.okCut l4 0 (wrap .i64 (n4+n3)) (l4.c:Int)/\∃ vs,h3.row ((Sl.cut l4 1 0 (wrap .i64 (n4+n3)) (l4.c:Int)).a) (((Sl.cut l4 1 0 (wrap .i64 (n4+n3)) (l4.c:Int)).n)*1) vs/\(∀ v∈vs,Value.oneCell' v=true)/\appendD ⟨none,0,0⟩ 5 1 1 [.int .u8 0] ((Sl.cut l4 1 0 (wrap .i64 (n4+n3)) (l4.c:Int)).n) vs h3 λl5 h4=>∃ b5 o5,(l1.a:Option Addr)=some ⟨b5,o5,none⟩/\((0:Int)<=n1/\n1<(l1.n:Int))/\∃ s:ByteArray,h4.at b5 (o5+n1.toNat*2)=some (.string s)/\appendD l2 55 3 48 [.string ⟨#[]⟩,.slice none 0 0,.int .i64 0] 1 [.string s,.slice l5.a l5.n l5.c,.int .i64 (l5.n:Int)] h4 λl6 h5=>I l6 (wrap .i64 (n1+1)) h5/\m l6 (wrap .i64 (n1+1)) h5<m l2 n1 h2)/\(par ((0:Int)<(l.n:Int)) ((l.n:Int)≠0/\∃ b6 o6,(l.a:Option Addr)=some ⟨b6,o6,none⟩/\((0:Int)<=(Int.tmod n1 (l.n:Int))/\(Int.tmod n1 (l.n:Int))<(l.n:Int))/\∃ n5:Int,h2.at b6 (o6+((Int.tmod n1 (l.n:Int))).toNat)=some (.int .i64 n5)/\∃ b7 o7,(p1:Option Addr)=some ⟨b7,o7,none⟩/\∃ l7:Sl,h2.at b7 o7=some (.slice l7.a l7.n l7.c)/\∃ b8 o8,(p1:Option Addr)=some ⟨b8,o8,none⟩/\∃ n6:Int,h2.at b8 (o8+1)=some (.int .i64 n6)/\J (iMin (iMax n5 0) (wrap .i64 ((l7.n:Int)-n6))) h2) (J 0 h2))) (Q (.slice l2.a l2.n l2.c) h2))
def F55.T(p:Option Addr)(n:Int)(l:Sl):PT:=F55.G F107.T p n l
theorem F55.gen(V:Value->List Value->PT)(T107:Option Addr->Int->PT)(p:Option Addr)(n:Int)(l:Sl):denF Tryz.prog [77] [(107,F107.W T107)] V F55.an Tryz.f55 [.v (.pointer p),.v (.int .i64 n),.v (.slice l.a l.n l.c)]=F55.G T107 p n l:=by kernel_rfl
theorem F55.den(V:Value->List Value->PT)(p:Option Addr)(n:Int)(l:Sl):denF Tryz.prog [77] [(107,F107.V)] V F55.an Tryz.f55 [.v (.pointer p),.v (.int .i64 n),.v (.slice l.a l.n l.c)]=F55.T p n l:=F55.gen V F107.T p n l
def F55.W(T55:Option Addr->Int->Sl->PT)(args:List Value):PT:=match args with
 |[.pointer p,.int .i64 n,.slice l_a l_n l_c]=>T55 p n ⟨l_a,l_n,l_c⟩
 |_=>λ_ _=>False
def F55.V:List Value->PT:=F55.W F55.T
theorem F55.ok:FOk Tryz.prog 55 F55.V:=by
 refine⟨⟨_,Tryz.func55,rfl,rfl⟩,λargs=>?_⟩
 have hG:GOk Tryz.prog [(107,F107.V)]:=GOk.cons F107.ok (GOk.nil)
 have hV:VOk Tryz.prog noV:=noV_ok
 unfold F55.V F55.W
 split
 ·exact denF_okV hG hV Tryz.func55 (λh Q hq=>(F55.den _ _ _ _) ▸ hq)
 ·exact λh Q hq=>hq.elim
def F70.an:List (Nat×Ann):=[]
def F70.T(p:Option Addr):PT:=λh Q=>
 ∃ b o,(p:Option Addr)=some ⟨b,o,none⟩/\∃ b1:Bool,h.at b (o+9)=some (.bool b1)/\parB b1 (Q (.bool true) h) (Q (.bool false) h)
theorem F70.den(V:Value->List Value->PT)(p:Option Addr):denF Tryz.prog [] [] V F70.an Tryz.f70 [.v (.pointer p)]=F70.T p:=by kernel_rfl
def F70.W(T70:Option Addr->PT)(args:List Value):PT:=match args with
 |[.pointer p]=>T70 p
 |_=>λ_ _=>False
def F70.V:List Value->PT:=F70.W F70.T
theorem F70.ok:FOk Tryz.prog 70 F70.V:=by
 refine⟨⟨_,Tryz.func70,rfl,rfl⟩,λargs=>?_⟩
 have hG:GOk Tryz.prog []:=GOk.nil
 have hV:VOk Tryz.prog noV:=noV_ok
 unfold F70.V F70.W
 split
 ·exact denF_okV hG hV Tryz.func70 (λh Q hq=>(F70.den _ _) ▸ hq)
 ·exact λh Q hq=>hq.elim
def F67.an:List (Nat×Ann):=[]
def F67.T(p:Option Addr)(n:Int):PT:=λh Q=>
 ∃ b o,(p:Option Addr)=some ⟨b,o,none⟩/\h.canW b (o+4) 1/\Q (.tuple ⟨[]⟩) (h.wr b (o+4) [.int .i64 (iMax n 0)])
theorem F67.den(V:Value->List Value->PT)(p:Option Addr)(n:Int):denF Tryz.prog [] [] V F67.an Tryz.f67 [.v (.pointer p),.v (.int .i64 n)]=F67.T p n:=by kernel_rfl
def F67.W(T67:Option Addr->Int->PT)(args:List Value):PT:=match args with
 |[.pointer p,.int .i64 n]=>T67 p n
 |_=>λ_ _=>False
def F67.V:List Value->PT:=F67.W F67.T
theorem F67.ok:FOk Tryz.prog 67 F67.V:=by
 refine⟨⟨_,Tryz.func67,rfl,rfl⟩,λargs=>?_⟩
 have hG:GOk Tryz.prog []:=GOk.nil
 have hV:VOk Tryz.prog noV:=noV_ok
 unfold F67.V F67.W
 split
 ·exact denF_okV hG hV Tryz.func67 (λh Q hq=>(F67.den _ _ _) ▸ hq)
 ·exact λh Q hq=>hq.elim
def F68.an:List (Nat×Ann):=[]
def F68.T(p:Option Addr)(n:Int):PT:=λh Q=>
 ∃ b o,(p:Option Addr)=some ⟨b,o,none⟩/\∃ b1:Bool,h.at b (o+9)=some (.bool b1)/\parB b1 (Q (.tuple ⟨[]⟩) h) (∃ b2 o1,(p:Option Addr)=some ⟨b2,o1,none⟩/\h.canW b2 (o1+5) 1/\Q (.tuple ⟨[]⟩) (h.wr b2 (o1+5) [.int .i64 (iMax n 0)]))
theorem F68.den(V:Value->List Value->PT)(p:Option Addr)(n:Int):denF Tryz.prog [] [] V F68.an Tryz.f68 [.v (.pointer p),.v (.int .i64 n)]=F68.T p n:=by kernel_rfl
def F68.W(T68:Option Addr->Int->PT)(args:List Value):PT:=match args with
 |[.pointer p,.int .i64 n]=>T68 p n
 |_=>λ_ _=>False
def F68.V:List Value->PT:=F68.W F68.T
theorem F68.ok:FOk Tryz.prog 68 F68.V:=by
 refine⟨⟨_,Tryz.func68,rfl,rfl⟩,λargs=>?_⟩
 have hG:GOk Tryz.prog []:=GOk.nil
 have hV:VOk Tryz.prog noV:=noV_ok
 unfold F68.V F68.W
 split
 ·exact denF_okV hG hV Tryz.func68 (λh Q hq=>(F68.den _ _ _) ▸ hq)
 ·exact λh Q hq=>hq.elim
def F57.an:List (Nat×Ann):=[(58,.loop [(8,.int .i64)] [(18,[.int .i64,.sl,.sl,.sl,.sl,.int .i64,.int .i64,.int .i64,.int .i64,.bool])]),(1864,.order [0,1,2,3,4,5,6,7,8,9,10,11,12,13,14,15,16,17,18,19,20,21]),(1865,.order [0,1,2,3,4,5,6,7,8,9,10,11,12,13,14,15,16])]
def F57.G(T36:Sl->PT)(T55:Option Addr->Int->Sl->PT)(p:Option Addr)(n:Int)(l:Sl):PT:=λh Q=>
 T55 p n l h λr h1=>∃ l1:Sl,r=.slice l1.a l1.n l1.c/\∃ b o,(p:Option Addr)=some ⟨b,o,none⟩/\∃ n1:Int,h1.at b o=some (.int .i64 n1)/\∃ (I:Int->Int->Sl->Sl->Sl->Sl->Int->Int->Int->Int->Bool->Hp->Prop) (m:Int->Int->Sl->Sl->Sl->Sl->Int->Int->Int->Int->Bool->Hp->Nat),I 0 n1 ⟨none,0,0⟩ ⟨none,0,0⟩ ⟨none,0,0⟩ ⟨none,0,0⟩ 0 0 0 0 false h1/\(∀ n2 n3:Int,∀ l2 l3:Sl,∀ l4 l5:Sl,∀ n4 n5:Int,∀ n6 n7:Int,(∀ h2:Hp,I n2 n3 l2 l3 l4 l5 n4 n5 n6 n7 true h2->par (n2<(l1.n:Int)) (∃ b2 o1,(l1.a:Option Addr)=some ⟨b2,o1,none⟩/\((0:Int)<=n2/\n2<(l1.n:Int))/\∃ l6:Sl,h2.at b2 ((o1+n2.toNat*3)+1)=some (.slice l6.a l6.n l6.c)/\∃ b3 o2,(l1.a:Option Addr)=some ⟨b3,o2,none⟩/\((0:Int)<=n2/\n2<(l1.n:Int))/\∃ n8:Int,h2.at b3 ((o2+n2.toNat*3)+2)=some (.int .i64 n8)/\∀ b4,h2 b4=none->appendD l2 104 1 8 [.pointer none] 1 [.pointer (some ⟨b4,0,none⟩)] (h2.new b4 (.cells ⟨[.slice l6.a l6.n l6.c,.int .i64 n8]⟩ 106 (0,0))) λl7 h3=>∃ b5 o3,(l1.a:Option Addr)=some ⟨b5,o3,none⟩/\((0:Int)<=n2/\n2<(l1.n:Int))/\∃ s:ByteArray,h3.at b5 (o3+n2.toNat*3)=some (.string s)/\appendD l3 136 2 24 [.string ⟨#[]⟩,.int .i64 0] 1 [.string s,.int .i64 n2] h3 λl8 h4=>I (wrap .i64 (n2+1)) n3 l7 l8 l4 l5 n4 n5 n6 n7 true h4/\m (wrap .i64 (n2+1)) n3 l7 l8 l4 l5 n4 n5 n6 n7 true h4<m n2 n3 l2 l3 l4 l5 n4 n5 n6 n7 true h2) (T36 l3 h2 λr1 h5=>∃ l9:Sl,r1=.slice l9.a l9.n l9.c/\∃ b6 o4,(p:Option Addr)=some ⟨b6,o4,none⟩/\h5.canW b6 o4 10/\Q (.tuple ⟨[]⟩) (h5.wr b6 o4 [.int .i64 n3,.slice l2.a l2.n l2.c,.slice l3.a l3.n l3.c,.slice l9.a l9.n l9.c,.slice l5.a l5.n l5.c,.int .i64 n4,.int .i64 n5,.int .i64 n6,.int .i64 n7,.bool true])))/\(∀ h2:Hp,I n2 n3 l2 l3 l4 l5 n4 n5 n6 n7 false h2->par (n2<(l1.n:Int)) (∃ b7 o5,(l1.a:Option Addr)=some ⟨b7,o5,none⟩/\((0:Int)<=n2/\n2<(l1.n:Int))/\∃ l10:Sl,h2.at b7 ((o5+n2.toNat*3)+1)=some (.slice l10.a l10.n l10.c)/\∃ b8 o6,(l1.a:Option Addr)=some ⟨b8,o6,none⟩/\((0:Int)<=n2/\n2<(l1.n:Int))/\∃ n9:Int,h2.at b8 ((o6+n2.toNat*3)+2)=some (.int .i64 n9)/\∀ b9,h2 b9=none->appendD l2 104 1 8 [.pointer none] 1 [.pointer (some ⟨b9,0,none⟩)] (h2.new b9 (.cells ⟨[.slice l10.a l10.n l10.c,.int .i64 n9]⟩ 106 (0,0))) λl11 h6=>∃ b10 o7,(l1.a:Option Addr)=some ⟨b10,o7,none⟩/\((0:Int)<=n2/\n2<(l1.n:Int))/\∃ s1:ByteArray,h6.at b10 (o7+n2.toNat*3)=some (.string s1)/\appendD l3 136 2 24 [.string ⟨#[]⟩,.int .i64 0] 1 [.string s1,.int .i64 n2] h6 λl12 h7=>I (wrap .i64 (n2+1)) n3 l11 l12 l4 l5 n4 n5 n6 n7 false h7/\m (wrap .i64 (n2+1)) n3 l11 l12 l4 l5 n4 n5 n6 n7 false h7<m n2 n3 l2 l3 l4 l5 n4 n5 n6 n7 false h2) (T36 l3 h2 λr2 h8=>∃ l13:Sl,r2=.slice l13.a l13.n l13.c/\∃ b11 o8,(p:Option Addr)=some ⟨b11,o8,none⟩/\h8.canW b11 o8 10/\Q (.tuple ⟨[]⟩) (h8.wr b11 o8 [.int .i64 n3,.slice l2.a l2.n l2.c,.slice l3.a l3.n l3.c,.slice l13.a l13.n l13.c,.slice l5.a l5.n l5.c,.int .i64 n4,.int .i64 n5,.int .i64 n6,.int .i64 n7,.bool false]))))
def F57.T(p:Option Addr)(n:Int)(l:Sl):PT:=F57.G F36.T F55.T p n l
theorem F57.gen(V:Value->List Value->PT)(T36:Sl->PT)(T55:Option Addr->Int->Sl->PT)(p:Option Addr)(n:Int)(l:Sl):denF Tryz.prog [18,42,58] [(36,F36.W T36),(55,F55.W T55)] V F57.an Tryz.f57 [.v (.pointer p),.v (.int .i64 n),.v (.slice l.a l.n l.c)]=F57.G T36 T55 p n l:=by kernel_rfl
theorem F57.den(V:Value->List Value->PT)(p:Option Addr)(n:Int)(l:Sl):denF Tryz.prog [18,42,58] [(36,F36.V),(55,F55.V)] V F57.an Tryz.f57 [.v (.pointer p),.v (.int .i64 n),.v (.slice l.a l.n l.c)]=F57.T p n l:=F57.gen V F36.T F55.T p n l
def F57.W(T57:Option Addr->Int->Sl->PT)(args:List Value):PT:=match args with
 |[.pointer p,.int .i64 n,.slice l_a l_n l_c]=>T57 p n ⟨l_a,l_n,l_c⟩
 |_=>λ_ _=>False
def F57.V:List Value->PT:=F57.W F57.T
theorem F57.ok:FOk Tryz.prog 57 F57.V:=by
 refine⟨⟨_,Tryz.func57,rfl,rfl⟩,λargs=>?_⟩
 have hG:GOk Tryz.prog [(36,F36.V),(55,F55.V)]:=GOk.cons F36.ok (GOk.cons F55.ok (GOk.nil))
 have hV:VOk Tryz.prog noV:=noV_ok
 unfold F57.V F57.W
 split
 ·exact denF_okV hG hV Tryz.func57 (λh Q hq=>(F57.den _ _ _ _) ▸ hq)
 ·exact λh Q hq=>hq.elim
def F104.an:List (Nat×Ann):=[]
def F104.T(p:Option Addr):PT:=λh Q=>
 ∃ b o,(p:Option Addr)=some ⟨b,o,none⟩/\∃ n:Int,h.at b (o+6)=some (.int .i64 n)/\par ((0:Int)<n) (∃ b1 o1,(p:Option Addr)=some ⟨b1,o1,none⟩/\∃ n1:Int,h.at b1 (o1+6)=some (.int .i64 n1)/\∃ b2 o2,(p:Option Addr)=some ⟨b2,o2,none⟩/\h.canW b2 (o2+6) 1/\Q (.bool false) (h.wr b2 (o2+6) [.int .i64 (wrap .i64 (n1-1))])) (∃ b3 o3,(p:Option Addr)=some ⟨b3,o3,none⟩/\∃ n2:Int,h.at b3 (o3+7)=some (.int .i64 n2)/\par ((0:Int)<n2) (∃ b4 o4,(p:Option Addr)=some ⟨b4,o4,none⟩/\∃ n3:Int,h.at b4 (o4+7)=some (.int .i64 n3)/\∃ b5 o5,(p:Option Addr)=some ⟨b5,o5,none⟩/\h.canW b5 (o5+7) 1/\Q (.bool true) (h.wr b5 (o5+7) [.int .i64 (wrap .i64 (n3-1))])) (Q (.bool false) h))
theorem F104.den(V:Value->List Value->PT)(p:Option Addr):denF Tryz.prog [] [] V F104.an Tryz.f104 [.v (.pointer p)]=F104.T p:=by kernel_rfl
def F104.W(T104:Option Addr->PT)(args:List Value):PT:=match args with
 |[.pointer p]=>T104 p
 |_=>λ_ _=>False
def F104.V:List Value->PT:=F104.W F104.T
theorem F104.ok:FOk Tryz.prog 104 F104.V:=by
 refine⟨⟨_,Tryz.func104,rfl,rfl⟩,λargs=>?_⟩
 have hG:GOk Tryz.prog []:=GOk.nil
 have hV:VOk Tryz.prog noV:=noV_ok
 unfold F104.V F104.W
 split
 ·exact denF_okV hG hV Tryz.func104 (λh Q hq=>(F104.den _ _) ▸ hq)
 ·exact λh Q hq=>hq.elim
def F103.an:List (Nat×Ann):=[(30,.order [0,1,2,3,4,5,6,7,8,9,10,11,12,13,14])]
def F103.G(T34:Sl->ByteArray->PT)(p:Option Addr)(s:ByteArray):PT:=λh Q=>
 ∃ b o,(p:Option Addr)=some ⟨b,o,none⟩/\∃ l:Sl,h.at b (o+2)=some (.slice l.a l.n l.c)/\T34 l s h λr h1=>∃ n:Int,∃ b1:Bool,parB b1 (r=.tuple ⟨[.int .i64 n,.bool true]⟩/\∃ b2 o1,(p:Option Addr)=some ⟨b2,o1,none⟩/\∃ l1:Sl,h1.at b2 (o1+1)=some (.slice l1.a l1.n l1.c)/\∃ b3 o2,(p:Option Addr)=some ⟨b3,o2,none⟩/\∃ l2:Sl,h1.at b3 (o2+2)=some (.slice l2.a l2.n l2.c)/\∃ b4 o3,(l2.a:Option Addr)=some ⟨b4,o3,none⟩/\((0:Int)<=n/\n<(l2.n:Int))/\∃ n1:Int,h1.at b4 ((o3+n.toNat*2)+1)=some (.int .i64 n1)/\∃ b5 o4,(l1.a:Option Addr)=some ⟨b5,o4,none⟩/\((0:Int)<=n1/\n1<(l1.n:Int))/\∃ p1:Option Addr,h1.at b5 (o4+n1.toNat)=some (.pointer p1)/\Q (.pointer p1) h1) (r=.tuple ⟨[.int .i64 n,.bool false]⟩/\Q (.pointer none) h1)
def F103.T(p:Option Addr)(s:ByteArray):PT:=F103.G F34.T p s
theorem F103.gen(V:Value->List Value->PT)(T34:Sl->ByteArray->PT)(p:Option Addr)(s:ByteArray):denF Tryz.prog [] [(34,F34.W T34)] V F103.an Tryz.f103 [.v (.pointer p),.v (.string s)]=F103.G T34 p s:=by kernel_rfl
theorem F103.den(V:Value->List Value->PT)(p:Option Addr)(s:ByteArray):denF Tryz.prog [] [(34,F34.V)] V F103.an Tryz.f103 [.v (.pointer p),.v (.string s)]=F103.T p s:=F103.gen V F34.T p s
def F103.W(T103:Option Addr->ByteArray->PT)(args:List Value):PT:=match args with
 |[.pointer p,.string s]=>T103 p s
 |_=>λ_ _=>False
def F103.V:List Value->PT:=F103.W F103.T
theorem F103.ok:FOk Tryz.prog 103 F103.V:=by
 refine⟨⟨_,Tryz.func103,rfl,rfl⟩,λargs=>?_⟩
 have hG:GOk Tryz.prog [(34,F34.V)]:=GOk.cons F34.ok (GOk.nil)
 have hV:VOk Tryz.prog noV:=noV_ok
 unfold F103.V F103.W
 split
 ·exact denF_okV hG hV Tryz.func103 (λh Q hq=>(F103.den _ _ _) ▸ hq)
 ·exact λh Q hq=>hq.elim
def F106.an:List (Nat×Ann):=[]
def F106.T(p:Option Addr)(n:Int):PT:=λh Q=>
 ∃ b o,(p:Option Addr)=some ⟨b,o,none⟩/\∃ n1:Int,h.at b (o+5)=some (.int .i64 n1)/\par (n1=0) (Q (.tuple ⟨[.int .i64 0,.bool false]⟩) h) (∃ b1 o1,(p:Option Addr)=some ⟨b1,o1,none⟩/\∃ n2:Int,h.at b1 (o1+5)=some (.int .i64 n2)/\par (n<n2) (∃ b2 o2,(p:Option Addr)=some ⟨b2,o2,none⟩/\∃ n3:Int,h.at b2 (o2+5)=some (.int .i64 n3)/\∃ b3 o3,(p:Option Addr)=some ⟨b3,o3,none⟩/\h.canW b3 (o3+5) 1/\Q (.tuple ⟨[.int .i64 0,.bool false]⟩) (h.wr b3 (o3+5) [.int .i64 (wrap .i64 (n3-n))])) (∃ b4 o4,(p:Option Addr)=some ⟨b4,o4,none⟩/\∃ n4:Int,h.at b4 (o4+5)=some (.int .i64 n4)/\∃ b5 o5,(p:Option Addr)=some ⟨b5,o5,none⟩/\h.canW b5 (o5+5) 1/\∃ b6 o6,(p:Option Addr)=some ⟨b6,o6,none⟩/\(h.wr b5 (o5+5) [.int .i64 0]).canW b6 (o6+6) 1/\∃ b7 o7,(p:Option Addr)=some ⟨b7,o7,none⟩/\((h.wr b5 (o5+5) [.int .i64 0]).wr b6 (o6+6) [.int .i64 0]).canW b7 (o7+7) 1/\∃ b8 o8,(p:Option Addr)=some ⟨b8,o8,none⟩/\(((h.wr b5 (o5+5) [.int .i64 0]).wr b6 (o6+6) [.int .i64 0]).wr b7 (o7+7) [.int .i64 0]).canW b8 (o8+8) 1/\∃ b9 o9,(p:Option Addr)=some ⟨b9,o9,none⟩/\((((h.wr b5 (o5+5) [.int .i64 0]).wr b6 (o6+6) [.int .i64 0]).wr b7 (o7+7) [.int .i64 0]).wr b8 (o8+8) [.int .i64 0]).canW b9 (o9+9) 1/\Q (.tuple ⟨[.int .i64 (wrap .i64 (n4-1)),.bool true]⟩) (((((h.wr b5 (o5+5) [.int .i64 0]).wr b6 (o6+6) [.int .i64 0]).wr b7 (o7+7) [.int .i64 0]).wr b8 (o8+8) [.int .i64 0]).wr b9 (o9+9) [.bool true])))
theorem F106.den(V:Value->List Value->PT)(p:Option Addr)(n:Int):denF Tryz.prog [] [] V F106.an Tryz.f106 [.v (.pointer p),.v (.int .i64 n)]=F106.T p n:=by kernel_rfl
def F106.W(T106:Option Addr->Int->PT)(args:List Value):PT:=match args with
 |[.pointer p,.int .i64 n]=>T106 p n
 |_=>λ_ _=>False
def F106.V:List Value->PT:=F106.W F106.T
theorem F106.ok:FOk Tryz.prog 106 F106.V:=by
 refine⟨⟨_,Tryz.func106,rfl,rfl⟩,λargs=>?_⟩
 have hG:GOk Tryz.prog []:=GOk.nil
 have hV:VOk Tryz.prog noV:=noV_ok
 unfold F106.V F106.W
 split
 ·exact denF_okV hG hV Tryz.func106 (λh Q hq=>(F106.den _ _ _) ▸ hq)
 ·exact λh Q hq=>hq.elim
def F58.an:List (Nat×Ann):=[(2046,.order [0,1,2,3,4,5,6,7,8,9,10,11,12,13,14,15]),(4094,.order [0,1,2,3,4,5,6,7,8,9,10,11,12,13,14,15,16,17])]
def F58.G(T33:ByteArray->PT)(T35:Sl->ByteArray->Int->PT)(T103:Option Addr->ByteArray->PT)(T104:Option Addr->PT)(T106:Option Addr->Int->PT)(p:Option Addr)(s:ByteArray):PT:=λh Q=>
 ∃ b o,(p:Option Addr)=some ⟨b,o,none⟩/\∃ b1:Bool,h.at b (o+9)=some (.bool b1)/\parB b1 (Q (.int .i64 30) h) (T33 s h λr h1=>∃ b2:Bool,r=.bool b2/\parB b2 (T104 p h1 λr1 h2=>∃ b3:Bool,r1=.bool b3/\parB b3 (Q (.int .i64 31) h2) (T103 p s h2 λr2 h3=>∃ p1:Option Addr,r2=.pointer p1/\okPtr h3 p1 none/\par ((p1:Option Addr)=none) (∃ b4 o1,(p:Option Addr)=some ⟨b4,o1,none⟩/\∃ l:Sl,h3.at b4 (o1+2)=some (.slice l.a l.n l.c)/\par ((8388608:Int)<=(l.n:Int)) (Q (.int .i64 32) h3) (T106 p 1 h3 λr3 h4=>∃ n:Int,∃ b5:Bool,parB b5 (r3=.tuple ⟨[.int .i64 n,.bool true]⟩/\Q (.int .i64 30) h4) (r3=.tuple ⟨[.int .i64 n,.bool false]⟩/\∃ b6 o2,(p:Option Addr)=some ⟨b6,o2,none⟩/\∃ l1:Sl,h4.at b6 (o2+1)=some (.slice l1.a l1.n l1.c)/\∀ b7,h4 b7=none->appendD l1 104 1 8 [.pointer none] 1 [.pointer (some ⟨b7,0,none⟩)] (h4.new b7 (.cells ⟨[.slice none 0 0,.int .i64 0]⟩ 106 (0,0))) λl2 h5=>∃ b8 o3,(p:Option Addr)=some ⟨b8,o3,none⟩/\h5.canW b8 (o3+1) 1/\∃ b9 o4,(p:Option Addr)=some ⟨b9,o4,none⟩/\∃ l3:Sl,(h5.wr b8 (o3+1) [.slice l2.a l2.n l2.c]).at b9 (o4+2)=some (.slice l3.a l3.n l3.c)/\∃ b10 o5,(p:Option Addr)=some ⟨b10,o5,none⟩/\∃ l4:Sl,(h5.wr b8 (o3+1) [.slice l2.a l2.n l2.c]).at b10 (o5+1)=some (.slice l4.a l4.n l4.c)/\T35 l3 s (wrap .i64 ((l4.n:Int)-1)) (h5.wr b8 (o3+1) [.slice l2.a l2.n l2.c]) λr4 h6=>∃ l5:Sl,r4=.slice l5.a l5.n l5.c/\∃ b11 o6,(p:Option Addr)=some ⟨b11,o6,none⟩/\h6.canW b11 (o6+2) 1/\∃ b12 o7,(p:Option Addr)=some ⟨b12,o7,none⟩/\∃ l6:Sl,(h6.wr b11 (o6+2) [.slice l5.a l5.n l5.c]).at b12 (o7+4)=some (.slice l6.a l6.n l6.c)/\∃ b13 o8,(p:Option Addr)=some ⟨b13,o8,none⟩/\∃ l7:Sl,(h6.wr b11 (o6+2) [.slice l5.a l5.n l5.c]).at b13 (o8+1)=some (.slice l7.a l7.n l7.c)/\(h6.wr b11 (o6+2) [.slice l5.a l5.n l5.c]).at b12 (o7+4)=some (.slice l6.a l6.n l6.c)/\appendD l6 167 4 48 [.int .i64 0,.string ⟨#[]⟩,.string ⟨#[]⟩,.int .i64 0] 1 [.int .i64 1,.string s,.string ⟨#[]⟩,.int .i64 (wrap .i64 ((l7.n:Int)-1))] (h6.wr b11 (o6+2) [.slice l5.a l5.n l5.c]) λl8 h7=>∃ b14 o9,(p:Option Addr)=some ⟨b14,o9,none⟩/\h7.canW b14 (o9+4) 1/\Q (.int .i64 0) (h7.wr b14 (o9+4) [.slice l8.a l8.n l8.c])))) (Q (.int .i64 35) h3))) (Q (.int .i64 33) h1))
def F58.T(p:Option Addr)(s:ByteArray):PT:=F58.G F33.T F35.T F103.T F104.T F106.T p s
theorem F58.gen(V:Value->List Value->PT)(T33:ByteArray->PT)(T35:Sl->ByteArray->Int->PT)(T103:Option Addr->ByteArray->PT)(T104:Option Addr->PT)(T106:Option Addr->Int->PT)(p:Option Addr)(s:ByteArray):denF Tryz.prog [39,71] [(33,F33.W T33),(35,F35.W T35),(103,F103.W T103),(104,F104.W T104),(106,F106.W T106)] V F58.an Tryz.f58 [.v (.pointer p),.v (.string s)]=F58.G T33 T35 T103 T104 T106 p s:=by kernel_rfl
theorem F58.den(V:Value->List Value->PT)(p:Option Addr)(s:ByteArray):denF Tryz.prog [39,71] [(33,F33.V),(35,F35.V),(103,F103.V),(104,F104.V),(106,F106.V)] V F58.an Tryz.f58 [.v (.pointer p),.v (.string s)]=F58.T p s:=F58.gen V F33.T F35.T F103.T F104.T F106.T p s
def F58.W(T58:Option Addr->ByteArray->PT)(args:List Value):PT:=match args with
 |[.pointer p,.string s]=>T58 p s
 |_=>λ_ _=>False
def F58.V:List Value->PT:=F58.W F58.T
theorem F58.ok:FOk Tryz.prog 58 F58.V:=by
 refine⟨⟨_,Tryz.func58,rfl,rfl⟩,λargs=>?_⟩
 have hG:GOk Tryz.prog [(33,F33.V),(35,F35.V),(103,F103.V),(104,F104.V),(106,F106.V)]:=GOk.cons F33.ok (GOk.cons F35.ok (GOk.cons F103.ok (GOk.cons F104.ok (GOk.cons F106.ok (GOk.nil)))))
 have hV:VOk Tryz.prog noV:=noV_ok
 unfold F58.V F58.W
 split
 ·exact denF_okV hG hV Tryz.func58 (λh Q hq=>(F58.den _ _ _) ▸ hq)
 ·exact λh Q hq=>hq.elim
end Go.Eng.YtekflkpnpibneaaGreatDoor
end
section
open Go.Proofs
namespace Go.Eng.YtekflkpnpibneaaGreatDoor
def F132.an:List (Nat×Ann):=[(58,.loop [(3,.int .i64),(4,.int .i64)] []),(932,.order [0,1,2,3,4,5,6,7,8,9,10,11,12,13,14,15,16,17,18,19,20])]
def F132.T(p:Option Addr):PT:=λh Q=>
 ∃ (I:Int->Int->Hp->Prop) (m:Int->Int->Hp->Nat),I 0 0 h/\(∀ n n1:Int,∀ h1:Hp,I n n1 h1->∃ b o,(p:Option Addr)=some ⟨b,o,none⟩/\∃ l:Sl,h1.at b (o+2)=some (.slice l.a l.n l.c)/\par (n1<(l.n:Int)) (∃ b1 o1,(p:Option Addr)=some ⟨b1,o1,none⟩/\∃ l1:Sl,h1.at b1 (o1+1)=some (.slice l1.a l1.n l1.c)/\∃ b2 o2,(p:Option Addr)=some ⟨b2,o2,none⟩/\∃ l2:Sl,h1.at b2 (o2+2)=some (.slice l2.a l2.n l2.c)/\∃ b3 o3,(l2.a:Option Addr)=some ⟨b3,o3,none⟩/\((0:Int)<=n1/\n1<(l2.n:Int))/\∃ n2:Int,h1.at b3 ((o3+n1.toNat*2)+1)=some (.int .i64 n2)/\∃ b4 o4,(l1.a:Option Addr)=some ⟨b4,o4,none⟩/\((0:Int)<=n2/\n2<(l1.n:Int))/\∃ p1:Option Addr,h1.at b4 (o4+n2.toNat)=some (.pointer p1)/\∃ b5 o5,(p1:Option Addr)=some ⟨b5,o5,none⟩/\∃ l3:Sl,h1.at b5 o5=some (.slice l3.a l3.n l3.c)/\I (wrap .i64 (n+(l3.n:Int))) (wrap .i64 (n1+1)) h1/\m (wrap .i64 (n+(l3.n:Int))) (wrap .i64 (n1+1)) h1<m n n1 h1) (Q (.int .i64 n) h1))
theorem F132.den(V:Value->List Value->PT)(p:Option Addr):denF Tryz.prog [] [] V F132.an Tryz.f132 [.v (.pointer p)]=F132.T p:=by kernel_rfl
def F132.W(T132:Option Addr->PT)(args:List Value):PT:=match args with
 |[.pointer p]=>T132 p
 |_=>λ_ _=>False
def F132.V:List Value->PT:=F132.W F132.T
theorem F132.ok:FOk Tryz.prog 132 F132.V:=by
 refine⟨⟨_,Tryz.func132,rfl,rfl⟩,λargs=>?_⟩
 have hG:GOk Tryz.prog []:=GOk.nil
 have hV:VOk Tryz.prog noV:=noV_ok
 unfold F132.V F132.W
 split
 ·exact denF_okV hG hV Tryz.func132 (λh Q hq=>(F132.den _ _) ▸ hq)
 ·exact λh Q hq=>hq.elim
def F105.an:List (Nat×Ann):=[(6,.order [0,1,2,3,4,5,6,7,8,9,10,11,12,13,14,15,16,17,18,19,20,21,22,23,24,25,26])]
def F105.G(T132:Option Addr->PT)(p p1:Option Addr)(n:Int):PT:=λh Q=>
 ∃ b o,(p:Option Addr)=some ⟨b,o,none⟩/\∃ n1:Int,h.at b o=some (.int .i64 n1)/\par (n1=0) (∃ b1 o1,(p1:Option Addr)=some ⟨b1,o1,none⟩/\∃ l:Sl,h.at b1 o1=some (.slice l.a l.n l.c)/\par ((wrap .i64 (2147483648-(l.n:Int)))<n) (Q (.bool true) h) (Q (.bool false) h)) (∃ b2 o2,(p:Option Addr)=some ⟨b2,o2,none⟩/\∃ n2:Int,h.at b2 o2=some (.int .i64 n2)/\T132 p h λr h1=>∃ n3:Int,r=.int .i64 n3/\h1.at b2 o2=some (.int .i64 n2)/\par ((wrap .i64 (n2-n3))<n) (Q (.bool true) h1) (∃ b3 o3,(p1:Option Addr)=some ⟨b3,o3,none⟩/\∃ l1:Sl,h1.at b3 o3=some (.slice l1.a l1.n l1.c)/\par ((wrap .i64 (2147483648-(l1.n:Int)))<n) (Q (.bool true) h1) (Q (.bool false) h1)))
def F105.T(p p1:Option Addr)(n:Int):PT:=F105.G F132.T p p1 n
theorem F105.gen(V:Value->List Value->PT)(T132:Option Addr->PT)(p p1:Option Addr)(n:Int):denF Tryz.prog [] [(132,F132.W T132)] V F105.an Tryz.f105 [.v (.pointer p),.v (.pointer p1),.v (.int .i64 n)]=F105.G T132 p p1 n:=by kernel_rfl
theorem F105.den(V:Value->List Value->PT)(p p1:Option Addr)(n:Int):denF Tryz.prog [] [(132,F132.V)] V F105.an Tryz.f105 [.v (.pointer p),.v (.pointer p1),.v (.int .i64 n)]=F105.T p p1 n:=F105.gen V F132.T p p1 n
def F105.W(T105:Option Addr->Option Addr->Int->PT)(args:List Value):PT:=match args with
 |[.pointer p,.pointer p1,.int .i64 n]=>T105 p p1 n
 |_=>λ_ _=>False
def F105.V:List Value->PT:=F105.W F105.T
theorem F105.ok:FOk Tryz.prog 105 F105.V:=by
 refine⟨⟨_,Tryz.func105,rfl,rfl⟩,λargs=>?_⟩
 have hG:GOk Tryz.prog [(132,F132.V)]:=GOk.cons F132.ok (GOk.nil)
 have hV:VOk Tryz.prog noV:=noV_ok
 unfold F105.V F105.W
 split
 ·exact denF_okV hG hV Tryz.func105 (λh Q hq=>(F105.den _ _ _ _) ▸ hq)
 ·exact λh Q hq=>hq.elim
def F54.an:List (Nat×Ann):=[(16372,.order [0,1,2,3,4,5,6,7,8,9,10,11]),(32406,.order [0,1,2,3,4,5,6,7,8,9,10,11])]
def F54.G(T33:ByteArray->PT)(T103:Option Addr->ByteArray->PT)(T104:Option Addr->PT)(T105:Option Addr->Option Addr->Int->PT)(T106:Option Addr->Int->PT)(p:Option Addr)(s:ByteArray)(l:Sl):PT:=λh Q=>
 ∃ b o,(p:Option Addr)=some ⟨b,o,none⟩/\∃ b1:Bool,h.at b (o+9)=some (.bool b1)/\parB b1 (Q (.int .i64 30) h) (T33 s h λr h1=>∃ b2:Bool,r=.bool b2/\parB b2 (T103 p s h1 λr1 h2=>∃ p1:Option Addr,r1=.pointer p1/\∃ b3 o1,(p:Option Addr)=some ⟨b3,o1,none⟩/\∃ n:Int,h2.at b3 (o1+8)=some (.int .i64 n)/\T104 p h2 λr2 h3=>∃ b4:Bool,r2=.bool b4/\parB b4 (okPtr h3 p1 none/\par ((p1:Option Addr)=none) (Q (.int .i64 31) h3) (T105 p p1 (iMin n (l.n:Int)) h3 λr3 h4=>∃ b5:Bool,r3=.bool b5/\parB b5 (Q (.int .i64 31) h4) (∃ b6 o2,(p1:Option Addr)=some ⟨b6,o2,none⟩/\∃ l1:Sl,h4.at b6 o2=some (.slice l1.a l1.n l1.c)/\Sl.okCut l 0 (iMin n (l.n:Int)) (l.c:Int)/\∃ vs,h4.row ((Sl.cut l 1 0 (iMin n (l.n:Int)) (l.c:Int)).a) (((Sl.cut l 1 0 (iMin n (l.n:Int)) (l.c:Int)).n)*1) vs/\(∀ v∈vs,Value.oneCell' v=true)/\appendD l1 5 1 1 [.int .u8 0] ((Sl.cut l 1 0 (iMin n (l.n:Int)) (l.c:Int)).n) vs h4 λl2 h5=>∃ b7 o3,(p1:Option Addr)=some ⟨b7,o3,none⟩/\h5.canW b7 o3 1/\Q (.int .i64 31) (h5.wr b7 o3 [.slice l2.a l2.n l2.c])))) (okPtr h3 p1 none/\par ((p1:Option Addr)=none) (Q (.int .i64 34) h3) (T105 p p1 (l.n:Int) h3 λr4 h6=>∃ b8:Bool,r4=.bool b8/\parB b8 (Q (.int .i64 32) h6) (T106 p (wrap .i64 (1+(l.n:Int))) h6 λr5 h7=>∃ n1:Int,∃ b9:Bool,parB b9 (r5=.tuple ⟨[.int .i64 n1,.bool true]⟩/\∃ b10 o4,(p1:Option Addr)=some ⟨b10,o4,none⟩/\∃ l3:Sl,h7.at b10 o4=some (.slice l3.a l3.n l3.c)/\Sl.okCut l 0 n1 (l.c:Int)/\∃ vs1,h7.row ((Sl.cut l 1 0 n1 (l.c:Int)).a) (((Sl.cut l 1 0 n1 (l.c:Int)).n)*1) vs1/\(∀ v∈vs1,Value.oneCell' v=true)/\appendD l3 5 1 1 [.int .u8 0] ((Sl.cut l 1 0 n1 (l.c:Int)).n) vs1 h7 λl4 h8=>∃ b11 o5,(p1:Option Addr)=some ⟨b11,o5,none⟩/\h8.canW b11 o5 1/\Q (.int .i64 30) (h8.wr b11 o5 [.slice l4.a l4.n l4.c])) (r5=.tuple ⟨[.int .i64 n1,.bool false]⟩/\∃ b12 o6,(p1:Option Addr)=some ⟨b12,o6,none⟩/\∃ l5:Sl,h7.at b12 o6=some (.slice l5.a l5.n l5.c)/\∃ vs2,h7.row l.a (l.n*1) vs2/\(∀ v∈vs2,Value.oneCell' v=true)/\appendD l5 5 1 1 [.int .u8 0] l.n vs2 h7 λl6 h9=>∃ b13 o7,(p1:Option Addr)=some ⟨b13,o7,none⟩/\h9.canW b13 o7 1/\Q (.int .i64 0) (h9.wr b13 o7 [.slice l6.a l6.n l6.c])))))) (Q (.int .i64 33) h1))
def F54.T(p:Option Addr)(s:ByteArray)(l:Sl):PT:=F54.G F33.T F103.T F104.T F105.T F106.T p s l
theorem F54.gen(V:Value->List Value->PT)(T33:ByteArray->PT)(T103:Option Addr->ByteArray->PT)(T104:Option Addr->PT)(T105:Option Addr->Option Addr->Int->PT)(T106:Option Addr->Int->PT)(p:Option Addr)(s:ByteArray)(l:Sl):denF Tryz.prog [] [(33,F33.W T33),(103,F103.W T103),(104,F104.W T104),(105,F105.W T105),(106,F106.W T106)] V F54.an Tryz.f54 [.v (.pointer p),.v (.string s),.v (.slice l.a l.n l.c)]=F54.G T33 T103 T104 T105 T106 p s l:=by kernel_rfl
theorem F54.den(V:Value->List Value->PT)(p:Option Addr)(s:ByteArray)(l:Sl):denF Tryz.prog [] [(33,F33.V),(103,F103.V),(104,F104.V),(105,F105.V),(106,F106.V)] V F54.an Tryz.f54 [.v (.pointer p),.v (.string s),.v (.slice l.a l.n l.c)]=F54.T p s l:=F54.gen V F33.T F103.T F104.T F105.T F106.T p s l
def F54.W(T54:Option Addr->ByteArray->Sl->PT)(args:List Value):PT:=match args with
 |[.pointer p,.string s,.slice l_a l_n l_c]=>T54 p s ⟨l_a,l_n,l_c⟩
 |_=>λ_ _=>False
def F54.V:List Value->PT:=F54.W F54.T
theorem F54.ok:FOk Tryz.prog 54 F54.V:=by
 refine⟨⟨_,Tryz.func54,rfl,rfl⟩,λargs=>?_⟩
 have hG:GOk Tryz.prog [(33,F33.V),(103,F103.V),(104,F104.V),(105,F105.V),(106,F106.V)]:=GOk.cons F33.ok (GOk.cons F103.ok (GOk.cons F104.ok (GOk.cons F105.ok (GOk.cons F106.ok (GOk.nil)))))
 have hV:VOk Tryz.prog noV:=noV_ok
 unfold F54.V F54.W
 split
 ·exact denF_okV hG hV Tryz.func54 (λh Q hq=>(F54.den _ _ _ _) ▸ hq)
 ·exact λh Q hq=>hq.elim
def F59.an:List (Nat×Ann):=[]
def F59.G(T33:ByteArray->PT)(T103:Option Addr->ByteArray->PT)(T104:Option Addr->PT)(T106:Option Addr->Int->PT)(p:Option Addr)(s:ByteArray):PT:=λh Q=>
 ∃ b o,(p:Option Addr)=some ⟨b,o,none⟩/\∃ b1:Bool,h.at b (o+9)=some (.bool b1)/\parB b1 (Q (.int .i64 30) h) (T33 s h λr h1=>∃ b2:Bool,r=.bool b2/\parB b2 (T104 p h1 λr1 h2=>∃ b3:Bool,r1=.bool b3/\parB b3 (Q (.int .i64 31) h2) (T103 p s h2 λr2 h3=>∃ p1:Option Addr,r2=.pointer p1/\okPtr h3 p1 none/\par ((p1:Option Addr)=none) (Q (.int .i64 34) h3) (T106 p 1 h3 λr3 h4=>∃ n:Int,∃ b4:Bool,parB b4 (r3=.tuple ⟨[.int .i64 n,.bool true]⟩/\Q (.int .i64 30) h4) (r3=.tuple ⟨[.int .i64 n,.bool false]⟩/\∃ b5 o1,(p1:Option Addr)=some ⟨b5,o1,none⟩/\∃ l:Sl,h4.at b5 o1=some (.slice l.a l.n l.c)/\∃ b6 o2,(p1:Option Addr)=some ⟨b6,o2,none⟩/\h4.canW b6 (o2+1) 1/\Q (.int .i64 0) (h4.wr b6 (o2+1) [.int .i64 (l.n:Int)]))))) (Q (.int .i64 33) h1))
def F59.T(p:Option Addr)(s:ByteArray):PT:=F59.G F33.T F103.T F104.T F106.T p s
theorem F59.gen(V:Value->List Value->PT)(T33:ByteArray->PT)(T103:Option Addr->ByteArray->PT)(T104:Option Addr->PT)(T106:Option Addr->Int->PT)(p:Option Addr)(s:ByteArray):denF Tryz.prog [] [(33,F33.W T33),(103,F103.W T103),(104,F104.W T104),(106,F106.W T106)] V F59.an Tryz.f59 [.v (.pointer p),.v (.string s)]=F59.G T33 T103 T104 T106 p s:=by kernel_rfl
theorem F59.den(V:Value->List Value->PT)(p:Option Addr)(s:ByteArray):denF Tryz.prog [] [(33,F33.V),(103,F103.V),(104,F104.V),(106,F106.V)] V F59.an Tryz.f59 [.v (.pointer p),.v (.string s)]=F59.T p s:=F59.gen V F33.T F103.T F104.T F106.T p s
def F59.W(T59:Option Addr->ByteArray->PT)(args:List Value):PT:=match args with
 |[.pointer p,.string s]=>T59 p s
 |_=>λ_ _=>False
def F59.V:List Value->PT:=F59.W F59.T
theorem F59.ok:FOk Tryz.prog 59 F59.V:=by
 refine⟨⟨_,Tryz.func59,rfl,rfl⟩,λargs=>?_⟩
 have hG:GOk Tryz.prog [(33,F33.V),(103,F103.V),(104,F104.V),(106,F106.V)]:=GOk.cons F33.ok (GOk.cons F103.ok (GOk.cons F104.ok (GOk.cons F106.ok (GOk.nil))))
 have hV:VOk Tryz.prog noV:=noV_ok
 unfold F59.V F59.W
 split
 ·exact denF_okV hG hV Tryz.func59 (λh Q hq=>(F59.den _ _ _) ▸ hq)
 ·exact λh Q hq=>hq.elim
def F61.an:List (Nat×Ann):=[]
def F61.G(T33:ByteArray->PT)(T34:Sl->ByteArray->PT)(T35:Sl->ByteArray->Int->PT)(T104:Option Addr->PT)(T106:Option Addr->Int->PT)(T108:Sl->ByteArray->PT)(p:Option Addr)(s s1:ByteArray):PT:=λh Q=>
 ∃ b o,(p:Option Addr)=some ⟨b,o,none⟩/\∃ b1:Bool,h.at b (o+9)=some (.bool b1)/\parB b1 (Q (.int .i64 30) h) (T33 s h λr h1=>∃ b2:Bool,r=.bool b2/\parB b2 (T33 s1 h1 λr1 h2=>∃ b3:Bool,r1=.bool b3/\parB b3 (T104 p h2 λr2 h3=>∃ b4:Bool,r2=.bool b4/\parB b4 (Q (.int .i64 31) h3) (∃ b5 o1,(p:Option Addr)=some ⟨b5,o1,none⟩/\∃ l:Sl,h3.at b5 (o1+2)=some (.slice l.a l.n l.c)/\T34 l s h3 λr3 h4=>∃ n:Int,∃ b6:Bool,parB b6 (r3=.tuple ⟨[.int .i64 n,.bool true]⟩/\T106 p 1 h4 λr4 h5=>∃ n1:Int,∃ b7:Bool,parB b7 (r4=.tuple ⟨[.int .i64 n1,.bool true]⟩/\Q (.int .i64 30) h5) (r4=.tuple ⟨[.int .i64 n1,.bool false]⟩/\par (s=s1) (Q (.int .i64 0) h5) (∃ b8 o2,(p:Option Addr)=some ⟨b8,o2,none⟩/\∃ l1:Sl,h5.at b8 (o2+2)=some (.slice l1.a l1.n l1.c)/\∃ b9 o3,(l1.a:Option Addr)=some ⟨b9,o3,none⟩/\((0:Int)<=n/\n<(l1.n:Int))/\∃ n2:Int,h5.at b9 ((o3+n.toNat*2)+1)=some (.int .i64 n2)/\∃ b10 o4,(p:Option Addr)=some ⟨b10,o4,none⟩/\∃ l2:Sl,h5.at b10 (o4+2)=some (.slice l2.a l2.n l2.c)/\T108 l2 s h5 λr5 h6=>∃ l3:Sl,r5=.slice l3.a l3.n l3.c/\T35 l3 s1 n2 h6 λr6 h7=>∃ l4:Sl,r6=.slice l4.a l4.n l4.c/\∃ b11 o5,(p:Option Addr)=some ⟨b11,o5,none⟩/\h7.canW b11 (o5+2) 1/\∃ b12 o6,(p:Option Addr)=some ⟨b12,o6,none⟩/\∃ l5:Sl,(h7.wr b11 (o5+2) [.slice l4.a l4.n l4.c]).at b12 (o6+4)=some (.slice l5.a l5.n l5.c)/\appendD l5 167 4 48 [.int .i64 0,.string ⟨#[]⟩,.string ⟨#[]⟩,.int .i64 0] 1 [.int .i64 2,.string s,.string s1,.int .i64 0] (h7.wr b11 (o5+2) [.slice l4.a l4.n l4.c]) λl6 h8=>∃ b13 o7,(p:Option Addr)=some ⟨b13,o7,none⟩/\h8.canW b13 (o7+4) 1/\Q (.int .i64 0) (h8.wr b13 (o7+4) [.slice l6.a l6.n l6.c])))) (r3=.tuple ⟨[.int .i64 n,.bool false]⟩/\Q (.int .i64 34) h4))) (Q (.int .i64 33) h2)) (Q (.int .i64 33) h1))
def F61.T(p:Option Addr)(s s1:ByteArray):PT:=F61.G F33.T F34.T F35.T F104.T F106.T F108.T p s s1
theorem F61.gen(V:Value->List Value->PT)(T33:ByteArray->PT)(T34:Sl->ByteArray->PT)(T35:Sl->ByteArray->Int->PT)(T104:Option Addr->PT)(T106:Option Addr->Int->PT)(T108:Sl->ByteArray->PT)(p:Option Addr)(s s1:ByteArray):denF Tryz.prog [74] [(33,F33.W T33),(34,F34.W T34),(35,F35.W T35),(104,F104.W T104),(106,F106.W T106),(108,F108.W T108)] V F61.an Tryz.f61 [.v (.pointer p),.v (.string s),.v (.string s1)]=F61.G T33 T34 T35 T104 T106 T108 p s s1:=by kernel_rfl
theorem F61.den(V:Value->List Value->PT)(p:Option Addr)(s s1:ByteArray):denF Tryz.prog [74] [(33,F33.V),(34,F34.V),(35,F35.V),(104,F104.V),(106,F106.V),(108,F108.V)] V F61.an Tryz.f61 [.v (.pointer p),.v (.string s),.v (.string s1)]=F61.T p s s1:=F61.gen V F33.T F34.T F35.T F104.T F106.T F108.T p s s1
def F61.W(T61:Option Addr->ByteArray->ByteArray->PT)(args:List Value):PT:=match args with
 |[.pointer p,.string s,.string s1]=>T61 p s s1
 |_=>λ_ _=>False
def F61.V:List Value->PT:=F61.W F61.T
theorem F61.ok:FOk Tryz.prog 61 F61.V:=by
 refine⟨⟨_,Tryz.func61,rfl,rfl⟩,λargs=>?_⟩
 have hG:GOk Tryz.prog [(33,F33.V),(34,F34.V),(35,F35.V),(104,F104.V),(106,F106.V),(108,F108.V)]:=GOk.cons F33.ok (GOk.cons F34.ok (GOk.cons F35.ok (GOk.cons F104.ok (GOk.cons F106.ok (GOk.cons F108.ok (GOk.nil))))))
 have hV:VOk Tryz.prog noV:=noV_ok
 unfold F61.V F61.W
 split
 ·exact denF_okV hG hV Tryz.func61 (λh Q hq=>(F61.den _ _ _ _) ▸ hq)
 ·exact λh Q hq=>hq.elim
def F62.an:List (Nat×Ann):=[]
def F62.G(T33:ByteArray->PT)(T103:Option Addr->ByteArray->PT)(T104:Option Addr->PT)(T106:Option Addr->Int->PT)(T108:Sl->ByteArray->PT)(p:Option Addr)(s:ByteArray):PT:=λh Q=>
 ∃ b o,(p:Option Addr)=some ⟨b,o,none⟩/\∃ b1:Bool,h.at b (o+9)=some (.bool b1)/\parB b1 (Q (.int .i64 30) h) (T33 s h λr h1=>∃ b2:Bool,r=.bool b2/\parB b2 (T104 p h1 λr1 h2=>∃ b3:Bool,r1=.bool b3/\parB b3 (Q (.int .i64 31) h2) (T103 p s h2 λr2 h3=>∃ p1:Option Addr,r2=.pointer p1/\okPtr h3 p1 none/\par ((p1:Option Addr)=none) (Q (.int .i64 34) h3) (T106 p 1 h3 λr3 h4=>∃ n:Int,∃ b4:Bool,parB b4 (r3=.tuple ⟨[.int .i64 n,.bool true]⟩/\Q (.int .i64 30) h4) (r3=.tuple ⟨[.int .i64 n,.bool false]⟩/\∃ b5 o1,(p:Option Addr)=some ⟨b5,o1,none⟩/\∃ l:Sl,h4.at b5 (o1+2)=some (.slice l.a l.n l.c)/\T108 l s h4 λr4 h5=>∃ l1:Sl,r4=.slice l1.a l1.n l1.c/\∃ b6 o2,(p:Option Addr)=some ⟨b6,o2,none⟩/\h5.canW b6 (o2+2) 1/\∃ b7 o3,(p:Option Addr)=some ⟨b7,o3,none⟩/\∃ l2:Sl,(h5.wr b6 (o2+2) [.slice l1.a l1.n l1.c]).at b7 (o3+4)=some (.slice l2.a l2.n l2.c)/\appendD l2 167 4 48 [.int .i64 0,.string ⟨#[]⟩,.string ⟨#[]⟩,.int .i64 0] 1 [.int .i64 3,.string s,.string ⟨#[]⟩,.int .i64 0] (h5.wr b6 (o2+2) [.slice l1.a l1.n l1.c]) λl3 h6=>∃ b8 o4,(p:Option Addr)=some ⟨b8,o4,none⟩/\h6.canW b8 (o4+4) 1/\Q (.int .i64 0) (h6.wr b8 (o4+4) [.slice l3.a l3.n l3.c]))))) (Q (.int .i64 33) h1))
def F62.T(p:Option Addr)(s:ByteArray):PT:=F62.G F33.T F103.T F104.T F106.T F108.T p s
theorem F62.gen(V:Value->List Value->PT)(T33:ByteArray->PT)(T103:Option Addr->ByteArray->PT)(T104:Option Addr->PT)(T106:Option Addr->Int->PT)(T108:Sl->ByteArray->PT)(p:Option Addr)(s:ByteArray):denF Tryz.prog [42] [(33,F33.W T33),(103,F103.W T103),(104,F104.W T104),(106,F106.W T106),(108,F108.W T108)] V F62.an Tryz.f62 [.v (.pointer p),.v (.string s)]=F62.G T33 T103 T104 T106 T108 p s:=by kernel_rfl
theorem F62.den(V:Value->List Value->PT)(p:Option Addr)(s:ByteArray):denF Tryz.prog [42] [(33,F33.V),(103,F103.V),(104,F104.V),(106,F106.V),(108,F108.V)] V F62.an Tryz.f62 [.v (.pointer p),.v (.string s)]=F62.T p s:=F62.gen V F33.T F103.T F104.T F106.T F108.T p s
def F62.W(T62:Option Addr->ByteArray->PT)(args:List Value):PT:=match args with
 |[.pointer p,.string s]=>T62 p s
 |_=>λ_ _=>False
def F62.V:List Value->PT:=F62.W F62.T
theorem F62.ok:FOk Tryz.prog 62 F62.V:=by
 refine⟨⟨_,Tryz.func62,rfl,rfl⟩,λargs=>?_⟩
 have hG:GOk Tryz.prog [(33,F33.V),(103,F103.V),(104,F104.V),(106,F106.V),(108,F108.V)]:=GOk.cons F33.ok (GOk.cons F103.ok (GOk.cons F104.ok (GOk.cons F106.ok (GOk.cons F108.ok (GOk.nil)))))
 have hV:VOk Tryz.prog noV:=noV_ok
 unfold F62.V F62.W
 split
 ·exact denF_okV hG hV Tryz.func62 (λh Q hq=>(F62.den _ _ _) ▸ hq)
 ·exact λh Q hq=>hq.elim
def F64.an:List (Nat×Ann):=[]
def F64.G(T36:Sl->PT)(T104:Option Addr->PT)(T106:Option Addr->Int->PT)(p:Option Addr):PT:=λh Q=>
 ∃ b o,(p:Option Addr)=some ⟨b,o,none⟩/\∃ b1:Bool,h.at b (o+9)=some (.bool b1)/\parB b1 (Q (.int .i64 30) h) (T104 p h λr h1=>∃ b2:Bool,r=.bool b2/\parB b2 (Q (.int .i64 31) h1) (T106 p 1 h1 λr1 h2=>∃ n:Int,∃ b3:Bool,parB b3 (r1=.tuple ⟨[.int .i64 n,.bool true]⟩/\Q (.int .i64 30) h2) (r1=.tuple ⟨[.int .i64 n,.bool false]⟩/\∃ b4 o1,(p:Option Addr)=some ⟨b4,o1,none⟩/\∃ l:Sl,h2.at b4 (o1+2)=some (.slice l.a l.n l.c)/\T36 l h2 λr2 h3=>∃ l1:Sl,r2=.slice l1.a l1.n l1.c/\∃ b5 o2,(p:Option Addr)=some ⟨b5,o2,none⟩/\h3.canW b5 (o2+3) 1/\∃ b6 o3,(p:Option Addr)=some ⟨b6,o3,none⟩/\(h3.wr b5 (o2+3) [.slice l1.a l1.n l1.c]).canW b6 (o3+4) 1/\Q (.int .i64 0) ((h3.wr b5 (o2+3) [.slice l1.a l1.n l1.c]).wr b6 (o3+4) [.slice none 0 0]))))
def F64.T(p:Option Addr):PT:=F64.G F36.T F104.T F106.T p
theorem F64.gen(V:Value->List Value->PT)(T36:Sl->PT)(T104:Option Addr->PT)(T106:Option Addr->Int->PT)(p:Option Addr):denF Tryz.prog [] [(36,F36.W T36),(104,F104.W T104),(106,F106.W T106)] V F64.an Tryz.f64 [.v (.pointer p)]=F64.G T36 T104 T106 p:=by kernel_rfl
theorem F64.den(V:Value->List Value->PT)(p:Option Addr):denF Tryz.prog [] [(36,F36.V),(104,F104.V),(106,F106.V)] V F64.an Tryz.f64 [.v (.pointer p)]=F64.T p:=F64.gen V F36.T F104.T F106.T p
def F64.W(T64:Option Addr->PT)(args:List Value):PT:=match args with
 |[.pointer p]=>T64 p
 |_=>λ_ _=>False
def F64.V:List Value->PT:=F64.W F64.T
theorem F64.ok:FOk Tryz.prog 64 F64.V:=by
 refine⟨⟨_,Tryz.func64,rfl,rfl⟩,λargs=>?_⟩
 have hG:GOk Tryz.prog [(36,F36.V),(104,F104.V),(106,F106.V)]:=GOk.cons F36.ok (GOk.cons F104.ok (GOk.cons F106.ok (GOk.nil)))
 have hV:VOk Tryz.prog noV:=noV_ok
 unfold F64.V F64.W
 split
 ·exact denF_okV hG hV Tryz.func64 (λh Q hq=>(F64.den _ _) ▸ hq)
 ·exact λh Q hq=>hq.elim
def F65.an:List (Nat×Ann):=[]
def F65.G(T33:ByteArray->PT)(T103:Option Addr->ByteArray->PT)(p:Option Addr)(s:ByteArray):PT:=λh Q=>
 ∃ b o,(p:Option Addr)=some ⟨b,o,none⟩/\∃ b1:Bool,h.at b (o+9)=some (.bool b1)/\parB b1 (Q (.tuple ⟨[.slice none 0 0,.int .i64 30]⟩) h) (T33 s h λr h1=>∃ b2:Bool,r=.bool b2/\parB b2 (T103 p s h1 λr1 h2=>∃ p1:Option Addr,r1=.pointer p1/\okPtr h2 p1 none/\par ((p1:Option Addr)=none) (Q (.tuple ⟨[.slice none 0 0,.int .i64 34]⟩) h2) (∃ b3 o1,(p1:Option Addr)=some ⟨b3,o1,none⟩/\∃ l:Sl,h2.at b3 o1=some (.slice l.a l.n l.c)/\∃ vs,h2.row l.a (l.n*1) vs/\(∀ v∈vs,Value.oneCell' v=true)/\appendD ⟨none,0,0⟩ 5 1 1 [.int .u8 0] l.n vs h2 λl1 h3=>Q (.tuple ⟨[.slice l1.a l1.n l1.c,.int .i64 0]⟩) h3)) (Q (.tuple ⟨[.slice none 0 0,.int .i64 33]⟩) h1))
def F65.T(p:Option Addr)(s:ByteArray):PT:=F65.G F33.T F103.T p s
theorem F65.gen(V:Value->List Value->PT)(T33:ByteArray->PT)(T103:Option Addr->ByteArray->PT)(p:Option Addr)(s:ByteArray):denF Tryz.prog [] [(33,F33.W T33),(103,F103.W T103)] V F65.an Tryz.f65 [.v (.pointer p),.v (.string s)]=F65.G T33 T103 p s:=by kernel_rfl
theorem F65.den(V:Value->List Value->PT)(p:Option Addr)(s:ByteArray):denF Tryz.prog [] [(33,F33.V),(103,F103.V)] V F65.an Tryz.f65 [.v (.pointer p),.v (.string s)]=F65.T p s:=F65.gen V F33.T F103.T p s
def F65.W(T65:Option Addr->ByteArray->PT)(args:List Value):PT:=match args with
 |[.pointer p,.string s]=>T65 p s
 |_=>λ_ _=>False
def F65.V:List Value->PT:=F65.W F65.T
theorem F65.ok:FOk Tryz.prog 65 F65.V:=by
 refine⟨⟨_,Tryz.func65,rfl,rfl⟩,λargs=>?_⟩
 have hG:GOk Tryz.prog [(33,F33.V),(103,F103.V)]:=GOk.cons F33.ok (GOk.cons F103.ok (GOk.nil))
 have hV:VOk Tryz.prog noV:=noV_ok
 unfold F65.V F65.W
 split
 ·exact denF_okV hG hV Tryz.func65 (λh Q hq=>(F65.den _ _ _) ▸ hq)
 ·exact λh Q hq=>hq.elim
def F69.an:List (Nat×Ann):=[]
def F69.T(p:Option Addr)(n n1 n2:Int):PT:=λh Q=>
 ∃ b o,(p:Option Addr)=some ⟨b,o,none⟩/\∃ b1:Bool,h.at b (o+9)=some (.bool b1)/\parB b1 (Q (.tuple ⟨[]⟩) h) (∃ b2 o1,(p:Option Addr)=some ⟨b2,o1,none⟩/\h.canW b2 (o1+6) 1/\∃ b3 o2,(p:Option Addr)=some ⟨b3,o2,none⟩/\(h.wr b2 (o1+6) [.int .i64 (iMax n 0)]).canW b3 (o2+7) 1/\∃ b4 o3,(p:Option Addr)=some ⟨b4,o3,none⟩/\((h.wr b2 (o1+6) [.int .i64 (iMax n 0)]).wr b3 (o2+7) [.int .i64 (iMax n1 0)]).canW b4 (o3+8) 1/\Q (.tuple ⟨[]⟩) (((h.wr b2 (o1+6) [.int .i64 (iMax n 0)]).wr b3 (o2+7) [.int .i64 (iMax n1 0)]).wr b4 (o3+8) [.int .i64 (iMax n2 0)]))
theorem F69.den(V:Value->List Value->PT)(p:Option Addr)(n n1 n2:Int):denF Tryz.prog [] [] V F69.an Tryz.f69 [.v (.pointer p),.v (.int .i64 n),.v (.int .i64 n1),.v (.int .i64 n2)]=F69.T p n n1 n2:=by kernel_rfl
def F69.W(T69:Option Addr->Int->Int->Int->PT)(args:List Value):PT:=match args with
 |[.pointer p,.int .i64 n,.int .i64 n1,.int .i64 n2]=>T69 p n n1 n2
 |_=>λ_ _=>False
def F69.V:List Value->PT:=F69.W F69.T
theorem F69.ok:FOk Tryz.prog 69 F69.V:=by
 refine⟨⟨_,Tryz.func69,rfl,rfl⟩,λargs=>?_⟩
 have hG:GOk Tryz.prog []:=GOk.nil
 have hV:VOk Tryz.prog noV:=noV_ok
 unfold F69.V F69.W
 split
 ·exact denF_okV hG hV Tryz.func69 (λh Q hq=>(F69.den _ _ _ _ _) ▸ hq)
 ·exact λh Q hq=>hq.elim
def F16.an:List (Nat×Ann):=[(58,.loop [(5,.int .i64)] []),(1864,.order [0,1,2,3,4,5,6,7,8])]
def F16.T(l l1:Sl):PT:=λh Q=>
 par ((l.n:Int)=(l1.n:Int)) (∃ (I:Int->Hp->Prop) (m:Int->Hp->Nat),I 0 h/\(∀ n:Int,∀ h1:Hp,I n h1->par (n<(l.n:Int)) (∃ b o,(l.a:Option Addr)=some ⟨b,o,none⟩/\((0:Int)<=n/\n<(l.n:Int))/\∃ n1:Int,h1.at b (o+n.toNat)=some (.int .i64 n1)/\∃ b1 o1,(l1.a:Option Addr)=some ⟨b1,o1,none⟩/\((0:Int)<=n/\n<(l1.n:Int))/\∃ n2:Int,h1.at b1 (o1+n.toNat)=some (.int .i64 n2)/\par (n1=n2) (I (wrap .i64 (n+1)) h1/\m (wrap .i64 (n+1)) h1<m n h1) (Q (.bool false) h1)) (Q (.bool true) h1))) (Q (.bool false) h)
theorem F16.den(V:Value->List Value->PT)(l l1:Sl):denF Tryz.prog [] [] V F16.an Tryz.f16 [.v (.slice l.a l.n l.c),.v (.slice l1.a l1.n l1.c)]=F16.T l l1:=by kernel_rfl
def F16.W(T16:Sl->Sl->PT)(args:List Value):PT:=match args with
 |[.slice l_a l_n l_c,.slice l1_a l1_n l1_c]=>T16 ⟨l_a,l_n,l_c⟩ ⟨l1_a,l1_n,l1_c⟩
 |_=>λ_ _=>False
def F16.V:List Value->PT:=F16.W F16.T
theorem F16.ok:FOk Tryz.prog 16 F16.V:=by
 refine⟨⟨_,Tryz.func16,rfl,rfl⟩,λargs=>?_⟩
 have hG:GOk Tryz.prog []:=GOk.nil
 have hV:VOk Tryz.prog noV:=noV_ok
 unfold F16.V F16.W
 split
 ·exact denF_okV hG hV Tryz.func16 (λh Q hq=>(F16.den _ _ _) ▸ hq)
 ·exact λh Q hq=>hq.elim
end Go.Eng.YtekflkpnpibneaaGreatDoor
end
section
open Go.Proofs
namespace Go.Eng.YtekflkpnpibneaaGreatDoor
open Go.RowKit
section
variable{P:Program}(w:World)
theorem run_equalIn_mapnil(d:Nat)(t k e:TypeId)(p:Option Nat)(h:P.underlying t=some (.map k e)) :
  (Op.equalIn (d+1) t (.map p) (.map none)).run P w=.ok p.isNone w:=by
 cases p<;>simp[Op.equalIn,run_underlying h]
theorem run_eql_mapnil(t k e:TypeId)(p:Option Nat)(h:P.underlying t=some (.map k e)) :
  (Go.binOp .eql t (.map p) (.map none)).run P w=.ok (.bool p.isNone) w:=by
 simp only[Go.binOp]
 simp[show Op.equal t (.map p) (.map none)=Op.equalIn (9999+1) t (.map p) (.map none) from rfl,run_equalIn_mapnil w 9999 t k e p h]
theorem run_typeAssert_mapv(t xT k e:TypeId)(v:Value)(h:P.underlying t=some (.map k e)):(Instr.typeAssert (.iface t v) xT t false).run P w=.ok v w:=by
 simp[Instr.typeAssert,run_underlying h,go_sem,Result.andThen]
theorem run_maps_clonev{r:Nat}{es:Array MapEntry}{clock:Nat}(t:TypeId)(hb:w.heap[r]?=some (.map es clock)) :
  (Extern.MapsClone.clone #[.iface t (.map (some r))]).run P w=.ok (.iface t (.map (some w.heap.size))) (w.alloc (.map es clock)):=by
 have e:Extern.MapsClone.clone #[.iface t (.map (some r))]=(getObj r >>= λo=>match o with
   |.map entries clock=>(newObj (.map entries clock) >>= λn=>pure (.iface t (.map (some n))))
   | _ => stuck "maps.clone: a map expected") := rfl
 rw[e]
 simp[MapKept.run_getObj_map hb,Result.andThen,go_sem]
end
set_option maxRecDepth 100000 in
set_option maxHeartbeats 4000000 in
theorem clone_some(b:Nat)(es:Array MapEntry)(clock:Nat)(w:World)(hb:w.heap[b]?=some (.map es clock)) :
  Calls Tryz.prog 32 #[.map (some b)] w λe w'=>e=.returned (.map (some w.heap.size))/\w'=w.alloc (.map es clock):=by
 have hq:=λw=>run_eql_mapnil (P:=Tryz.prog) w 86 _ _ (some b) Tryz.underlying86
 go_enter Tryz.func32,Tryz.ntmps32
 go_wp2
 rw[run_callFunc_extern Tryz.func101 (by kernel_rfl) (by kernel_rfl) (by kernel_rfl) (e:=Extern.MapsClone.clone) (by kernel_rfl),run_maps_clonev w 86 hb]
 simp only[Result.andThen]
 rw[Oper.upon_value]
 go_wp2
 rw[run_typeAssert_mapv _ 86 20 _ _ _ Tryz.underlying86]
 simp only[Result.andThen]
 rw[Oper.upon_value]
 go_wp2
 go_ret
 exact⟨rfl,rfl⟩
set_option maxRecDepth 100000 in
set_option maxHeartbeats 4000000 in
theorem clone_none(w:World):Calls Tryz.prog 32 #[.map none] w λe w'=>e=.returned (.map none)/\w'=w:=by
 have hq:=λw=>run_eql_mapnil (P:=Tryz.prog) w 86 _ _ none Tryz.underlying86
 go_enter Tryz.func32,Tryz.ntmps32
 go_wp2
 go_ret
 exact⟨rfl,rfl⟩
def F32.T(m:Option Nat):PT:=λh Q=>(m=none->Q (.map none) h)/\∀ b,m=some b->∃ es c,h b=some (.map es c)/\∀ b1,h b1=none->Q (.map (some b1)) (h.new b1 (.map es c))
def F32.W(T32:Option Nat->PT)(args:List Value):PT:=match args with
 |[.map m]=>T32 m
 |_=>λ_ _=>False
def F32.V:List Value->PT:=F32.W F32.T
theorem F32.ok:FOk Tryz.prog 32 F32.V:=by
 refine⟨⟨_,Tryz.func32,rfl,rfl⟩,λargs=>?_⟩
 unfold F32.V F32.W
 split
 ·next m=>
  rintro h Q ⟨h0,h1⟩ fr w ho
  cases m with
  |none=>
   refine(clone_none w).mono ?_
   rintro e w' ⟨rfl,rfl⟩
   exact⟨_,h,rfl,ho,Wr.refl _,h0 rfl⟩
  |some b=>
   obtain⟨es,c,hb,hQ⟩:=h1 b rfl
   refine(clone_some b es c w (ho.hh _ _ hb)).mono ?_
   rintro e w' ⟨rfl,rfl⟩
   have hgn:∀ o,w.heap[w.heap.size]?≠some o:=λo e=>by rw[Array.getElem?_eq_none (Nat.le_refl _)] at e;cases e
   have hgh:h w.heap.size=none:=by
    cases e:h w.heap.size with
    |none=>rfl
    |some o=>exact absurd (ho.hh _ _ e) (hgn o)
   have hgf:fr w.heap.size=none:=by
    cases e:fr w.heap.size with
    |none=>rfl
    |some o=>exact absurd (ho.ff _ _ e) (hgn o)
   have old:∀ k o,w.heap[k]?=some o->(w.alloc (.map es c)).heap[k]?=some o:=λk o e=>by
    have hk:k<w.heap.size:=by
     rcases Nat.lt_or_ge k w.heap.size with h|h
     ·exact h
     ·rw[Array.getElem?_eq_none h] at e;cases e
    show(w.heap.push _)[k]?=_
    rw[Array.getElem?_push_lt hk,<- e,Array.getElem?_eq_getElem hk]
   refine⟨_,_,rfl,⟨λk o e=>?_,λk o e=>old _ _ (ho.ff _ _ e),λk=>?_⟩,⟨rfl,rfl,rfl,by show w.heap.size<=(w.heap.push _).size;rw[Array.size_push];omega⟩,hQ w.heap.size hgh⟩
   ·by_cases hk:k=w.heap.size
    ·subst hk;rw[new_at] at e;cases e
     show(w.heap.push _)[w.heap.size]?=_
     rw[Array.getElem?_push_size]
    ·rw[new_ne _ _ hk] at e;exact old _ _ (ho.hh _ _ e)
   ·by_cases hk:k=w.heap.size
    ·subst hk;exact .inr hgf
    ·rw[new_ne _ _ hk];exact ho.dj k
 ·exact λh Q hq=>hq.elim
end Go.Eng.YtekflkpnpibneaaGreatDoor
end
section
namespace Go.Proofs
open Go.Shelf
def Tryz.keys69_ren:Go.Shelf.Ren:=⟨λ| 7=>131|10=>138|n=>n,λ| 23=>86|26=>9|3=>93|28=>190|0=>0|27=>189|33=>92|4=>4|n=>n,λ| n=>n⟩
theorem Tryz.keys69:Go.Proofs.SlLaysZ.n7 Tryz.prog Tryz.keys69_ren:={
 mixed:=by kernel_rfl
 f7:=⟨Tryz.f131.name,by decide,Tryz.func131.trans (congrArg some (by kernel_rfl))⟩
 f10:=⟨Tryz.f138.name,by decide,Tryz.func138.trans (congrArg some (by kernel_rfl))⟩
 t0:=Tryz.underlying0
 a0:=Tryz.isAgg0
 z0:=Tryz.sizeOf0
 v0:=Tryz.zeroValue0
 t4:=Tryz.underlying4
 a4:=Tryz.isAgg4
 z4:=Tryz.sizeOf4
 v4:=Tryz.zeroValue4
 t23:=Tryz.underlying86
 a23:=Tryz.isAgg86
 z23:=Tryz.sizeOf86
 v23:=Tryz.zeroValue86
 t26:=Tryz.underlying9
 a26:=Tryz.isAgg9
 z26:=Tryz.sizeOf9
 v26:=Tryz.zeroValue9
 t27:=Tryz.underlying189
 a27:=Tryz.isAgg189
 z27:=Tryz.sizeOf189
 v27:=Tryz.zeroValue189
 t28:=Tryz.underlying190
 a28:=Tryz.isAgg190
 z28:=Tryz.sizeOf190
 v28:=Tryz.zeroValue190
 t33:=Tryz.underlying92
 a33:=Tryz.isAgg92
 z33:=Tryz.sizeOf92
 v33:=Tryz.zeroValue92 }
def Tryz.sorted68_ren:Go.Shelf.Ren:=⟨λ| 6=>130|8=>136|9=>137|11=>177|13=>179|12=>178|23=>190|24=>191|14=>181|15=>182|16=>183|17=>184|18=>185|19=>186|20=>187|21=>188|22=>189|25=>193|26=>194|27=>195|28=>196|29=>197|30=>198|31=>200|n=>n,λ| 26=>9|28=>190|24=>139|0=>0|3=>3|37=>203|48=>213|50=>138|4=>4|40=>206|39=>205|45=>102|5=>5|9=>9|51=>215|55=>219|57=>222|58=>223|33=>92|n=>n,λ| n=>n⟩
theorem Tryz.sorted68:Go.Proofs.SlLaysZ.n6 Tryz.prog Tryz.sorted68_ren:={
 mixed:=by kernel_rfl
 f6:=⟨Tryz.f130.name,by decide,Tryz.func130.trans (congrArg some (by kernel_rfl))⟩
 f8:=⟨Tryz.f136.name,by decide,Tryz.func136.trans (congrArg some (by kernel_rfl))⟩
 f11:=⟨Tryz.f177.name,by decide,Tryz.func177.trans (congrArg some (by kernel_rfl))⟩
 t0:=Tryz.underlying0
 a0:=Tryz.isAgg0
 z0:=Tryz.sizeOf0
 v0:=Tryz.zeroValue0
 t24:=Tryz.underlying139
 a24:=Tryz.isAgg139
 z24:=Tryz.sizeOf139
 v24:=Tryz.zeroValue139
 t26:=Tryz.underlying9
 a26:=Tryz.isAgg9
 z26:=Tryz.sizeOf9
 v26:=Tryz.zeroValue9
 t28:=Tryz.underlying190
 a28:=Tryz.isAgg190
 z28:=Tryz.sizeOf190
 v28:=Tryz.zeroValue190
 i26:=by kernel_rfl }
def Tryz.sort74_ren:Go.Shelf.Ren:=⟨λ| 6=>137|8=>179|9=>178|19=>190|20=>191|21=>181|22=>182|23=>183|24=>184|25=>185|26=>186|27=>187|28=>188|29=>189|36=>193|31=>194|32=>195|37=>196|38=>197|39=>198|41=>200|n=>n,λ| 27=>139|29=>9|3=>3|32=>203|26=>139|0=>0|44=>213|46=>138|4=>4|36=>206|35=>205|41=>102|5=>5|9=>9|53=>215|57=>219|63=>222|64=>223|n=>n,λ| n=>n⟩
theorem Tryz.sort74:Go.Proofs.SlLaysM.n6 Tryz.prog Tryz.sort74_ren:={
 mixed:=by kernel_rfl
 f6:=⟨Tryz.f137.name,by decide,Tryz.func137.trans (congrArg some (by kernel_rfl))⟩
 f8:=Tryz.func179.trans (congrArg some (by kernel_rfl))
 f9:=⟨Tryz.f178.name,by decide,Tryz.func178.trans (congrArg some (by kernel_rfl))⟩
 f19:=Tryz.func190.trans (congrArg some (by kernel_rfl))
 f20:=Tryz.func191.trans (congrArg some (by kernel_rfl))
 f21:=⟨Tryz.f181.name,by decide,Tryz.func181.trans (congrArg some (by kernel_rfl))⟩
 f22:=⟨Tryz.f182.name,by decide,Tryz.func182.trans (congrArg some (by kernel_rfl))⟩
 f23:=⟨Tryz.f183.name,by decide,Tryz.func183.trans (congrArg some (by kernel_rfl))⟩
 f24:=⟨Tryz.f184.name,by decide,Tryz.func184.trans (congrArg some (by kernel_rfl))⟩
 f25:=⟨Tryz.f185.name,by decide,Tryz.func185.trans (congrArg some (by kernel_rfl))⟩
 f26:=⟨Tryz.f186.name,by decide,Tryz.func186.trans (congrArg some (by kernel_rfl))⟩
 f27:=⟨Tryz.f187.name,by decide,Tryz.func187.trans (congrArg some (by kernel_rfl))⟩
 f28:=⟨Tryz.f188.name,by decide,Tryz.func188.trans (congrArg some (by kernel_rfl))⟩
 f29:=⟨Tryz.f189.name,by decide,Tryz.func189.trans (congrArg some (by kernel_rfl))⟩
 f31:=Tryz.func194.trans (congrArg some (by kernel_rfl))
 f32:=Tryz.func195.trans (congrArg some (by kernel_rfl))
 f36:=⟨Tryz.f193.name,by decide,Tryz.func193.trans (congrArg some (by kernel_rfl))⟩
 f37:=⟨Tryz.f196.name,by decide,Tryz.func196.trans (congrArg some (by kernel_rfl))⟩
 f38:=⟨Tryz.f197.name,by decide,Tryz.func197.trans (congrArg some (by kernel_rfl))⟩
 f39:=⟨Tryz.f198.name,by decide,Tryz.func198.trans (congrArg some (by kernel_rfl))⟩
 f41:=⟨Tryz.f200.name,by decide,Tryz.func200.trans (congrArg some (by kernel_rfl))⟩
 t0:=Tryz.underlying0
 a0:=Tryz.isAgg0
 z0:=Tryz.sizeOf0
 v0:=Tryz.zeroValue0
 t3:=Tryz.underlying3
 a3:=Tryz.isAgg3
 z3:=Tryz.sizeOf3
 v3:=Tryz.zeroValue3
 t4:=Tryz.underlying4
 a4:=Tryz.isAgg4
 z4:=Tryz.sizeOf4
 v4:=Tryz.zeroValue4
 t5:=Tryz.underlying5
 a5:=Tryz.isAgg5
 z5:=Tryz.sizeOf5
 v5:=Tryz.zeroValue5
 t9:=Tryz.underlying9
 a9:=Tryz.isAgg9
 z9:=Tryz.sizeOf9
 v9:=Tryz.zeroValue9
 t26:=Tryz.underlying139
 a26:=Tryz.isAgg139
 z26:=Tryz.sizeOf139
 v26:=Tryz.zeroValue139
 t27:=Tryz.underlying139
 a27:=Tryz.isAgg139
 z27:=Tryz.sizeOf139
 v27:=Tryz.zeroValue139
 t29:=Tryz.underlying9
 a29:=Tryz.isAgg9
 z29:=Tryz.sizeOf9
 v29:=Tryz.zeroValue9
 t32:=Tryz.underlying203
 a32:=Tryz.isAgg203
 z32:=Tryz.sizeOf203
 v32:=Tryz.zeroValue203
 t35:=Tryz.underlying205
 a35:=Tryz.isAgg205
 z35:=Tryz.sizeOf205
 v35:=Tryz.zeroValue205
 t36:=Tryz.underlying206
 a36:=Tryz.isAgg206
 z36:=Tryz.sizeOf206
 v36:=Tryz.zeroValue206
 t41:=Tryz.underlying102
 a41:=Tryz.isAgg102
 z41:=Tryz.sizeOf102
 v41:=Tryz.zeroValue102
 t44:=Tryz.underlying213
 a44:=Tryz.isAgg213
 z44:=Tryz.sizeOf213
 v44:=Tryz.zeroValue213
 t46:=Tryz.underlying138
 a46:=Tryz.isAgg138
 z46:=Tryz.sizeOf138
 v46:=Tryz.zeroValue138
 t53:=Tryz.underlying215
 a53:=Tryz.isAgg215
 z53:=Tryz.sizeOf215
 v53:=Tryz.zeroValue215
 t57:=Tryz.underlying219
 a57:=Tryz.isAgg219
 z57:=Tryz.sizeOf219
 v57:=Tryz.zeroValue219
 t63:=Tryz.underlying222
 a63:=Tryz.isAgg222
 z63:=Tryz.sizeOf222
 v63:=Tryz.zeroValue222
 t64:=Tryz.underlying223
 a64:=Tryz.isAgg223
 z64:=Tryz.sizeOf223
 v64:=Tryz.zeroValue223 }
end Go.Proofs
end
section
open Go.Proofs
namespace Go.Eng.YtekflkpnpibneaaGreatDoor
open Go.Shelf Go.Maps Go.Sort Go.RowKit Go.WideElems Go.MapKept
theorem sorts68 (m : Nat) : AnyZ.SortsIn Tryz.prog Tryz.sorted68_ren Fence.wide m :=
  ⟨fun blk off cap ss W hH hblk hsz => callsIn_wide.2 (AnyM.slices_Sort_string Tryz.sort74 blk off cap ss W hH hblk hsz),
   fun p cap W => callsIn_wide.2 (AnyM.slices_Sort_string_none Tryz.sort74 p cap W)⟩
structure SKeys(es:Array MapEntry)(c:Nat)(ks:List ByteArray):Prop where
 st:Stamped es c
 eq:es.toList.map (·.key)=ks.map Value.string
 ok:∀ k∈ks,k.size<=9223372036854775807
def F130.T(v:Value):PT:=λh Q=>∃ (b mb:Nat) (es:Array MapEntry) (c:Nat) (ks:List ByteArray),v=.func (.func 138) ⟨[]⟩ ⟨[.pointer (some ⟨b,0,none⟩)]⟩/\h b=some (.cells ⟨[.map (some mb)]⟩ 86 (0,0))/\h mb=some (.map es c)/\SKeys es c ks/\ks.length<=1000000000 /\
 ∀ (h':Hp) (s:Sl) (us:List ByteArray),Keep h h'->Buf h' s 1 9 (us.map Value.string)->NewN h s->us.Perm ks->us.Pairwise (λa b=>Le a b)->Q (.slice s.a s.n s.c) h'
def F130.W(T130:Value->PT)(args:List Value):PT:=match args with
 |[v]=>T130 v
 |_=>λ_ _=>False
def F130.V:List Value->PT:=F130.W F130.T
theorem F130.ok:FOk Tryz.prog 130 F130.V:=by
 refine⟨⟨_,Tryz.func130,rfl,rfl⟩,λargs=>?_⟩
 unfold F130.V F130.W
 split
 ·rintro h Q ⟨b,mb,es,c,ks,rfl,hb,hm,K,hn,hQ⟩ fr w ho
  have hB:=ho.hh _ _ hb
  have hM:=ho.hh _ _ hm
  have hBl:b<w.heap.size:=by
   rcases Nat.lt_or_ge b w.heap.size with h|h
   ·exact h
   ·rw[Array.getElem?_eq_none h] at hB;cases hB
  have hlen:es.size=ks.length:=by have:=congrArg List.length K.eq;simpa using this
  let R:Value->Option (DataW Unit×List MemPlace):=λ_=>some (.lit (.bool true),[])
  have ft:WideElems.Fit Tryz.prog 9 R es c:=⟨by unfold maxLen;omega,K.st,λx hx=>by
   have h1:x.key∈ks.map Value.string:=by rw[<- K.eq];exact List.mem_map_of_mem hx
   obtain⟨s,hs,he⟩:=List.mem_map.1 h1
   have h2:=K.ok s hs
   refine⟨(.string s.data.toList,.lit (.bool true)),?_⟩
   unfold WideElems.rd
   rw[<- he]
   simp[keyOf,mapKey,Tryz.underlying9,R,maxLen,h2]⟩
  have hown:w.ownsMap Tryz.prog 9 R mb es.size (.map ((es.toList.map (rg Tryz.prog 9 R)).foldr DataW.insert [])):=⟨es,c,hM,ft,Nat.le_refl _,rfl⟩
  have hsz:Maps.size (.map ((es.toList.map (rg Tryz.prog 9 R)).foldr DataW.insert []))=ks.length:=by
   rw[Maps.size_eq,(WideShapes.sorted_perm _).length_eq,length_map,Array.length_toList,hlen]
  have hcell:w.cell? ⟨b,0,none⟩=some (.map (some mb)):=by
   unfold World.cell?
   rw[hB];rfl
  have hseq:=AnyZ.keys_gives (ρ:=Tryz.keys69_ren) { Tryz.keys69 with } Fence.wide 2 trivial rfl (by omega) b mb es.size _ w hBl hcell hown
  have hsk:(strKeys (.map ((es.toList.map (rg Tryz.prog 9 R)).foldr DataW.insert []))).Perm (ks.map λs=>s.data.toList):=by
   have h1:strKeys (.map ((es.toList.map (rg Tryz.prog 9 R)).foldr DataW.insert []))=((es.toList.map (rg Tryz.prog 9 R)).foldr DataW.insert []).map λp=>strOf p.1:=rfl
   rw[h1]
   refine((WideShapes.sorted_perm _).map _).trans ?_
   rw[List.map_map]
   have h2:es.toList.map ((λp=>strOf p.1) ∘ rg Tryz.prog 9 R)=ks.map λs=>s.data.toList:=by
    have h3:ks.map (λs=>s.data.toList)=(ks.map Value.string).map λv=>match v with|.string s=>s.data.toList|_=>[]:=by rw[List.map_map];rfl
    rw[h3,<- K.eq,List.map_map]
    refine List.map_congr_left λx hx=>?_
    have h4:x.key∈ks.map Value.string:=by rw[<- K.eq];exact List.mem_map_of_mem hx
    obtain⟨s,hs,he⟩:=List.mem_map.1 h4
    have h5:=K.ok s hs
    simp only[Function.comp]
    unfold WideElems.rg WideElems.rd
    rw[<- he]
    simp[keyOf,mapKey,Tryz.underlying9,R,maxLen,h5,strOf]
   rw[h2]
  have hcall:=AnyZ.sorted_in Tryz.sorted68 Fence.wide 5 trivial trivial trivial trivial rfl (by omega) (sorts68 _) (enters_of Tryz.func137 (by kernel_rfl) rfl) 138 #[.pointer (some ⟨b,0,none⟩)] trivial (enters_of Tryz.func138 (by kernel_rfl) rfl) _ _ (by rw[hsz];unfold maxLen;omega) (by rw[hsz];omega) w hseq
  refine(callsIn_wide.1 hcall).mono ?_
  rintro e w' ⟨v,ss,rfl,hS,hrow,hnil,hB'⟩
  have hp:ss.Perm (ks.map λs=>s.data.toList):=hS.trans hsk
  have hW:Wr w w':=⟨hB'.os,hB'.tape,hB'.output,hB'.size⟩
  have old:∀ k o,w.heap[k]?=some o->w'.heap[k]?=some o:=λk o e=>by
   have hk:k<w.heap.size:=by
    rcases Nat.lt_or_ge k w.heap.size with h|h
    ·exact h
    ·rw[Array.getElem?_eq_none h] at e;cases e
   rw[hB'.block k hk];exact e
  let srt:=ss.mergeSort (λx y=>decide (x<=y))
  let us:List ByteArray:=srt.map λl=>⟨l.toArray⟩
  have hus:srt.map encStr=us.map Value.string:=by
   show _=(srt.map _).map _
   rw[List.map_map];rfl
  have hup:us.Perm ks:=by
   have h1:srt.Perm (ks.map λs=>s.data.toList):=(List.mergeSort_perm _ _).trans hp
   have h2:=h1.map λl:List UInt8=>(⟨l.toArray⟩:ByteArray)
   rw[List.map_map] at h2
   have h3:ks.map ((λl:List UInt8=>(⟨l.toArray⟩:ByteArray)) ∘ λs=>s.data.toList)=ks:=by
    refine(List.map_congr_left λs _=>?_).trans (List.map_id ks)
    show(⟨s.data.toList.toArray⟩:ByteArray)=s
    rw[Array.toArray_toList]
   rw[h3] at h2
   exact h2
  have hsorted:us.Pairwise λa b=>Le a b:=by
   refine List.pairwise_map.2 ?_
   have:=List.pairwise_mergeSort (le:=λx y:List UInt8=>decide (x<=y)) (λa b c h1 h2=>by simp only[decide_eq_true_eq] at *;exact List.le_trans h1 h2) (λa b=>by simp only[Bool.or_eq_true,decide_eq_true_eq];exact List.le_total a b) ss
   refine this.imp λ{a b} hab=>?_
   rw[<- le_bl]
   simpa using hab
  have hul:us.length=ss.length:=by show(srt.map _).length=_;rw[length_map];exact(List.mergeSort_perm _ _).length_eq
  rcases hrow with⟨hxl,⟨rfl,hn0⟩|⟨g,cap,cur,rfl,hg,hcur,hc1,hc2,hc3,hc4⟩⟩
  ·have hu0:us=[]:=List.eq_nil_of_length_eq_zero (by omega)
   refine⟨_,h,rfl,⟨λk o e=>old _ _ (ho.hh _ _ e),λk o e=>old _ _ (ho.ff _ _ e),ho.dj⟩,hW,hQ h ⟨none,0,0⟩ us (Keep.refl h) ?_ (.inl rfl) hup hsorted⟩
   rw[hu0];exact Buf.nil _ _ _
  ·have hgn:∀ o,w.heap[g]?≠some o:=λo e=>by rw[Array.getElem?_eq_none hg] at e;cases e
   have hgh:h g=none:=by
    cases e:h g with
    |none=>rfl
    |some o=>exact absurd (ho.hh _ _ e) (hgn o)
   have hgf:fr g=none:=by
    cases e:fr g with
    |none=>rfl
    |some o=>exact absurd (ho.ff _ _ e) (hgn o)
   refine⟨_,h.new g (.cells cur 9 (0,0)),rfl,⟨λk o e=>?_,λk o e=>old _ _ (ho.ff _ _ e),λk=>?_⟩,hW,hQ _ ⟨some ⟨g,0,none⟩,ss.length,cap⟩ us (Keep.new hgh _) ?_ (.inr ⟨g,rfl,hgh⟩) hup hsorted⟩
   ·by_cases hk:k=g
    ·subst hk;rw[new_at] at e;cases e;exact hcur
    ·rw[new_ne _ _ hk] at e;exact old _ _ (ho.hh _ _ e)
   ·by_cases hk:k=g
    ·subst hk;exact .inr hgf
    ·rw[new_ne _ _ hk];exact ho.dj k
   ·refine⟨by rw[length_map,hul,Nat.mul_one],hc1,.inr ⟨g,cur,(0,0),rfl,new_at _ _ _,by dsimp only;omega,λj _=>by simp,?_⟩⟩
    rw[length_map,hul,<- hus]
    rw[Nat.mul_one] at hc4
    exact hc4
 ·exact λh Q hq=>hq.elim
end Go.Eng.YtekflkpnpibneaaGreatDoor
end
