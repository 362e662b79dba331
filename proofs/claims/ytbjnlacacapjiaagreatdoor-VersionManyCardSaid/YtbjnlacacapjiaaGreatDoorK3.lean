/-
  JOINED.
-/
import Derived.Test.YtbjnlacacapjiaaGreatDoorK2
import Derived.Test.YtbjnlacacapjiaaGreatDoorProg
import Derived.Lib.Bytealg
set_option linter.unusedSimpArgs false
set_option linter.unusedVariables false
set_option maxRecDepth 100000
open Go.IntKind (wrap)
open List (mem_singleton)
section
namespace Go.Eng
def hun(a b:Hp):Hp:=λk=>match a k with|some x=>some x|none=>b k
def Dj(a b:Hp):Prop:=∀ k,a k=none\/b k=none
theorem hun_l{a b:Hp}{k:Nat}{x:Obj}(e:a k=some x):hun a b k=some x:=by unfold hun;rw[e]
theorem hun_r{a b:Hp}{k:Nat}(e:a k=none):hun a b k=b k:=by unfold hun;rw[e]
def Fr(T:PT):PT:=λh Q=>∃ h1 f Q1,Dj h1 f/\h=hun h1 f/\T h1 Q1/\∀ v h1',Dj h1' f->Q1 v h1'->Q v (hun h1' f)
theorem Impl.fr{P:Program}{f:Nat}{args:List Value}{T:PT}(I:Impl P f args T):Impl P f args (Fr T):=by
 rintro h Q ⟨h1,f1,Q1,dj,rfl,hT,hQ⟩ fr w O
 have O1:Own (hun f1 fr) h1 w:=by
  refine⟨λb o e=>O.hh b o (hun_l e),λb o e=>?_,λb=>?_⟩
  ·cases h2:f1 b with
   |some x=>
    rw[hun_l h2] at e;cases e
    refine O.hh b _ ?_
    rw[hun_r ((dj b).resolve_right (by rw[h2];simp)),h2]
   |none=>rw[hun_r h2] at e;exact O.ff b o e
  ·rcases dj b with h2|h2
   ·exact .inl h2
   ·rcases O.dj b with h3|h3
    ·left
     cases h4:h1 b with
     |none=>rfl
     |some x=>rw[hun_l h4] at h3;cases h3
    ·right;rw[hun_r h2];exact h3
 refine(I h1 _ hT (hun f1 fr) w O1).mono ?_
 rintro e w' ⟨v,h1',rfl,O',W,hq⟩
 have dj':Dj h1' f1:=λk=>by
  rcases O'.dj k with h2|h2
  ·exact .inl h2
  ·right
   cases h4:f1 k with
   |none=>rfl
   |some x=>rw[hun_l h4] at h2;cases h2
 refine⟨v,hun h1' f1,rfl,⟨λb o e=>?_,λb o e=>?_,λb=>?_⟩,W,hQ _ _ dj' hq⟩
 ·cases h2:h1' b with
  |some x=>rw[hun_l h2] at e;cases e;exact O'.hh b _ h2
  |none=>rw[hun_r h2] at e;exact O'.ff b o (hun_l e)
 ·cases h2:f1 b with
  |none=>exact O'.ff b o (by rw[hun_r h2];exact e)
  |some x=>
   rcases O.dj b with h3|h3
   ·cases h4:h1 b with
    |none=>rw[hun_r h4,h2] at h3;cases h3
    |some y=>rw[hun_l h4] at h3;cases h3
   ·rw[e] at h3;cases h3
 ·rcases O.dj b with h3|h3
  ·rcases O'.dj b with h2|h2
   ·left;rw[hun_r h2]
    cases h4:h1 b with
    |none=>rw[hun_r h4] at h3;exact h3
    |some y=>rw[hun_l h4] at h3;cases h3
   ·right
    cases h4:f1 b with
    |none=>rw[hun_r h4] at h2;exact h2
    |some x=>rw[hun_l h4] at h2;cases h2
  ·exact .inr h3
abbrev Lb:=Nat->Nat
def on(h:Hp)(z:Lb)(i:Nat):Hp:=λb=>if z b=i then h b else none
def off(h:Hp)(z:Lb)(i:Nat):Hp:=λb=>if z b=i then none else h b
def lab(h:Hp)(z:Lb)(i:Nat):Lb:=λb=>match h b with|none=>i|some _=>z b
def rl(z:Lb)(b i:Nat):Lb:=λk=>if k=b then i else z k
def emp:Hp:=λ_=>none
section
variable{h h':Hp}{z:Lb}{i j b:Nat}{x:Obj}
theorem on_i(e:z b=i):on h z i b=h b:=if_pos e
theorem on_n(e:z b≠i):on h z i b=none:=if_neg e
theorem off_i(e:z b=i):off h z i b=none:=if_pos e
theorem off_n(e:z b≠i):off h z i b=h b:=if_neg e
theorem on_s(e:on h z i b=some x):z b=i/\h b=some x:=by
 by_cases hz:z b=i
 ·rw[on_i hz] at e;exact⟨hz,e⟩
 ·rw[on_n hz] at e;cases e
theorem off_s(e:off h z i b=some x):z b≠i/\h b=some x:=by
 by_cases hz:z b=i
 ·rw[off_i hz] at e;cases e
 ·rw[off_n hz] at e;exact⟨hz,e⟩
theorem on_k:Keep (on h z i) h:=λ_ _ e=>(on_s e).2
theorem off_k:Keep (off h z i) h:=λ_ _ e=>(off_s e).2
theorem lab_n(e:h b=none):lab h z i b=i:=by unfold lab;rw[e]
theorem lab_s(e:h b=some x):lab h z i b=z b:=by unfold lab;rw[e]
theorem hun_on:hun (on h z i) (off h z i)=h:=by
 funext k
 by_cases hz:z k=i
 ·cases e:h k with
  |some y=>exact hun_l (by rw[on_i hz,e])
  |none=>rw[hun_r (by rw[on_i hz,e]),off_i hz]
 ·rw[hun_r (on_n hz),off_n hz]
theorem dj_on:Dj (on h z i) (off h z i):=λk=>by
 by_cases hz:z k=i
 ·exact .inr (off_i hz)
 ·exact .inl (on_n hz)
theorem on_lab(K:Keep (off h z i) h')(hj:j≠i):on h' (lab h z i) j=on h z j:=by
 funext k
 cases e:h k with
 |none=>
  rw[on_n (by rw[lab_n e];exact Ne.symm hj)]
  by_cases hz:z k=j
  ·rw[on_i hz,e]
  ·rw[on_n hz]
 |some y=>
  by_cases hz:z k=j
  ·rw[on_i (by rw[lab_s e];exact hz),on_i hz,e]
   exact K k y (by rw[off_n (by rw[hz];exact hj)];exact e)
  ·rw[on_n (by rw[lab_s e];exact hz),on_n hz]
theorem on_rl(hj:j≠i)(hb:z b≠j):on h (rl z b i) j=on h z j:=by
 funext k
 by_cases e:k=b
 ·subst e
  rw[on_n hb,on_n (by unfold rl;rw[if_pos rfl];exact Ne.symm hj)]
 ·have er:rl z b i k=z k:=by unfold rl;rw[if_neg e]
  by_cases hz:z k=j
  ·rw[on_i hz,on_i (by rw[er];exact hz)]
  ·rw[on_n hz,on_n (by rw[er];exact hz)]
theorem Fr.part{T:PT}{Q:Value->Hp->Prop}(h:Hp)(z:Lb)(i:Nat)(Q1:Value->Hp->Prop)(hT:T (on h z i) Q1)(hQ:∀ v h',Keep (off h z i) h'->Q1 v (on h' (lab h z i) i)->Q v h'):Fr T h Q:=by
 refine⟨on h z i,off h z i,Q1,dj_on,hun_on.symm,hT,λv h1 dj hq=>hQ v _ (λk x e=>?_) ?_⟩
 ·rw[hun_r ((dj k).resolve_right (by rw[e];simp)),e]
 ·have e:on (hun h1 (off h z i)) (lab h z i) i=h1:=by
   funext k
   cases e1:h1 k with
   |some y=>
    have o:=(dj k).resolve_left (by rw[e1];simp)
    have hl:lab h z i k=i:=by
     cases e2:h k with
     |none=>exact lab_n e2
     |some w=>
      rw[lab_s e2]
      apply Classical.byContradiction
      intro hne
      rw[off_n hne,e2] at o;cases o
    rw[on_i hl,hun_l e1]
   |none=>
    by_cases hl:lab h z i k=i
    ·rw[on_i hl,hun_r e1]
     cases e2:h k with
     |none=>unfold off;split<;>simp[e2]
     |some w=>rw[lab_s e2] at hl;exact off_i hl
    ·exact on_n hl
  rw[e];exact hq
end
end Go.Eng
end
section
namespace Go.Eng
def kd:Obj->Nat
 |.cells _ t _=>t+2
 |.map _ _=>0
 |_=>1
structure Ck(κ:List Nat)(h h':Hp):Prop where
 keep:∀ k x,h k=some x->kd x∉κ->h' k=some x
 dom:∀ k,h' k=none->h k=none
theorem Ck.refl(κ:List Nat)(h:Hp):Ck κ h h:=⟨λ_ _ e _=>e,λ_ e=>e⟩
theorem Ck.trans{κ:List Nat}{a b c:Hp}(x:Ck κ a b)(y:Ck κ b c):Ck κ a c:=⟨λk o e n=>y.keep k o (x.keep k o e n) n,λk e=>x.dom k (y.dom k e)⟩
theorem Ck.mono{κ μ:List Nat}{a b:Hp}(x:Ck κ a b)(h:∀ i∈κ,i∈μ):Ck μ a b:=⟨λk o e n=>x.keep k o e (λm=>n (h _ m)),x.dom⟩
theorem Ck.of_keep{κ:List Nat}{a b:Hp}(k:Keep a b):Ck κ a b:=⟨λi x e _=>k i x e,k.dom⟩
theorem Ck.of_upd{h h':Hp}{s s':Sl}{sz t:Nat}{vs:List Value}(B:Buf h s sz t vs)(U:Upd h h' s s'):Ck [t+2] h h':=by
 refine⟨λk x e n=>U.keep k x (λo hs=>?_) e,U.dom⟩
 rcases B.own with⟨ha,_⟩|⟨b,c,f,ha,hb,_⟩
 ·rw[ha] at hs;cases hs
 ·rw[ha] at hs
  simp only[Option.some.injEq,Addr.mk.injEq] at hs
  rw[hs.1,e] at hb
  cases hb
  exact n (mem_singleton.2 rfl)
theorem Ck.put{h:Hp}{b:Nat}{x o:Obj}(hb:h b=some x):Ck [kd x] h (h.new b o):=by
 refine⟨λk y e n=>?_,λk e=>?_⟩
 ·unfold Hp.new
  by_cases hk:k=b
  ·subst hk;rw[hb] at e;cases e;exact absurd (mem_singleton.2 rfl) n
  ·rw[if_neg hk];exact e
 ·unfold Hp.new at e
  by_cases hk:k=b
  ·rw[if_pos hk] at e;cases e
  ·rw[if_neg hk] at e;exact e
theorem Ck.wr{h:Hp}{b o t:Nat}{c:Array Value}{f:Nat×Nat}{vs:List Value}(hb:h b=some (.cells c t f)):Ck [t+2] h (h.wr b o vs):=by
 have e:h.wr b o vs=h.new b (.cells (setL c.toList o vs).toArray t f):=by
  funext k
  unfold Hp.wr Hp.new
  by_cases hk:k=b
  ·rw[if_pos hk,if_pos hk,hb]
  ·rw[if_neg hk,if_neg hk]
 rw[e]
 exact Ck.put hb
theorem Ck.buf{κ:List Nat}{h h':Hp}(C:Ck κ h h'){s:Sl}{sz t:Nat}{vs:List Value}(ht:t+2∉κ)(B:Buf h s sz t vs):Buf h' s sz t vs:=by
 refine⟨B.len,B.cap,B.own.imp id ?_⟩
 rintro⟨b,c,f,h1,h2,h3,h4,h5⟩
 exact⟨b,c,f,h1,C.keep b _ h2 ht,h3,h4,h5⟩
theorem Ck.at{κ:List Nat}{h h':Hp}(C:Ck κ h h'){b o t:Nat}{c:Array Value}{f:Nat×Nat}(hb:h b=some (.cells c t f))(ht:t+2∉κ):h'.at b o=c[o]?:=by
 unfold Hp.at;rw[C.keep b _ hb ht]
theorem at_of{h:Hp}{b t:Nat}{c:Array Value}{f:Nat×Nat}(hb:h b=some (.cells c t f))(o:Nat):h.at b o=c[o]?:=by
 unfold Hp.at;rw[hb]
theorem new_wr(h:Hp)(b t:Nat)(c:Array Value)(f:Nat×Nat)(o:Nat)(vs:List Value):(h.new b (.cells c t f)).wr b o vs=h.new b (.cells (setL c.toList o vs).toArray t f):=by
 funext k
 unfold Hp.wr Hp.new
 by_cases hk:k=b
 ·rw[if_pos hk,if_pos hk,if_pos rfl]
 ·rw[if_neg hk,if_neg hk,if_neg hk]
theorem new_at(h:Hp)(b:Nat)(o:Obj):(h.new b o) b=some o:=by unfold Hp.new;rw[if_pos rfl]
theorem new_ne(h:Hp){b k:Nat}(o:Obj)(hk:k≠b):(h.new b o) k=h k:=by unfold Hp.new;rw[if_neg hk]
theorem ne_of{h:Hp}{a b:Nat}{x:Obj}(ha:h a=some x)(hb:h b=none):a≠b:=by rintro rfl;rw[ha] at hb;cases hb
theorem ne_kd{h:Hp}{a b:Nat}{x y:Obj}(ha:h a=some x)(hb:h b=some y)(hk:kd x≠kd y):a≠b:=by rintro rfl;rw[ha] at hb;cases hb;exact hk rfl
theorem canW_new{h:Hp}{b t:Nat}{c:Array Value}{o n:Nat}(hb:h b=some (.cells c t (0,0)))(hn:o+n<=c.size):h.canW b o n:=⟨c,t,(0,0),hb,hn,λj _ _=>by simp⟩
theorem Keep.wr{g h:Hp}(K:Keep g h){b:Nat}(hg:g b=none)(o:Nat)(vs:List Value):Keep g (h.wr b o vs):=λk x e=>by
 unfold Hp.wr;rw[if_neg (ne_of e hg)];exact K k x e
structure One(b:Nat)(h h':Hp):Prop where
 keep:∀ k x,k≠b->h k=some x->h' k=some x
 dom:∀ k,h' k=none->h k=none
theorem One.refl(b:Nat)(h:Hp):One b h h:=⟨λ_ _ _ e=>e,λ_ e=>e⟩
theorem One.trans{b:Nat}{h h1 h2:Hp}(x:One b h h1)(y:One b h1 h2):One b h h2:=⟨λk o n e=>y.keep k o n (x.keep k o n e),λk e=>x.dom k (y.dom k e)⟩
theorem One.new{h:Hp}{b:Nat}(o:Obj)(hb:h b≠none):One b h (h.new b o):=⟨λk x n e=>by rw[new_ne _ _ n];exact e,λk e=>by
 by_cases hk:k=b
 ·subst hk;rw[new_at] at e;cases e
 ·rw[new_ne _ _ hk] at e;exact e⟩
theorem One.ck{b:Nat}{h h':Hp}{x:Obj}(O:One b h h')(hb:h b=some x):Ck [kd x] h h':=⟨λk y e n=>O.keep k y (λhk=>by subst hk;rw[hb] at e;cases e;exact n (mem_singleton.2 rfl)) e,O.dom⟩
theorem One.at{b:Nat}{h h':Hp}{es:Array MapEntry}{c:Nat}(O:One b h h')(hb:h b=some (.map es c)){k o:Nat}{v:Value}(ha:h.at k o=some v):h'.at k o=some v:=by
 unfold Hp.at at ha ⊢
 cases hk:h k with
 |none=>rw[hk] at ha;cases ha
 |some x=>
  have hne:k≠b:=by rintro rfl;rw[hb] at hk;cases hk;rw[hb] at ha;cases ha
  rw[O.keep k x hne hk];rw[hk] at ha;exact ha
theorem One.row{b:Nat}{h h':Hp}{es:Array MapEntry}{c:Nat}(O:One b h h')(hb:h b=some (.map es c)){A:Option Addr}{n:Nat}{vs:List Value}(hr:h.row A n vs):h'.row A n vs:=by
 refine⟨hr.1,hr.2.imp id ?_⟩
 rintro⟨k,o,hA,hat⟩
 refine⟨k,o,hA,λj hj=>?_⟩
 have h1:=hat j hj
 have hl:j<vs.length:=by rw[hr.1];exact hj
 rw[List.getElem?_eq_getElem hl] at h1 ⊢
 exact O.at hb h1
theorem Ck.one{κ:List Nat}{b:Nat}{h h1 h2:Hp}(C:Ck κ h h1)(O:One b h1 h2)(hb:h b=none):Ck κ h h2:=⟨λk x e n=>O.keep k x (ne_of e hb) (C.keep k x e n),λk e=>C.dom k (O.dom k e)⟩
theorem Keep.one{g h h':Hp}{b:Nat}(K:Keep g h)(O:One b h h')(hb:g b=none):Keep g h':=λk x e=>O.keep k x (ne_of e hb) (K k x e)
def NewN(g:Hp)(s:Sl):Prop:=s.a=none\/∃ b,s.a=some ⟨b,0,none⟩/\g b=none
theorem NewN.nil(g:Hp):NewN g ⟨none,0,0⟩:=.inl rfl
theorem NewN.mono{g h:Hp}(d:∀ k,h k=none->g k=none){s:Sl}(N:NewN h s):NewN g s:=N.imp id λ⟨b,e,n⟩=>⟨b,e,d b n⟩
theorem NewN.upd{g h h':Hp}(K:Keep g h){s s':Sl}(N:NewN g s)(U:Upd h h' s s'):Keep g h'/\NewN g s':=by
 refine⟨λk x e=>U.keep k x (λo hs=>?_) (K k x e),?_⟩
 ·rcases N with hn|⟨b,hb,hn⟩
  ·rw[hn] at hs;cases hs
  ·rw[hb] at hs
   simp only[Option.some.injEq,Addr.mk.injEq] at hs
   rw[<- hs.1,hn] at e;cases e
 ·rcases U.at_ with h0|⟨b,hb,hn⟩
  ·unfold NewN;rw[h0];exact N
  ·exact .inr ⟨b,hb,K.dom b hn⟩
theorem NewN.off{g:Hp}{s r:Sl}{sz t:Nat}{vs:List Value}(N:NewN g s)(B:Buf g r sz t vs):Off r s/\Off s r:=by
 rcases B.own with⟨ha,_⟩|⟨b,c,f,ha,hb,_⟩
 ·exact⟨λk o o' e=>(by rw[ha] at e;cases e),λk o o' _ e=>(by rw[ha] at e;cases e)⟩
 ·rcases N with hn|⟨b',hb',hn⟩
  ·exact⟨λk o o' _ e=>(by rw[hn] at e;cases e),λk o o' e=>(by rw[hn] at e;cases e)⟩
  ·have:b≠b':=ne_of hb hn
   exact⟨λk o o' e e'=>(by rw[ha] at e;rw[hb'] at e';simp only[Option.some.injEq,Addr.mk.injEq] at e e';exact this (e.1.trans e'.1.symm)),
    λk o o' e e'=>(by rw[ha] at e';rw[hb'] at e;simp only[Option.some.injEq,Addr.mk.injEq] at e e';exact this (e'.1.trans e.1.symm))⟩
theorem off_nil{s t:Sl}(h:s.a=none\/t.a=none):Off s t:=λb o o' e e'=>by
 rcases h with h|h
 ·rw[h] at e;cases e
 ·rw[h] at e';cases e'
theorem buf_make(h:Hp)(b n t:Nat)(z:List Value)(hz:0<z.length):Buf (h.new b (.cells (Builtin.zeroCells z.toArray n) t (0,0))) ⟨some ⟨b,0,none⟩,n,n⟩ z.length t (zerosV z n):=by
 have hl:(zerosV z n).length=n*z.length:=zerosV_length n
 refine⟨hl,Nat.le_refl _,.inr ⟨b,_,(0,0),rfl,new_at _ _ _,?_,λj _=>by simp,?_⟩⟩
 ·show n*z.length<=(Builtin.zeroCells z.toArray n).size
  have:(Builtin.zeroCells z.toArray n).size=(zerosV z n).length:=by unfold zerosV;simp
  omega
 ·show(Builtin.zeroCells z.toArray n).toList.take _=_
  exact List.take_length
theorem zerosV_one(v:Value)(n:Nat):zerosV [v] n=List.replicate n v:=by
 unfold zerosV Builtin.zeroCells
 apply List.ext_getElem (by simp)
 intro i h1 h2
 simp[Nat.mod_one]
def U64s(es:Array MapEntry):Prop:=∀ e∈es.toList,∃ k,e.key=.int .u64 k
theorem U64s.fit{es:Array MapEntry}(U:U64s es)(k:Int):keysFit (.int .u64 k) es:=λe he=>by
 obtain⟨j,hj⟩:=U e he
 rw[hj];simp[kFit]
theorem kEq_u(a b:Int):kEq (.int .u64 a) (.int .u64 b)=(a == b):=by simp[kEq]
theorem find_mod(v:Value)(k:Int):∀ (l:List MapEntry) (i:Nat),(∀ e∈l,∃ k,e.key=.int .u64 k)->l.findIdx? (λe=>kEq (.int .u64 k) e.key)=some i ->
  ∀ j:Int,((l.modify i λe=>{ e with key:=.int .u64 k,val:=v }).find? λe=>kEq (.int .u64 j) e.key).map (·.val)=if j=k then some v else(l.find? λe=>kEq (.int .u64 j) e.key).map (·.val)
 |[],i,_,h,j=>by cases h
 |e::l,i,hu,h,j=>by
  obtain⟨q,hq⟩:=hu e List.mem_cons_self
  rw[List.findIdx?_cons] at h
  rw[hq,kEq_u] at h
  by_cases hk:k=q
  ·subst hk
   simp only[beq_self_eq_true,if_true,Option.some.injEq] at h
   subst h
   simp only[List.modify_zero_cons,List.find?_cons,kEq_u,hq]
   by_cases hj:j=k
   ·subst hj;simp
   ·rw[if_neg hj]
    have hj':(j == k)=false:=by simp[hj]
    simp only[hj']
  ·have hk':(k == q)=false:=by simp[hk]
   rw[hk',if_neg (by simp)] at h
   cases hf:l.findIdx? (λe=>kEq (.int .u64 k) e.key) with
   |none=>rw[hf] at h;cases h
   |some i'=>
    rw[hf] at h
    simp only[Option.map_some,Option.some.injEq] at h
    subst h
    have ih:=find_mod v k l i' (λe he=>hu e (List.mem_cons_of_mem _ he)) hf j
    simp only[List.modify_succ_cons,List.find?_cons,hq,kEq_u]
    by_cases hj:j=q
    ·subst hj
     rw[if_neg (λh=>hk h.symm)]
     simp
    ·have hj':(j == q)=false:=by simp[hj]
     simp only[hj']
     exact ih
theorem mget_eq(es:Array MapEntry)(k z:Value):mget es k z=((es.toList.find? λe=>kEq k e.key).map (·.val)).getD z:=by
 unfold mget
 split
 ·next e h=>rw[h];rfl
 ·next h=>rw[h];rfl
theorem mput{es:Array MapEntry}{c:Nat}(U:U64s es)(k:Int)(v:Value):∃ es' c',mPut es c (.int .u64 k) v=.map es' c'/\U64s es'/\∀ j z,mget es' (.int .u64 j) z=if j=k then v else mget es (.int .u64 j) z:=by
 unfold mPut
 split
 ·next i h=>
  refine⟨_,_,rfl,?_,λj z=>?_⟩
  ·intro e he
   rw[Array.toList_modify] at he
   obtain⟨n,hn,rfl⟩:=List.mem_iff_getElem.1 he
   rw[List.getElem_modify]
   split
   ·exact⟨k,rfl⟩
   ·exact U _ (List.getElem_mem _)
  ·rw[mget_eq,mget_eq,Array.toList_modify,find_mod v k _ i U h j]
   by_cases hj:j=k
   ·rw[if_pos hj,if_pos hj];rfl
   ·rw[if_neg hj,if_neg hj]
 ·next h=>
  refine⟨_,_,rfl,?_,λj z=>?_⟩
  ·intro e he
   rw[Array.toList_push,List.mem_append,mem_singleton] at he
   rcases he with he|rfl
   ·exact U e he
   ·exact⟨k,rfl⟩
  ·rw[mget_eq,mget_eq,Array.toList_push,List.find?_append]
   by_cases hj:j=k
   ·subst hj
    rw[if_pos rfl]
    have hn:es.toList.find? (λe=>kEq (.int .u64 j) e.key)=none:=by
     rw[List.find?_eq_none]
     intro e he
     have:=List.findIdx?_eq_none_iff.1 h e he
     simp[this]
    rw[hn]
    simp[kEq_u]
   ·rw[if_neg hj]
    have:([({ key:=.int .u64 k,val:=v,born:=c }:MapEntry)].find? λe=>kEq (.int .u64 j) e.key)=none:=by
     simp[kEq_u,hj]
    rw[this,Option.or_none]
def Mp(h:Hp)(b:Nat)(f:Int->Int):Prop:=∃ es c,h b=some (.map es c)/\U64s es/\∀ k,mget es (.int .u64 k) (.int .i64 0)=.int .i64 (f k)
theorem Mp.new(h:Hp)(b c:Nat):Mp (h.new b (.map #[] c)) b λ_=>0:=⟨_,_,new_at _ _ _,λe he=>by simp at he,λk=>rfl⟩
theorem Mp.keep{h h':Hp}{b:Nat}{f:Int->Int}(k:Keep h h')(M:Mp h b f):Mp h' b f:=by
 obtain⟨es,c,h1,h2⟩:=M
 exact⟨es,c,k _ _ h1,h2⟩
theorem Mp.ck{κ:List Nat}{h h':Hp}{b:Nat}{f:Int->Int}(C:Ck κ h h')(hk:0∉κ)(M:Mp h b f):Mp h' b f:=by
 obtain⟨es,c,h1,h2⟩:=M
 exact⟨es,c,C.keep _ _ h1 hk,h2⟩
theorem Mp.get{h:Hp}{b:Nat}{f:Int->Int}(M:Mp h b f)(k:Int){K:Array MapEntry->Nat->Int->Prop}(hK:∀ es c,K es c (f k)) :
  ∃ es c,h.mp (some b) es c/\keysFit (.int .u64 k) es/\∃ n:Int,mget es (.int .u64 k) (.int .i64 0)=.int .i64 n/\K es c n:=by
 obtain⟨es,c,h1,h2,h3⟩:=M
 exact⟨es,c,h1,h2.fit k,f k,h3 k,hK es c⟩
theorem Mp.add{h:Hp}{b:Nat}{f:Int->Int}(M:Mp h b f)(k:Int){K:Array MapEntry->Nat->Int->Nat->Array MapEntry->Nat->Prop}
  (hK:∀ es c,h b=some (.map es c)->Mp (h.new b (mPut es c (.int .u64 k) (.int .i64 (wrap .i64 (f k+1))))) b (λj=>if j=k then wrap .i64 (f k+1) else f j)->K es c (f k) b es c) :
  ∃ es c,h.mp (some b) es c/\keysFit (.int .u64 k) es/\∃ n:Int,mget es (.int .u64 k) (.int .i64 0)=.int .i64 n/\∃ b3 es1 c1,(some b:Option Nat)=some b3/\h b3=some (.map es1 c1)/\keysFit (.int .u64 k) es1/\K es c n b3 es1 c1:=by
 obtain⟨es,c,h1,h2,h3⟩:=M
 obtain⟨es',c',e1,e2,e3⟩:=mput (c:=c) h2 k (.int .i64 (wrap .i64 (f k+1)))
 refine⟨es,c,h1,h2.fit k,f k,h3 k,b,es,c,rfl,h1,h2.fit k,hK es c h1 ?_⟩
 rw[e1]
 refine⟨es',c',new_at _ _ _,e2,λj=>?_⟩
 rw[e3]
 dsimp only
 by_cases hj:j=k
 ·rw[if_pos hj,if_pos hj]
 ·rw[if_neg hj,if_neg hj];exact h3 j
end Go.Eng
end
section
open Go.Proofs
namespace Go.Eng.YtbjnlacacapjiaaGreatDoor
@[reducible] def bytes8:ByteArray:=ByteArray.mk (List.toArray [0,1,2,2,3,3,3,3,4,4,4,4,4,4,4,4,5,5,5,5,5,5,5,5,5,5,5,5,5,5,5,5,6,6,6,6,6,6,6,6,6,6,6,6,6,6,6,6,6,6,6,6,6,6,6,6,6,6,6,6,6,6,6,6,7,7,7,7,7,7,7,7,7,7,7,7,7,7,7,7,7,7,7,7,7,7,7,7,7,7,7,7,7,7,7,7,7,7,7,7,7,7,7,7,7,7,7,7,7,7,7,7,7,7,7,7,7,7,7,7,7,7,7,7,7,7,7,7,8,8,8,8,8,8,8,8,8,8,8,8,8,8,8,8,8,8,8,8,8,8,8,8,8,8,8,8,8,8,8,8,8,8,8,8,8,8,8,8,8,8,8,8,8,8,8,8,8,8,8,8,8,8,8,8,8,8,8,8,8,8,8,8,8,8,8,8,8,8,8,8,8,8,8,8,8,8,8,8,8,8,8,8,8,8,8,8,8,8,8,8,8,8,8,8,8,8,8,8,8,8,8,8,8,8,8,8,8,8,8,8,8,8,8,8,8,8,8,8,8,8,8,8,8,8,8,8])
def F240.T(n:Int):PT:=λh Q=>
 par (n=n) (Q (.bool false) h) (Q (.bool true) h)
theorem F240.den(V n):denF Tryz.prog [] [] V [] Tryz.f240 [.v (.int .u64 n)]=F240.T n:=by kernel_rfl
def F240.W(T240:Int->PT)(args:List Value):PT:=match args with
 |[.int .u64 n]=>T240 n
 |_=>λ_ _=>False
def F240.V:List Value->PT:=F240.W F240.T
theorem F240.ok:FOk Tryz.prog 240 F240.V:=by
 refine⟨⟨_,Tryz.func240,rfl,rfl⟩,λ_=>?_⟩;unfold F240.V F240.W;split;exact denF_okE (GOk.nil) noV_ok Tryz.func240 (F240.den noV _);exact λ_ _ h=>h.elim
@[reducible] def F226.G(T240:Int->PT)(n n1:Int):PT:=λh Q=>
 T240 n h λr h1=>retB r (T240 n1 h1 λr1 h2=>retB r1 (par (n<n1) (Q (.bool true) h2) (Q (.bool false) h2)) (Q (.bool true) h2)) (par (n<n1) (Q (.bool true) h1) (Q (.bool false) h1))
def F226.T:=F226.G F240.T
theorem F226.gen(V T240 n n1):denF Tryz.prog [] [(240,F240.W T240)] V [] Tryz.f226 [.v (.int .u64 n),.v (.int .u64 n1)]=F226.G T240 n n1:=by kernel_rfl
def F226.W(T226:Int->Int->PT)(args:List Value):PT:=match args with
 |[.int .u64 n,.int .u64 n1]=>T226 n n1
 |_=>λ_ _=>False
def F226.V:List Value->PT:=F226.W F226.T
theorem F226.ok:FOk Tryz.prog 226 F226.V:=by
 refine⟨⟨_,Tryz.func226,rfl,rfl⟩,λ_=>?_⟩;unfold F226.V F226.W;split;exact denF_okE (GOk.cons F240.ok (GOk.nil)) noV_ok Tryz.func226 (F226.gen noV F240.T _ _);exact λ_ _ h=>h.elim
@[reducible] def F220.G(T226:Int->Int->PT)(l:Sl)(n n1:Int):PT:=λh Q=>
 ∃ (I:Int->Hp->Prop) (m:Int->Hp->Nat),I (wrap .i64 (n+1)) h/\(∀ n2:Int,∀ h1:Hp,I n2 h1->par (n2<n1) (∃ (I1:Int->Hp->Prop) (m1:Int->Hp->Nat),I1 n2 h1/\(∀ n3:Int,∀ h2:Hp,I1 n3 h2->par (n<n3) (ix l.a n3 l.n λb o=>ldI .u64 h2 b (o+n3.toNat) λn4=>ix l.a (wrap .i64 (n3-1)) l.n λb1 o1=>ldI .u64 h2 b1 (o1+((wrap .i64 (n3-1))).toNat) λn5=>T226 n4 n5 h2 λr h3=>retB r (ix l.a (wrap .i64 (n3-1)) l.n λb2 o2=>ldI .u64 h3 b2 (o2+((wrap .i64 (n3-1))).toNat) λn6=>ix l.a n3 l.n λb3 o3=>ldI .u64 h3 b3 (o3+n3.toNat) λn7=>ix l.a n3 l.n λb4 o4=>st h3 b4 (o4+n3.toNat) 1 [.int .u64 n6] λh4=>ix l.a (wrap .i64 (n3-1)) l.n λb5 o5=>st h4 b5 (o5+((wrap .i64 (n3-1))).toNat) 1 [.int .u64 n7] λh5=>I1 (wrap .i64 (n3-1)) h5/\m1 (wrap .i64 (n3-1)) h5<m1 n3 h2) (I (wrap .i64 (n2+1)) h3/\m (wrap .i64 (n2+1)) h3<m n2 h1)) (I (wrap .i64 (n2+1)) h2/\m (wrap .i64 (n2+1)) h2<m n2 h1))) (Q (.tuple ⟨[]⟩) h1))
def F220.T:=F220.G F226.T
theorem F220.gen(V T226 l n n1):denF Tryz.prog [] [(226,F226.W T226)] V [(6,.loop [(6,.int .i64)] []),(402,.loop [(7,.int .i64)] []),(3216,.order [0,1,2,3,4,5,6,7,8,9,10,11,12,13,14]),(6436,.order [0,1,2,3,4,5,6,7,8,9,10,11,12,13,14,15,16,17])] Tryz.f220 [.v (.slice l.a l.n l.c),.v (.int .i64 n),.v (.int .i64 n1)]=F220.G T226 l n n1:=by kernel_rfl
def F220.W(T220:Sl->Int->Int->PT)(args:List Value):PT:=match args with
 |[.slice l_a l_n l_c,.int .i64 n,.int .i64 n1]=>T220 ⟨l_a,l_n,l_c⟩ n n1
 |_=>λ_ _=>False
def F220.V:List Value->PT:=F220.W F220.T
theorem F220.ok:FOk Tryz.prog 220 F220.V:=by
 refine⟨⟨_,Tryz.func220,rfl,rfl⟩,λ_=>?_⟩;unfold F220.V F220.W;split;exact denF_okE (GOk.cons F226.ok (GOk.nil)) noV_ok Tryz.func220 (F220.gen noV F226.T ⟨_,_,_⟩ _ _);exact λ_ _ h=>h.elim
@[reducible] def F235.G(T226:Int->Int->PT)(l:Sl)(n n1 n2:Int):PT:=λh Q=>
 ∃ (I:Int->Hp->Prop) (m:Int->Hp->Nat),I n h/\(∀ n3:Int,∀ h1:Hp,I n3 h1->par (n1<=(wrap .i64 ((wrap .i64 (2*n3))+1))) (Q (.tuple ⟨[]⟩) h1) (∃ J:Int->Hp->Prop,(∀ n4:Int,∀ h2:Hp,J n4 h2->ix l.a (wrap .i64 (n2+n3)) l.n λb o=>ldI .u64 h2 b (o+((wrap .i64 (n2+n3))).toNat) λn5=>ix l.a (wrap .i64 (n2+n4)) l.n λb1 o1=>ldI .u64 h2 b1 (o1+((wrap .i64 (n2+n4))).toNat) λn6=>T226 n5 n6 h2 λr h3=>retB r (ix l.a (wrap .i64 (n2+n4)) l.n λb2 o2=>ldI .u64 h3 b2 (o2+((wrap .i64 (n2+n4))).toNat) λn7=>ix l.a (wrap .i64 (n2+n3)) l.n λb3 o3=>ldI .u64 h3 b3 (o3+((wrap .i64 (n2+n3))).toNat) λn8=>ix l.a (wrap .i64 (n2+n3)) l.n λb4 o4=>st h3 b4 (o4+((wrap .i64 (n2+n3))).toNat) 1 [.int .u64 n7] λh4=>ix l.a (wrap .i64 (n2+n4)) l.n λb5 o5=>st h4 b5 (o5+((wrap .i64 (n2+n4))).toNat) 1 [.int .u64 n8] λh5=>I n4 h5/\m n4 h5<m n3 h1) (Q (.tuple ⟨[]⟩) h3))/\(par ((wrap .i64 ((wrap .i64 ((wrap .i64 (2*n3))+1))+1))<n1) (ix l.a (wrap .i64 (n2+(wrap .i64 ((wrap .i64 (2*n3))+1)))) l.n λb6 o6=>ldI .u64 h1 b6 (o6+((wrap .i64 (n2+(wrap .i64 ((wrap .i64 (2*n3))+1))))).toNat) λn9=>ix l.a (wrap .i64 ((wrap .i64 (n2+(wrap .i64 ((wrap .i64 (2*n3))+1))))+1)) l.n λb7 o7=>ldI .u64 h1 b7 (o7+((wrap .i64 ((wrap .i64 (n2+(wrap .i64 ((wrap .i64 (2*n3))+1))))+1))).toNat) λn10=>T226 n9 n10 h1 λr1 h6=>retB r1 (J (wrap .i64 ((wrap .i64 ((wrap .i64 (2*n3))+1))+1)) h6) (J (wrap .i64 ((wrap .i64 (2*n3))+1)) h6)) (J (wrap .i64 ((wrap .i64 (2*n3))+1)) h1))))
def F235.T:=F235.G F226.T
theorem F235.gen(V T226 l n n1 n2):denF Tryz.prog [] [(226,F226.W T226)] V [(6,.loop [(8,.int .i64)] []),(99,.join [(9,.int .i64)] []),(396,.order [0,1,2,3,4,5,6,7,8,9,10,11,12,13,14,15,16,17,18,19]),(796,.order [0,1,2,3,4,5,6,7,8,9,10,11,12,13]),(798,.order [0,1,2,3,4,5,6,7,8,9,10,11,12,13,14,15,16,17,18,19,20,21,22,23])] Tryz.f235 [.v (.slice l.a l.n l.c),.v (.int .i64 n),.v (.int .i64 n1),.v (.int .i64 n2)]=F235.G T226 l n n1 n2:=by kernel_rfl
def F235.W(T235:Sl->Int->Int->Int->PT)(args:List Value):PT:=match args with
 |[.slice l_a l_n l_c,.int .i64 n,.int .i64 n1,.int .i64 n2]=>T235 ⟨l_a,l_n,l_c⟩ n n1 n2
 |_=>λ_ _=>False
def F235.V:List Value->PT:=F235.W F235.T
theorem F235.ok:FOk Tryz.prog 235 F235.V:=by
 refine⟨⟨_,Tryz.func235,rfl,rfl⟩,λ_=>?_⟩;unfold F235.V F235.W;split;exact denF_okE (GOk.cons F226.ok (GOk.nil)) noV_ok Tryz.func235 (F235.gen noV F226.T ⟨_,_,_⟩ _ _ _);exact λ_ _ h=>h.elim
@[reducible] def F221.G(T235:Sl->Int->Int->Int->PT)(l:Sl)(n n1:Int):PT:=λh Q=>
 (2:Int)≠0/\∃ (I:Int->Hp->Prop) (m:Int->Hp->Nat),I (wrap .i64 (Int.tdiv (wrap .i64 ((wrap .i64 (n1-n))-1)) 2)) h/\(∀ n2:Int,∀ h1:Hp,I n2 h1->par ((0:Int)<=n2) (T235 l n2 (wrap .i64 (n1-n)) n h1 λr h2=>I (wrap .i64 (n2-1)) h2/\m (wrap .i64 (n2-1)) h2<m n2 h1) (∃ (I1:Int->Hp->Prop) (m1:Int->Hp->Nat),I1 (wrap .i64 ((wrap .i64 (n1-n))-1)) h1/\(∀ n3:Int,∀ h3:Hp,I1 n3 h3->par ((0:Int)<=n3) (ix l.a (wrap .i64 (n+n3)) l.n λb o=>ldI .u64 h3 b (o+((wrap .i64 (n+n3))).toNat) λn4=>ix l.a n l.n λb1 o1=>ldI .u64 h3 b1 (o1+n.toNat) λn5=>ix l.a n l.n λb2 o2=>st h3 b2 (o2+n.toNat) 1 [.int .u64 n4] λh4=>ix l.a (wrap .i64 (n+n3)) l.n λb3 o3=>st h4 b3 (o3+((wrap .i64 (n+n3))).toNat) 1 [.int .u64 n5] λh5=>T235 l 0 n3 n h5 λr1 h6=>I1 (wrap .i64 (n3-1)) h6/\m1 (wrap .i64 (n3-1)) h6<m1 n3 h3) (Q (.tuple ⟨[]⟩) h3))))
def F221.T:=F221.G F235.T
theorem F221.gen(V T235 l n n1):denF Tryz.prog [] [(235,F235.W T235)] V [(122,.loop [(9,.int .i64)] []),(126,.loop [(10,.int .i64)] []),(4040,.order [0,1,2,3,4,5,6,7,8,9,10,11,12,13,14,15,16,17,18,19])] Tryz.f221 [.v (.slice l.a l.n l.c),.v (.int .i64 n),.v (.int .i64 n1)]=F221.G T235 l n n1:=by kernel_rfl
def F221.W(T221:Sl->Int->Int->PT)(args:List Value):PT:=match args with
 |[.slice l_a l_n l_c,.int .i64 n,.int .i64 n1]=>T221 ⟨l_a,l_n,l_c⟩ n n1
 |_=>λ_ _=>False
def F221.V:List Value->PT:=F221.W F221.T
theorem F221.ok:FOk Tryz.prog 221 F221.V:=by
 refine⟨⟨_,Tryz.func221,rfl,rfl⟩,λ_=>?_⟩;unfold F221.V F221.W;split;exact denF_okE (GOk.cons F235.ok (GOk.nil)) noV_ok Tryz.func221 (F221.gen noV F235.T ⟨_,_,_⟩ _ _);exact λ_ _ h=>h.elim
def F230.T(n:Int):PT:=λh Q=>
 par ((4294967296:Int)<=n) ((0:Int)<=32/\par ((65536:Int)<=(shrI .u64 n 32)) ((0:Int)<=16/\par ((256:Int)<=(shrI .u64 (shrI .u64 n 32) 16)) ((0:Int)<=8/\((0:Int)<=(wrap .u8 (shrI .u64 (shrI .u64 (shrI .u64 n 32) 16) 8))/\(wrap .u8 (shrI .u64 (shrI .u64 (shrI .u64 n 32) 16) 8))<(bytes8.size:Int))/\Q (.int .i64 (wrap .i64 ((wrap .i64 ((wrap .i64 (32+16))+8))+(wrap .i64 (bt bytes8 (wrap .u8 (shrI .u64 (shrI .u64 (shrI .u64 n 32) 16) 8))))))) h) (((0:Int)<=(wrap .u8 (shrI .u64 (shrI .u64 n 32) 16))/\(wrap .u8 (shrI .u64 (shrI .u64 n 32) 16))<(bytes8.size:Int))/\Q (.int .i64 (wrap .i64 ((wrap .i64 (32+16))+(wrap .i64 (bt bytes8 (wrap .u8 (shrI .u64 (shrI .u64 n 32) 16))))))) h)) (par ((256:Int)<=(shrI .u64 n 32)) ((0:Int)<=8/\((0:Int)<=(wrap .u8 (shrI .u64 (shrI .u64 n 32) 8))/\(wrap .u8 (shrI .u64 (shrI .u64 n 32) 8))<(bytes8.size:Int))/\Q (.int .i64 (wrap .i64 ((wrap .i64 (32+8))+(wrap .i64 (bt bytes8 (wrap .u8 (shrI .u64 (shrI .u64 n 32) 8))))))) h) (((0:Int)<=(wrap .u8 (shrI .u64 n 32))/\(wrap .u8 (shrI .u64 n 32))<(bytes8.size:Int))/\Q (.int .i64 (wrap .i64 (32+(wrap .i64 (bt bytes8 (wrap .u8 (shrI .u64 n 32))))))) h))) (par ((65536:Int)<=n) ((0:Int)<=16/\par ((256:Int)<=(shrI .u64 n 16)) ((0:Int)<=8/\((0:Int)<=(wrap .u8 (shrI .u64 (shrI .u64 n 16) 8))/\(wrap .u8 (shrI .u64 (shrI .u64 n 16) 8))<(bytes8.size:Int))/\Q (.int .i64 (wrap .i64 ((wrap .i64 ((wrap .i64 (0+16))+8))+(wrap .i64 (bt bytes8 (wrap .u8 (shrI .u64 (shrI .u64 n 16) 8))))))) h) (((0:Int)<=(wrap .u8 (shrI .u64 n 16))/\(wrap .u8 (shrI .u64 n 16))<(bytes8.size:Int))/\Q (.int .i64 (wrap .i64 ((wrap .i64 (0+16))+(wrap .i64 (bt bytes8 (wrap .u8 (shrI .u64 n 16))))))) h)) (par ((256:Int)<=n) ((0:Int)<=8/\((0:Int)<=(wrap .u8 (shrI .u64 n 8))/\(wrap .u8 (shrI .u64 n 8))<(bytes8.size:Int))/\Q (.int .i64 (wrap .i64 ((wrap .i64 (0+8))+(wrap .i64 (bt bytes8 (wrap .u8 (shrI .u64 n 8))))))) h) (((0:Int)<=(wrap .u8 n)/\(wrap .u8 n)<(bytes8.size:Int))/\Q (.int .i64 (wrap .i64 (0+(wrap .i64 (bt bytes8 (wrap .u8 n)))))) h)))
theorem F230.den(V n):denF Tryz.prog [] [] V [] Tryz.f230 [.v (.int .u64 n)]=F230.T n:=by kernel_rfl
def F230.W(T230:Int->PT)(args:List Value):PT:=match args with
 |[.int .u64 n]=>T230 n
 |_=>λ_ _=>False
def F230.V:List Value->PT:=F230.W F230.T
theorem F230.ok:FOk Tryz.prog 230 F230.V:=by
 refine⟨⟨_,Tryz.func230,rfl,rfl⟩,λ_=>?_⟩;unfold F230.V F230.W;split;exact denF_okE (GOk.nil) noV_ok Tryz.func230 (F230.den noV _);exact λ_ _ h=>h.elim
@[reducible] def F213.G(T230:Int->PT)(n:Int):PT:=λh Q=>
 T230 n h λr h1=>retI .i64 r λn1=>Q (.int .i64 n1) h1
def F213.T:=F213.G F230.T
theorem F213.gen(V T230 n):denF Tryz.prog [] [(230,F230.W T230)] V [] Tryz.f213 [.v (.int .u64 n)]=F213.G T230 n:=by kernel_rfl
def F213.W(T213:Int->PT)(args:List Value):PT:=match args with
 |[.int .u64 n]=>T213 n
 |_=>λ_ _=>False
def F213.V:List Value->PT:=F213.W F213.T
theorem F213.ok:FOk Tryz.prog 213 F213.V:=by
 refine⟨⟨_,Tryz.func213,rfl,rfl⟩,λ_=>?_⟩;unfold F213.V F213.W;split;exact denF_okE (GOk.cons F230.ok (GOk.nil)) noV_ok Tryz.func213 (F213.gen noV F230.T _);exact λ_ _ h=>h.elim
@[reducible] def F236.G(T213:Int->PT)(n:Int):PT:=λh Q=>
 T213 (wrap .u64 n) h λr h1=>retI .i64 r λn1=>(0:Int)<=n1/\Q (.int .u64 (shlI .u64 1 n1)) h1
def F236.T:=F236.G F213.T
theorem F236.gen(V T213 n):denF Tryz.prog [] [(213,F213.W T213)] V [] Tryz.f236 [.v (.int .i64 n)]=F236.G T213 n:=by kernel_rfl
def F236.W(T236:Int->PT)(args:List Value):PT:=match args with
 |[.int .i64 n]=>T236 n
 |_=>λ_ _=>False
def F236.V:List Value->PT:=F236.W F236.T
theorem F236.ok:FOk Tryz.prog 236 F236.V:=by
 refine⟨⟨_,Tryz.func236,rfl,rfl⟩,λ_=>?_⟩;unfold F236.V F236.W;split;exact denF_okE (GOk.cons F213.ok (GOk.nil)) noV_ok Tryz.func236 (F236.gen noV F213.T _);exact λ_ _ h=>h.elim
def F237.T(p:Option Addr):PT:=λh Q=>
 dr p λb o=>ldI .u64 h b o λn=>dr p λb1 o1=>ldI .u64 h b1 o1 λn1=>(0:Int)<=13/\dr p λb2 o2=>st h b2 o2 1 [.int .u64 (bitsI .xor .u64 n (shlI .u64 n1 13))] λh1=>dr p λb3 o3=>ldI .u64 h1 b3 o3 λn2=>dr p λb4 o4=>ldI .u64 h1 b4 o4 λn3=>(0:Int)<=7/\dr p λb5 o5=>st h1 b5 o5 1 [.int .u64 (bitsI .xor .u64 n2 (shrI .u64 n3 7))] λh2=>dr p λb6 o6=>ldI .u64 h2 b6 o6 λn4=>dr p λb7 o7=>ldI .u64 h2 b7 o7 λn5=>(0:Int)<=17/\dr p λb8 o8=>st h2 b8 o8 1 [.int .u64 (bitsI .xor .u64 n4 (shlI .u64 n5 17))] λh3=>dr p λb9 o9=>ldI .u64 h3 b9 o9 λn6=>Q (.int .u64 n6) h3
theorem F237.den(V p):denF Tryz.prog [] [] V [(6,.order [0,1,2,3,4,5,6,7,8,9]),(14,.order [0,1,2,3,4,5,6,7,8,9]),(30,.order [0,1,2,3,4,5,6,7,8,9])] Tryz.f237 [.v (.pointer p)]=F237.T p:=by kernel_rfl
def F237.W(T237:Option Addr->PT)(args:List Value):PT:=match args with
 |[.pointer p]=>T237 p
 |_=>λ_ _=>False
def F237.V:List Value->PT:=F237.W F237.T
theorem F237.ok:FOk Tryz.prog 237 F237.V:=by
 refine⟨⟨_,Tryz.func237,rfl,rfl⟩,λ_=>?_⟩;unfold F237.V F237.W;split;exact denF_okE (GOk.nil) noV_ok Tryz.func237 (F237.den noV _);exact λ_ _ h=>h.elim
@[reducible] def F222.G(T236:Int->PT)(T237:Option Addr->PT)(l:Sl)(n n1:Int):PT:=λh Q=>
 par ((8:Int)<=(wrap .i64 (n1-n))) (nw h (.cells ⟨[.int .u64 0]⟩ 247 (0,0)) λb h1=>st h1 b 0 1 [.int .u64 (wrap .u64 (wrap .i64 (n1-n)))] λh2=>T236 (wrap .i64 (n1-n)) h2 λr h3=>retI .u64 r λn2=>(4:Int)≠0/\∃ (I:Int->Hp->Prop) (m:Int->Hp->Nat),I (wrap .i64 ((wrap .i64 (n+(wrap .i64 ((wrap .i64 (Int.tdiv (wrap .i64 (n1-n)) 4))*2))))-1)) h3/\(∀ n3:Int,∀ h4:Hp,I n3 h4->(4:Int)≠0/\par (n3<=(wrap .i64 ((wrap .i64 (n+(wrap .i64 ((wrap .i64 (Int.tdiv (wrap .i64 (n1-n)) 4))*2))))+1))) (T237 (some ⟨b,0,none⟩) h4 λr1 h5=>retI .u64 r1 λn4=>par ((wrap .i64 (n1-n))<=(wrap .i64 (bitsI .and .u64 n4 (wrap .u64 (n2-1))))) (ix l.a (wrap .i64 (n+(wrap .i64 ((wrap .i64 (bitsI .and .u64 n4 (wrap .u64 (n2-1))))-(wrap .i64 (n1-n)))))) l.n λb1 o=>ldI .u64 h5 b1 (o+((wrap .i64 (n+(wrap .i64 ((wrap .i64 (bitsI .and .u64 n4 (wrap .u64 (n2-1))))-(wrap .i64 (n1-n))))))).toNat) λn5=>ix l.a n3 l.n λb2 o1=>ldI .u64 h5 b2 (o1+n3.toNat) λn6=>ix l.a n3 l.n λb3 o2=>st h5 b3 (o2+n3.toNat) 1 [.int .u64 n5] λh6=>ix l.a (wrap .i64 (n+(wrap .i64 ((wrap .i64 (bitsI .and .u64 n4 (wrap .u64 (n2-1))))-(wrap .i64 (n1-n)))))) l.n λb4 o3=>st h6 b4 (o3+((wrap .i64 (n+(wrap .i64 ((wrap .i64 (bitsI .and .u64 n4 (wrap .u64 (n2-1))))-(wrap .i64 (n1-n))))))).toNat) 1 [.int .u64 n6] λh7=>I (wrap .i64 (n3+1)) h7/\m (wrap .i64 (n3+1)) h7<m n3 h4) (ix l.a (wrap .i64 (n+(wrap .i64 (bitsI .and .u64 n4 (wrap .u64 (n2-1)))))) l.n λb5 o4=>ldI .u64 h5 b5 (o4+((wrap .i64 (n+(wrap .i64 (bitsI .and .u64 n4 (wrap .u64 (n2-1))))))).toNat) λn7=>ix l.a n3 l.n λb6 o5=>ldI .u64 h5 b6 (o5+n3.toNat) λn8=>ix l.a n3 l.n λb7 o6=>st h5 b7 (o6+n3.toNat) 1 [.int .u64 n7] λh8=>ix l.a (wrap .i64 (n+(wrap .i64 (bitsI .and .u64 n4 (wrap .u64 (n2-1)))))) l.n λb8 o7=>st h8 b8 (o7+((wrap .i64 (n+(wrap .i64 (bitsI .and .u64 n4 (wrap .u64 (n2-1))))))).toNat) 1 [.int .u64 n8] λh9=>I (wrap .i64 (n3+1)) h9/\m (wrap .i64 (n3+1)) h9<m n3 h4)) (Q (.tuple ⟨[]⟩) h4))) (Q (.tuple ⟨[]⟩) h)
def F222.T:=F222.G F236.T F237.T
theorem F222.gen(V T236 T237 l n n1):denF Tryz.prog [] [(236,F236.W T236),(237,F237.W T237)] V [(238,.loop [(9,.int .i64)] []),(15251,.order [0,1,2,3,4,5,6,7,8,9,10,11,12,13,14,15,16,17,18,19])] Tryz.f222 [.v (.slice l.a l.n l.c),.v (.int .i64 n),.v (.int .i64 n1)]=F222.G T236 T237 l n n1:=by kernel_rfl
def F222.W(T222:Sl->Int->Int->PT)(args:List Value):PT:=match args with
 |[.slice l_a l_n l_c,.int .i64 n,.int .i64 n1]=>T222 ⟨l_a,l_n,l_c⟩ n n1
 |_=>λ_ _=>False
def F222.V:List Value->PT:=F222.W F222.T
theorem F222.ok:FOk Tryz.prog 222 F222.V:=by
 refine⟨⟨_,Tryz.func222,rfl,rfl⟩,λ_=>?_⟩;unfold F222.V F222.W;split;exact denF_okE (GOk.cons F236.ok (GOk.cons F237.ok (GOk.nil))) noV_ok Tryz.func222 (F222.gen noV F236.T F237.T ⟨_,_,_⟩ _ _);exact λ_ _ h=>h.elim
@[reducible] def F243.G(T226:Int->Int->PT)(l:Sl)(n n1:Int)(p:Option Addr):PT:=λh Q=>
 ix l.a n1 l.n λb o=>ldI .u64 h b (o+n1.toNat) λn2=>ix l.a n l.n λb1 o1=>ldI .u64 h b1 (o1+n.toNat) λn3=>T226 n2 n3 h λr h1=>retB r (dr p λb2 o2=>ldI .i64 h1 b2 o2 λn4=>dr p λb3 o3=>st h1 b3 o3 1 [.int .i64 (wrap .i64 (n4+1))] λh2=>Q (.tuple ⟨[.int .i64 n1,.int .i64 n]⟩) h2) (Q (.tuple ⟨[.int .i64 n,.int .i64 n1]⟩) h1)
def F243.T:=F243.G F226.T
theorem F243.gen(V T226 l n n1 p):denF Tryz.prog [] [(226,F226.W T226)] V [(12,.order [0,1,2,3,4,5,6,7,8])] Tryz.f243 [.v (.slice l.a l.n l.c),.v (.int .i64 n),.v (.int .i64 n1),.v (.pointer p)]=F243.G T226 l n n1 p:=by kernel_rfl
def F243.W(T243:Sl->Int->Int->Option Addr->PT)(args:List Value):PT:=match args with
 |[.slice l_a l_n l_c,.int .i64 n,.int .i64 n1,.pointer p]=>T243 ⟨l_a,l_n,l_c⟩ n n1 p
 |_=>λ_ _=>False
def F243.V:List Value->PT:=F243.W F243.T
theorem F243.ok:FOk Tryz.prog 243 F243.V:=by
 refine⟨⟨_,Tryz.func243,rfl,rfl⟩,λ_=>?_⟩;unfold F243.V F243.W;split;exact denF_okE (GOk.cons F226.ok (GOk.nil)) noV_ok Tryz.func243 (F243.gen noV F226.T ⟨_,_,_⟩ _ _ _);exact λ_ _ h=>h.elim
@[reducible] def F239.G(T243:Sl->Int->Int->Option Addr->PT)(l:Sl)(n n1 n2:Int)(p:Option Addr):PT:=λh Q=>
 T243 l n n1 p h λr h1=>∃ n3 n4:Int,r=.tuple ⟨[.int .i64 n3,.int .i64 n4]⟩/\T243 l n4 n2 p h1 λr1 h2=>∃ n5 n6:Int,r1=.tuple ⟨[.int .i64 n5,.int .i64 n6]⟩/\T243 l n3 n5 p h2 λr2 h3=>∃ n7 n8:Int,r2=.tuple ⟨[.int .i64 n7,.int .i64 n8]⟩/\Q (.int .i64 n8) h3
def F239.T:=F239.G F243.T
theorem F239.gen(V T243 l n n1 n2 p):denF Tryz.prog [] [(243,F243.W T243)] V [] Tryz.f239 [.v (.slice l.a l.n l.c),.v (.int .i64 n),.v (.int .i64 n1),.v (.int .i64 n2),.v (.pointer p)]=F239.G T243 l n n1 n2 p:=by kernel_rfl
def F239.W(T239:Sl->Int->Int->Int->Option Addr->PT)(args:List Value):PT:=match args with
 |[.slice l_a l_n l_c,.int .i64 n,.int .i64 n1,.int .i64 n2,.pointer p]=>T239 ⟨l_a,l_n,l_c⟩ n n1 n2 p
 |_=>λ_ _=>False
def F239.V:List Value->PT:=F239.W F239.T
theorem F239.ok:FOk Tryz.prog 239 F239.V:=by
 refine⟨⟨_,Tryz.func239,rfl,rfl⟩,λ_=>?_⟩;unfold F239.V F239.W;split;exact denF_okE (GOk.cons F243.ok (GOk.nil)) noV_ok Tryz.func239 (F239.gen noV F243.T ⟨_,_,_⟩ _ _ _ _);exact λ_ _ h=>h.elim
@[reducible] def F238.G(T239:Sl->Int->Int->Int->Option Addr->PT)(l:Sl)(n:Int)(p:Option Addr):PT:=λh Q=>
 T239 l (wrap .i64 (n-1)) n (wrap .i64 (n+1)) p h λr h1=>retI .i64 r λn1=>Q (.int .i64 n1) h1
def F238.T:=F238.G F239.T
theorem F238.gen(V T239 l n p):denF Tryz.prog [] [(239,F239.W T239)] V [] Tryz.f238 [.v (.slice l.a l.n l.c),.v (.int .i64 n),.v (.pointer p)]=F238.G T239 l n p:=by kernel_rfl
def F238.W(T238:Sl->Int->Option Addr->PT)(args:List Value):PT:=match args with
 |[.slice l_a l_n l_c,.int .i64 n,.pointer p]=>T238 ⟨l_a,l_n,l_c⟩ n p
 |_=>λ_ _=>False
def F238.V:List Value->PT:=F238.W F238.T
theorem F238.ok:FOk Tryz.prog 238 F238.V:=by
 refine⟨⟨_,Tryz.func238,rfl,rfl⟩,λ_=>?_⟩;unfold F238.V F238.W;split;exact denF_okE (GOk.cons F239.ok (GOk.nil)) noV_ok Tryz.func238 (F238.gen noV F239.T ⟨_,_,_⟩ _ _);exact λ_ _ h=>h.elim
@[reducible] def F223.G(T238:Sl->Int->Option Addr->PT)(T239:Sl->Int->Int->Int->Option Addr->PT)(l:Sl)(n n1:Int):PT:=λh Q=>
 nw h (.cells ⟨[.int .i64 0]⟩ 3 (0,0)) λb h1=>(4:Int)≠0/\(4:Int)≠0/\(4:Int)≠0/\∃ J:Int->Hp->Prop,(∀ n2:Int,∀ h2:Hp,J n2 h2->ldI .i64 h2 b 0 λn3=>par (n3=0) (Q (.tuple ⟨[.int .i64 n2,.int .i64 1]⟩) h2) (par (n3=12) (Q (.tuple ⟨[.int .i64 n2,.int .i64 2]⟩) h2) (Q (.tuple ⟨[.int .i64 n2,.int .i64 0]⟩) h2)))/\(par ((8:Int)<=(wrap .i64 (n1-n))) (par ((50:Int)<=(wrap .i64 (n1-n))) (T238 l (wrap .i64 (n+(wrap .i64 ((wrap .i64 (Int.tdiv (wrap .i64 (n1-n)) 4))*1)))) (some ⟨b,0,none⟩) h1 λr h3=>retI .i64 r λn4=>T238 l (wrap .i64 (n+(wrap .i64 ((wrap .i64 (Int.tdiv (wrap .i64 (n1-n)) 4))*2)))) (some ⟨b,0,none⟩) h3 λr1 h4=>retI .i64 r1 λn5=>T238 l (wrap .i64 (n+(wrap .i64 ((wrap .i64 (Int.tdiv (wrap .i64 (n1-n)) 4))*3)))) (some ⟨b,0,none⟩) h4 λr2 h5=>retI .i64 r2 λn6=>T239 l n4 n5 n6 (some ⟨b,0,none⟩) h5 λr3 h6=>retI .i64 r3 λn7=>J n7 h6) (T239 l (wrap .i64 (n+(wrap .i64 ((wrap .i64 (Int.tdiv (wrap .i64 (n1-n)) 4))*1)))) (wrap .i64 (n+(wrap .i64 ((wrap .i64 (Int.tdiv (wrap .i64 (n1-n)) 4))*2)))) (wrap .i64 (n+(wrap .i64 ((wrap .i64 (Int.tdiv (wrap .i64 (n1-n)) 4))*3)))) (some ⟨b,0,none⟩) h1 λr4 h7=>retI .i64 r4 λn8=>J n8 h7)) (J (wrap .i64 (n+(wrap .i64 ((wrap .i64 (Int.tdiv (wrap .i64 (n1-n)) 4))*2)))) h1))
def F223.T:=F223.G F238.T F239.T
theorem F223.gen(V T238 T239 l n n1):denF Tryz.prog [] [(238,F238.W T238),(239,F239.W T239)] V [(127,.join [(11,.int .i64)] [])] Tryz.f223 [.v (.slice l.a l.n l.c),.v (.int .i64 n),.v (.int .i64 n1)]=F223.G T238 T239 l n n1:=by kernel_rfl
def F223.W(T223:Sl->Int->Int->PT)(args:List Value):PT:=match args with
 |[.slice l_a l_n l_c,.int .i64 n,.int .i64 n1]=>T223 ⟨l_a,l_n,l_c⟩ n n1
 |_=>λ_ _=>False
def F223.V:List Value->PT:=F223.W F223.T
theorem F223.ok:FOk Tryz.prog 223 F223.V:=by
 refine⟨⟨_,Tryz.func223,rfl,rfl⟩,λ_=>?_⟩;unfold F223.V F223.W;split;exact denF_okE (GOk.cons F238.ok (GOk.cons F239.ok (GOk.nil))) noV_ok Tryz.func223 (F223.gen noV F238.T F239.T ⟨_,_,_⟩ _ _);exact λ_ _ h=>h.elim
def F224.T(l:Sl)(n n1:Int):PT:=λh Q=>
 ∃ (I:Int->Int->Hp->Prop) (m:Int->Int->Hp->Nat),I n (wrap .i64 (n1-1)) h/\(∀ n2 n3:Int,∀ h1:Hp,I n2 n3 h1->par (n2<n3) (ix l.a n3 l.n λb o=>ldI .u64 h1 b (o+n3.toNat) λn4=>ix l.a n2 l.n λb1 o1=>ldI .u64 h1 b1 (o1+n2.toNat) λn5=>ix l.a n2 l.n λb2 o2=>st h1 b2 (o2+n2.toNat) 1 [.int .u64 n4] λh2=>ix l.a n3 l.n λb3 o3=>st h2 b3 (o3+n3.toNat) 1 [.int .u64 n5] λh3=>I (wrap .i64 (n2+1)) (wrap .i64 (n3-1)) h3/\m (wrap .i64 (n2+1)) (wrap .i64 (n3-1)) h3<m n2 n3 h1) (Q (.tuple ⟨[]⟩) h1))
theorem F224.den(V l n n1):denF Tryz.prog [] [] V [(14,.loop [(6,.int .i64),(7,.int .i64)] []),(228,.order [0,1,2,3,4,5,6,7,8,9,10,11,12,13,14,15])] Tryz.f224 [.v (.slice l.a l.n l.c),.v (.int .i64 n),.v (.int .i64 n1)]=F224.T l n n1:=by kernel_rfl
def F224.W(T224:Sl->Int->Int->PT)(args:List Value):PT:=match args with
 |[.slice l_a l_n l_c,.int .i64 n,.int .i64 n1]=>T224 ⟨l_a,l_n,l_c⟩ n n1
 |_=>λ_ _=>False
def F224.V:List Value->PT:=F224.W F224.T
theorem F224.ok:FOk Tryz.prog 224 F224.V:=by
 refine⟨⟨_,Tryz.func224,rfl,rfl⟩,λ_=>?_⟩;unfold F224.V F224.W;split;exact denF_okE (GOk.nil) noV_ok Tryz.func224 (F224.den noV ⟨_,_,_⟩ _ _);exact λ_ _ h=>h.elim
@[reducible] def F225.G(T226:Int->Int->PT)(l:Sl)(n n1:Int):PT:=λh Q=>
 ∃ (I:Int->Int->Hp->Prop) (m:Int->Int->Hp->Nat),I (wrap .i64 (n+1)) 0 h/\(∀ n2 n3:Int,∀ h1:Hp,I n2 n3 h1->par (n3<5) (∃ J:Int->Hp->Prop,(∀ n4:Int,∀ h2:Hp,J n4 h2->par (n4=n1) (Q (.bool true) h2) (par ((wrap .i64 (n1-n))<50) (Q (.bool false) h2) (ix l.a (wrap .i64 (n4-1)) l.n λb o=>ldI .u64 h2 b (o+((wrap .i64 (n4-1))).toNat) λn5=>ix l.a n4 l.n λb1 o1=>ldI .u64 h2 b1 (o1+n4.toNat) λn6=>ix l.a n4 l.n λb2 o2=>st h2 b2 (o2+n4.toNat) 1 [.int .u64 n5] λh3=>ix l.a (wrap .i64 (n4-1)) l.n λb3 o3=>st h3 b3 (o3+((wrap .i64 (n4-1))).toNat) 1 [.int .u64 n6] λh4=>∃ J1:Hp->Prop,(∀ h5:Hp,J1 h5->par ((2:Int)<=(wrap .i64 (n1-n4))) (∃ (I1:Int->Hp->Prop) (m1:Int->Hp->Nat),I1 (wrap .i64 (n4+1)) h5/\(∀ n7:Int,∀ h6:Hp,I1 n7 h6->par (n7<n1) (ix l.a n7 l.n λb4 o4=>ldI .u64 h6 b4 (o4+n7.toNat) λn8=>ix l.a (wrap .i64 (n7-1)) l.n λb5 o5=>ldI .u64 h6 b5 (o5+((wrap .i64 (n7-1))).toNat) λn9=>T226 n8 n9 h6 λr h7=>retB r (ix l.a (wrap .i64 (n7-1)) l.n λb6 o6=>ldI .u64 h7 b6 (o6+((wrap .i64 (n7-1))).toNat) λn10=>ix l.a n7 l.n λb7 o7=>ldI .u64 h7 b7 (o7+n7.toNat) λn11=>ix l.a n7 l.n λb8 o8=>st h7 b8 (o8+n7.toNat) 1 [.int .u64 n10] λh8=>ix l.a (wrap .i64 (n7-1)) l.n λb9 o9=>st h8 b9 (o9+((wrap .i64 (n7-1))).toNat) 1 [.int .u64 n11] λh9=>I1 (wrap .i64 (n7+1)) h9/\m1 (wrap .i64 (n7+1)) h9<m1 n7 h6) (I n4 (wrap .i64 (n3+1)) h7/\m n4 (wrap .i64 (n3+1)) h7<m n2 n3 h1)) (I n4 (wrap .i64 (n3+1)) h6/\m n4 (wrap .i64 (n3+1)) h6<m n2 n3 h1))) (I n4 (wrap .i64 (n3+1)) h5/\m n4 (wrap .i64 (n3+1)) h5<m n2 n3 h1))/\(par ((2:Int)<=(wrap .i64 (n4-n))) (∃ (I2:Int->Hp->Prop) (m2:Int->Hp->Nat),I2 (wrap .i64 (n4-1)) h4/\(∀ n12:Int,∀ h10:Hp,I2 n12 h10->par ((1:Int)<=n12) (ix l.a n12 l.n λb10 o10=>ldI .u64 h10 b10 (o10+n12.toNat) λn13=>ix l.a (wrap .i64 (n12-1)) l.n λb11 o11=>ldI .u64 h10 b11 (o11+((wrap .i64 (n12-1))).toNat) λn14=>T226 n13 n14 h10 λr1 h11=>retB r1 (ix l.a (wrap .i64 (n12-1)) l.n λb12 o12=>ldI .u64 h11 b12 (o12+((wrap .i64 (n12-1))).toNat) λn15=>ix l.a n12 l.n λb13 o13=>ldI .u64 h11 b13 (o13+n12.toNat) λn16=>ix l.a n12 l.n λb14 o14=>st h11 b14 (o14+n12.toNat) 1 [.int .u64 n15] λh12=>ix l.a (wrap .i64 (n12-1)) l.n λb15 o15=>st h12 b15 (o15+((wrap .i64 (n12-1))).toNat) 1 [.int .u64 n16] λh13=>I2 (wrap .i64 (n12-1)) h13/\m2 (wrap .i64 (n12-1)) h13<m2 n12 h10) (J1 h11)) (J1 h10))) (J1 h4)))))/\(∃ (I3:Int->Hp->Prop) (m3:Int->Hp->Nat),I3 n2 h1/\(∀ n17:Int,∀ h14:Hp,I3 n17 h14->par (n17<n1) (ix l.a n17 l.n λb16 o16=>ldI .u64 h14 b16 (o16+n17.toNat) λn18=>ix l.a (wrap .i64 (n17-1)) l.n λb17 o17=>ldI .u64 h14 b17 (o17+((wrap .i64 (n17-1))).toNat) λn19=>T226 n18 n19 h14 λr2 h15=>retB r2 (J n17 h15) (I3 (wrap .i64 (n17+1)) h15/\m3 (wrap .i64 (n17+1)) h15<m3 n17 h14)) (J n17 h14)))) (Q (.bool false) h1))
def F225.T:=F225.G F226.T
theorem F225.gen(V T226 l n n1):denF Tryz.prog [] [(226,F226.W T226)] V [(58,.loop [(7,.int .i64),(8,.int .i64)] []),(932,.join [(7,.int .i64)] []),(3728,.loop [(7,.int .i64)] []),(14926,.order [0,1,2,3,4,5,6,7,8,9,10,11,12,13,14,15,16,17]),(14927,.join [] []),(29824,.order [0,1,2,3,4,5,6,7,8,9,10,11,12,13,14,15]),(477674,.loop [(9,.int .i64)] []),(477690,.loop [(10,.int .i64)] []),(15285577,.order [0,1,2,3,4,5,6,7,8,9,10,11,12,13,14,15,16,17]),(15286089,.order [0,1,2,3,4,5,6,7,8,9,10,11,12,13,14,15,16,17]),(30571152,.order [0,1,2,3,4,5,6,7,8,9,10]),(30572176,.order [0,1,2,3,4,5,6,7,8,9,10])] Tryz.f225 [.v (.slice l.a l.n l.c),.v (.int .i64 n),.v (.int .i64 n1)]=F225.G T226 l n n1:=by kernel_rfl
def F225.W(T225:Sl->Int->Int->PT)(args:List Value):PT:=match args with
 |[.slice l_a l_n l_c,.int .i64 n,.int .i64 n1]=>T225 ⟨l_a,l_n,l_c⟩ n n1
 |_=>λ_ _=>False
def F225.V:List Value->PT:=F225.W F225.T
theorem F225.ok:FOk Tryz.prog 225 F225.V:=by
 refine⟨⟨_,Tryz.func225,rfl,rfl⟩,λ_=>?_⟩;unfold F225.V F225.W;split;exact denF_okE (GOk.cons F226.ok (GOk.nil)) noV_ok Tryz.func225 (F225.gen noV F226.T ⟨_,_,_⟩ _ _);exact λ_ _ h=>h.elim
@[reducible] def F227.G(T226:Int->Int->PT)(l:Sl)(n n1 n2:Int):PT:=λh Q=>
 ix l.a n2 l.n λb o=>ldI .u64 h b (o+n2.toNat) λn3=>ix l.a n l.n λb1 o1=>ldI .u64 h b1 (o1+n.toNat) λn4=>ix l.a n l.n λb2 o2=>st h b2 (o2+n.toNat) 1 [.int .u64 n3] λh1=>ix l.a n2 l.n λb3 o3=>st h1 b3 (o3+n2.toNat) 1 [.int .u64 n4] λh2=>∃ (I:Int->Int->Hp->Prop) (m:Int->Int->Hp->Nat),I (wrap .i64 (n+1)) (wrap .i64 (n1-1)) h2/\(∀ n5 n6:Int,∀ h3:Hp,I n5 n6 h3->∃ J:Int->Hp->Prop,(∀ n7:Int,∀ h4:Hp,J n7 h4->∃ (I1:Int->Hp->Prop) (m1:Int->Hp->Nat),I1 n6 h4/\(∀ n8:Int,∀ h5:Hp,I1 n8 h5->par (n7<=n8) (ix l.a n l.n λb4 o4=>ldI .u64 h5 b4 (o4+n.toNat) λn9=>ix l.a n8 l.n λb5 o5=>ldI .u64 h5 b5 (o5+n8.toNat) λn10=>T226 n9 n10 h5 λr h6=>retB r (I1 (wrap .i64 (n8-1)) h6/\m1 (wrap .i64 (n8-1)) h6<m1 n8 h5) (par (n8<n7) (Q (.int .i64 n7) h6) (ix l.a n8 l.n λb6 o6=>ldI .u64 h6 b6 (o6+n8.toNat) λn11=>ix l.a n7 l.n λb7 o7=>ldI .u64 h6 b7 (o7+n7.toNat) λn12=>ix l.a n7 l.n λb8 o8=>st h6 b8 (o8+n7.toNat) 1 [.int .u64 n11] λh7=>ix l.a n8 l.n λb9 o9=>st h7 b9 (o9+n8.toNat) 1 [.int .u64 n12] λh8=>I (wrap .i64 (n7+1)) (wrap .i64 (n8-1)) h8/\m (wrap .i64 (n7+1)) (wrap .i64 (n8-1)) h8<m n5 n6 h3))) (par (n8<n7) (Q (.int .i64 n7) h5) (ix l.a n8 l.n λb10 o10=>ldI .u64 h5 b10 (o10+n8.toNat) λn13=>ix l.a n7 l.n λb11 o11=>ldI .u64 h5 b11 (o11+n7.toNat) λn14=>ix l.a n7 l.n λb12 o12=>st h5 b12 (o12+n7.toNat) 1 [.int .u64 n13] λh9=>ix l.a n8 l.n λb13 o13=>st h9 b13 (o13+n8.toNat) 1 [.int .u64 n14] λh10=>I (wrap .i64 (n7+1)) (wrap .i64 (n8-1)) h10/\m (wrap .i64 (n7+1)) (wrap .i64 (n8-1)) h10<m n5 n6 h3))))/\(∃ (I2:Int->Hp->Prop) (m2:Int->Hp->Nat),I2 n5 h3/\(∀ n15:Int,∀ h11:Hp,I2 n15 h11->par (n15<=n6) (ix l.a n l.n λb14 o14=>ldI .u64 h11 b14 (o14+n.toNat) λn16=>ix l.a n15 l.n λb15 o15=>ldI .u64 h11 b15 (o15+n15.toNat) λn17=>T226 n16 n17 h11 λr1 h12=>retB r1 (J n15 h12) (I2 (wrap .i64 (n15+1)) h12/\m2 (wrap .i64 (n15+1)) h12<m2 n15 h11)) (J n15 h11))))
def F227.T:=F227.G F226.T
theorem F227.gen(V T226 l n n1 n2):denF Tryz.prog [] [(226,F226.W T226)] V [(6,.order [0,1,2,3,4,5,6,7,8,9,10,11,12,13,14,15]),(60,.loop [(9,.int .i64),(10,.int .i64)] []),(240,.join [(9,.int .i64)] []),(960,.loop [(9,.int .i64)] []),(1924,.loop [(10,.int .i64)] []),(3854,.order [0,1,2,3,4,5,6,7,8,9,10,11,12,13,14,15]),(7680,.order [0,1,2,3,4,5,6,7,8,9,10,11,12,13,14]),(15392,.order [0,1,2,3,4,5,6,7,8,9,10,11,12,13])] Tryz.f227 [.v (.slice l.a l.n l.c),.v (.int .i64 n),.v (.int .i64 n1),.v (.int .i64 n2)]=F227.G T226 l n n1 n2:=by kernel_rfl
def F227.W(T227:Sl->Int->Int->Int->PT)(args:List Value):PT:=match args with
 |[.slice l_a l_n l_c,.int .i64 n,.int .i64 n1,.int .i64 n2]=>T227 ⟨l_a,l_n,l_c⟩ n n1 n2
 |_=>λ_ _=>False
def F227.V:List Value->PT:=F227.W F227.T
theorem F227.ok:FOk Tryz.prog 227 F227.V:=by
 refine⟨⟨_,Tryz.func227,rfl,rfl⟩,λ_=>?_⟩;unfold F227.V F227.W;split;exact denF_okE (GOk.cons F226.ok (GOk.nil)) noV_ok Tryz.func227 (F227.gen noV F226.T ⟨_,_,_⟩ _ _ _);exact λ_ _ h=>h.elim
@[reducible] def F228.G(T226:Int->Int->PT)(l:Sl)(n n1 n2:Int):PT:=λh Q=>
 ix l.a n2 l.n λb o=>ldI .u64 h b (o+n2.toNat) λn3=>ix l.a n l.n λb1 o1=>ldI .u64 h b1 (o1+n.toNat) λn4=>ix l.a n l.n λb2 o2=>st h b2 (o2+n.toNat) 1 [.int .u64 n3] λh1=>ix l.a n2 l.n λb3 o3=>st h1 b3 (o3+n2.toNat) 1 [.int .u64 n4] λh2=>∃ J:Int->Hp->Prop,(∀ n5:Int,∀ h3:Hp,J n5 h3->∃ J1:Int->Hp->Prop,(∀ n6:Int,∀ h4:Hp,J1 n6 h4->par (n6<n5) (ix l.a n l.n λb4 o4=>ldI .u64 h4 b4 (o4+n.toNat) λn7=>ix l.a n6 l.n λb5 o5=>ldI .u64 h4 b5 (o5+n6.toNat) λn8=>ix l.a n6 l.n λb6 o6=>st h4 b6 (o6+n6.toNat) 1 [.int .u64 n7] λh5=>ix l.a n l.n λb7 o7=>st h5 b7 (o7+n.toNat) 1 [.int .u64 n8] λh6=>Q (.tuple ⟨[.int .i64 n6,.bool true]⟩) h6) (ix l.a n6 l.n λb8 o8=>ldI .u64 h4 b8 (o8+n6.toNat) λn9=>ix l.a n5 l.n λb9 o9=>ldI .u64 h4 b9 (o9+n5.toNat) λn10=>ix l.a n5 l.n λb10 o10=>st h4 b10 (o10+n5.toNat) 1 [.int .u64 n9] λh7=>ix l.a n6 l.n λb11 o11=>st h7 b11 (o11+n6.toNat) 1 [.int .u64 n10] λh8=>∃ (I:Int->Int->Hp->Prop) (m:Int->Int->Hp->Nat),I (wrap .i64 (n5+1)) (wrap .i64 (n6-1)) h8/\(∀ n11 n12:Int,∀ h9:Hp,I n11 n12 h9->∃ J2:Int->Hp->Prop,(∀ n13:Int,∀ h10:Hp,J2 n13 h10->∃ (I1:Int->Hp->Prop) (m1:Int->Hp->Nat),I1 n12 h10/\(∀ n14:Int,∀ h11:Hp,I1 n14 h11->par (n13<=n14) (ix l.a n14 l.n λb12 o12=>ldI .u64 h11 b12 (o12+n14.toNat) λn15=>ix l.a n l.n λb13 o13=>ldI .u64 h11 b13 (o13+n.toNat) λn16=>T226 n15 n16 h11 λr h12=>retB r (par (n14<n13) (ix l.a n l.n λb14 o14=>ldI .u64 h12 b14 (o14+n.toNat) λn17=>ix l.a n14 l.n λb15 o15=>ldI .u64 h12 b15 (o15+n14.toNat) λn18=>ix l.a n14 l.n λb16 o16=>st h12 b16 (o16+n14.toNat) 1 [.int .u64 n17] λh13=>ix l.a n l.n λb17 o17=>st h13 b17 (o17+n.toNat) 1 [.int .u64 n18] λh14=>Q (.tuple ⟨[.int .i64 n14,.bool false]⟩) h14) (ix l.a n14 l.n λb18 o18=>ldI .u64 h12 b18 (o18+n14.toNat) λn19=>ix l.a n13 l.n λb19 o19=>ldI .u64 h12 b19 (o19+n13.toNat) λn20=>ix l.a n13 l.n λb20 o20=>st h12 b20 (o20+n13.toNat) 1 [.int .u64 n19] λh15=>ix l.a n14 l.n λb21 o21=>st h15 b21 (o21+n14.toNat) 1 [.int .u64 n20] λh16=>I (wrap .i64 (n13+1)) (wrap .i64 (n14-1)) h16/\m (wrap .i64 (n13+1)) (wrap .i64 (n14-1)) h16<m n11 n12 h9)) (I1 (wrap .i64 (n14-1)) h12/\m1 (wrap .i64 (n14-1)) h12<m1 n14 h11)) (par (n14<n13) (ix l.a n l.n λb22 o22=>ldI .u64 h11 b22 (o22+n.toNat) λn21=>ix l.a n14 l.n λb23 o23=>ldI .u64 h11 b23 (o23+n14.toNat) λn22=>ix l.a n14 l.n λb24 o24=>st h11 b24 (o24+n14.toNat) 1 [.int .u64 n21] λh17=>ix l.a n l.n λb25 o25=>st h17 b25 (o25+n.toNat) 1 [.int .u64 n22] λh18=>Q (.tuple ⟨[.int .i64 n14,.bool false]⟩) h18) (ix l.a n14 l.n λb26 o26=>ldI .u64 h11 b26 (o26+n14.toNat) λn23=>ix l.a n13 l.n λb27 o27=>ldI .u64 h11 b27 (o27+n13.toNat) λn24=>ix l.a n13 l.n λb28 o28=>st h11 b28 (o28+n13.toNat) 1 [.int .u64 n23] λh19=>ix l.a n14 l.n λb29 o29=>st h19 b29 (o29+n14.toNat) 1 [.int .u64 n24] λh20=>I (wrap .i64 (n13+1)) (wrap .i64 (n14-1)) h20/\m (wrap .i64 (n13+1)) (wrap .i64 (n14-1)) h20<m n11 n12 h9))))/\(∃ (I2:Int->Hp->Prop) (m2:Int->Hp->Nat),I2 n11 h9/\(∀ n25:Int,∀ h21:Hp,I2 n25 h21->par (n25<=n12) (ix l.a n25 l.n λb30 o30=>ldI .u64 h21 b30 (o30+n25.toNat) λn26=>ix l.a n l.n λb31 o31=>ldI .u64 h21 b31 (o31+n.toNat) λn27=>T226 n26 n27 h21 λr1 h22=>retB r1 (I2 (wrap .i64 (n25+1)) h22/\m2 (wrap .i64 (n25+1)) h22<m2 n25 h21) (J2 n25 h22)) (J2 n25 h21))))))/\(∃ (I3:Int->Hp->Prop) (m3:Int->Hp->Nat),I3 (wrap .i64 (n1-1)) h3/\(∀ n28:Int,∀ h23:Hp,I3 n28 h23->par (n5<=n28) (ix l.a n28 l.n λb32 o32=>ldI .u64 h23 b32 (o32+n28.toNat) λn29=>ix l.a n l.n λb33 o33=>ldI .u64 h23 b33 (o33+n.toNat) λn30=>T226 n29 n30 h23 λr2 h24=>retB r2 (J1 n28 h24) (I3 (wrap .i64 (n28-1)) h24/\m3 (wrap .i64 (n28-1)) h24<m3 n28 h23)) (J1 n28 h23))))/\(∃ (I4:Int->Hp->Prop) (m4:Int->Hp->Nat),I4 (wrap .i64 (n+1)) h2/\(∀ n31:Int,∀ h25:Hp,I4 n31 h25->par (n31<=(wrap .i64 (n1-1))) (ix l.a n31 l.n λb34 o34=>ldI .u64 h25 b34 (o34+n31.toNat) λn32=>ix l.a n l.n λb35 o35=>ldI .u64 h25 b35 (o35+n.toNat) λn33=>T226 n32 n33 h25 λr3 h26=>retB r3 (I4 (wrap .i64 (n31+1)) h26/\m4 (wrap .i64 (n31+1)) h26<m4 n31 h25) (J n31 h26)) (J n31 h25)))
def F228.T:=F228.G F226.T
theorem F228.gen(V T226 l n n1 n2):denF Tryz.prog [] [(226,F226.W T226)] V [(6,.order [0,1,2,3,4,5,6,7,8,9,10,11,12,13,14,15]),(15,.join [(10,.int .i64)] []),(31,.join [(11,.int .i64)] []),(60,.loop [(10,.int .i64)] []),(124,.loop [(11,.int .i64)] []),(254,.order [0,1,2,3,4,5,6,7,8,9,10,11,12,13,14,15]),(480,.order [0,1,2,3,4,5,6,7,8,9,10,11,12,13]),(992,.order [0,1,2,3,4,5,6,7,8,9,10,11,12,13,14]),(1012,.order [0,1,2,3,4,5,6,7,8,9,10,11,12,13,14,15]),(4092,.loop [(10,.int .i64),(11,.int .i64)] []),(4094,.order [0,1,2,3,4,5,6,7,8,9,10,11,12,13,14,15]),(16368,.join [(10,.int .i64)] []),(65472,.loop [(10,.int .i64)] []),(130948,.loop [(11,.int .i64)] []),(261902,.order [0,1,2,3,4,5,6,7,8,9,10,11,12,13,14,15]),(523776,.order [0,1,2,3,4,5,6,7,8,9,10,11,12,13]),(1047584,.order [0,1,2,3,4,5,6,7,8,9,10,11,12,13,14])] Tryz.f228 [.v (.slice l.a l.n l.c),.v (.int .i64 n),.v (.int .i64 n1),.v (.int .i64 n2)]=F228.G T226 l n n1 n2:=by kernel_rfl
def F228.W(T228:Sl->Int->Int->Int->PT)(args:List Value):PT:=match args with
 |[.slice l_a l_n l_c,.int .i64 n,.int .i64 n1,.int .i64 n2]=>T228 ⟨l_a,l_n,l_c⟩ n n1 n2
 |_=>λ_ _=>False
def F228.V:List Value->PT:=F228.W F228.T
theorem F228.ok:FOk Tryz.prog 228 F228.V:=by
 refine⟨⟨_,Tryz.func228,rfl,rfl⟩,λ_=>?_⟩;unfold F228.V F228.W;split;exact denF_okE (GOk.cons F226.ok (GOk.nil)) noV_ok Tryz.func228 (F228.gen noV F226.T ⟨_,_,_⟩ _ _ _);exact λ_ _ h=>h.elim
end Go.Eng.YtbjnlacacapjiaaGreatDoor
end
section
open Go.Proofs
namespace Go.Eng.YtbjnlacacapjiaaGreatDoor
@[reducible] def F212.B(T212:Sl->Int->Int->Int->PT)(T220:Sl->Int->Int->PT)(T221:Sl->Int->Int->PT)(T222:Sl->Int->Int->PT)(T223:Sl->Int->Int->PT)(T224:Sl->Int->Int->PT)(T225:Sl->Int->Int->PT)(T226:Int->Int->PT)(T227:Sl->Int->Int->Int->PT)(T228:Sl->Int->Int->Int->PT)(l:Sl)(n:Int)(n1:Int)(n2:Int):PT:=λh Q=>
 ∃ (I:Int->Int->Int->Bool->Bool->Hp->Prop) (m:Int->Int->Int->Bool->Bool->Hp->Nat),I n n1 n2 true true h/\(∀ n3 n4 n5:Int,((∀ h1:Hp,I n3 n4 n5 true true h1->par ((wrap .i64 (n4-n3))<=12) (T220 l n3 n4 h1 λr h2=>Q (.tuple ⟨[]⟩) h2) (par (n5=0) (T221 l n3 n4 h1 λr1 h3=>Q (.tuple ⟨[]⟩) h3) (T223 l n3 n4 h1 λr2 h4=>∃ n6 n7:Int,r2=.tuple ⟨[.int .i64 n6,.int .i64 n7]⟩/\∃ J:Int->Int->Hp->Prop,(∀ n8 n9:Int,∀ h5:Hp,J n8 n9 h5->∃ J1:Hp->Prop,(∀ h6:Hp,J1 h6->∃ J2:Int->Hp->Prop,(∀ n10:Int,∀ h7:Hp,J2 n10 h7->T228 l n10 n4 n8 h7 λr3 h8=>∃ n11:Int,∃ b2:Bool,parB b2 (r3=.tuple ⟨[.int .i64 n11,.bool true]⟩/\(8:Int)≠0/\par ((wrap .i64 (n11-n10))<(wrap .i64 (n4-n11))) (par ((wrap .i64 (Int.tdiv (wrap .i64 (n4-n3)) 8))<=(wrap .i64 (n11-n10))) (T212 l n10 n11 n5 h8 λr4 h9=>I (wrap .i64 (n11+1)) n4 n5 true true h9/\m (wrap .i64 (n11+1)) n4 n5 true true h9<m n3 n4 n5 true true h1) (T212 l n10 n11 n5 h8 λr5 h10=>I (wrap .i64 (n11+1)) n4 n5 false true h10/\m (wrap .i64 (n11+1)) n4 n5 false true h10<m n3 n4 n5 true true h1)) (par ((wrap .i64 (Int.tdiv (wrap .i64 (n4-n3)) 8))<=(wrap .i64 (n4-n11))) (T212 l (wrap .i64 (n11+1)) n4 n5 h8 λr6 h11=>I n10 n11 n5 true true h11/\m n10 n11 n5 true true h11<m n3 n4 n5 true true h1) (T212 l (wrap .i64 (n11+1)) n4 n5 h8 λr7 h12=>I n10 n11 n5 false true h12/\m n10 n11 n5 false true h12<m n3 n4 n5 true true h1))) (r3=.tuple ⟨[.int .i64 n11,.bool false]⟩/\(8:Int)≠0/\par ((wrap .i64 (n11-n10))<(wrap .i64 (n4-n11))) (par ((wrap .i64 (Int.tdiv (wrap .i64 (n4-n3)) 8))<=(wrap .i64 (n11-n10))) (T212 l n10 n11 n5 h8 λr8 h13=>I (wrap .i64 (n11+1)) n4 n5 true false h13/\m (wrap .i64 (n11+1)) n4 n5 true false h13<m n3 n4 n5 true true h1) (T212 l n10 n11 n5 h8 λr9 h14=>I (wrap .i64 (n11+1)) n4 n5 false false h14/\m (wrap .i64 (n11+1)) n4 n5 false false h14<m n3 n4 n5 true true h1)) (par ((wrap .i64 (Int.tdiv (wrap .i64 (n4-n3)) 8))<=(wrap .i64 (n4-n11))) (T212 l (wrap .i64 (n11+1)) n4 n5 h8 λr10 h15=>I n10 n11 n5 true false h15/\m n10 n11 n5 true false h15<m n3 n4 n5 true true h1) (T212 l (wrap .i64 (n11+1)) n4 n5 h8 λr11 h16=>I n10 n11 n5 false false h16/\m n10 n11 n5 false false h16<m n3 n4 n5 true true h1))))/\(par ((0:Int)<n3) (ix l.a (wrap .i64 (n3-1)) l.n λb3 o=>ldI .u64 h6 b3 (o+((wrap .i64 (n3-1))).toNat) λn12=>ix l.a n8 l.n λb4 o1=>ldI .u64 h6 b4 (o1+n8.toNat) λn13=>T226 n12 n13 h6 λr12 h17=>retB r12 (J2 n3 h17) (T227 l n3 n4 n8 h17 λr13 h18=>retI .i64 r13 λn14=>I n14 n4 n5 true true h18/\m n14 n4 n5 true true h18<m n3 n4 n5 true true h1)) (J2 n3 h6)))/\(par (n9=1) (T225 l n3 n4 h5 λr14 h19=>retB r14 (Q (.tuple ⟨[]⟩) h19) (J1 h19)) (J1 h5)))/\(par (n7=2) (T224 l n3 n4 h4 λr15 h20=>J (wrap .i64 ((wrap .i64 (n4-1))-(wrap .i64 (n6-n3)))) 1 h20) (J n6 n7 h4)))))/\(∀ h1:Hp,I n3 n4 n5 true false h1->par ((wrap .i64 (n4-n3))<=12) (T220 l n3 n4 h1 λr16 h21=>Q (.tuple ⟨[]⟩) h21) (par (n5=0) (T221 l n3 n4 h1 λr17 h22=>Q (.tuple ⟨[]⟩) h22) (T223 l n3 n4 h1 λr18 h23=>∃ n15 n16:Int,r18=.tuple ⟨[.int .i64 n15,.int .i64 n16]⟩/\∃ J3:Int->Int->Hp->Prop,(∀ n17 n18:Int,∀ h24:Hp,J3 n17 n18 h24->∃ J4:Hp->Prop,(∀ h25:Hp,J4 h25->∃ J5:Int->Hp->Prop,(∀ n19:Int,∀ h26:Hp,J5 n19 h26->T228 l n19 n4 n17 h26 λr19 h27=>∃ n20:Int,∃ b5:Bool,parB b5 (r19=.tuple ⟨[.int .i64 n20,.bool true]⟩/\(8:Int)≠0/\par ((wrap .i64 (n20-n19))<(wrap .i64 (n4-n20))) (par ((wrap .i64 (Int.tdiv (wrap .i64 (n4-n3)) 8))<=(wrap .i64 (n20-n19))) (T212 l n19 n20 n5 h27 λr20 h28=>I (wrap .i64 (n20+1)) n4 n5 true true h28/\m (wrap .i64 (n20+1)) n4 n5 true true h28<m n3 n4 n5 true false h1) (T212 l n19 n20 n5 h27 λr21 h29=>I (wrap .i64 (n20+1)) n4 n5 false true h29/\m (wrap .i64 (n20+1)) n4 n5 false true h29<m n3 n4 n5 true false h1)) (par ((wrap .i64 (Int.tdiv (wrap .i64 (n4-n3)) 8))<=(wrap .i64 (n4-n20))) (T212 l (wrap .i64 (n20+1)) n4 n5 h27 λr22 h30=>I n19 n20 n5 true true h30/\m n19 n20 n5 true true h30<m n3 n4 n5 true false h1) (T212 l (wrap .i64 (n20+1)) n4 n5 h27 λr23 h31=>I n19 n20 n5 false true h31/\m n19 n20 n5 false true h31<m n3 n4 n5 true false h1))) (r19=.tuple ⟨[.int .i64 n20,.bool false]⟩/\(8:Int)≠0/\par ((wrap .i64 (n20-n19))<(wrap .i64 (n4-n20))) (par ((wrap .i64 (Int.tdiv (wrap .i64 (n4-n3)) 8))<=(wrap .i64 (n20-n19))) (T212 l n19 n20 n5 h27 λr24 h32=>I (wrap .i64 (n20+1)) n4 n5 true false h32/\m (wrap .i64 (n20+1)) n4 n5 true false h32<m n3 n4 n5 true false h1) (T212 l n19 n20 n5 h27 λr25 h33=>I (wrap .i64 (n20+1)) n4 n5 false false h33/\m (wrap .i64 (n20+1)) n4 n5 false false h33<m n3 n4 n5 true false h1)) (par ((wrap .i64 (Int.tdiv (wrap .i64 (n4-n3)) 8))<=(wrap .i64 (n4-n20))) (T212 l (wrap .i64 (n20+1)) n4 n5 h27 λr26 h34=>I n19 n20 n5 true false h34/\m n19 n20 n5 true false h34<m n3 n4 n5 true false h1) (T212 l (wrap .i64 (n20+1)) n4 n5 h27 λr27 h35=>I n19 n20 n5 false false h35/\m n19 n20 n5 false false h35<m n3 n4 n5 true false h1))))/\(par ((0:Int)<n3) (ix l.a (wrap .i64 (n3-1)) l.n λb6 o2=>ldI .u64 h25 b6 (o2+((wrap .i64 (n3-1))).toNat) λn21=>ix l.a n17 l.n λb7 o3=>ldI .u64 h25 b7 (o3+n17.toNat) λn22=>T226 n21 n22 h25 λr28 h36=>retB r28 (J5 n3 h36) (T227 l n3 n4 n17 h36 λr29 h37=>retI .i64 r29 λn23=>I n23 n4 n5 true false h37/\m n23 n4 n5 true false h37<m n3 n4 n5 true false h1)) (J5 n3 h25)))/\(J4 h24))/\(par (n16=2) (T224 l n3 n4 h23 λr30 h38=>J3 (wrap .i64 ((wrap .i64 (n4-1))-(wrap .i64 (n15-n3)))) 1 h38) (J3 n15 n16 h23))))))/\((∀ h1:Hp,I n3 n4 n5 false true h1->par ((wrap .i64 (n4-n3))<=12) (T220 l n3 n4 h1 λr31 h39=>Q (.tuple ⟨[]⟩) h39) (par (n5=0) (T221 l n3 n4 h1 λr32 h40=>Q (.tuple ⟨[]⟩) h40) (T222 l n3 n4 h1 λr33 h41=>T223 l n3 n4 h41 λr34 h42=>∃ n24 n25:Int,r34=.tuple ⟨[.int .i64 n24,.int .i64 n25]⟩/\∃ J6:Int->Int->Hp->Prop,(∀ n26 n27:Int,∀ h43:Hp,J6 n26 n27 h43->∃ J7:Hp->Prop,(∀ h44:Hp,J7 h44->∃ J8:Int->Hp->Prop,(∀ n28:Int,∀ h45:Hp,J8 n28 h45->T228 l n28 n4 n26 h45 λr35 h46=>∃ n29:Int,∃ b8:Bool,parB b8 (r35=.tuple ⟨[.int .i64 n29,.bool true]⟩/\(8:Int)≠0/\par ((wrap .i64 (n29-n28))<(wrap .i64 (n4-n29))) (par ((wrap .i64 (Int.tdiv (wrap .i64 (n4-n3)) 8))<=(wrap .i64 (n29-n28))) (T212 l n28 n29 (wrap .i64 (n5-1)) h46 λr36 h47=>I (wrap .i64 (n29+1)) n4 (wrap .i64 (n5-1)) true true h47/\m (wrap .i64 (n29+1)) n4 (wrap .i64 (n5-1)) true true h47<m n3 n4 n5 false true h1) (T212 l n28 n29 (wrap .i64 (n5-1)) h46 λr37 h48=>I (wrap .i64 (n29+1)) n4 (wrap .i64 (n5-1)) false true h48/\m (wrap .i64 (n29+1)) n4 (wrap .i64 (n5-1)) false true h48<m n3 n4 n5 false true h1)) (par ((wrap .i64 (Int.tdiv (wrap .i64 (n4-n3)) 8))<=(wrap .i64 (n4-n29))) (T212 l (wrap .i64 (n29+1)) n4 (wrap .i64 (n5-1)) h46 λr38 h49=>I n28 n29 (wrap .i64 (n5-1)) true true h49/\m n28 n29 (wrap .i64 (n5-1)) true true h49<m n3 n4 n5 false true h1) (T212 l (wrap .i64 (n29+1)) n4 (wrap .i64 (n5-1)) h46 λr39 h50=>I n28 n29 (wrap .i64 (n5-1)) false true h50/\m n28 n29 (wrap .i64 (n5-1)) false true h50<m n3 n4 n5 false true h1))) (r35=.tuple ⟨[.int .i64 n29,.bool false]⟩/\(8:Int)≠0/\par ((wrap .i64 (n29-n28))<(wrap .i64 (n4-n29))) (par ((wrap .i64 (Int.tdiv (wrap .i64 (n4-n3)) 8))<=(wrap .i64 (n29-n28))) (T212 l n28 n29 (wrap .i64 (n5-1)) h46 λr40 h51=>I (wrap .i64 (n29+1)) n4 (wrap .i64 (n5-1)) true false h51/\m (wrap .i64 (n29+1)) n4 (wrap .i64 (n5-1)) true false h51<m n3 n4 n5 false true h1) (T212 l n28 n29 (wrap .i64 (n5-1)) h46 λr41 h52=>I (wrap .i64 (n29+1)) n4 (wrap .i64 (n5-1)) false false h52/\m (wrap .i64 (n29+1)) n4 (wrap .i64 (n5-1)) false false h52<m n3 n4 n5 false true h1)) (par ((wrap .i64 (Int.tdiv (wrap .i64 (n4-n3)) 8))<=(wrap .i64 (n4-n29))) (T212 l (wrap .i64 (n29+1)) n4 (wrap .i64 (n5-1)) h46 λr42 h53=>I n28 n29 (wrap .i64 (n5-1)) true false h53/\m n28 n29 (wrap .i64 (n5-1)) true false h53<m n3 n4 n5 false true h1) (T212 l (wrap .i64 (n29+1)) n4 (wrap .i64 (n5-1)) h46 λr43 h54=>I n28 n29 (wrap .i64 (n5-1)) false false h54/\m n28 n29 (wrap .i64 (n5-1)) false false h54<m n3 n4 n5 false true h1))))/\(par ((0:Int)<n3) (ix l.a (wrap .i64 (n3-1)) l.n λb9 o4=>ldI .u64 h44 b9 (o4+((wrap .i64 (n3-1))).toNat) λn30=>ix l.a n26 l.n λb10 o5=>ldI .u64 h44 b10 (o5+n26.toNat) λn31=>T226 n30 n31 h44 λr44 h55=>retB r44 (J8 n3 h55) (T227 l n3 n4 n26 h55 λr45 h56=>retI .i64 r45 λn32=>I n32 n4 (wrap .i64 (n5-1)) false true h56/\m n32 n4 (wrap .i64 (n5-1)) false true h56<m n3 n4 n5 false true h1)) (J8 n3 h44)))/\(J7 h43))/\(par (n25=2) (T224 l n3 n4 h42 λr46 h57=>J6 (wrap .i64 ((wrap .i64 (n4-1))-(wrap .i64 (n24-n3)))) 1 h57) (J6 n24 n25 h42)))))/\(∀ h1:Hp,I n3 n4 n5 false false h1->par ((wrap .i64 (n4-n3))<=12) (T220 l n3 n4 h1 λr47 h58=>Q (.tuple ⟨[]⟩) h58) (par (n5=0) (T221 l n3 n4 h1 λr48 h59=>Q (.tuple ⟨[]⟩) h59) (T222 l n3 n4 h1 λr49 h60=>T223 l n3 n4 h60 λr50 h61=>∃ n33 n34:Int,r50=.tuple ⟨[.int .i64 n33,.int .i64 n34]⟩/\∃ J9:Int->Int->Hp->Prop,(∀ n35 n36:Int,∀ h62:Hp,J9 n35 n36 h62->∃ J10:Hp->Prop,(∀ h63:Hp,J10 h63->∃ J11:Int->Hp->Prop,(∀ n37:Int,∀ h64:Hp,J11 n37 h64->T228 l n37 n4 n35 h64 λr51 h65=>∃ n38:Int,∃ b11:Bool,parB b11 (r51=.tuple ⟨[.int .i64 n38,.bool true]⟩/\(8:Int)≠0/\par ((wrap .i64 (n38-n37))<(wrap .i64 (n4-n38))) (par ((wrap .i64 (Int.tdiv (wrap .i64 (n4-n3)) 8))<=(wrap .i64 (n38-n37))) (T212 l n37 n38 (wrap .i64 (n5-1)) h65 λr52 h66=>I (wrap .i64 (n38+1)) n4 (wrap .i64 (n5-1)) true true h66/\m (wrap .i64 (n38+1)) n4 (wrap .i64 (n5-1)) true true h66<m n3 n4 n5 false false h1) (T212 l n37 n38 (wrap .i64 (n5-1)) h65 λr53 h67=>I (wrap .i64 (n38+1)) n4 (wrap .i64 (n5-1)) false true h67/\m (wrap .i64 (n38+1)) n4 (wrap .i64 (n5-1)) false true h67<m n3 n4 n5 false false h1)) (par ((wrap .i64 (Int.tdiv (wrap .i64 (n4-n3)) 8))<=(wrap .i64 (n4-n38))) (T212 l (wrap .i64 (n38+1)) n4 (wrap .i64 (n5-1)) h65 λr54 h68=>I n37 n38 (wrap .i64 (n5-1)) true true h68/\m n37 n38 (wrap .i64 (n5-1)) true true h68<m n3 n4 n5 false false h1) (T212 l (wrap .i64 (n38+1)) n4 (wrap .i64 (n5-1)) h65 λr55 h69=>I n37 n38 (wrap .i64 (n5-1)) false true h69/\m n37 n38 (wrap .i64 (n5-1)) false true h69<m n3 n4 n5 false false h1))) (r51=.tuple ⟨[.int .i64 n38,.bool false]⟩/\(8:Int)≠0/\par ((wrap .i64 (n38-n37))<(wrap .i64 (n4-n38))) (par ((wrap .i64 (Int.tdiv (wrap .i64 (n4-n3)) 8))<=(wrap .i64 (n38-n37))) (T212 l n37 n38 (wrap .i64 (n5-1)) h65 λr56 h70=>I (wrap .i64 (n38+1)) n4 (wrap .i64 (n5-1)) true false h70/\m (wrap .i64 (n38+1)) n4 (wrap .i64 (n5-1)) true false h70<m n3 n4 n5 false false h1) (T212 l n37 n38 (wrap .i64 (n5-1)) h65 λr57 h71=>I (wrap .i64 (n38+1)) n4 (wrap .i64 (n5-1)) false false h71/\m (wrap .i64 (n38+1)) n4 (wrap .i64 (n5-1)) false false h71<m n3 n4 n5 false false h1)) (par ((wrap .i64 (Int.tdiv (wrap .i64 (n4-n3)) 8))<=(wrap .i64 (n4-n38))) (T212 l (wrap .i64 (n38+1)) n4 (wrap .i64 (n5-1)) h65 λr58 h72=>I n37 n38 (wrap .i64 (n5-1)) true false h72/\m n37 n38 (wrap .i64 (n5-1)) true false h72<m n3 n4 n5 false false h1) (T212 l (wrap .i64 (n38+1)) n4 (wrap .i64 (n5-1)) h65 λr59 h73=>I n37 n38 (wrap .i64 (n5-1)) false false h73/\m n37 n38 (wrap .i64 (n5-1)) false false h73<m n3 n4 n5 false false h1))))/\(par ((0:Int)<n3) (ix l.a (wrap .i64 (n3-1)) l.n λb12 o6=>ldI .u64 h63 b12 (o6+((wrap .i64 (n3-1))).toNat) λn39=>ix l.a n35 l.n λb13 o7=>ldI .u64 h63 b13 (o7+n35.toNat) λn40=>T226 n39 n40 h63 λr60 h74=>retB r60 (J11 n3 h74) (T227 l n3 n4 n35 h74 λr61 h75=>retI .i64 r61 λn41=>I n41 n4 (wrap .i64 (n5-1)) false false h75/\m n41 n4 (wrap .i64 (n5-1)) false false h75<m n3 n4 n5 false false h1)) (J11 n3 h63)))/\(J10 h62))/\(par (n34=2) (T224 l n3 n4 h61 λr62 h76=>J9 (wrap .i64 ((wrap .i64 (n4-1))-(wrap .i64 (n33-n3)))) 1 h76) (J9 n33 n34 h61)))))))
def F212.G(T212:Sl->Int->Int->Int->PT)(l:Sl)(n n1 n2:Int):PT:=F212.B T212 F220.T F221.T F222.T F223.T F224.T F225.T F226.T F227.T F228.T l n n1 n2
def F212.TN:Nat->Sl->Int->Int->Int->PT
 |0=>λ_ _ _ _ _ _=>False
 |n+1=>F212.G (F212.TN n)
def F212.T(l:Sl)(n n1 n2:Int):PT:=λh Q=>∃ nf,F212.TN nf l n n1 n2 h Q
def F212.W(T212:Sl->Int->Int->Int->PT)(args:List Value):PT:=match args with
 |[.slice l_a l_n l_c,.int .i64 n,.int .i64 n1,.int .i64 n2]=>T212 ⟨l_a,l_n,l_c⟩ n n1 n2
 |_=>λ_ _=>False
def F212.V:List Value->PT:=F212.W F212.T
theorem F212.gen(V:Value->List Value->PT)(T212:Sl->Int->Int->Int->PT)(T220:Sl->Int->Int->PT)(T221:Sl->Int->Int->PT)(T222:Sl->Int->Int->PT)(T223:Sl->Int->Int->PT)(T224:Sl->Int->Int->PT)(T225:Sl->Int->Int->PT)(T226:Int->Int->PT)(T227:Sl->Int->Int->Int->PT)(T228:Sl->Int->Int->Int->PT)(l:Sl)(n n1 n2:Int):denF Tryz.prog [] [(212,F212.W T212),(220,F220.W T220),(221,F221.W T221),(222,F222.W T222),(223,F223.W T223),(224,F224.W T224),(225,F225.W T225),(226,F226.W T226),(227,F227.W T227),(228,F228.W T228)] V [(14,.loop [(1,.int .i64),(2,.int .i64),(3,.int .i64),(8,.bool),(9,.bool)] []),(1823,.join [(11,.int .i64),(12,.int .i64)] []),(3647,.join [] []),(7295,.join [(1,.int .i64)] []),(29180,.order [0,1,2,3,4,5,6,7,8,9,10,11,12,13,14])] Tryz.f212 [.v (.slice l.a l.n l.c),.v (.int .i64 n),.v (.int .i64 n1),.v (.int .i64 n2)]=F212.B T212 T220 T221 T222 T223 T224 T225 T226 T227 T228 l n n1 n2:=by kernel_rfl
theorem F212.den(V:Value->List Value->PT)(nf:Nat)(l:Sl)(n n1 n2:Int):denF Tryz.prog [] [(212,F212.W (F212.TN nf)),(220,F220.V),(221,F221.V),(222,F222.V),(223,F223.V),(224,F224.V),(225,F225.V),(226,F226.V),(227,F227.V),(228,F228.V)] V [(14,.loop [(1,.int .i64),(2,.int .i64),(3,.int .i64),(8,.bool),(9,.bool)] []),(1823,.join [(11,.int .i64),(12,.int .i64)] []),(3647,.join [] []),(7295,.join [(1,.int .i64)] []),(29180,.order [0,1,2,3,4,5,6,7,8,9,10,11,12,13,14])] Tryz.f212 [.v (.slice l.a l.n l.c),.v (.int .i64 n),.v (.int .i64 n1),.v (.int .i64 n2)]=F212.TN (nf+1) l n n1 n2:=F212.gen V (F212.TN nf) F220.T F221.T F222.T F223.T F224.T F225.T F226.T F227.T F228.T l n n1 n2
theorem F212.okN:∀ n,FOk Tryz.prog 212 (F212.W (F212.TN n))
 |0=>by
  refine⟨⟨_,Tryz.func212,rfl,rfl⟩,λargs=>?_⟩
  unfold F212.W
  split
  ·exact λh Q hq=>hq.elim
  ·exact λh Q hq=>hq.elim
 |nf+1=>by
  refine⟨⟨_,Tryz.func212,rfl,rfl⟩,λargs=>?_⟩
  have hG:GOk Tryz.prog [(212,F212.W (F212.TN nf)),(220,F220.V),(221,F221.V),(222,F222.V),(223,F223.V),(224,F224.V),(225,F225.V),(226,F226.V),(227,F227.V),(228,F228.V)]:=GOk.cons (F212.okN nf) (GOk.cons F220.ok (GOk.cons F221.ok (GOk.cons F222.ok (GOk.cons F223.ok (GOk.cons F224.ok (GOk.cons F225.ok (GOk.cons F226.ok (GOk.cons F227.ok (GOk.cons F228.ok (GOk.nil))))))))))
  have hV:VOk Tryz.prog noV:=noV_ok
  unfold F212.W
  split
  ·exact denF_okV hG hV Tryz.func212 (λh Q hq=>(F212.den _ nf _ _ _ _) ▸ hq)
  ·exact λh Q hq=>hq.elim
theorem F212.ok:FOk Tryz.prog 212 F212.V:=by
 refine⟨(F212.okN 0).1,λargs h Q hq=>?_⟩
 unfold F212.V F212.W at hq
 split at hq
 ·obtain⟨nf,hn⟩:=hq
  exact(F212.okN nf).2 _ h Q hn
 ·exact hq.elim
@[reducible] def F160.G(T212:Sl->Int->Int->Int->PT)(T213:Int->PT)(l:Sl):PT:=λh Q=>
 T213 (wrap .u64 (l.n:Int)) h λr h1=>retI .i64 r λn=>T212 l 0 (l.n:Int) n h1 λr1 h2=>Q (.tuple ⟨[]⟩) h2
def F160.T:=F160.G F212.T F213.T
theorem F160.gen(V T212 T213 l):denF Tryz.prog [] [(212,F212.W T212),(213,F213.W T213)] V [] Tryz.f160 [.v (.slice l.a l.n l.c)]=F160.G T212 T213 l:=by kernel_rfl
def F160.W(T160:Sl->PT)(args:List Value):PT:=match args with
 |[.slice l_a l_n l_c]=>T160 ⟨l_a,l_n,l_c⟩
 |_=>λ_ _=>False
def F160.V:List Value->PT:=F160.W F160.T
theorem F160.ok:FOk Tryz.prog 160 F160.V:=by
 refine⟨⟨_,Tryz.func160,rfl,rfl⟩,λ_=>?_⟩;unfold F160.V F160.W;split;exact denF_okE (GOk.cons F212.ok (GOk.cons F213.ok (GOk.nil))) noV_ok Tryz.func160 (F160.gen noV F212.T F213.T ⟨_,_,_⟩);exact λ_ _ h=>h.elim
end Go.Eng.YtbjnlacacapjiaaGreatDoor
end
section
open Go.Proofs
namespace Go.Eng.YtbjnlacacapjiaaGreatDoor
def cmpI(a b:ByteArray):Int:=Go.Lib.compareBytes a.data.toList b.data.toList
def F219.T(s s1:ByteArray):PT:=λh Q=>Q (.int .i64 (cmpI s s1)) h
def F219.W(T90:ByteArray->ByteArray->PT)(args:List Value):PT:=match args with
 |[.string s,.string s1]=>T90 s s1
 |_=>λ_ _=>False
def F219.V:List Value->PT:=F219.W F219.T
theorem F219.fd:Extern.findNext Tryz.f219=none:=by kernel_rfl
theorem F219.fx:Extern.find Tryz.f219=some Extern.BytealgCompare.compare:=by kernel_rfl
theorem F219.ok:ExtOk Tryz.prog 219 F219.V:=by
 intro args h Q hq w
 unfold F219.V F219.W at hq
 split at hq
 ·refine⟨_,?_,hq⟩
  unfold callFunc
  simp only[Sem.run_bind,run_program,Result.andThen_ok,Tryz.func219]
  have h1 : (Tryz.f219.name == "runtime.NumGoroutine") = false := by kernel_rfl
  have h2:Tryz.f219.body.isNone=true:=by kernel_rfl
  simp only[h1,Bool.false_eq_true,if_false,h2,if_true,F219.fd,F219.fx,Sem.run_bind]
  have hm:(mark (.extern 219)).run Tryz.prog w=.ok () w:=rfl
  simp only[hm,Go.Lib.run_compareString,Result.andThen_ok,Sem.run_pure]
  rfl
 ·exact hq.elim
end Go.Eng.YtbjnlacacapjiaaGreatDoor
end
section
open Go.Proofs
namespace Go.Eng.YtbjnlacacapjiaaGreatDoor
def F242.T(l:Sl)(n n1 n2:Int):PT:=λh Q=>
 ∃ (I:Int->Hp->Prop) (m:Int->Hp->Nat),I 0 h/\(∀ n3:Int,∀ h1:Hp,I n3 h1->par (n3<n2) (∃ b o,(l.a:Option Addr)=some ⟨b,o,none⟩/\((0:Int)<=(wrap .i64 (n1+n3))/\(wrap .i64 (n1+n3))<(l.n:Int))/\∃ n4:Int,h1.at b (o+((wrap .i64 (n1+n3))).toNat*6)=some (.int .u64 n4)/\∃ n5:Int,h1.at b ((o+((wrap .i64 (n1+n3))).toNat*6)+1)=some (.int .i64 n5)/\∃ n6:Int,h1.at b ((o+((wrap .i64 (n1+n3))).toNat*6)+2)=some (.int .i64 n6)/\∃ n7:Int,h1.at b ((o+((wrap .i64 (n1+n3))).toNat*6)+3)=some (.int .i64 n7)/\∃ s:ByteArray,h1.at b ((o+((wrap .i64 (n1+n3))).toNat*6)+4)=some (.string s)/\∃ s1:ByteArray,h1.at b ((o+((wrap .i64 (n1+n3))).toNat*6)+5)=some (.string s1)/\∃ b1 o1,(l.a:Option Addr)=some ⟨b1,o1,none⟩/\((0:Int)<=(wrap .i64 (n+n3))/\(wrap .i64 (n+n3))<(l.n:Int))/\∃ n8:Int,h1.at b1 (o1+((wrap .i64 (n+n3))).toNat*6)=some (.int .u64 n8)/\∃ n9:Int,h1.at b1 ((o1+((wrap .i64 (n+n3))).toNat*6)+1)=some (.int .i64 n9)/\∃ n10:Int,h1.at b1 ((o1+((wrap .i64 (n+n3))).toNat*6)+2)=some (.int .i64 n10)/\∃ n11:Int,h1.at b1 ((o1+((wrap .i64 (n+n3))).toNat*6)+3)=some (.int .i64 n11)/\∃ s2:ByteArray,h1.at b1 ((o1+((wrap .i64 (n+n3))).toNat*6)+4)=some (.string s2)/\∃ s3:ByteArray,h1.at b1 ((o1+((wrap .i64 (n+n3))).toNat*6)+5)=some (.string s3)/\∃ b2 o2,(l.a:Option Addr)=some ⟨b2,o2,none⟩/\((0:Int)<=(wrap .i64 (n+n3))/\(wrap .i64 (n+n3))<(l.n:Int))/\h1.canW b2 (o2+((wrap .i64 (n+n3))).toNat*6) 6/\∃ b3 o3,(l.a:Option Addr)=some ⟨b3,o3,none⟩/\((0:Int)<=(wrap .i64 (n1+n3))/\(wrap .i64 (n1+n3))<(l.n:Int))/\(h1.wr b2 (o2+((wrap .i64 (n+n3))).toNat*6) [.int .u64 n4,.int .i64 n5,.int .i64 n6,.int .i64 n7,.string s,.string s1]).canW b3 (o3+((wrap .i64 (n1+n3))).toNat*6) 6/\I (wrap .i64 (n3+1)) ((h1.wr b2 (o2+((wrap .i64 (n+n3))).toNat*6) [.int .u64 n4,.int .i64 n5,.int .i64 n6,.int .i64 n7,.string s,.string s1]).wr b3 (o3+((wrap .i64 (n1+n3))).toNat*6) [.int .u64 n8,.int .i64 n9,.int .i64 n10,.int .i64 n11,.string s2,.string s3])/\m (wrap .i64 (n3+1)) ((h1.wr b2 (o2+((wrap .i64 (n+n3))).toNat*6) [.int .u64 n4,.int .i64 n5,.int .i64 n6,.int .i64 n7,.string s,.string s1]).wr b3 (o3+((wrap .i64 (n1+n3))).toNat*6) [.int .u64 n8,.int .i64 n9,.int .i64 n10,.int .i64 n11,.string s2,.string s3])<m n3 h1) (Q (.tuple ⟨[]⟩) h1))
theorem F242.den(V l n n1 n2):denF Tryz.prog [] [] V [(6,.loop [(10,.int .i64)] []),(100,.order [0,1,2,3,4,5,6,7,8,9,10,11,12,13,14,15,16,17,18,19,20,21,22,23])] Tryz.f242 [.v (.slice l.a l.n l.c),.v (.int .i64 n),.v (.int .i64 n1),.v (.int .i64 n2),.v (.func (.func 158) ⟨[]⟩ ⟨[]⟩)]=F242.T l n n1 n2:=by kernel_rfl
def F242.W(T242:Sl->Int->Int->Int->PT)(args:List Value):PT:=match args with
 |[.slice l_a l_n l_c,.int .i64 n,.int .i64 n1,.int .i64 n2,.func (.func 158) ⟨[]⟩ ⟨[]⟩]=>T242 ⟨l_a,l_n,l_c⟩ n n1 n2
 |_=>λ_ _=>False
def F242.V:List Value->PT:=F242.W F242.T
theorem F242.ok:FOk Tryz.prog 242 F242.V:=by
 refine⟨⟨_,Tryz.func242,rfl,rfl⟩,λ_=>?_⟩;unfold F242.V F242.W;split;exact denF_okE (GOk.nil) noV_ok Tryz.func242 (F242.den noV ⟨_,_,_⟩ _ _ _);exact λ_ _ h=>h.elim
@[reducible] def F234.G(T242:Sl->Int->Int->Int->PT)(l:Sl)(n n1 n2:Int):PT:=λh Q=>
 ∃ (I:Int->Int->Hp->Prop) (m:Int->Int->Hp->Nat),I (wrap .i64 (n1-n)) (wrap .i64 (n2-n1)) h/\(∀ n3 n4:Int,∀ h1:Hp,I n3 n4 h1->par (n3=n4) (T242 l (wrap .i64 (n1-n3)) n1 n3 h1 λr h2=>Q (.tuple ⟨[]⟩) h2) (par (n4<n3) (T242 l (wrap .i64 (n1-n3)) n1 n4 h1 λr1 h3=>I (wrap .i64 (n3-n4)) n4 h3/\m (wrap .i64 (n3-n4)) n4 h3<m n3 n4 h1) (T242 l (wrap .i64 (n1-n3)) (wrap .i64 ((wrap .i64 (n1+n4))-n3)) n3 h1 λr2 h4=>I n3 (wrap .i64 (n4-n3)) h4/\m n3 (wrap .i64 (n4-n3)) h4<m n3 n4 h1)))
def F234.T:=F234.G F242.T
theorem F234.gen(V T242 l n n1 n2):denF Tryz.prog [] [(242,F242.W T242)] V [(28,.loop [(10,.int .i64),(11,.int .i64)] [])] Tryz.f234 [.v (.slice l.a l.n l.c),.v (.int .i64 n),.v (.int .i64 n1),.v (.int .i64 n2),.v (.func (.func 158) ⟨[]⟩ ⟨[]⟩)]=F234.G T242 l n n1 n2:=by kernel_rfl
def F234.W(T234:Sl->Int->Int->Int->PT)(args:List Value):PT:=match args with
 |[.slice l_a l_n l_c,.int .i64 n,.int .i64 n1,.int .i64 n2,.func (.func 158) ⟨[]⟩ ⟨[]⟩]=>T234 ⟨l_a,l_n,l_c⟩ n n1 n2
 |_=>λ_ _=>False
def F234.V:List Value->PT:=F234.W F234.T
theorem F234.ok:FOk Tryz.prog 234 F234.V:=by
 refine⟨⟨_,Tryz.func234,rfl,rfl⟩,λ_=>?_⟩;unfold F234.V F234.W;split;exact denF_okE (GOk.cons F242.ok (GOk.nil)) noV_ok Tryz.func234 (F234.gen noV F242.T ⟨_,_,_⟩ _ _ _);exact λ_ _ h=>h.elim
@[reducible] def F211.G(T219:ByteArray->ByteArray->PT)(s s1:ByteArray):PT:=λh Q=>
 T219 s s1 h λr h1=>∃ n:Int,r=.int .i64 n/\Q (.int .i64 n) h1
def F211.T:=F211.G F219.T
theorem F211.gen(V T219 s s1):denF Tryz.prog [] [(219,F219.W T219)] V [] Tryz.f211 [.v (.string s),.v (.string s1)]=F211.G T219 s s1:=by kernel_rfl
def F211.W(T211:ByteArray->ByteArray->PT)(args:List Value):PT:=match args with
 |[.string s,.string s1]=>T211 s s1
 |_=>λ_ _=>False
def F211.V:List Value->PT:=F211.W F211.T
theorem F211.ok:FOk Tryz.prog 211 F211.V:=by
 refine⟨⟨_,Tryz.func211,rfl,rfl⟩,λ_=>?_⟩;unfold F211.V F211.W;split;exact denF_okE (GOk.consX F219.ok (GOk.nil)) noV_ok Tryz.func211 (F211.gen noV F219.T _ _);exact λ_ _ h=>h.elim
@[reducible] def F159.G(T211:ByteArray->ByteArray->PT)(s s1:ByteArray):PT:=λh Q=>
 T211 s s1 h λr h1=>∃ n:Int,r=.int .i64 n/\Q (.int .i64 n) h1
def F159.T:=F159.G F211.T
theorem F159.gen(V T211 s s1):denF Tryz.prog [] [(211,F211.W T211)] V [] Tryz.f159 [.v (.string s),.v (.string s1)]=F159.G T211 s s1:=by kernel_rfl
def F159.W(T159:ByteArray->ByteArray->PT)(args:List Value):PT:=match args with
 |[.string s,.string s1]=>T159 s s1
 |_=>λ_ _=>False
def F159.V:List Value->PT:=F159.W F159.T
theorem F159.ok:FOk Tryz.prog 159 F159.V:=by
 refine⟨⟨_,Tryz.func159,rfl,rfl⟩,λ_=>?_⟩;unfold F159.V F159.W;split;exact denF_okE (GOk.cons F211.ok (GOk.nil)) noV_ok Tryz.func159 (F159.gen noV F211.T _ _);exact λ_ _ h=>h.elim
@[reducible] def F158.G(T159:ByteArray->ByteArray->PT)(n n1 n2 n3:Int)(s s1:ByteArray)(n4 n5 n6 n7:Int)(s2 s3:ByteArray):PT:=λh Q=>
 T159 s s2 h λr h1=>∃ n8:Int,r=.int .i64 n8/\Q (.int .i64 n8) h1
def F158.T:=F158.G F159.T
theorem F158.gen(V T159 n n1 n2 n3 s s1 n4 n5 n6 n7 s2 s3):denF Tryz.prog [2,3] [(159,F159.W T159)] V [] Tryz.f158 [.v (.agg ⟨[.int .u64 n,.int .i64 n1,.int .i64 n2,.int .i64 n3,.string s,.string s1]⟩),.v (.agg ⟨[.int .u64 n4,.int .i64 n5,.int .i64 n6,.int .i64 n7,.string s2,.string s3]⟩)]=F158.G T159 n n1 n2 n3 s s1 n4 n5 n6 n7 s2 s3:=by kernel_rfl
def F158.W(T158:Int->Int->Int->Int->ByteArray->ByteArray->Int->Int->Int->Int->ByteArray->ByteArray->PT)(args:List Value):PT:=match args with
 |[.agg ⟨[.int .u64 n,.int .i64 n1,.int .i64 n2,.int .i64 n3,.string s,.string s1]⟩,.agg ⟨[.int .u64 n4,.int .i64 n5,.int .i64 n6,.int .i64 n7,.string s2,.string s3]⟩]=>T158 n n1 n2 n3 s s1 n4 n5 n6 n7 s2 s3
 |_=>λ_ _=>False
def F158.V:List Value->PT:=F158.W F158.T
theorem F158.ok:FOk Tryz.prog 158 F158.V:=by
 refine⟨⟨_,Tryz.func158,rfl,rfl⟩,λ_=>?_⟩;unfold F158.V F158.W;split;exact denF_okE (GOk.cons F159.ok (GOk.nil)) noV_ok Tryz.func158 (F158.gen noV F159.T _ _ _ _ _ _ _ _ _ _ _ _);exact λ_ _ h=>h.elim
@[reducible] def F217.G(T158:Int->Int->Int->Int->ByteArray->ByteArray->Int->Int->Int->Int->ByteArray->ByteArray->PT)(l:Sl)(n n1:Int):PT:=λh Q=>
 ∃ (I:Int->Hp->Prop) (m:Int->Hp->Nat),I (wrap .i64 (n+1)) h/\(∀ n2:Int,∀ h1:Hp,I n2 h1->par (n2<n1) (∃ (I1:Int->Hp->Prop) (m1:Int->Hp->Nat),I1 n2 h1/\(∀ n3:Int,∀ h2:Hp,I1 n3 h2->par (n<n3) (∃ b o,(l.a:Option Addr)=some ⟨b,o,none⟩/\((0:Int)<=n3/\n3<(l.n:Int))/\∃ n4:Int,h2.at b (o+n3.toNat*6)=some (.int .u64 n4)/\∃ n5:Int,h2.at b ((o+n3.toNat*6)+1)=some (.int .i64 n5)/\∃ n6:Int,h2.at b ((o+n3.toNat*6)+2)=some (.int .i64 n6)/\∃ n7:Int,h2.at b ((o+n3.toNat*6)+3)=some (.int .i64 n7)/\∃ s:ByteArray,h2.at b ((o+n3.toNat*6)+4)=some (.string s)/\∃ s1:ByteArray,h2.at b ((o+n3.toNat*6)+5)=some (.string s1)/\∃ b1 o1,(l.a:Option Addr)=some ⟨b1,o1,none⟩/\((0:Int)<=(wrap .i64 (n3-1))/\(wrap .i64 (n3-1))<(l.n:Int))/\∃ n8:Int,h2.at b1 (o1+((wrap .i64 (n3-1))).toNat*6)=some (.int .u64 n8)/\∃ n9:Int,h2.at b1 ((o1+((wrap .i64 (n3-1))).toNat*6)+1)=some (.int .i64 n9)/\∃ n10:Int,h2.at b1 ((o1+((wrap .i64 (n3-1))).toNat*6)+2)=some (.int .i64 n10)/\∃ n11:Int,h2.at b1 ((o1+((wrap .i64 (n3-1))).toNat*6)+3)=some (.int .i64 n11)/\∃ s2:ByteArray,h2.at b1 ((o1+((wrap .i64 (n3-1))).toNat*6)+4)=some (.string s2)/\∃ s3:ByteArray,h2.at b1 ((o1+((wrap .i64 (n3-1))).toNat*6)+5)=some (.string s3)/\T158 n4 n5 n6 n7 s s1 n8 n9 n10 n11 s2 s3 h2 λr h3=>∃ n12:Int,r=.int .i64 n12/\par (n12<0) (∃ b2 o2,(l.a:Option Addr)=some ⟨b2,o2,none⟩/\((0:Int)<=(wrap .i64 (n3-1))/\(wrap .i64 (n3-1))<(l.n:Int))/\∃ n13:Int,h3.at b2 (o2+((wrap .i64 (n3-1))).toNat*6)=some (.int .u64 n13)/\∃ n14:Int,h3.at b2 ((o2+((wrap .i64 (n3-1))).toNat*6)+1)=some (.int .i64 n14)/\∃ n15:Int,h3.at b2 ((o2+((wrap .i64 (n3-1))).toNat*6)+2)=some (.int .i64 n15)/\∃ n16:Int,h3.at b2 ((o2+((wrap .i64 (n3-1))).toNat*6)+3)=some (.int .i64 n16)/\∃ s4:ByteArray,h3.at b2 ((o2+((wrap .i64 (n3-1))).toNat*6)+4)=some (.string s4)/\∃ s5:ByteArray,h3.at b2 ((o2+((wrap .i64 (n3-1))).toNat*6)+5)=some (.string s5)/\∃ b3 o3,(l.a:Option Addr)=some ⟨b3,o3,none⟩/\((0:Int)<=n3/\n3<(l.n:Int))/\∃ n17:Int,h3.at b3 (o3+n3.toNat*6)=some (.int .u64 n17)/\∃ n18:Int,h3.at b3 ((o3+n3.toNat*6)+1)=some (.int .i64 n18)/\∃ n19:Int,h3.at b3 ((o3+n3.toNat*6)+2)=some (.int .i64 n19)/\∃ n20:Int,h3.at b3 ((o3+n3.toNat*6)+3)=some (.int .i64 n20)/\∃ s6:ByteArray,h3.at b3 ((o3+n3.toNat*6)+4)=some (.string s6)/\∃ s7:ByteArray,h3.at b3 ((o3+n3.toNat*6)+5)=some (.string s7)/\∃ b4 o4,(l.a:Option Addr)=some ⟨b4,o4,none⟩/\((0:Int)<=n3/\n3<(l.n:Int))/\h3.canW b4 (o4+n3.toNat*6) 6/\∃ b5 o5,(l.a:Option Addr)=some ⟨b5,o5,none⟩/\((0:Int)<=(wrap .i64 (n3-1))/\(wrap .i64 (n3-1))<(l.n:Int))/\(h3.wr b4 (o4+n3.toNat*6) [.int .u64 n13,.int .i64 n14,.int .i64 n15,.int .i64 n16,.string s4,.string s5]).canW b5 (o5+((wrap .i64 (n3-1))).toNat*6) 6/\I1 (wrap .i64 (n3-1)) ((h3.wr b4 (o4+n3.toNat*6) [.int .u64 n13,.int .i64 n14,.int .i64 n15,.int .i64 n16,.string s4,.string s5]).wr b5 (o5+((wrap .i64 (n3-1))).toNat*6) [.int .u64 n17,.int .i64 n18,.int .i64 n19,.int .i64 n20,.string s6,.string s7])/\m1 (wrap .i64 (n3-1)) ((h3.wr b4 (o4+n3.toNat*6) [.int .u64 n13,.int .i64 n14,.int .i64 n15,.int .i64 n16,.string s4,.string s5]).wr b5 (o5+((wrap .i64 (n3-1))).toNat*6) [.int .u64 n17,.int .i64 n18,.int .i64 n19,.int .i64 n20,.string s6,.string s7])<m1 n3 h2) (I (wrap .i64 (n2+1)) h3/\m (wrap .i64 (n2+1)) h3<m n2 h1)) (I (wrap .i64 (n2+1)) h2/\m (wrap .i64 (n2+1)) h2<m n2 h1))) (Q (.tuple ⟨[]⟩) h1))
def F217.T:=F217.G F158.T
theorem F217.gen(V T158 l n n1):denF Tryz.prog [] [(158,F158.W T158)] V [(6,.loop [(8,.int .i64)] []),(402,.loop [(9,.int .i64)] []),(3216,.order [0,1,2,3,4,5,6,7,8,9,10,11,12,13,14,15,16]),(6436,.order [0,1,2,3,4,5,6,7,8,9,10,11,12,13,14,15,16,17])] Tryz.f217 [.v (.slice l.a l.n l.c),.v (.int .i64 n),.v (.int .i64 n1),.v (.func (.func 158) ⟨[]⟩ ⟨[]⟩)]=F217.G T158 l n n1:=by kernel_rfl
def F217.W(T217:Sl->Int->Int->PT)(args:List Value):PT:=match args with
 |[.slice l_a l_n l_c,.int .i64 n,.int .i64 n1,.func (.func 158) ⟨[]⟩ ⟨[]⟩]=>T217 ⟨l_a,l_n,l_c⟩ n n1
 |_=>λ_ _=>False
def F217.V:List Value->PT:=F217.W F217.T
theorem F217.ok:FOk Tryz.prog 217 F217.V:=by
 refine⟨⟨_,Tryz.func217,rfl,rfl⟩,λ_=>?_⟩;unfold F217.V F217.W;split;exact denF_okE (GOk.cons F158.ok (GOk.nil)) noV_ok Tryz.func217 (F217.gen noV F158.T ⟨_,_,_⟩ _ _);exact λ_ _ h=>h.elim
@[reducible] def F218.B(T158:Int->Int->Int->Int->ByteArray->ByteArray->Int->Int->Int->Int->ByteArray->ByteArray->PT)(T218:Sl->Int->Int->Int->PT)(T234:Sl->Int->Int->Int->PT)(l:Sl)(n:Int)(n1:Int)(n2:Int):PT:=λh Q=>
 par ((wrap .i64 (n1-n))=1) (∃ (I:Int->Int->Hp->Prop) (m:Int->Int->Hp->Nat),I n1 n2 h/\(∀ n3 n4:Int,∀ h1:Hp,I n3 n4 h1->par (n3<n4) ((0:Int)<=1/\∃ b o,(l.a:Option Addr)=some ⟨b,o,none⟩/\((0:Int)<=(wrap .i64 (shrI .u64 (wrap .u64 (wrap .i64 (n3+n4))) 1))/\(wrap .i64 (shrI .u64 (wrap .u64 (wrap .i64 (n3+n4))) 1))<(l.n:Int))/\∃ n5:Int,h1.at b (o+((wrap .i64 (shrI .u64 (wrap .u64 (wrap .i64 (n3+n4))) 1))).toNat*6)=some (.int .u64 n5)/\∃ n6:Int,h1.at b ((o+((wrap .i64 (shrI .u64 (wrap .u64 (wrap .i64 (n3+n4))) 1))).toNat*6)+1)=some (.int .i64 n6)/\∃ n7:Int,h1.at b ((o+((wrap .i64 (shrI .u64 (wrap .u64 (wrap .i64 (n3+n4))) 1))).toNat*6)+2)=some (.int .i64 n7)/\∃ n8:Int,h1.at b ((o+((wrap .i64 (shrI .u64 (wrap .u64 (wrap .i64 (n3+n4))) 1))).toNat*6)+3)=some (.int .i64 n8)/\∃ s:ByteArray,h1.at b ((o+((wrap .i64 (shrI .u64 (wrap .u64 (wrap .i64 (n3+n4))) 1))).toNat*6)+4)=some (.string s)/\∃ s1:ByteArray,h1.at b ((o+((wrap .i64 (shrI .u64 (wrap .u64 (wrap .i64 (n3+n4))) 1))).toNat*6)+5)=some (.string s1)/\∃ b1 o1,(l.a:Option Addr)=some ⟨b1,o1,none⟩/\((0:Int)<=n/\n<(l.n:Int))/\∃ n9:Int,h1.at b1 (o1+n.toNat*6)=some (.int .u64 n9)/\∃ n10:Int,h1.at b1 ((o1+n.toNat*6)+1)=some (.int .i64 n10)/\∃ n11:Int,h1.at b1 ((o1+n.toNat*6)+2)=some (.int .i64 n11)/\∃ n12:Int,h1.at b1 ((o1+n.toNat*6)+3)=some (.int .i64 n12)/\∃ s2:ByteArray,h1.at b1 ((o1+n.toNat*6)+4)=some (.string s2)/\∃ s3:ByteArray,h1.at b1 ((o1+n.toNat*6)+5)=some (.string s3)/\T158 n5 n6 n7 n8 s s1 n9 n10 n11 n12 s2 s3 h1 λr h2=>∃ n13:Int,r=.int .i64 n13/\par (n13<0) (I (wrap .i64 ((wrap .i64 (shrI .u64 (wrap .u64 (wrap .i64 (n3+n4))) 1))+1)) n4 h2/\m (wrap .i64 ((wrap .i64 (shrI .u64 (wrap .u64 (wrap .i64 (n3+n4))) 1))+1)) n4 h2<m n3 n4 h1) (I n3 (wrap .i64 (shrI .u64 (wrap .u64 (wrap .i64 (n3+n4))) 1)) h2/\m n3 (wrap .i64 (shrI .u64 (wrap .u64 (wrap .i64 (n3+n4))) 1)) h2<m n3 n4 h1)) (∃ (I1:Int->Hp->Prop) (m1:Int->Hp->Nat),I1 n h1/\(∀ n14:Int,∀ h3:Hp,I1 n14 h3->par (n14<(wrap .i64 (n3-1))) (∃ b2 o2,(l.a:Option Addr)=some ⟨b2,o2,none⟩/\((0:Int)<=(wrap .i64 (n14+1))/\(wrap .i64 (n14+1))<(l.n:Int))/\∃ n15:Int,h3.at b2 (o2+((wrap .i64 (n14+1))).toNat*6)=some (.int .u64 n15)/\∃ n16:Int,h3.at b2 ((o2+((wrap .i64 (n14+1))).toNat*6)+1)=some (.int .i64 n16)/\∃ n17:Int,h3.at b2 ((o2+((wrap .i64 (n14+1))).toNat*6)+2)=some (.int .i64 n17)/\∃ n18:Int,h3.at b2 ((o2+((wrap .i64 (n14+1))).toNat*6)+3)=some (.int .i64 n18)/\∃ s4:ByteArray,h3.at b2 ((o2+((wrap .i64 (n14+1))).toNat*6)+4)=some (.string s4)/\∃ s5:ByteArray,h3.at b2 ((o2+((wrap .i64 (n14+1))).toNat*6)+5)=some (.string s5)/\∃ b3 o3,(l.a:Option Addr)=some ⟨b3,o3,none⟩/\((0:Int)<=n14/\n14<(l.n:Int))/\∃ n19:Int,h3.at b3 (o3+n14.toNat*6)=some (.int .u64 n19)/\∃ n20:Int,h3.at b3 ((o3+n14.toNat*6)+1)=some (.int .i64 n20)/\∃ n21:Int,h3.at b3 ((o3+n14.toNat*6)+2)=some (.int .i64 n21)/\∃ n22:Int,h3.at b3 ((o3+n14.toNat*6)+3)=some (.int .i64 n22)/\∃ s6:ByteArray,h3.at b3 ((o3+n14.toNat*6)+4)=some (.string s6)/\∃ s7:ByteArray,h3.at b3 ((o3+n14.toNat*6)+5)=some (.string s7)/\∃ b4 o4,(l.a:Option Addr)=some ⟨b4,o4,none⟩/\((0:Int)<=n14/\n14<(l.n:Int))/\h3.canW b4 (o4+n14.toNat*6) 6/\∃ b5 o5,(l.a:Option Addr)=some ⟨b5,o5,none⟩/\((0:Int)<=(wrap .i64 (n14+1))/\(wrap .i64 (n14+1))<(l.n:Int))/\(h3.wr b4 (o4+n14.toNat*6) [.int .u64 n15,.int .i64 n16,.int .i64 n17,.int .i64 n18,.string s4,.string s5]).canW b5 (o5+((wrap .i64 (n14+1))).toNat*6) 6/\I1 (wrap .i64 (n14+1)) ((h3.wr b4 (o4+n14.toNat*6) [.int .u64 n15,.int .i64 n16,.int .i64 n17,.int .i64 n18,.string s4,.string s5]).wr b5 (o5+((wrap .i64 (n14+1))).toNat*6) [.int .u64 n19,.int .i64 n20,.int .i64 n21,.int .i64 n22,.string s6,.string s7])/\m1 (wrap .i64 (n14+1)) ((h3.wr b4 (o4+n14.toNat*6) [.int .u64 n15,.int .i64 n16,.int .i64 n17,.int .i64 n18,.string s4,.string s5]).wr b5 (o5+((wrap .i64 (n14+1))).toNat*6) [.int .u64 n19,.int .i64 n20,.int .i64 n21,.int .i64 n22,.string s6,.string s7])<m1 n14 h3) (Q (.tuple ⟨[]⟩) h3))))) (par ((wrap .i64 (n2-n1))=1) (∃ (I2:Int->Int->Hp->Prop) (m2:Int->Int->Hp->Nat),I2 n n1 h/\(∀ n23 n24:Int,∀ h4:Hp,I2 n23 n24 h4->par (n23<n24) ((0:Int)<=1/\∃ b6 o6,(l.a:Option Addr)=some ⟨b6,o6,none⟩/\((0:Int)<=n1/\n1<(l.n:Int))/\∃ n25:Int,h4.at b6 (o6+n1.toNat*6)=some (.int .u64 n25)/\∃ n26:Int,h4.at b6 ((o6+n1.toNat*6)+1)=some (.int .i64 n26)/\∃ n27:Int,h4.at b6 ((o6+n1.toNat*6)+2)=some (.int .i64 n27)/\∃ n28:Int,h4.at b6 ((o6+n1.toNat*6)+3)=some (.int .i64 n28)/\∃ s8:ByteArray,h4.at b6 ((o6+n1.toNat*6)+4)=some (.string s8)/\∃ s9:ByteArray,h4.at b6 ((o6+n1.toNat*6)+5)=some (.string s9)/\∃ b7 o7,(l.a:Option Addr)=some ⟨b7,o7,none⟩/\((0:Int)<=(wrap .i64 (shrI .u64 (wrap .u64 (wrap .i64 (n23+n24))) 1))/\(wrap .i64 (shrI .u64 (wrap .u64 (wrap .i64 (n23+n24))) 1))<(l.n:Int))/\∃ n29:Int,h4.at b7 (o7+((wrap .i64 (shrI .u64 (wrap .u64 (wrap .i64 (n23+n24))) 1))).toNat*6)=some (.int .u64 n29)/\∃ n30:Int,h4.at b7 ((o7+((wrap .i64 (shrI .u64 (wrap .u64 (wrap .i64 (n23+n24))) 1))).toNat*6)+1)=some (.int .i64 n30)/\∃ n31:Int,h4.at b7 ((o7+((wrap .i64 (shrI .u64 (wrap .u64 (wrap .i64 (n23+n24))) 1))).toNat*6)+2)=some (.int .i64 n31)/\∃ n32:Int,h4.at b7 ((o7+((wrap .i64 (shrI .u64 (wrap .u64 (wrap .i64 (n23+n24))) 1))).toNat*6)+3)=some (.int .i64 n32)/\∃ s10:ByteArray,h4.at b7 ((o7+((wrap .i64 (shrI .u64 (wrap .u64 (wrap .i64 (n23+n24))) 1))).toNat*6)+4)=some (.string s10)/\∃ s11:ByteArray,h4.at b7 ((o7+((wrap .i64 (shrI .u64 (wrap .u64 (wrap .i64 (n23+n24))) 1))).toNat*6)+5)=some (.string s11)/\T158 n25 n26 n27 n28 s8 s9 n29 n30 n31 n32 s10 s11 h4 λr1 h5=>∃ n33:Int,r1=.int .i64 n33/\par (n33<0) (I2 n23 (wrap .i64 (shrI .u64 (wrap .u64 (wrap .i64 (n23+n24))) 1)) h5/\m2 n23 (wrap .i64 (shrI .u64 (wrap .u64 (wrap .i64 (n23+n24))) 1)) h5<m2 n23 n24 h4) (I2 (wrap .i64 ((wrap .i64 (shrI .u64 (wrap .u64 (wrap .i64 (n23+n24))) 1))+1)) n24 h5/\m2 (wrap .i64 ((wrap .i64 (shrI .u64 (wrap .u64 (wrap .i64 (n23+n24))) 1))+1)) n24 h5<m2 n23 n24 h4)) (∃ (I3:Int->Hp->Prop) (m3:Int->Hp->Nat),I3 n1 h4/\(∀ n34:Int,∀ h6:Hp,I3 n34 h6->par (n23<n34) (∃ b8 o8,(l.a:Option Addr)=some ⟨b8,o8,none⟩/\((0:Int)<=(wrap .i64 (n34-1))/\(wrap .i64 (n34-1))<(l.n:Int))/\∃ n35:Int,h6.at b8 (o8+((wrap .i64 (n34-1))).toNat*6)=some (.int .u64 n35)/\∃ n36:Int,h6.at b8 ((o8+((wrap .i64 (n34-1))).toNat*6)+1)=some (.int .i64 n36)/\∃ n37:Int,h6.at b8 ((o8+((wrap .i64 (n34-1))).toNat*6)+2)=some (.int .i64 n37)/\∃ n38:Int,h6.at b8 ((o8+((wrap .i64 (n34-1))).toNat*6)+3)=some (.int .i64 n38)/\∃ s12:ByteArray,h6.at b8 ((o8+((wrap .i64 (n34-1))).toNat*6)+4)=some (.string s12)/\∃ s13:ByteArray,h6.at b8 ((o8+((wrap .i64 (n34-1))).toNat*6)+5)=some (.string s13)/\∃ b9 o9,(l.a:Option Addr)=some ⟨b9,o9,none⟩/\((0:Int)<=n34/\n34<(l.n:Int))/\∃ n39:Int,h6.at b9 (o9+n34.toNat*6)=some (.int .u64 n39)/\∃ n40:Int,h6.at b9 ((o9+n34.toNat*6)+1)=some (.int .i64 n40)/\∃ n41:Int,h6.at b9 ((o9+n34.toNat*6)+2)=some (.int .i64 n41)/\∃ n42:Int,h6.at b9 ((o9+n34.toNat*6)+3)=some (.int .i64 n42)/\∃ s14:ByteArray,h6.at b9 ((o9+n34.toNat*6)+4)=some (.string s14)/\∃ s15:ByteArray,h6.at b9 ((o9+n34.toNat*6)+5)=some (.string s15)/\∃ b10 o10,(l.a:Option Addr)=some ⟨b10,o10,none⟩/\((0:Int)<=n34/\n34<(l.n:Int))/\h6.canW b10 (o10+n34.toNat*6) 6/\∃ b11 o11,(l.a:Option Addr)=some ⟨b11,o11,none⟩/\((0:Int)<=(wrap .i64 (n34-1))/\(wrap .i64 (n34-1))<(l.n:Int))/\(h6.wr b10 (o10+n34.toNat*6) [.int .u64 n35,.int .i64 n36,.int .i64 n37,.int .i64 n38,.string s12,.string s13]).canW b11 (o11+((wrap .i64 (n34-1))).toNat*6) 6/\I3 (wrap .i64 (n34-1)) ((h6.wr b10 (o10+n34.toNat*6) [.int .u64 n35,.int .i64 n36,.int .i64 n37,.int .i64 n38,.string s12,.string s13]).wr b11 (o11+((wrap .i64 (n34-1))).toNat*6) [.int .u64 n39,.int .i64 n40,.int .i64 n41,.int .i64 n42,.string s14,.string s15])/\m3 (wrap .i64 (n34-1)) ((h6.wr b10 (o10+n34.toNat*6) [.int .u64 n35,.int .i64 n36,.int .i64 n37,.int .i64 n38,.string s12,.string s13]).wr b11 (o11+((wrap .i64 (n34-1))).toNat*6) [.int .u64 n39,.int .i64 n40,.int .i64 n41,.int .i64 n42,.string s14,.string s15])<m3 n34 h6) (Q (.tuple ⟨[]⟩) h6))))) ((0:Int)<=1/\∃ J:Int->Int->Hp->Prop,(∀ n43 n44:Int,∀ h7:Hp,J n43 n44 h7->∃ (I4:Int->Int->Hp->Prop) (m4:Int->Int->Hp->Nat),I4 n43 n44 h7/\(∀ n45 n46:Int,∀ h8:Hp,I4 n45 n46 h8->par (n45<n46) ((0:Int)<=1/\∃ b12 o12,(l.a:Option Addr)=some ⟨b12,o12,none⟩/\((0:Int)<=(wrap .i64 ((wrap .i64 ((wrap .i64 ((wrap .i64 (shrI .u64 (wrap .u64 (wrap .i64 (n+n2))) 1))+n1))-1))-(wrap .i64 (shrI .u64 (wrap .u64 (wrap .i64 (n45+n46))) 1))))/\(wrap .i64 ((wrap .i64 ((wrap .i64 ((wrap .i64 (shrI .u64 (wrap .u64 (wrap .i64 (n+n2))) 1))+n1))-1))-(wrap .i64 (shrI .u64 (wrap .u64 (wrap .i64 (n45+n46))) 1))))<(l.n:Int))/\∃ n47:Int,h8.at b12 (o12+((wrap .i64 ((wrap .i64 ((wrap .i64 ((wrap .i64 (shrI .u64 (wrap .u64 (wrap .i64 (n+n2))) 1))+n1))-1))-(wrap .i64 (shrI .u64 (wrap .u64 (wrap .i64 (n45+n46))) 1))))).toNat*6)=some (.int .u64 n47)/\∃ n48:Int,h8.at b12 ((o12+((wrap .i64 ((wrap .i64 ((wrap .i64 ((wrap .i64 (shrI .u64 (wrap .u64 (wrap .i64 (n+n2))) 1))+n1))-1))-(wrap .i64 (shrI .u64 (wrap .u64 (wrap .i64 (n45+n46))) 1))))).toNat*6)+1)=some (.int .i64 n48)/\∃ n49:Int,h8.at b12 ((o12+((wrap .i64 ((wrap .i64 ((wrap .i64 ((wrap .i64 (shrI .u64 (wrap .u64 (wrap .i64 (n+n2))) 1))+n1))-1))-(wrap .i64 (shrI .u64 (wrap .u64 (wrap .i64 (n45+n46))) 1))))).toNat*6)+2)=some (.int .i64 n49)/\∃ n50:Int,h8.at b12 ((o12+((wrap .i64 ((wrap .i64 ((wrap .i64 ((wrap .i64 (shrI .u64 (wrap .u64 (wrap .i64 (n+n2))) 1))+n1))-1))-(wrap .i64 (shrI .u64 (wrap .u64 (wrap .i64 (n45+n46))) 1))))).toNat*6)+3)=some (.int .i64 n50)/\∃ s16:ByteArray,h8.at b12 ((o12+((wrap .i64 ((wrap .i64 ((wrap .i64 ((wrap .i64 (shrI .u64 (wrap .u64 (wrap .i64 (n+n2))) 1))+n1))-1))-(wrap .i64 (shrI .u64 (wrap .u64 (wrap .i64 (n45+n46))) 1))))).toNat*6)+4)=some (.string s16)/\∃ s17:ByteArray,h8.at b12 ((o12+((wrap .i64 ((wrap .i64 ((wrap .i64 ((wrap .i64 (shrI .u64 (wrap .u64 (wrap .i64 (n+n2))) 1))+n1))-1))-(wrap .i64 (shrI .u64 (wrap .u64 (wrap .i64 (n45+n46))) 1))))).toNat*6)+5)=some (.string s17)/\∃ b13 o13,(l.a:Option Addr)=some ⟨b13,o13,none⟩/\((0:Int)<=(wrap .i64 (shrI .u64 (wrap .u64 (wrap .i64 (n45+n46))) 1))/\(wrap .i64 (shrI .u64 (wrap .u64 (wrap .i64 (n45+n46))) 1))<(l.n:Int))/\∃ n51:Int,h8.at b13 (o13+((wrap .i64 (shrI .u64 (wrap .u64 (wrap .i64 (n45+n46))) 1))).toNat*6)=some (.int .u64 n51)/\∃ n52:Int,h8.at b13 ((o13+((wrap .i64 (shrI .u64 (wrap .u64 (wrap .i64 (n45+n46))) 1))).toNat*6)+1)=some (.int .i64 n52)/\∃ n53:Int,h8.at b13 ((o13+((wrap .i64 (shrI .u64 (wrap .u64 (wrap .i64 (n45+n46))) 1))).toNat*6)+2)=some (.int .i64 n53)/\∃ n54:Int,h8.at b13 ((o13+((wrap .i64 (shrI .u64 (wrap .u64 (wrap .i64 (n45+n46))) 1))).toNat*6)+3)=some (.int .i64 n54)/\∃ s18:ByteArray,h8.at b13 ((o13+((wrap .i64 (shrI .u64 (wrap .u64 (wrap .i64 (n45+n46))) 1))).toNat*6)+4)=some (.string s18)/\∃ s19:ByteArray,h8.at b13 ((o13+((wrap .i64 (shrI .u64 (wrap .u64 (wrap .i64 (n45+n46))) 1))).toNat*6)+5)=some (.string s19)/\T158 n47 n48 n49 n50 s16 s17 n51 n52 n53 n54 s18 s19 h8 λr2 h9=>∃ n55:Int,r2=.int .i64 n55/\par (n55<0) (I4 n45 (wrap .i64 (shrI .u64 (wrap .u64 (wrap .i64 (n45+n46))) 1)) h9/\m4 n45 (wrap .i64 (shrI .u64 (wrap .u64 (wrap .i64 (n45+n46))) 1)) h9<m4 n45 n46 h8) (I4 (wrap .i64 ((wrap .i64 (shrI .u64 (wrap .u64 (wrap .i64 (n45+n46))) 1))+1)) n46 h9/\m4 (wrap .i64 ((wrap .i64 (shrI .u64 (wrap .u64 (wrap .i64 (n45+n46))) 1))+1)) n46 h9<m4 n45 n46 h8)) (∃ J1:Hp->Prop,(∀ h10:Hp,J1 h10->∃ J2:Hp->Prop,(∀ h11:Hp,J2 h11->par ((wrap .i64 (shrI .u64 (wrap .u64 (wrap .i64 (n+n2))) 1))<(wrap .i64 ((wrap .i64 ((wrap .i64 (shrI .u64 (wrap .u64 (wrap .i64 (n+n2))) 1))+n1))-n45))) (par ((wrap .i64 ((wrap .i64 ((wrap .i64 (shrI .u64 (wrap .u64 (wrap .i64 (n+n2))) 1))+n1))-n45))<n2) (T218 l (wrap .i64 (shrI .u64 (wrap .u64 (wrap .i64 (n+n2))) 1)) (wrap .i64 ((wrap .i64 ((wrap .i64 (shrI .u64 (wrap .u64 (wrap .i64 (n+n2))) 1))+n1))-n45)) n2 h11 λr3 h12=>Q (.tuple ⟨[]⟩) h12) (Q (.tuple ⟨[]⟩) h11)) (Q (.tuple ⟨[]⟩) h11))/\(par (n<n45) (par (n45<(wrap .i64 (shrI .u64 (wrap .u64 (wrap .i64 (n+n2))) 1))) (T218 l n n45 (wrap .i64 (shrI .u64 (wrap .u64 (wrap .i64 (n+n2))) 1)) h10 λr4 h13=>J2 h13) (J2 h10)) (J2 h10)))/\(par (n45<n1) (par (n1<(wrap .i64 ((wrap .i64 ((wrap .i64 (shrI .u64 (wrap .u64 (wrap .i64 (n+n2))) 1))+n1))-n45))) (T234 l n45 n1 (wrap .i64 ((wrap .i64 ((wrap .i64 (shrI .u64 (wrap .u64 (wrap .i64 (n+n2))) 1))+n1))-n45)) h8 λr5 h14=>J1 h14) (J1 h8)) (J1 h8)))))/\(par ((wrap .i64 (shrI .u64 (wrap .u64 (wrap .i64 (n+n2))) 1))<n1) (J (wrap .i64 ((wrap .i64 ((wrap .i64 (shrI .u64 (wrap .u64 (wrap .i64 (n+n2))) 1))+n1))-n2)) (wrap .i64 (shrI .u64 (wrap .u64 (wrap .i64 (n+n2))) 1)) h) (J n n1 h))))
def F218.G(T218:Sl->Int->Int->Int->PT)(l:Sl)(n n1 n2:Int):PT:=F218.B F158.T T218 F234.T l n n1 n2
def F218.TN:Nat->Sl->Int->Int->Int->PT
 |0=>λ_ _ _ _ _ _=>False
 |n+1=>F218.G (F218.TN n)
def F218.T(l:Sl)(n n1 n2:Int):PT:=λh Q=>∃ nf,F218.TN nf l n n1 n2 h Q
def F218.W(T218:Sl->Int->Int->Int->PT)(args:List Value):PT:=match args with
 |[.slice l_a l_n l_c,.int .i64 n,.int .i64 n1,.int .i64 n2,.func (.func 158) ⟨[]⟩ ⟨[]⟩]=>T218 ⟨l_a,l_n,l_c⟩ n n1 n2
 |_=>λ_ _=>False
def F218.V:List Value->PT:=F218.W F218.T
theorem F218.gen(V:Value->List Value->PT)(T158:Int->Int->Int->Int->ByteArray->ByteArray->Int->Int->Int->Int->ByteArray->ByteArray->PT)(T218:Sl->Int->Int->Int->PT)(T234:Sl->Int->Int->Int->PT)(l:Sl)(n n1 n2:Int):denF Tryz.prog [] [(158,F158.W T158),(218,F218.W T218),(234,F234.W T234)] V [(63,.join [(20,.int .i64),(21,.int .i64)] []),(172,.loop [(10,.int .i64),(11,.int .i64)] []),(428,.loop [(14,.int .i64),(15,.int .i64)] []),(698,.loop [(13,.int .i64)] []),(1020,.loop [(20,.int .i64),(21,.int .i64)] []),(1023,.join [] []),(1722,.loop [(17,.int .i64)] []),(2047,.join [] []),(5514,.order [0,1,2,3,4,5,6,7,8,9,10]),(11172,.order [0,1,2,3,4,5,6,7,8,9,10,11,12,13,14,15,16,17]),(13706,.order [0,1,2,3,4,5,6,7,8,9,10,11]),(27556,.order [0,1,2,3,4,5,6,7,8,9,10,11,12,13,14,15,16,17]),(32650,.order [0,1,2,3,4,5,6,7,8,9,10,11,12,13])] Tryz.f218 [.v (.slice l.a l.n l.c),.v (.int .i64 n),.v (.int .i64 n1),.v (.int .i64 n2),.v (.func (.func 158) ⟨[]⟩ ⟨[]⟩)]=F218.B T158 T218 T234 l n n1 n2:=by kernel_rfl
theorem F218.den(V:Value->List Value->PT)(nf:Nat)(l:Sl)(n n1 n2:Int):denF Tryz.prog [] [(158,F158.V),(218,F218.W (F218.TN nf)),(234,F234.V)] V [(63,.join [(20,.int .i64),(21,.int .i64)] []),(172,.loop [(10,.int .i64),(11,.int .i64)] []),(428,.loop [(14,.int .i64),(15,.int .i64)] []),(698,.loop [(13,.int .i64)] []),(1020,.loop [(20,.int .i64),(21,.int .i64)] []),(1023,.join [] []),(1722,.loop [(17,.int .i64)] []),(2047,.join [] []),(5514,.order [0,1,2,3,4,5,6,7,8,9,10]),(11172,.order [0,1,2,3,4,5,6,7,8,9,10,11,12,13,14,15,16,17]),(13706,.order [0,1,2,3,4,5,6,7,8,9,10,11]),(27556,.order [0,1,2,3,4,5,6,7,8,9,10,11,12,13,14,15,16,17]),(32650,.order [0,1,2,3,4,5,6,7,8,9,10,11,12,13])] Tryz.f218 [.v (.slice l.a l.n l.c),.v (.int .i64 n),.v (.int .i64 n1),.v (.int .i64 n2),.v (.func (.func 158) ⟨[]⟩ ⟨[]⟩)]=F218.TN (nf+1) l n n1 n2:=F218.gen V F158.T (F218.TN nf) F234.T l n n1 n2
theorem F218.okN:∀ n,FOk Tryz.prog 218 (F218.W (F218.TN n))
 |0=>by
  refine⟨⟨_,Tryz.func218,rfl,rfl⟩,λargs=>?_⟩
  unfold F218.W
  split
  ·exact λh Q hq=>hq.elim
  ·exact λh Q hq=>hq.elim
 |nf+1=>by
  refine⟨⟨_,Tryz.func218,rfl,rfl⟩,λargs=>?_⟩
  have hG:GOk Tryz.prog [(158,F158.V),(218,F218.W (F218.TN nf)),(234,F234.V)]:=GOk.cons F158.ok (GOk.cons (F218.okN nf) (GOk.cons F234.ok (GOk.nil)))
  have hV:VOk Tryz.prog noV:=noV_ok
  unfold F218.W
  split
  ·exact denF_okV hG hV Tryz.func218 (λh Q hq=>(F218.den _ nf _ _ _ _) ▸ hq)
  ·exact λh Q hq=>hq.elim
theorem F218.ok:FOk Tryz.prog 218 F218.V:=by
 refine⟨(F218.okN 0).1,λargs h Q hq=>?_⟩
 unfold F218.V F218.W at hq
 split at hq
 ·obtain⟨nf,hn⟩:=hq
  exact(F218.okN nf).2 _ h Q hn
 ·exact hq.elim
@[reducible] def F210.G(T217:Sl->Int->Int->PT)(T218:Sl->Int->Int->Int->PT)(l:Sl)(n:Int):PT:=λh Q=>
 ∃ (I:Int->Int->Hp->Prop) (m:Int->Int->Hp->Nat),I 0 20 h/\(∀ n1 n2:Int,∀ h1:Hp,I n1 n2 h1->par (n2<=n) (T217 l n1 n2 h1 λr h2=>I n2 (wrap .i64 (n2+20)) h2/\m n2 (wrap .i64 (n2+20)) h2<m n1 n2 h1) (T217 l n1 n h1 λr1 h3=>∃ (I1:Int->Hp->Prop) (m1:Int->Hp->Nat),I1 20 h3/\(∀ n3:Int,∀ h4:Hp,I1 n3 h4->par (n3<n) (∃ (I2:Int->Int->Hp->Prop) (m2:Int->Int->Hp->Nat),I2 0 (wrap .i64 (2*n3)) h4/\(∀ n4 n5:Int,∀ h5:Hp,I2 n4 n5 h5->par (n5<=n) (T218 l n4 (wrap .i64 (n4+n3)) n5 h5 λr2 h6=>I2 n5 (wrap .i64 (n5+(wrap .i64 (2*n3)))) h6/\m2 n5 (wrap .i64 (n5+(wrap .i64 (2*n3)))) h6<m2 n4 n5 h5) (par ((wrap .i64 (n4+n3))<n) (T218 l n4 (wrap .i64 (n4+n3)) n h5 λr3 h7=>I1 (wrap .i64 (n3*2)) h7/\m1 (wrap .i64 (n3*2)) h7<m1 n3 h4) (I1 (wrap .i64 (n3*2)) h5/\m1 (wrap .i64 (n3*2)) h5<m1 n3 h4)))) (Q (.tuple ⟨[]⟩) h4))))
def F210.T:=F210.G F217.T F218.T
theorem F210.gen(V T217 T218 l n):denF Tryz.prog [] [(217,F217.W T217),(218,F218.W T218)] V [(28,.loop [(7,.int .i64),(8,.int .i64)] []),(62,.loop [(6,.int .i64)] []),(3988,.loop [(7,.int .i64),(8,.int .i64)] [])] Tryz.f210 [.v (.slice l.a l.n l.c),.v (.int .i64 n),.v (.func (.func 158) ⟨[]⟩ ⟨[]⟩)]=F210.G T217 T218 l n:=by kernel_rfl
def F210.W(T210:Sl->Int->PT)(args:List Value):PT:=match args with
 |[.slice l_a l_n l_c,.int .i64 n,.func (.func 158) ⟨[]⟩ ⟨[]⟩]=>T210 ⟨l_a,l_n,l_c⟩ n
 |_=>λ_ _=>False
def F210.V:List Value->PT:=F210.W F210.T
theorem F210.ok:FOk Tryz.prog 210 F210.V:=by
 refine⟨⟨_,Tryz.func210,rfl,rfl⟩,λ_=>?_⟩;unfold F210.V F210.W;split;exact denF_okE (GOk.cons F217.ok (GOk.cons F218.ok (GOk.nil))) noV_ok Tryz.func210 (F210.gen noV F217.T F218.T ⟨_,_,_⟩ _);exact λ_ _ h=>h.elim
@[reducible] def F157.G(T210:Sl->Int->PT)(l:Sl):PT:=λh Q=>
 T210 l (l.n:Int) h λr h1=>Q (.tuple ⟨[]⟩) h1
def F157.T:=F157.G F210.T
theorem F157.gen(V T210 l):denF Tryz.prog [] [(210,F210.W T210)] V [] Tryz.f157 [.v (.slice l.a l.n l.c),.v (.func (.func 158) ⟨[]⟩ ⟨[]⟩)]=F157.G T210 l:=by kernel_rfl
def F157.W(T157:Sl->PT)(args:List Value):PT:=match args with
 |[.slice l_a l_n l_c,.func (.func 158) ⟨[]⟩ ⟨[]⟩]=>T157 ⟨l_a,l_n,l_c⟩
 |_=>λ_ _=>False
def F157.V:List Value->PT:=F157.W F157.T
theorem F157.ok:FOk Tryz.prog 157 F157.V:=by
 refine⟨⟨_,Tryz.func157,rfl,rfl⟩,λ_=>?_⟩;unfold F157.V F157.W;split;exact denF_okE (GOk.cons F210.ok (GOk.nil)) noV_ok Tryz.func157 (F157.gen noV F210.T ⟨_,_,_⟩);exact λ_ _ h=>h.elim
end Go.Eng.YtbjnlacacapjiaaGreatDoor
end
section
open Go.Proofs
namespace Go.Eng.YtbjnlacacapjiaaGreatDoor
def F25.T(n:Int):PT:=λh Q=>
 ((0:Int)<=(iMin (iMax n 1) 5)/\(iMin (iMax n 1) 5)<=(iMin (iMax n 1) 5)/\24*(iMin (iMax n 1) 5)<=281474976710656)/\((0:Int)<=(iMin (iMax n 1) 5)/\(iMin (iMax n 1) 5)<=(iMin (iMax n 1) 5)/\16*(iMin (iMax n 1) 5)<=281474976710656)/\((0:Int)<=(iMin (iMax n 1) 5)/\(iMin (iMax n 1) 5)<=(iMin (iMax n 1) 5)/\24*(iMin (iMax n 1) 5)<=281474976710656)/\∀ b,h b=none->((0:Int)<=(iMin (iMax n 1) 5)/\(iMin (iMax n 1) 5)<=(iMin (iMax n 1) 5)/\16*(iMin (iMax n 1) 5)<=281474976710656)/\∀ b1,(h.new b (.cells (Builtin.zeroCells (List.toArray [.slice none 0 0]) ((iMin (iMax n 1) 5):Int).toNat) 77 (0,0))) b1=none->((0:Int)<=(iMin (iMax n 1) 5)/\(iMin (iMax n 1) 5)<=(iMin (iMax n 1) 5)/\16*(iMin (iMax n 1) 5)<=281474976710656)/\∀ b2,((h.new b (.cells (Builtin.zeroCells (List.toArray [.slice none 0 0]) ((iMin (iMax n 1) 5):Int).toNat) 77 (0,0))).new b1 (.cells ⟨[.slice (some ⟨b,0,none⟩) ((iMin (iMax n 1) 5):Int).toNat ((iMin (iMax n 1) 5):Int).toNat]⟩ 146 (0,0))) b2=none->((0:Int)<=(iMin (iMax n 1) 5)/\(iMin (iMax n 1) 5)<=(iMin (iMax n 1) 5)/\16*(iMin (iMax n 1) 5)<=281474976710656)/\((0:Int)<=(iMin (iMax n 1) 5)/\(iMin (iMax n 1) 5)<=(iMin (iMax n 1) 5)/\16*(iMin (iMax n 1) 5)<=281474976710656)/\∀ b3,(((h.new b (.cells (Builtin.zeroCells (List.toArray [.slice none 0 0]) ((iMin (iMax n 1) 5):Int).toNat) 77 (0,0))).new b1 (.cells ⟨[.slice (some ⟨b,0,none⟩) ((iMin (iMax n 1) 5):Int).toNat ((iMin (iMax n 1) 5):Int).toNat]⟩ 146 (0,0))).new b2 (.map #[] 0)) b3=none->∀ b4,((((h.new b (.cells (Builtin.zeroCells (List.toArray [.slice none 0 0]) ((iMin (iMax n 1) 5):Int).toNat) 77 (0,0))).new b1 (.cells ⟨[.slice (some ⟨b,0,none⟩) ((iMin (iMax n 1) 5):Int).toNat ((iMin (iMax n 1) 5):Int).toNat]⟩ 146 (0,0))).new b2 (.map #[] 0)).new b3 (.cells (Builtin.zeroCells (List.toArray [.string ⟨#[]⟩]) ((iMin (iMax n 1) 5):Int).toNat) 9 (0,0))) b4=none->∀ b5,(((((h.new b (.cells (Builtin.zeroCells (List.toArray [.slice none 0 0]) ((iMin (iMax n 1) 5):Int).toNat) 77 (0,0))).new b1 (.cells ⟨[.slice (some ⟨b,0,none⟩) ((iMin (iMax n 1) 5):Int).toNat ((iMin (iMax n 1) 5):Int).toNat]⟩ 146 (0,0))).new b2 (.map #[] 0)).new b3 (.cells (Builtin.zeroCells (List.toArray [.string ⟨#[]⟩]) ((iMin (iMax n 1) 5):Int).toNat) 9 (0,0))).new b4 (.map #[] 0)) b5=none->Q (.pointer (some ⟨b5,0,none⟩)) ((((((h.new b (.cells (Builtin.zeroCells (List.toArray [.slice none 0 0]) ((iMin (iMax n 1) 5):Int).toNat) 77 (0,0))).new b1 (.cells ⟨[.slice (some ⟨b,0,none⟩) ((iMin (iMax n 1) 5):Int).toNat ((iMin (iMax n 1) 5):Int).toNat]⟩ 146 (0,0))).new b2 (.map #[] 0)).new b3 (.cells (Builtin.zeroCells (List.toArray [.string ⟨#[]⟩]) ((iMin (iMax n 1) 5):Int).toNat) 9 (0,0))).new b4 (.map #[] 0)).new b5 (.cells ⟨[.pointer (some ⟨b1,0,none⟩),.map (some b2),.slice (some ⟨b3,0,none⟩) ((iMin (iMax n 1) 5):Int).toNat ((iMin (iMax n 1) 5):Int).toNat,.map (some b4)]⟩ 150 (0,0)))
theorem F25.den(V n):denF Tryz.prog [] [] V [(14,.orderL [0,5,1,2,3,4,6,7,8,9,10] [1,4,6,7])] Tryz.f25 [.v (.int .i64 n)]=F25.T n:=by kernel_rfl
def F25.W(T25:Int->PT)(args:List Value):PT:=match args with
 |[.int .i64 n]=>T25 n
 |_=>λ_ _=>False
def F25.V:List Value->PT:=F25.W F25.T
theorem F25.ok:FOk Tryz.prog 25 F25.V:=by
 refine⟨⟨_,Tryz.func25,rfl,rfl⟩,λ_=>?_⟩;unfold F25.V F25.W;split;exact denF_okE (GOk.nil) noV_ok Tryz.func25 (F25.den noV _);exact λ_ _ h=>h.elim
def F95.T(p:Option Addr):PT:=λh Q=>
 ∃ b o,(p:Option Addr)=some ⟨b,o,none⟩/\∃ l:Sl,h.at b o=some (.slice l.a l.n l.c)/\((0:Int)<=(l.n:Int)/\(l.n:Int)<=(l.n:Int)/\24*(l.n:Int)<=281474976710656)/\∀ b1,h b1=none->∃ b2 o1,(p:Option Addr)=some ⟨b2,o1,none⟩/\∃ l1:Sl,(h.new b1 (.cells (Builtin.zeroCells (List.toArray [.slice none 0 0]) ((l.n:Int):Int).toNat) 77 (0,0))).at b2 o1=some (.slice l1.a l1.n l1.c)/\∃ (I:Int->Hp->Prop) (m:Int->Hp->Nat),I 0 (h.new b1 (.cells (Builtin.zeroCells (List.toArray [.slice none 0 0]) ((l.n:Int):Int).toNat) 77 (0,0)))/\(∀ n:Int,∀ h1:Hp,I n h1->par (n<(l1.n:Int)) (∃ b3 o2,(l1.a:Option Addr)=some ⟨b3,o2,none⟩/\((0:Int)<=n/\n<(l1.n:Int))/\∃ l2:Sl,h1.at b3 (o2+n.toNat)=some (.slice l2.a l2.n l2.c)/\((0:Int)<=(l2.n:Int)/\(l2.n:Int)<=(l2.n:Int)/\64*(l2.n:Int)<=281474976710656)/\∀ b4,h1 b4=none->∃ b5 o3,((some ⟨b1,0,none⟩):Option Addr)=some ⟨b5,o3,none⟩/\((0:Int)<=n/\n<(((l.n:Int):Int).toNat:Int))/\(h1.new b4 (.cells (Builtin.zeroCells (List.toArray [.int .u64 0,.int .i64 0,.int .i64 0,.int .i64 0,.string ⟨#[]⟩,.string ⟨#[]⟩]) ((l2.n:Int):Int).toNat) 63 (0,0))).canW b5 (o3+n.toNat) 1/\∃ b6 o4,((some ⟨b1,0,none⟩):Option Addr)=some ⟨b6,o4,none⟩/\((0:Int)<=n/\n<(((l.n:Int):Int).toNat:Int))/\∃ l3:Sl,((h1.new b4 (.cells (Builtin.zeroCells (List.toArray [.int .u64 0,.int .i64 0,.int .i64 0,.int .i64 0,.string ⟨#[]⟩,.string ⟨#[]⟩]) ((l2.n:Int):Int).toNat) 63 (0,0))).wr b5 (o3+n.toNat) [.slice (some ⟨b4,0,none⟩) ((l2.n:Int):Int).toNat ((l2.n:Int):Int).toNat]).at b6 (o4+n.toNat)=some (.slice l3.a l3.n l3.c)/\∃ vs,((h1.new b4 (.cells (Builtin.zeroCells (List.toArray [.int .u64 0,.int .i64 0,.int .i64 0,.int .i64 0,.string ⟨#[]⟩,.string ⟨#[]⟩]) ((l2.n:Int):Int).toNat) 63 (0,0))).wr b5 (o3+n.toNat) [.slice (some ⟨b4,0,none⟩) ((l2.n:Int):Int).toNat ((l2.n:Int):Int).toNat]).row l2.a ((Nat.min l2.n l3.n)*6) vs/\(∀ v∈vs,Value.oneCell' v=true)/\((h1.new b4 (.cells (Builtin.zeroCells (List.toArray [.int .u64 0,.int .i64 0,.int .i64 0,.int .i64 0,.string ⟨#[]⟩,.string ⟨#[]⟩]) ((l2.n:Int):Int).toNat) 63 (0,0))).wr b5 (o3+n.toNat) [.slice (some ⟨b4,0,none⟩) ((l2.n:Int):Int).toNat ((l2.n:Int):Int).toNat]).canWA l3.a vs.length/\I (wrap .i64 (n+1)) (((h1.new b4 (.cells (Builtin.zeroCells (List.toArray [.int .u64 0,.int .i64 0,.int .i64 0,.int .i64 0,.string ⟨#[]⟩,.string ⟨#[]⟩]) ((l2.n:Int):Int).toNat) 63 (0,0))).wr b5 (o3+n.toNat) [.slice (some ⟨b4,0,none⟩) ((l2.n:Int):Int).toNat ((l2.n:Int):Int).toNat]).wrA l3.a vs)/\m (wrap .i64 (n+1)) (((h1.new b4 (.cells (Builtin.zeroCells (List.toArray [.int .u64 0,.int .i64 0,.int .i64 0,.int .i64 0,.string ⟨#[]⟩,.string ⟨#[]⟩]) ((l2.n:Int):Int).toNat) 63 (0,0))).wr b5 (o3+n.toNat) [.slice (some ⟨b4,0,none⟩) ((l2.n:Int):Int).toNat ((l2.n:Int):Int).toNat]).wrA l3.a vs)<m n h1) (∀ b7,h1 b7=none->Q (.pointer (some ⟨b7,0,none⟩)) (h1.new b7 (.cells ⟨[.slice (some ⟨b1,0,none⟩) ((l.n:Int):Int).toNat ((l.n:Int):Int).toNat]⟩ 146 (0,0)))))
theorem F95.den(V p):denF Tryz.prog [] [] V [(58,.loop [(17,.int .i64)] [])] Tryz.f95 [.v (.pointer p)]=F95.T p:=by kernel_rfl
def F95.W(T95:Option Addr->PT)(args:List Value):PT:=match args with
 |[.pointer p]=>T95 p
 |_=>λ_ _=>False
def F95.V:List Value->PT:=F95.W F95.T
theorem F95.ok:FOk Tryz.prog 95 F95.V:=by
 refine⟨⟨_,Tryz.func95,rfl,rfl⟩,λ_=>?_⟩;unfold F95.V F95.W;split;exact denF_okE (GOk.nil) noV_ok Tryz.func95 (F95.den noV _);exact λ_ _ h=>h.elim
def F143.T(p:Option Addr)(n:Int):PT:=λh Q=>
 par ((0:Int)<=n) (∃ b o,(p:Option Addr)=some ⟨b,o,none⟩/\∃ l:Sl,h.at b o=some (.slice l.a l.n l.c)/\par (n<(l.n:Int)) (Q (.bool true) h) (Q (.bool false) h)) (Q (.bool false) h)
theorem F143.den(V p n):denF Tryz.prog [] [] V [] Tryz.f143 [.v (.pointer p),.v (.int .i64 n)]=F143.T p n:=by kernel_rfl
def F143.W(T143:Option Addr->Int->PT)(args:List Value):PT:=match args with
 |[.pointer p,.int .i64 n]=>T143 p n
 |_=>λ_ _=>False
def F143.V:List Value->PT:=F143.W F143.T
theorem F143.ok:FOk Tryz.prog 143 F143.V:=by
 refine⟨⟨_,Tryz.func143,rfl,rfl⟩,λ_=>?_⟩;unfold F143.V F143.W;split;exact denF_okE (GOk.nil) noV_ok Tryz.func143 (F143.den noV _ _);exact λ_ _ h=>h.elim
def F154.T(n n1 n2 n3:Int)(s s1:ByteArray)(b o:Nat):PT:=λh Q=>
 ∃ n4:Int,h.at b (o+1)=some (.int .u64 n4)/\par (n=n4) (Q (.bool true) h) (Q (.bool false) h)
theorem F154.den(V n n1 n2 n3 s s1 b o):denF Tryz.prog [2] [] V [] Tryz.f154 [.v (.agg ⟨[.int .u64 n,.int .i64 n1,.int .i64 n2,.int .i64 n3,.string s,.string s1]⟩),.p b o]=F154.T n n1 n2 n3 s s1 b o:=by kernel_rfl
def F154.W(T154:Int->Int->Int->Int->ByteArray->ByteArray->Nat->Nat->PT)(args:List Value):PT:=match args with
 |[.agg ⟨[.int .u64 n,.int .i64 n1,.int .i64 n2,.int .i64 n3,.string s,.string s1]⟩,.pointer (some ⟨b,o,none⟩)]=>T154 n n1 n2 n3 s s1 b o
 |_=>λ_ _=>False
def F154.V:List Value->PT:=F154.W F154.T
theorem F154.ok:FOk Tryz.prog 154 F154.V:=by
 refine⟨⟨_,Tryz.func154,rfl,rfl⟩,λ_=>?_⟩;unfold F154.V F154.W;split;exact denF_okEA (xs:=[.v _,.p _ _]) (GOk.nil) noV_ok Tryz.func154 (inStep_cons rfl (inStep_cons rfl (inStep_nil _))) (by intro x hx;simp only[List.mem_cons,List.not_mem_nil,or_false] at hx;rcases hx with rfl|rfl<;>rfl) (F154.den noV _ _ _ _ _ _ _ _);exact λ_ _ h=>h.elim
@[reducible] def F153.G(T154:Int->Int->Int->Int->ByteArray->ByteArray->Nat->Nat->PT)(l:Sl)(b o:Nat):PT:=λh Q=>
 ∃ (I:Int->Hp->Prop) (m:Int->Hp->Nat),I 0 h/\(∀ n:Int,∀ h1:Hp,I n h1->par (n<(l.n:Int)) (∃ b1 o1,(l.a:Option Addr)=some ⟨b1,o1,none⟩/\((0:Int)<=n/\n<(l.n:Int))/\∃ n1:Int,h1.at b1 (o1+n.toNat*6)=some (.int .u64 n1)/\∃ n2:Int,h1.at b1 ((o1+n.toNat*6)+1)=some (.int .i64 n2)/\∃ n3:Int,h1.at b1 ((o1+n.toNat*6)+2)=some (.int .i64 n3)/\∃ n4:Int,h1.at b1 ((o1+n.toNat*6)+3)=some (.int .i64 n4)/\∃ s:ByteArray,h1.at b1 ((o1+n.toNat*6)+4)=some (.string s)/\∃ s1:ByteArray,h1.at b1 ((o1+n.toNat*6)+5)=some (.string s1)/\T154 n1 n2 n3 n4 s s1 b o h1 λr h2=>∃ b2:Bool,r=.bool b2/\parB b2 (Q (.int .i64 n) h2) (I (wrap .i64 (n+1)) h2/\m (wrap .i64 (n+1)) h2<m n h1)) (Q (.int .i64 (-1)) h1))
def F153.T:=F153.G F154.T
theorem F153.gen(V T154 l b o):denF Tryz.prog [] [(154,F154.W T154)] V [(26,.loop [(8,.int .i64)] [])] Tryz.f153 [.v (.slice l.a l.n l.c),.v (.func (.func 154) ⟨[]⟩ ⟨[.pointer (some ⟨b,o,none⟩)]⟩)]=F153.G T154 l b o:=by kernel_rfl
def F153.W(T153:Sl->Nat->Nat->PT)(args:List Value):PT:=match args with
 |[.slice l_a l_n l_c,.func (.func 154) ⟨[]⟩ ⟨[.pointer (some ⟨b,o,none⟩)]⟩]=>T153 ⟨l_a,l_n,l_c⟩ b o
 |_=>λ_ _=>False
def F153.V:List Value->PT:=F153.W F153.T
theorem F153.ok:FOk Tryz.prog 153 F153.V:=by
 refine⟨⟨_,Tryz.func153,rfl,rfl⟩,λ_=>?_⟩;unfold F153.V F153.W;split;exact denF_okE (GOk.cons F154.ok (GOk.nil)) noV_ok Tryz.func153 (F153.gen noV F154.T ⟨_,_,_⟩ _ _);exact λ_ _ h=>h.elim
def F155.T(l:Sl)(n n1:Int):PT:=λh Q=>
 Sl.okCut l n n1 (l.n:Int)/\par (n=n1) (Q (.slice l.a l.n l.c) h) (Sl.okCut l 0 n (l.c:Int)/\Sl.okCut l n1 (l.n:Int) (l.c:Int)/\∃ vs,h.row ((Sl.cut l 6 n1 (l.n:Int) (l.c:Int)).a) (((Sl.cut l 6 n1 (l.n:Int) (l.c:Int)).n)*6) vs/\(∀ v∈vs,Value.oneCell' v=true)/\appendD (Sl.cut l 6 0 n (l.c:Int)) 63 6 64 [.int .u64 0,.int .i64 0,.int .i64 0,.int .i64 0,.string ⟨#[]⟩,.string ⟨#[]⟩] ((Sl.cut l 6 n1 (l.n:Int) (l.c:Int)).n) vs h λl1 h1=>Sl.okCut l1 (l1.n:Int) (l.n:Int) (l1.c:Int)/\h1.canWA ((Sl.cut l1 6 (l1.n:Int) (l.n:Int) (l1.c:Int)).a) (((Sl.cut l1 6 (l1.n:Int) (l.n:Int) (l1.c:Int)).n)*6)/\Q (.slice l1.a l1.n l1.c) (h1.wrA ((Sl.cut l1 6 (l1.n:Int) (l.n:Int) (l1.c:Int)).a) (zerosV [.int .u64 0,.int .i64 0,.int .i64 0,.int .i64 0,.string ⟨#[]⟩,.string ⟨#[]⟩] ((Sl.cut l1 6 (l1.n:Int) (l.n:Int) (l1.c:Int)).n))))
theorem F155.den(V l n n1):denF Tryz.prog [] [] V [(62,.order [0,1,2,3,4,5,6,7])] Tryz.f155 [.v (.slice l.a l.n l.c),.v (.int .i64 n),.v (.int .i64 n1)]=F155.T l n n1:=by kernel_rfl
def F155.W(T155:Sl->Int->Int->PT)(args:List Value):PT:=match args with
 |[.slice l_a l_n l_c,.int .i64 n,.int .i64 n1]=>T155 ⟨l_a,l_n,l_c⟩ n n1
 |_=>λ_ _=>False
def F155.V:List Value->PT:=F155.W F155.T
theorem F155.ok:FOk Tryz.prog 155 F155.V:=by
 refine⟨⟨_,Tryz.func155,rfl,rfl⟩,λ_=>?_⟩;unfold F155.V F155.W;split;exact denF_okE (GOk.nil) noV_ok Tryz.func155 (F155.den noV ⟨_,_,_⟩ _ _);exact λ_ _ h=>h.elim
@[reducible] def F96.G(T143:Option Addr->Int->PT)(T153:Sl->Nat->Nat->PT)(T155:Sl->Int->Int->PT)(p:Option Addr)(l:Sl):PT:=λh Q=>
 ∃ (I:Int->Hp->Prop) (m:Int->Hp->Nat),I 0 h/\(∀ n:Int,∀ h1:Hp,I n h1->par (n<(l.n:Int)) (∃ b o,(l.a:Option Addr)=some ⟨b,o,none⟩/\((0:Int)<=n/\n<(l.n:Int))/\∃ n1:Int,h1.at b (o+n.toNat*2)=some (.int .i64 n1)/\∃ n2:Int,h1.at b ((o+n.toNat*2)+1)=some (.int .u64 n2)/\∀ b1,h1 b1=none->(h1.new b1 (.cells ⟨[.int .i64 0,.int .u64 0]⟩ 116 (0,0))).canW b1 0 2/\∃ n3:Int,((h1.new b1 (.cells ⟨[.int .i64 0,.int .u64 0]⟩ 116 (0,0))).wr b1 0 [.int .i64 n1,.int .u64 n2]).at b1 0=some (.int .i64 n3)/\T143 p n3 ((h1.new b1 (.cells ⟨[.int .i64 0,.int .u64 0]⟩ 116 (0,0))).wr b1 0 [.int .i64 n1,.int .u64 n2]) λr h2=>∃ b2:Bool,r=.bool b2/\parB b2 (∃ b3 o1,(p:Option Addr)=some ⟨b3,o1,none⟩/\∃ l1:Sl,h2.at b3 o1=some (.slice l1.a l1.n l1.c)/\∃ n4:Int,h2.at b1 0=some (.int .i64 n4)/\∃ b4 o2,(l1.a:Option Addr)=some ⟨b4,o2,none⟩/\((0:Int)<=n4/\n4<(l1.n:Int))/\∃ l2:Sl,h2.at b4 (o2+n4.toNat)=some (.slice l2.a l2.n l2.c)/\h2.at b3 o1=some (.slice l1.a l1.n l1.c)/\h2.at b1 0=some (.int .i64 n4)/\h2.at b4 (o2+n4.toNat)=some (.slice l2.a l2.n l2.c)/\T153 l2 b1 0 h2 λr1 h3=>∃ n5:Int,r1=.int .i64 n5/\par (n5<0) (Q (.int .i64 130) h3) (∃ b5 o3,(p:Option Addr)=some ⟨b5,o3,none⟩/\∃ l3:Sl,h3.at b5 o3=some (.slice l3.a l3.n l3.c)/\∃ n6:Int,h3.at b1 0=some (.int .i64 n6)/\∃ b6 o4,(p:Option Addr)=some ⟨b6,o4,none⟩/\∃ l4:Sl,h3.at b6 o4=some (.slice l4.a l4.n l4.c)/\∃ n7:Int,h3.at b1 0=some (.int .i64 n7)/\∃ b7 o5,(l4.a:Option Addr)=some ⟨b7,o5,none⟩/\((0:Int)<=n7/\n7<(l4.n:Int))/\∃ l5:Sl,h3.at b7 (o5+n7.toNat)=some (.slice l5.a l5.n l5.c)/\T155 l5 n5 (wrap .i64 (n5+1)) h3 λr2 h4=>∃ l6:Sl,r2=.slice l6.a l6.n l6.c/\h4.at b5 o3=some (.slice l3.a l3.n l3.c)/\h4.at b1 0=some (.int .i64 n6)/\∃ b8 o6,(l3.a:Option Addr)=some ⟨b8,o6,none⟩/\((0:Int)<=n6/\n6<(l3.n:Int))/\h4.canW b8 (o6+n6.toNat) 1/\I (wrap .i64 (n+1)) (h4.wr b8 (o6+n6.toNat) [.slice l6.a l6.n l6.c])/\m (wrap .i64 (n+1)) (h4.wr b8 (o6+n6.toNat) [.slice l6.a l6.n l6.c])<m n h1)) (Q (.int .i64 133) h2)) (Q (.int .i64 0) h1))
def F96.T:=F96.G F143.T F153.T F155.T
theorem F96.gen(V T143 T153 T155 p l):denF Tryz.prog [] [(143,F143.W T143),(153,F153.W T153),(155,F155.W T155)] V [(26,.loop [(10,.int .i64)] []),(6758,.order [0,1,2,3,4,5,6,7,8,9,10]),(13519,.order [0,1,2,3,4,5,6,7,8,9,10,11,12,13,14,15,16,17,18,19])] Tryz.f96 [.v (.pointer p),.v (.slice l.a l.n l.c)]=F96.G T143 T153 T155 p l:=by kernel_rfl
def F96.W(T96:Option Addr->Sl->PT)(args:List Value):PT:=match args with
 |[.pointer p,.slice l_a l_n l_c]=>T96 p ⟨l_a,l_n,l_c⟩
 |_=>λ_ _=>False
def F96.V:List Value->PT:=F96.W F96.T
theorem F96.ok:FOk Tryz.prog 96 F96.V:=by
 refine⟨⟨_,Tryz.func96,rfl,rfl⟩,λ_=>?_⟩;unfold F96.V F96.W;split;exact denF_okE (GOk.cons F143.ok (GOk.cons F153.ok (GOk.cons F155.ok (GOk.nil)))) noV_ok Tryz.func96 (F96.gen noV F143.T F153.T F155.T _ ⟨_,_,_⟩);exact λ_ _ h=>h.elim
def F156.T(p:Option Addr)(m:Option Nat):PT:=λh Q=>
 ∃ b o,(p:Option Addr)=some ⟨b,o,none⟩/\∃ l:Sl,h.at b o=some (.slice l.a l.n l.c)/\∃ (I:Int->Hp->Prop) (m1:Int->Hp->Nat),I 0 h/\(∀ n:Int,∀ h1:Hp,I n h1->par (n<(l.n:Int)) (∃ b1 o1,(l.a:Option Addr)=some ⟨b1,o1,none⟩/\((0:Int)<=n/\n<(l.n:Int))/\∃ l1:Sl,h1.at b1 (o1+n.toNat)=some (.slice l1.a l1.n l1.c)/\∃ (I1:Int->Hp->Prop) (m2:Int->Hp->Nat),I1 0 h1/\(∀ n1:Int,∀ h2:Hp,I1 n1 h2->par (n1<(l1.n:Int)) (∃ b2 o2,(l1.a:Option Addr)=some ⟨b2,o2,none⟩/\((0:Int)<=n1/\n1<(l1.n:Int))/\∃ n2:Int,h2.at b2 (o2+n1.toNat*6)=some (.int .u64 n2)/\∃ n3:Int,h2.at b2 ((o2+n1.toNat*6)+1)=some (.int .i64 n3)/\∃ n4:Int,h2.at b2 ((o2+n1.toNat*6)+2)=some (.int .i64 n4)/\∃ n5:Int,h2.at b2 ((o2+n1.toNat*6)+3)=some (.int .i64 n5)/\∃ s:ByteArray,h2.at b2 ((o2+n1.toNat*6)+4)=some (.string s)/\∃ s1:ByteArray,h2.at b2 ((o2+n1.toNat*6)+5)=some (.string s1)/\∃ es c,h2.mp m es c/\keysFit (.int .u64 n2) es/\∃ n6:Int,(mget es (.int .u64 n2) (.int .i64 0))=.int .i64 n6/\∃ b3 es1 c1,(m:Option Nat)=some b3/\h2 b3=some (.map es1 c1)/\keysFit (.int .u64 n2) es1/\I1 (wrap .i64 (n1+1)) (h2.new b3 (mPut es1 c1 (.int .u64 n2) (.int .i64 (wrap .i64 (n6+1)))))/\m2 (wrap .i64 (n1+1)) (h2.new b3 (mPut es1 c1 (.int .u64 n2) (.int .i64 (wrap .i64 (n6+1)))))<m2 n1 h2) (I (wrap .i64 (n+1)) h2/\m1 (wrap .i64 (n+1)) h2<m1 n h1))) (Q (.tuple ⟨[]⟩) h1))
theorem F156.den(V p m):denF Tryz.prog [7] [] V [(6,.loop [(13,.int .i64)] []),(1638,.loop [(19,.int .i64)] [])] Tryz.f156 [.v (.pointer p),.v (.map m)]=F156.T p m:=by kernel_rfl
def F156.W(T156:Option Addr->Option Nat->PT)(args:List Value):PT:=match args with
 |[.pointer p,.map m]=>T156 p m
 |_=>λ_ _=>False
def F156.V:List Value->PT:=F156.W F156.T
theorem F156.ok:FOk Tryz.prog 156 F156.V:=by
 refine⟨⟨_,Tryz.func156,rfl,rfl⟩,λ_=>?_⟩;unfold F156.V F156.W;split;exact denF_okE (GOk.nil) noV_ok Tryz.func156 (F156.den noV _ _);exact λ_ _ h=>h.elim
end Go.Eng.YtbjnlacacapjiaaGreatDoor
end
section
open Go.Proofs
namespace Go.Eng.YtbjnlacacapjiaaGreatDoor
@[reducible] def F97.G(T143:Option Addr->Int->PT)(T156:Option Addr->Option Nat->PT)(T157:Sl->PT)(p:Option Addr)(l:Sl):PT:=λh Q=>
 ∀ b,h b=none->T156 p (some b) (h.new b (.map #[] 0)) λr h1=>∃ (I:Int->Hp->Prop) (m:Int->Hp->Nat),I 0 h1/\(∀ n:Int,∀ h2:Hp,I n h2->par (n<(l.n:Int)) (∃ b1 o,(l.a:Option Addr)=some ⟨b1,o,none⟩/\((0:Int)<=n/\n<(l.n:Int))/\∃ n1:Int,h2.at b1 (o+n.toNat*7)=some (.int .i64 n1)/\∃ n2:Int,h2.at b1 ((o+n.toNat*7)+1)=some (.int .u64 n2)/\∃ n3:Int,h2.at b1 ((o+n.toNat*7)+2)=some (.int .i64 n3)/\∃ n4:Int,h2.at b1 ((o+n.toNat*7)+3)=some (.int .i64 n4)/\∃ n5:Int,h2.at b1 ((o+n.toNat*7)+4)=some (.int .i64 n5)/\∃ s:ByteArray,h2.at b1 ((o+n.toNat*7)+5)=some (.string s)/\∃ s1:ByteArray,h2.at b1 ((o+n.toNat*7)+6)=some (.string s1)/\T143 p n1 h2 λr1 h3=>∃ b2:Bool,r1=.bool b2/\parB b2 (∃ es c,h3.mp (some b) es c/\keysFit (.int .u64 n2) es/\∃ n6:Int,(mget es (.int .u64 n2) (.int .i64 0))=.int .i64 n6/\par ((0:Int)<n6) (Q (.int .i64 131) h3) (par (sLt s1 s) (Q (.int .i64 132) h3) (∃ es1 c1,h3.mp (some b) es1 c1/\keysFit (.int .u64 n2) es1/\∃ n7:Int,(mget es1 (.int .u64 n2) (.int .i64 0))=.int .i64 n7/\∃ b3 es2 c2,((some b):Option Nat)=some b3/\h3 b3=some (.map es2 c2)/\keysFit (.int .u64 n2) es2/\∃ b4 o1,(p:Option Addr)=some ⟨b4,o1,none⟩/\∃ l1:Sl,(h3.new b3 (mPut es2 c2 (.int .u64 n2) (.int .i64 (wrap .i64 (n7+1))))).at b4 o1=some (.slice l1.a l1.n l1.c)/\∃ b5 o2,(p:Option Addr)=some ⟨b5,o2,none⟩/\∃ l2:Sl,(h3.new b3 (mPut es2 c2 (.int .u64 n2) (.int .i64 (wrap .i64 (n7+1))))).at b5 o2=some (.slice l2.a l2.n l2.c)/\∃ b6 o3,(l2.a:Option Addr)=some ⟨b6,o3,none⟩/\((0:Int)<=n1/\n1<(l2.n:Int))/\∃ l3:Sl,(h3.new b3 (mPut es2 c2 (.int .u64 n2) (.int .i64 (wrap .i64 (n7+1))))).at b6 (o3+n1.toNat)=some (.slice l3.a l3.n l3.c)/\(h3.new b3 (mPut es2 c2 (.int .u64 n2) (.int .i64 (wrap .i64 (n7+1))))).at b4 o1=some (.slice l1.a l1.n l1.c)/\(h3.new b3 (mPut es2 c2 (.int .u64 n2) (.int .i64 (wrap .i64 (n7+1))))).at b5 o2=some (.slice l2.a l2.n l2.c)/\(h3.new b3 (mPut es2 c2 (.int .u64 n2) (.int .i64 (wrap .i64 (n7+1))))).at b6 (o3+n1.toNat)=some (.slice l3.a l3.n l3.c)/\appendD l3 63 6 64 [.int .u64 0,.int .i64 0,.int .i64 0,.int .i64 0,.string ⟨#[]⟩,.string ⟨#[]⟩] 1 [.int .u64 n2,.int .i64 n3,.int .i64 n4,.int .i64 n5,.string s,.string s1] (h3.new b3 (mPut es2 c2 (.int .u64 n2) (.int .i64 (wrap .i64 (n7+1))))) λl4 h4=>h4.at b4 o1=some (.slice l1.a l1.n l1.c)/\∃ b7 o4,(l1.a:Option Addr)=some ⟨b7,o4,none⟩/\((0:Int)<=n1/\n1<(l1.n:Int))/\h4.canW b7 (o4+n1.toNat) 1/\I (wrap .i64 (n+1)) (h4.wr b7 (o4+n1.toNat) [.slice l4.a l4.n l4.c])/\m (wrap .i64 (n+1)) (h4.wr b7 (o4+n1.toNat) [.slice l4.a l4.n l4.c])<m n h2))) (Q (.int .i64 133) h3)) (∃ b8 o5,(p:Option Addr)=some ⟨b8,o5,none⟩/\∃ l5:Sl,h2.at b8 o5=some (.slice l5.a l5.n l5.c)/\Sl.okCut l5 1 (l5.n:Int) (l5.c:Int)/\∃ (I1:Int->Hp->Prop) (m1:Int->Hp->Nat),I1 0 h2/\(∀ n8:Int,∀ h5:Hp,I1 n8 h5->par (n8<((Sl.cut l5 1 1 (l5.n:Int) (l5.c:Int)).n:Int)) (∃ b9 o6,((Sl.cut l5 1 1 (l5.n:Int) (l5.c:Int)).a:Option Addr)=some ⟨b9,o6,none⟩/\((0:Int)<=n8/\n8<((Sl.cut l5 1 1 (l5.n:Int) (l5.c:Int)).n:Int))/\∃ l6:Sl,h5.at b9 (o6+n8.toNat)=some (.slice l6.a l6.n l6.c)/\T157 l6 h5 λr2 h6=>∃ (I2:Int->Hp->Prop) (m2:Int->Hp->Nat),I2 1 h6/\(∀ n9:Int,∀ h7:Hp,I2 n9 h7->par (n9<(l6.n:Int)) (∃ b10 o7,(l6.a:Option Addr)=some ⟨b10,o7,none⟩/\((0:Int)<=n9/\n9<(l6.n:Int))/\∃ s2:ByteArray,h7.at b10 ((o7+n9.toNat*6)+4)=some (.string s2)/\∃ b11 o8,(l6.a:Option Addr)=some ⟨b11,o8,none⟩/\((0:Int)<=(wrap .i64 (n9-1))/\(wrap .i64 (n9-1))<(l6.n:Int))/\∃ s3:ByteArray,h7.at b11 ((o8+((wrap .i64 (n9-1))).toNat*6)+5)=some (.string s3)/\par (sLt s2 s3\/s2=s3) (Q (.int .i64 132) h7) (I2 (wrap .i64 (n9+1)) h7/\m2 (wrap .i64 (n9+1)) h7<m2 n9 h7)) (I1 (wrap .i64 (n8+1)) h7/\m1 (wrap .i64 (n8+1)) h7<m1 n8 h5))) (Q (.int .i64 0) h5))))
def F97.T:=F97.G F143.T F156.T F157.T
theorem F97.gen(V T143 T156 T157 p l):denF Tryz.prog [7,64] [(143,F143.W T143),(156,F156.W T156),(157,F157.W T157)] V [(122,.loop [(17,.int .i64)] []),(250,.loop [(74,.int .i64)] []),(31335,.order [0,1,2,3,4,5,6,7,8,9,10,11,12,13,14,15,16,17,18,19]),(128206,.loop [(10,.int .i64)] []),(4102600,.order [0,1,2,3,4,5,6,7,8,9,10,11])] Tryz.f97 [.v (.pointer p),.v (.slice l.a l.n l.c)]=F97.G T143 T156 T157 p l:=by kernel_rfl
def F97.W(T97:Option Addr->Sl->PT)(args:List Value):PT:=match args with
 |[.pointer p,.slice l_a l_n l_c]=>T97 p ⟨l_a,l_n,l_c⟩
 |_=>λ_ _=>False
def F97.V:List Value->PT:=F97.W F97.T
theorem F97.ok:FOk Tryz.prog 97 F97.V:=by
 refine⟨⟨_,Tryz.func97,rfl,rfl⟩,λ_=>?_⟩;unfold F97.V F97.W;split;exact denF_okE (GOk.cons F143.ok (GOk.cons F156.ok (GOk.cons F157.ok (GOk.nil)))) noV_ok Tryz.func97 (F97.gen noV F143.T F156.T F157.T _ ⟨_,_,_⟩);exact λ_ _ h=>h.elim
end Go.Eng.YtbjnlacacapjiaaGreatDoor
end
section
open Go.Proofs
namespace Go.Eng.YtbjnlacacapjiaaGreatDoor
@[reducible] def F98.G(T156:Option Addr->Option Nat->PT)(T160:Sl->PT)(p p1:Option Addr):PT:=λh Q=>
 dr p λb o=>ldM h b (o+3) λm=>∃ es c,h.mp m es c/\dr p λb1 o1=>ldP (h.setM m (.map #[] c)) b1 o1 λp2=>dr p λb2 o2=>ldM (h.setM m (.map #[] c)) b2 (o2+3) λm1=>T156 p2 m1 (h.setM m (.map #[] c)) λr h1=>dr p λb3 o3=>ldM h1 b3 (o3+1) λm2=>∃ es1 c1,h1.mp m2 es1 c1/\∀ b4,h1 b4=none->∃ (I:Hp->Prop) (m3:Hp->Nat),I (h1.new b4 (.mapIter m2 c1 #[] c1))/\(∀ h2:Hp,I h2->∃ ri mi si sn la es2 c2,((some ⟨b4,0,none⟩):Option Addr)=some ⟨ri,0,none⟩/\h2 ri=some (.mapIter mi si sn la)/\h2.mp mi es2 c2/\nextOk es2 sn la=true/\(∀ e,e∈es2.toList->sn.contains e.born=false->∃ ri1 b5 si1 sn1 es3 c3 st e1,((some ⟨b4,0,none⟩):Option Addr)=some ⟨ri1,0,none⟩/\(h2.new ri (.mapIter mi si (sn.push e.born) c2)) ri1=some (.mapIter (some b5) si1 sn1 c3)/\sn1.back?=some st/\(h2.new ri (.mapIter mi si (sn.push e.born) c2)) b5=some (.map es3 c3)/\es3.find? (λe=>e.born == st)=some e1/\∃ p3:Option Addr,∃ n:Int,[e1.key,e1.val]=[.pointer p3,.int .i64 n]/\dr p λb6 o4=>ldM (h2.new ri (.mapIter mi si (sn.push e.born) c2)) b6 (o4+3) λm4=>T156 p3 m4 (h2.new ri (.mapIter mi si (sn.push e.born) c2)) λr1 h3=>I h3/\m3 h3<m3 h2)/\((∀ e∈es2.toList,e.born<si->sn.contains e.born=true)->dr p1 λb7 o5=>ldS h2 b7 o5 λl=>∃ (I1:Sl->Int->Hp->Prop) (m5:Sl->Int->Hp->Nat),I1 ⟨none,0,0⟩ 0 h2/\(∀ l1:Sl,∀ n1:Int,∀ h4:Hp,I1 l1 n1 h4->par (n1<(l.n:Int)) (ix l.a n1 l.n λb8 o6=>ldS h4 b8 (o6+n1.toNat) λl2=>∃ (I2:Sl->Int->Hp->Prop) (m6:Sl->Int->Hp->Nat),I2 l1 0 h4/\(∀ l3:Sl,∀ n2:Int,∀ h5:Hp,I2 l3 n2 h5->par (n2<(l2.n:Int)) (ix l2.a n2 l2.n λb9 o7=>ldI .u64 h5 b9 (o7+n2.toNat*6) λn3=>ldI .i64 h5 b9 ((o7+n2.toNat*6)+1) λn4=>ldI .i64 h5 b9 ((o7+n2.toNat*6)+2) λn5=>ldI .i64 h5 b9 ((o7+n2.toNat*6)+3) λn6=>ldT h5 b9 ((o7+n2.toNat*6)+4) λs=>ldT h5 b9 ((o7+n2.toNat*6)+5) λs1=>dr p λb10 o8=>ldM h5 b10 (o8+3) λm7=>∃ es4 c4,h5.mp m7 es4 c4/\keysFit (.int .u64 n3) es4/\retI .i64 (mget es4 (.int .u64 n3) (.int .i64 0)) λn7=>par (n7=0) (appendD l3 48 1 8 [.int .u64 0] 1 [.int .u64 n3] h5 λl4 h6=>I2 l4 (wrap .i64 (n2+1)) h6/\m6 l4 (wrap .i64 (n2+1)) h6<m6 l3 n2 h5) (I2 l3 (wrap .i64 (n2+1)) h5/\m6 l3 (wrap .i64 (n2+1)) h5<m6 l3 n2 h5)) (I1 l3 (wrap .i64 (n1+1)) h5/\m5 l3 (wrap .i64 (n1+1)) h5<m5 l1 n1 h4))) (T160 l1 h4 λr2 h7=>Q (.slice l1.a l1.n l1.c) h7))))
def F98.T:=F98.G F156.T F160.T
theorem F98.gen(V T156 T160 p p1):denF Tryz.prog [10,65,137443606531] [(156,F156.W T156),(160,F160.W T160)] V [(14,.order [0,1,2,3,4,5,6,7,8]),(122,.loop [] []),(506,.loop [(6,.sl),(44,.int .i64)] []),(129638,.loop [(6,.sl),(50,.int .i64)] []),(16593714,.order [0,1,2,3,4,5,6,7])] Tryz.f98 [.v (.pointer p),.v (.pointer p1)]=F98.G T156 T160 p p1:=by kernel_rfl
def F98.W(T98:Option Addr->Option Addr->PT)(args:List Value):PT:=match args with
 |[.pointer p,.pointer p1]=>T98 p p1
 |_=>λ_ _=>False
def F98.V:List Value->PT:=F98.W F98.T
theorem F98.ok:FOk Tryz.prog 98 F98.V:=by
 refine⟨⟨_,Tryz.func98,rfl,rfl⟩,λ_=>?_⟩;unfold F98.V F98.W;split;exact denF_okE (GOk.cons F156.ok (GOk.cons F160.ok (GOk.nil))) noV_ok Tryz.func98 (F98.gen noV F156.T F160.T _ _);exact λ_ _ h=>h.elim
end Go.Eng.YtbjnlacacapjiaaGreatDoor
end
section
open Go.Proofs
namespace Go.Eng.YtbjnlacacapjiaaGreatDoor
def F36.T(n:Int):PT:=λh Q=>
 Q (.int .i64 n) h
theorem F36.den(V n):denF Tryz.prog [] [] V [] Tryz.f36 [.v (.int .i64 n)]=F36.T n:=by kernel_rfl
def F36.W(T36:Int->PT)(args:List Value):PT:=match args with
 |[.int .i64 n]=>T36 n
 |_=>λ_ _=>False
def F36.V:List Value->PT:=F36.W F36.T
theorem F36.ok:FOk Tryz.prog 36 F36.V:=by
 refine⟨⟨_,Tryz.func36,rfl,rfl⟩,λ_=>?_⟩;unfold F36.V F36.W;split;exact denF_okE (GOk.nil) noV_ok Tryz.func36 (F36.den noV _);exact λ_ _ h=>h.elim
@[reducible] def F33.G(T95:Option Addr->PT)(T96 T97:Option Addr->Sl->PT)(T98:Option Addr->Option Addr->PT)(p:Option Addr)(n n1 n2:Int)(l l1 l2:Sl):PT:=λh Q=>
 ∃ b o,(p:Option Addr)=some ⟨b,o,none⟩/\∃ p1:Option Addr,h.at b o=some (.pointer p1)/\∃ b1 o1,(p1:Option Addr)=some ⟨b1,o1,none⟩/\∃ l3:Sl,h.at b1 o1=some (.slice l3.a l3.n l3.c)/\par ((l2.n:Int)=(l3.n:Int)) (∃ b2 o2,(p:Option Addr)=some ⟨b2,o2,none⟩/\∃ p2:Option Addr,h.at b2 o2=some (.pointer p2)/\T95 p2 h λr h1=>∃ p3:Option Addr,r=.pointer p3/\T96 p3 l h1 λr1 h2=>∃ n3:Int,r1=.int .i64 n3/\par (n3=0) (T97 p3 l1 h2 λr2 h3=>∃ n4:Int,r2=.int .i64 n4/\par (n4=0) (∃ b3 o3,(p:Option Addr)=some ⟨b3,o3,none⟩/\∃ p4:Option Addr,h3.at b3 o3=some (.pointer p4)/\∃ b4 o4,(p:Option Addr)=some ⟨b4,o4,none⟩/\h3.canW b4 o4 1/\∃ b5 o5,(p:Option Addr)=some ⟨b5,o5,none⟩/\∃ l4:Sl,(h3.wr b4 o4 [.pointer p3]).at b5 (o5+2)=some (.slice l4.a l4.n l4.c)/\∃ vs,(h3.wr b4 o4 [.pointer p3]).row l2.a ((Nat.min l2.n l4.n)*1) vs/\(∀ v∈vs,Value.oneCell' v=true)/\(h3.wr b4 o4 [.pointer p3]).canWA l4.a vs.length/\T98 p p4 ((h3.wr b4 o4 [.pointer p3]).wrA l4.a vs) λr3 h4=>∃ l5:Sl,r3=.slice l5.a l5.n l5.c/\Q (.tuple ⟨[.slice l5.a l5.n l5.c,.int .i64 0]⟩) h4) (Q (.tuple ⟨[.slice none 0 0,.int .i64 n4]⟩) h3)) (Q (.tuple ⟨[.slice none 0 0,.int .i64 n3]⟩) h2)) (Q (.tuple ⟨[.slice none 0 0,.int .i64 133]⟩) h)
def F33.T:=F33.G F95.T F96.T F97.T F98.T
theorem F33.gen(V T95 T96 T97 T98 p n n1 n2 l l1 l2):denF Tryz.prog [3] [(95,F95.W T95),(96,F96.W T96),(97,F97.W T97),(98,F98.W T98)] V [(12,.order [0,1,2,3,4,5,6,7,8,9,10,11]),(510,.order [0,1,2,3,4,5,6])] Tryz.f33 [.v (.pointer p),.v (.agg ⟨[.int .u64 n,.int .u64 n1,.int .u64 n2,.slice l.a l.n l.c,.slice l1.a l1.n l1.c,.slice l2.a l2.n l2.c]⟩)]=F33.G T95 T96 T97 T98 p n n1 n2 l l1 l2:=by kernel_rfl
def F33.W(T33:Option Addr->Int->Int->Int->Sl->Sl->Sl->PT)(args:List Value):PT:=match args with
 |[.pointer p,.agg ⟨[.int .u64 n,.int .u64 n1,.int .u64 n2,.slice l_a l_n l_c,.slice l1_a l1_n l1_c,.slice l2_a l2_n l2_c]⟩]=>T33 p n n1 n2 ⟨l_a,l_n,l_c⟩ ⟨l1_a,l1_n,l1_c⟩ ⟨l2_a,l2_n,l2_c⟩
 |_=>λ_ _=>False
def F33.V:List Value->PT:=F33.W F33.T
theorem F33.ok:FOk Tryz.prog 33 F33.V:=by
 refine⟨⟨_,Tryz.func33,rfl,rfl⟩,λ_=>?_⟩;unfold F33.V F33.W;split;exact denF_okE (GOk.cons F95.ok (GOk.cons F96.ok (GOk.cons F97.ok (GOk.cons F98.ok (GOk.nil))))) noV_ok Tryz.func33 (F33.gen noV F95.T F96.T F97.T F98.T _ _ _ _ ⟨_,_,_⟩ ⟨_,_,_⟩ ⟨_,_,_⟩);exact λ_ _ h=>h.elim
end Go.Eng.YtbjnlacacapjiaaGreatDoor
end
section
open Go.Proofs
namespace Go.Eng.YtbjnlacacapjiaaGreatDoor
def F40.T(p:Option Addr):PT:=λh Q=>
 dr p λb o=>ldM h b (o+1) λm=>dr p λb1 o1=>ldP h b1 o1 λp1=>∃ es c,h.mp m es c/\keysP h (.pointer p1) es/\retI .i64 (mget es (.pointer p1) (.int .i64 0)) λn=>mpu h m (keysP h) (.pointer p1) (.int .i64 (wrap .i64 (n+1))) λh1=>dr p λb3 o2=>ldP h1 b3 o2 λp2=>Q (.pointer p2) h1
theorem F40.den(V p):denF Tryz.prog [] [] V [(6,.order [0,1,2,3,4,5,6,7,8,9,10])] Tryz.f40 [.v (.pointer p)]=F40.T p:=by kernel_rfl
def F40.W(T40:Option Addr->PT)(args:List Value):PT:=match args with
 |[.pointer p]=>T40 p
 |_=>λ_ _=>False
def F40.V:List Value->PT:=F40.W F40.T
theorem F40.ok:FOk Tryz.prog 40 F40.V:=by
 refine⟨⟨_,Tryz.func40,rfl,rfl⟩,λ_=>?_⟩;unfold F40.V F40.W;split;exact denF_okE (GOk.nil) noV_ok Tryz.func40 (F40.den noV _);exact λ_ _ h=>h.elim
@[reducible] def F43.G(T98:Option Addr->Option Addr->PT)(p p1:Option Addr):PT:=λh Q=>
 dr p λb o=>ldM h b (o+1) λm=>∃ es c,h.mp m es c/\keysP h (.pointer p1) es/\retI .i64 (mget es (.pointer p1) (.int .i64 0)) λn=>par (n=0) (Q (.slice none 0 0) h) (par (n=1) (dr p λb1 o1=>ldM h b1 (o1+1) λm1=>∃ es1 c1,h.mp m1 es1 c1/\keysP h (.pointer p1) es1/\T98 p p1 (h.setM m1 (.map (mDel es1 (.pointer p1)) c1)) λr h1=>retS r λl=>Q (.slice l.a l.n l.c) h1) (dr p λb2 o2=>ldM h b2 (o2+1) λm2=>∃ es2 c2,h.mp m2 es2 c2/\keysP h (.pointer p1) es2/\retI .i64 (mget es2 (.pointer p1) (.int .i64 0)) λn1=>mpu h m2 (keysP h) (.pointer p1) (.int .i64 (wrap .i64 (n1-1))) λh2=>T98 p p1 h2 λr1 h3=>retS r1 λl1=>Q (.slice l1.a l1.n l1.c) h3))
def F43.T:=F43.G F98.T
theorem F43.gen(V T98 p p1):denF Tryz.prog [] [(98,F98.W T98)] V [] Tryz.f43 [.v (.pointer p),.v (.pointer p1)]=F43.G T98 p p1:=by kernel_rfl
def F43.W(T43:Option Addr->Option Addr->PT)(args:List Value):PT:=match args with
 |[.pointer p,.pointer p1]=>T43 p p1
 |_=>λ_ _=>False
def F43.V:List Value->PT:=F43.W F43.T
theorem F43.ok:FOk Tryz.prog 43 F43.V:=by
 refine⟨⟨_,Tryz.func43,rfl,rfl⟩,λ_=>?_⟩;unfold F43.V F43.W;split;exact denF_okE (GOk.cons F98.ok (GOk.nil)) noV_ok Tryz.func43 (F43.gen noV F98.T _ _);exact λ_ _ h=>h.elim
end Go.Eng.YtbjnlacacapjiaaGreatDoor
end
section
open Go.Proofs
namespace Go.Eng.YtbjnlacacapjiaaGreatDoor
@[reducible] def F73.G(T143:Option Addr->Int->PT)(p:Option Addr)(n:Int):PT:=λh Q=>
 T143 p n h λr h1=>∃ b:Bool,r=.bool b/\parB b (∃ b1 o,(p:Option Addr)=some ⟨b1,o,none⟩/\∃ l:Sl,h1.at b1 o=some (.slice l.a l.n l.c)/\∃ b2 o1,(l.a:Option Addr)=some ⟨b2,o1,none⟩/\((0:Int)<=n/\n<(l.n:Int))/\∃ l1:Sl,h1.at b2 (o1+n.toNat)=some (.slice l1.a l1.n l1.c)/\∃ vs,h1.row l1.a (l1.n*6) vs/\(∀ v∈vs,Value.oneCell' v=true)/\appendD ⟨none,0,0⟩ 63 6 64 [.int .u64 0,.int .i64 0,.int .i64 0,.int .i64 0,.string ⟨#[]⟩,.string ⟨#[]⟩] l1.n vs h1 λl2 h2=>Q (.slice l2.a l2.n l2.c) h2) (Q (.slice none 0 0) h1)
def F73.T:=F73.G F143.T
theorem F73.gen(V T143 p n):denF Tryz.prog [] [(143,F143.W T143)] V [] Tryz.f73 [.v (.pointer p),.v (.int .i64 n)]=F73.G T143 p n:=by kernel_rfl
def F73.W(T73:Option Addr->Int->PT)(args:List Value):PT:=match args with
 |[.pointer p,.int .i64 n]=>T73 p n
 |_=>λ_ _=>False
def F73.V:List Value->PT:=F73.W F73.T
theorem F73.ok:FOk Tryz.prog 73 F73.V:=by
 refine⟨⟨_,Tryz.func73,rfl,rfl⟩,λ_=>?_⟩;unfold F73.V F73.W;split;exact denF_okE (GOk.cons F143.ok (GOk.nil)) noV_ok Tryz.func73 (F73.gen noV F143.T _ _);exact λ_ _ h=>h.elim
def F91.T(p:Option Addr):PT:=λh Q=>
 ∃ b o,(p:Option Addr)=some ⟨b,o,none⟩/\∃ l:Sl,h.at b o=some (.slice l.a l.n l.c)/\Q (.int .i64 (l.n:Int)) h
theorem F91.den(V p):denF Tryz.prog [] [] V [] Tryz.f91 [.v (.pointer p)]=F91.T p:=by kernel_rfl
def F91.W(T91:Option Addr->PT)(args:List Value):PT:=match args with
 |[.pointer p]=>T91 p
 |_=>λ_ _=>False
def F91.V:List Value->PT:=F91.W F91.T
theorem F91.ok:FOk Tryz.prog 91 F91.V:=by
 refine⟨⟨_,Tryz.func91,rfl,rfl⟩,λ_=>?_⟩;unfold F91.V F91.W;split;exact denF_okE (GOk.nil) noV_ok Tryz.func91 (F91.den noV _);exact λ_ _ h=>h.elim
def F119.T(l l1:Sl):PT:=λh Q=>
 par ((l.n:Int)=(l1.n:Int)) (∃ (I:Int->Hp->Prop) (m:Int->Hp->Nat),I 0 h/\(∀ n:Int,∀ h1:Hp,I n h1->par (n<(l.n:Int)) (∃ b o,(l.a:Option Addr)=some ⟨b,o,none⟩/\((0:Int)<=n/\n<(l.n:Int))/\∃ n1:Int,h1.at b (o+n.toNat*6)=some (.int .u64 n1)/\∃ n2:Int,h1.at b ((o+n.toNat*6)+1)=some (.int .i64 n2)/\∃ n3:Int,h1.at b ((o+n.toNat*6)+2)=some (.int .i64 n3)/\∃ n4:Int,h1.at b ((o+n.toNat*6)+3)=some (.int .i64 n4)/\∃ s:ByteArray,h1.at b ((o+n.toNat*6)+4)=some (.string s)/\∃ s1:ByteArray,h1.at b ((o+n.toNat*6)+5)=some (.string s1)/\∃ b1 o1,(l1.a:Option Addr)=some ⟨b1,o1,none⟩/\((0:Int)<=n/\n<(l1.n:Int))/\∃ n5:Int,h1.at b1 (o1+n.toNat*6)=some (.int .u64 n5)/\∃ n6:Int,h1.at b1 ((o1+n.toNat*6)+1)=some (.int .i64 n6)/\∃ n7:Int,h1.at b1 ((o1+n.toNat*6)+2)=some (.int .i64 n7)/\∃ n8:Int,h1.at b1 ((o1+n.toNat*6)+3)=some (.int .i64 n8)/\∃ s2:ByteArray,h1.at b1 ((o1+n.toNat*6)+4)=some (.string s2)/\∃ s3:ByteArray,h1.at b1 ((o1+n.toNat*6)+5)=some (.string s3)/\par (([.int .u64 n1,.int .i64 n2,.int .i64 n3,.int .i64 n4,.string s,.string s1]:List Value)=[.int .u64 n5,.int .i64 n6,.int .i64 n7,.int .i64 n8,.string s2,.string s3]) (I (wrap .i64 (n+1)) h1/\m (wrap .i64 (n+1)) h1<m n h1) (Q (.bool false) h1)) (Q (.bool true) h1))) (Q (.bool false) h)
theorem F119.den(V l l1):denF Tryz.prog [] [] V [(58,.loop [(5,.int .i64)] []),(1864,.order [0,1,2,3,4,5,6,7,8])] Tryz.f119 [.v (.slice l.a l.n l.c),.v (.slice l1.a l1.n l1.c)]=F119.T l l1:=by kernel_rfl
def F119.W(T119:Sl->Sl->PT)(args:List Value):PT:=match args with
 |[.slice l_a l_n l_c,.slice l1_a l1_n l1_c]=>T119 ⟨l_a,l_n,l_c⟩ ⟨l1_a,l1_n,l1_c⟩
 |_=>λ_ _=>False
def F119.V:List Value->PT:=F119.W F119.T
theorem F119.ok:FOk Tryz.prog 119 F119.V:=by
 refine⟨⟨_,Tryz.func119,rfl,rfl⟩,λ_=>?_⟩;unfold F119.V F119.W;split;exact denF_okE (GOk.nil) noV_ok Tryz.func119 (F119.den noV ⟨_,_,_⟩ ⟨_,_,_⟩);exact λ_ _ h=>h.elim
@[reducible] def F84.G(T73:Option Addr->Int->PT)(p:Option Addr)(n:Int)(s s1:ByteArray):PT:=λh Q=>
 T73 p n h λr h1=>∃ l:Sl,r=.slice l.a l.n l.c/\∃ (I:Sl->Int->Hp->Prop) (m:Sl->Int->Hp->Nat),I ⟨none,0,0⟩ 0 h1/\(∀ l1:Sl,∀ n1:Int,∀ h2:Hp,I l1 n1 h2->par (n1<(l.n:Int)) (∃ b o,(l.a:Option Addr)=some ⟨b,o,none⟩/\((0:Int)<=n1/\n1<(l.n:Int))/\∃ n2:Int,h2.at b (o+n1.toNat*6)=some (.int .u64 n2)/\∃ n3:Int,h2.at b ((o+n1.toNat*6)+1)=some (.int .i64 n3)/\∃ n4:Int,h2.at b ((o+n1.toNat*6)+2)=some (.int .i64 n4)/\∃ n5:Int,h2.at b ((o+n1.toNat*6)+3)=some (.int .i64 n5)/\∃ s2:ByteArray,h2.at b ((o+n1.toNat*6)+4)=some (.string s2)/\∃ s3:ByteArray,h2.at b ((o+n1.toNat*6)+5)=some (.string s3)/\par (sLt s3 s) (I l1 (wrap .i64 (n1+1)) h2/\m l1 (wrap .i64 (n1+1)) h2<m l1 n1 h2) (par (sLt s2 s1\/s2=s1) (appendD l1 63 6 64 [.int .u64 0,.int .i64 0,.int .i64 0,.int .i64 0,.string ⟨#[]⟩,.string ⟨#[]⟩] 1 [.int .u64 n2,.int .i64 n3,.int .i64 n4,.int .i64 n5,.string s2,.string s3] h2 λl2 h3=>I l2 (wrap .i64 (n1+1)) h3/\m l2 (wrap .i64 (n1+1)) h3<m l1 n1 h2) (I l1 (wrap .i64 (n1+1)) h2/\m l1 (wrap .i64 (n1+1)) h2<m l1 n1 h2))) (Q (.slice l1.a l1.n l1.c) h2))
def F84.T:=F84.G F73.T
theorem F84.gen(V T73 p n s s1):denF Tryz.prog [11,32] [(73,F73.W T73)] V [(58,.loop [(9,.sl),(16,.int .i64)] [])] Tryz.f84 [.v (.pointer p),.v (.int .i64 n),.v (.string s),.v (.string s1)]=F84.G T73 p n s s1:=by kernel_rfl
def F84.W(T84:Option Addr->Int->ByteArray->ByteArray->PT)(args:List Value):PT:=match args with
 |[.pointer p,.int .i64 n,.string s,.string s1]=>T84 p n s s1
 |_=>λ_ _=>False
def F84.V:List Value->PT:=F84.W F84.T
theorem F84.ok:FOk Tryz.prog 84 F84.V:=by
 refine⟨⟨_,Tryz.func84,rfl,rfl⟩,λ_=>?_⟩;unfold F84.V F84.W;split;exact denF_okE (GOk.cons F73.ok (GOk.nil)) noV_ok Tryz.func84 (F84.gen noV F73.T _ _ _ _);exact λ_ _ h=>h.elim
@[reducible] def F116.G(T84:Option Addr->Int->ByteArray->ByteArray->PT)(p:Option Addr)(n:Int)(s:ByteArray):PT:=λh Q=>
 T84 p n s s h λr h1=>∃ l:Sl,r=.slice l.a l.n l.c/\par (n=0) (∃ (I:Int->Int->Hp->Prop) (m:Int->Int->Hp->Nat),I 0 (wrap .i64 ((l.n:Int)-1)) h1/\(∀ n1 n2:Int,∀ h2:Hp,I n1 n2 h2->par (n1<n2) (∃ b o,(l.a:Option Addr)=some ⟨b,o,none⟩/\((0:Int)<=n2/\n2<(l.n:Int))/\∃ n3:Int,h2.at b (o+n2.toNat*6)=some (.int .u64 n3)/\∃ n4:Int,h2.at b ((o+n2.toNat*6)+1)=some (.int .i64 n4)/\∃ n5:Int,h2.at b ((o+n2.toNat*6)+2)=some (.int .i64 n5)/\∃ n6:Int,h2.at b ((o+n2.toNat*6)+3)=some (.int .i64 n6)/\∃ s1:ByteArray,h2.at b ((o+n2.toNat*6)+4)=some (.string s1)/\∃ s2:ByteArray,h2.at b ((o+n2.toNat*6)+5)=some (.string s2)/\∃ b1 o1,(l.a:Option Addr)=some ⟨b1,o1,none⟩/\((0:Int)<=n1/\n1<(l.n:Int))/\∃ n7:Int,h2.at b1 (o1+n1.toNat*6)=some (.int .u64 n7)/\∃ n8:Int,h2.at b1 ((o1+n1.toNat*6)+1)=some (.int .i64 n8)/\∃ n9:Int,h2.at b1 ((o1+n1.toNat*6)+2)=some (.int .i64 n9)/\∃ n10:Int,h2.at b1 ((o1+n1.toNat*6)+3)=some (.int .i64 n10)/\∃ s3:ByteArray,h2.at b1 ((o1+n1.toNat*6)+4)=some (.string s3)/\∃ s4:ByteArray,h2.at b1 ((o1+n1.toNat*6)+5)=some (.string s4)/\∃ b2 o2,(l.a:Option Addr)=some ⟨b2,o2,none⟩/\((0:Int)<=n1/\n1<(l.n:Int))/\h2.canW b2 (o2+n1.toNat*6) 6/\∃ b3 o3,(l.a:Option Addr)=some ⟨b3,o3,none⟩/\((0:Int)<=n2/\n2<(l.n:Int))/\(h2.wr b2 (o2+n1.toNat*6) [.int .u64 n3,.int .i64 n4,.int .i64 n5,.int .i64 n6,.string s1,.string s2]).canW b3 (o3+n2.toNat*6) 6/\I (wrap .i64 (n1+1)) (wrap .i64 (n2-1)) ((h2.wr b2 (o2+n1.toNat*6) [.int .u64 n3,.int .i64 n4,.int .i64 n5,.int .i64 n6,.string s1,.string s2]).wr b3 (o3+n2.toNat*6) [.int .u64 n7,.int .i64 n8,.int .i64 n9,.int .i64 n10,.string s3,.string s4])/\m (wrap .i64 (n1+1)) (wrap .i64 (n2-1)) ((h2.wr b2 (o2+n1.toNat*6) [.int .u64 n3,.int .i64 n4,.int .i64 n5,.int .i64 n6,.string s1,.string s2]).wr b3 (o3+n2.toNat*6) [.int .u64 n7,.int .i64 n8,.int .i64 n9,.int .i64 n10,.string s3,.string s4])<m n1 n2 h2) (Q (.slice l.a l.n l.c) h2))) (Q (.slice l.a l.n l.c) h1)
def F116.T:=F116.G F84.T
theorem F116.gen(V T84 p n s):denF Tryz.prog [] [(84,F84.W T84)] V [(234,.loop [(8,.int .i64),(9,.int .i64)] []),(3748,.order [0,1,2,3,4,5,6,7,8,9,10,11,12,13,14,15])] Tryz.f116 [.v (.pointer p),.v (.int .i64 n),.v (.string s)]=F116.G T84 p n s:=by kernel_rfl
def F116.W(T116:Option Addr->Int->ByteArray->PT)(args:List Value):PT:=match args with
 |[.pointer p,.int .i64 n,.string s]=>T116 p n s
 |_=>λ_ _=>False
def F116.V:List Value->PT:=F116.W F116.T
theorem F116.ok:FOk Tryz.prog 116 F116.V:=by
 refine⟨⟨_,Tryz.func116,rfl,rfl⟩,λ_=>?_⟩;unfold F116.V F116.W;split;exact denF_okE (GOk.cons F84.ok (GOk.nil)) noV_ok Tryz.func116 (F116.gen noV F84.T _ _ _);exact λ_ _ h=>h.elim
def F35.T(l l1:Sl):PT:=λh Q=>
 par ((l.n:Int)=(l1.n:Int)) (∃ (I:Int->Hp->Prop) (m:Int->Hp->Nat),I 0 h/\(∀ n:Int,∀ h1:Hp,I n h1->par (n<(l.n:Int)) (∃ b o,(l.a:Option Addr)=some ⟨b,o,none⟩/\((0:Int)<=n/\n<(l.n:Int))/\∃ n1:Int,h1.at b (o+n.toNat)=some (.int .u64 n1)/\∃ b1 o1,(l1.a:Option Addr)=some ⟨b1,o1,none⟩/\((0:Int)<=n/\n<(l1.n:Int))/\∃ n2:Int,h1.at b1 (o1+n.toNat)=some (.int .u64 n2)/\par (n1=n2) (I (wrap .i64 (n+1)) h1/\m (wrap .i64 (n+1)) h1<m n h1) (Q (.bool false) h1)) (Q (.bool true) h1))) (Q (.bool false) h)
theorem F35.den(V l l1):denF Tryz.prog [] [] V [(58,.loop [(5,.int .i64)] []),(1864,.order [0,1,2,3,4,5,6,7,8])] Tryz.f35 [.v (.slice l.a l.n l.c),.v (.slice l1.a l1.n l1.c)]=F35.T l l1:=by kernel_rfl
def F35.W(T35:Sl->Sl->PT)(args:List Value):PT:=match args with
 |[.slice l_a l_n l_c,.slice l1_a l1_n l1_c]=>T35 ⟨l_a,l_n,l_c⟩ ⟨l1_a,l1_n,l1_c⟩
 |_=>λ_ _=>False
def F35.V:List Value->PT:=F35.W F35.T
theorem F35.ok:FOk Tryz.prog 35 F35.V:=by
 refine⟨⟨_,Tryz.func35,rfl,rfl⟩,λ_=>?_⟩;unfold F35.V F35.W;split;exact denF_okE (GOk.nil) noV_ok Tryz.func35 (F35.den noV ⟨_,_,_⟩ ⟨_,_,_⟩);exact λ_ _ h=>h.elim
def F27.T(p:Option Addr):PT:=λh Q=>
 ∃ b o,(p:Option Addr)=some ⟨b,o,none⟩/\∃ p1:Option Addr,h.at b o=some (.pointer p1)/\Q (.pointer p1) h
theorem F27.den(V p):denF Tryz.prog [] [] V [] Tryz.f27 [.v (.pointer p)]=F27.T p:=by kernel_rfl
def F27.W(T27:Option Addr->PT)(args:List Value):PT:=match args with
 |[.pointer p]=>T27 p
 |_=>λ_ _=>False
def F27.V:List Value->PT:=F27.W F27.T
theorem F27.ok:FOk Tryz.prog 27 F27.V:=by
 refine⟨⟨_,Tryz.func27,rfl,rfl⟩,λ_=>?_⟩;unfold F27.V F27.W;split;exact denF_okE (GOk.nil) noV_ok Tryz.func27 (F27.den noV _);exact λ_ _ h=>h.elim
@[reducible] def F76.G(T73:Option Addr->Int->PT)(p:Option Addr)(n:Int):PT:=λh Q=>
 T73 p n h λr h1=>∃ l:Sl,r=.slice l.a l.n l.c/\∃ (I:Int->Int->Hp->Prop) (m:Int->Int->Hp->Nat),I 0 0 h1/\(∀ n1 n2:Int,∀ h2:Hp,I n1 n2 h2->par (n2<(l.n:Int)) (∃ b o,(l.a:Option Addr)=some ⟨b,o,none⟩/\((0:Int)<=n2/\n2<(l.n:Int))/\∃ n3:Int,h2.at b (o+n2.toNat*6)=some (.int .u64 n3)/\∃ n4:Int,h2.at b ((o+n2.toNat*6)+1)=some (.int .i64 n4)/\∃ n5:Int,h2.at b ((o+n2.toNat*6)+2)=some (.int .i64 n5)/\∃ n6:Int,h2.at b ((o+n2.toNat*6)+3)=some (.int .i64 n6)/\∃ s:ByteArray,h2.at b ((o+n2.toNat*6)+4)=some (.string s)/\∃ s1:ByteArray,h2.at b ((o+n2.toNat*6)+5)=some (.string s1)/\I (wrap .i64 (n1+n4)) (wrap .i64 (n2+1)) h2/\m (wrap .i64 (n1+n4)) (wrap .i64 (n2+1)) h2<m n1 n2 h2) (Q (.int .i64 n1) h2))
def F76.T:=F76.G F73.T
theorem F76.gen(V T73 p n):denF Tryz.prog [7] [(73,F73.W T73)] V [(58,.loop [(5,.int .i64),(12,.int .i64)] [])] Tryz.f76 [.v (.pointer p),.v (.int .i64 n)]=F76.G T73 p n:=by kernel_rfl
def F76.W(T76:Option Addr->Int->PT)(args:List Value):PT:=match args with
 |[.pointer p,.int .i64 n]=>T76 p n
 |_=>λ_ _=>False
def F76.V:List Value->PT:=F76.W F76.T
theorem F76.ok:FOk Tryz.prog 76 F76.V:=by
 refine⟨⟨_,Tryz.func76,rfl,rfl⟩,λ_=>?_⟩;unfold F76.V F76.W;split;exact denF_okE (GOk.cons F73.ok (GOk.nil)) noV_ok Tryz.func76 (F76.gen noV F73.T _ _);exact λ_ _ h=>h.elim
end Go.Eng.YtbjnlacacapjiaaGreatDoor
end
section
namespace Go.Eng
def encF:Nat->Nat->List Int
 |0,_=>[]
 |f+1,n=>if n<128 then[(n:Int)] else((n % 128+128:Nat):Int)::encF f (n / 128)
def encU(n:Nat):List Int:=encF 10 n
def bv(l:List Int):List Value:=l.map (Value.int .u8)
end Go.Eng
namespace Go.Eng.YtbjnlacacapjiaaGreatDoor
def encUs(ns:List Int):List Int:=ns.flatMap λn=>encU n.toNat
def uv(ns:List Int):List Value:=ns.map (Value.int .u64)
def bI(s:ByteArray):List Int:=s.data.toList.map λb=>(b.toNat:Int)
def encT(s:ByteArray):List Int:=encU s.size++bI s
end Go.Eng.YtbjnlacacapjiaaGreatDoor
end
section
namespace Go.Eng.YtbjnlacacapjiaaGreatDoor
structure Place where
 lv:Int
 num:Int
structure Placed where
 lv:Int
 num:Int
 weight:Int
 bytes:Int
 entries:Int
 least:ByteArray
 greatest:ByteArray
structure Edit where
 log:Int
 next:Int
 seq:Int
 out:List Place
 inn:List Placed
 ptr:List ByteArray
def Place.cells(p:Place):List Value:=[.int .i64 p.lv,.int .u64 p.num]
def Placed.cells(p:Placed):List Value:=[.int .i64 p.lv,.int .u64 p.num,.int .i64 p.weight,.int .i64 p.bytes,.int .i64 p.entries,.string p.least,.string p.greatest]
def outV(l:List Place):List Value:=l.flatMap Place.cells
def inV(l:List Placed):List Value:=l.flatMap Placed.cells
def ptrV(l:List ByteArray):List Value:=l.map Value.string
theorem flat_get{α:Type}(f:α->List Value)(n:Nat)(hf:∀ x,(f x).length=n):∀ (l:List α) (i j:Nat) (hi:i<l.length),j<n->(l.flatMap f)[i*n+j]?=(f l[i])[j]?
 |[],i,j,hi,_=>by simp at hi
 |x::l,0,j,hi,hj=>by
  simp only[List.flatMap_cons,Nat.zero_mul,Nat.zero_add,List.getElem_cons_zero]
  rw[List.getElem?_append_left (by rw[hf];exact hj)]
 |x::l,i+1,j,hi,hj=>by
  simp only[List.flatMap_cons,List.getElem_cons_succ]
  rw[List.getElem?_append_right (by rw[hf,Nat.add_mul];omega),hf,show(i+1)*n+j-n=i*n+j by rw[Nat.add_mul];omega]
  exact flat_get f n hf l i j (by simpa using hi) hj
theorem flat_length{α:Type}(f:α->List Value)(n:Nat)(hf:∀ x,(f x).length=n)(l:List α):(l.flatMap f).length=l.length*n:=by
 induction l with
 |nil=>simp
 |cons x l ih=>simp only[List.flatMap_cons,List.length_append,hf,ih,List.length_cons,Nat.add_mul];omega
def okU(n:Int):Prop:=0<=n/\n<18446744073709551616
def okI(n:Int):Prop:=0<=n/\n<9223372036854775808
structure Place.ok(p:Place):Prop where
 lv:okI p.lv
 num:okU p.num
structure Placed.ok(p:Placed):Prop where
 lv:okI p.lv
 num:okU p.num
 weight:okI p.weight
 bytes:okI p.bytes
 entries:okI p.entries
 least:p.least.size<=64
 greatest:p.greatest.size<=64
def Place.enc(p:Place):List Int:=encUs [p.lv,p.num]
def Placed.enc(p:Placed):List Int:=encUs [p.lv,p.num,p.weight,p.bytes,p.entries]++encT p.least++encT p.greatest
def recB(e:Edit)(last:Bool):List Int:=
 (if last then 1 else 0)::(encUs [e.log,e.next,e.seq,(e.out.length:Int)]++e.out.flatMap Place.enc++encUs [(e.inn.length:Int)]++e.inn.flatMap Placed.enc++encUs [(e.ptr.length:Int)]++e.ptr.flatMap encT)
end Go.Eng.YtbjnlacacapjiaaGreatDoor
end
section
namespace Go.Eng.YtbjnlacacapjiaaGreatDoor
structure EdAt(h:Hp)(e:Edit)(l l1 l2:Sl):Prop where
 out:h.row l.a (l.n*2) (outV e.out)
 inn:h.row l1.a (l1.n*7) (inV e.inn)
 ptr:h.row l2.a l2.n (ptrV e.ptr)
structure Edit.small(e:Edit):Prop where
 log:okU e.log
 next:okU e.next
 seq:okU e.seq
 out:∀ p∈e.out,p.ok
 inn:∀ p∈e.inn,p.ok
 ptr:∀ p∈e.ptr,p.size<=64
 nout:e.out.length<=1000
 ninn:e.inn.length<=1000
 nptr:e.ptr.length<=1000
def New(h:Hp)(s:Sl):Prop:=∃ b,s.a=some ⟨b,0,none⟩/\h b=none
end Go.Eng.YtbjnlacacapjiaaGreatDoor
end
section
namespace Go.Eng.YtbjnlacacapjiaaGreatDoor
def Place.told(p:Place):Bool:=decide (0<=p.lv/\p.lv<5)
def Placed.told(p:Placed):Bool:=decide (0<=p.lv/\p.lv<5/\0<=p.weight/\0<=p.bytes/\0<=p.entries/\p.least.size<=64/\p.greatest.size<=64)
def Edit.told(e:Edit):Bool:=e.out.all Place.told && (e.inn.all Placed.told && (e.ptr.all (λs=>decide (s.size<=64)) && decide (e.ptr.length<=5)))
theorem next_i{k n:Nat}(hk:k<n)(hn:n<9223372036854775807):wrap .i64 ((k:Int)+1)=((k+1:Nat):Int):=by rw[wrap_i64 (by omega) (by omega)];omega
end Go.Eng.YtbjnlacacapjiaaGreatDoor
end
section
namespace Go.Eng.YtbjnlacacapjiaaGreatDoor
theorem row_take{h:Hp}{A:Option Addr}{n k:Nat}{vs:List Value}(hr:h.row A n vs)(hk:k<=n):h.row A k (vs.take k):=by
 refine⟨by rw[List.length_take,hr.1];omega,?_⟩
 rcases hr.2 with h0|⟨b,o,hA,hat⟩
 ·exact .inl (by omega)
 ·refine .inr ⟨b,o,hA,λj hj=>?_⟩
  rw[hat j (by omega),List.getElem?_take,if_pos hj]
theorem row_drop{h:Hp}{A:Option Addr}{n k:Nat}{vs:List Value}(hr:h.row A n vs)(hk:k<=n):h.row (A.map (·.add k)) (n-k) (vs.drop k):=by
 refine⟨by rw[List.length_drop,hr.1],?_⟩
 rcases hr.2 with h0|⟨b,o,hA,hat⟩
 ·exact .inl (by omega)
 ·refine .inr ⟨b,o+k,by rw[hA];simp[addr_add],λj hj=>?_⟩
  rw[Nat.add_assoc,hat (k+j) (by omega),List.getElem?_drop]
theorem row_congr{h:Hp}{A B:Option Addr}{n:Nat}{vs:List Value}(hr:h.row A n vs)(e:n=0\/A=B):h.row B n vs:=by
 rcases e with h0|rfl
 ·exact⟨hr.1,.inl h0⟩
 ·exact hr
theorem cut_back{h:Hp}{s:Sl}{sz k:Nat}{vs:List Value}(hr:h.row s.a (s.n*sz) vs)(hk:k<=s.n)(hc:s.n<=s.c):h.row (Sl.cut s sz (k:Int) (s.n:Int) (s.c:Int)).a ((Sl.cut s sz (k:Int) (s.n:Int) (s.c:Int)).n*sz) (vs.drop (k*sz)):=by
 have h1:=row_drop hr (Nat.mul_le_mul_right sz hk)
 have hn:(Sl.cut s sz (k:Int) (s.n:Int) (s.c:Int)).n=s.n-k:=by simp[Sl.cut]
 rw[hn,Nat.sub_mul]
 refine row_congr h1 ?_
 unfold Sl.cut
 simp only[Int.toNat_natCast]
 by_cases hck:s.c=k
 ·left;have:s.n=k:=by omega
  rw[this];simp
 ·right;rw[if_neg hck]
def front(e:Edit):Edit:={ e with out:=e.out.take 256,inn:=e.inn.take (256-min e.out.length 256) }
def behind(e:Edit):Edit:={ e with out:=e.out.drop 256,inn:=e.inn.drop (256-min e.out.length 256) }
def putF:Nat->Edit->List (List Int)
 |0,_=>[]
 |f+1,e=>if (behind e).out.length+(behind e).inn.length=0 then[recB (front e) true] else recB { front e with ptr:=[] } false::putF f (behind e)
def putS(e:Edit):List (List Int):=if e.told then putF (e.out.length+e.inn.length+1) e else[]
def RowsAt(h:Hp)(ss:List Sl)(bs:List (List Int)):Prop:=ss.length=bs.length/\∀ (i:Nat) (hi:i<ss.length) (hj:i<bs.length),Buf h ss[i] 1 5 (bv bs[i])
def slV(ss:List Sl):List Value:=ss.map λs=>.slice s.a s.n s.c
theorem slV_length(ss:List Sl):(slV ss).length=ss.length:=List.length_map _
theorem EdAt.keep{h h':Hp}{e:Edit}{l l1 l2:Sl}(k:Keep h h')(E:EdAt h e l l1 l2):EdAt h' e l l1 l2:=⟨k.row E.out,k.row E.inn,k.row E.ptr⟩
end Go.Eng.YtbjnlacacapjiaaGreatDoor
end
section
namespace Go.Eng.YtbjnlacacapjiaaGreatDoor
structure Edit.valid(e:Edit):Prop where
 log:okU e.log
 next:okU e.next
 seq:okU e.seq
 out:∀ p∈e.out,p.lv<9223372036854775808/\okU p.num
 inn:∀ p∈e.inn,p.lv<9223372036854775808/\okU p.num/\p.weight<9223372036854775808/\p.bytes<9223372036854775808/\p.entries<9223372036854775808
structure Told(e:Edit):Prop where
 out:∀ p∈e.out,p.ok
 inn:∀ p∈e.inn,p.ok
 ptr:∀ p∈e.ptr,p.size<=64
 n:e.ptr.length<=5
end Go.Eng.YtbjnlacacapjiaaGreatDoor
end
section
namespace Go.Eng.YtbjnlacacapjiaaGreatDoor
def nx(i:Nat)(n c:Int):Int:=bitsI .or .u64 n (shlI .u64 (wrap .u64 (bitsI .and .u8 c 127)) (7*(i:Int)))
def uR:Nat->Int->List Int->Int×Nat×Int
 |_,_,[]=>(0,0,20)
 |i,n,c::l=>
  if (c=0/\0<i)\/(i=9/\c≠1) then(0,0,21)
  else if c<128 then(nx i n c,i+1,0) else uR (i+1) (nx i n c) l
structure RS where
 b:List Int
 bad:Bool
def RS.skip(s:RS)(k:Nat)(e:Int):RS:=if e=0 then⟨s.b.drop k,s.bad⟩ else⟨[],true⟩
def rU(s:RS):Int×RS:=((uR 0 0 s.b).1,s.skip (uR 0 0 s.b).2.1 (uR 0 0 s.b).2.2)
def rW(m:Int)(s:RS):Int×RS:=if m<(rU s).1 then(0,⟨(rU s).2.b,true⟩) else rU s
def toB(l:List Int):ByteArray:=⟨(l.map λn=>UInt8.ofNat n.toNat).toArray⟩
def tR(l:List Int):ByteArray×Nat×Int:=
 if (uR 0 0 l).2.2=0 then
  (if 64<(uR 0 0 l).1 then(⟨#[]⟩,0,22)
  else if ((l.length-(uR 0 0 l).2.1:Nat):Int)<(uR 0 0 l).1 then(⟨#[]⟩,0,20)
  else(toB ((l.drop (uR 0 0 l).2.1).take (uR 0 0 l).1.toNat),(uR 0 0 l).2.1+(uR 0 0 l).1.toNat,0))
 else(⟨#[]⟩,0,(uR 0 0 l).2.2)
def rT(s:RS):ByteArray×RS:=((tR s.b).1,s.skip (tR s.b).2.1 (tR s.b).2.2)
def rb(b:Nat):Sl:=⟨some ⟨b,0,none⟩,1,1⟩
structure RdAt(h0 h:Hp)(b:Nat)(s:RS):Prop where
 cell:∃ l:Sl,h b=some (.cells ⟨[.slice l.a l.n l.c,.bool s.bad]⟩ 203 (0,0))/\h0.row l.a l.n (bv s.b)/\l.n<=l.c
 new:h0 b=none
 keep:Keep h0 h
 ok:∀ c∈s.b,0<=c/\c<256
 small:s.b.length<=1000000000000
theorem wr_at{h:Hp}{b o t:Nat}{c:Array Value}{f:Nat×Nat}{vs:List Value}(hb:h b=some (.cells c t f)):(h.wr b o vs) b=some (.cells (setL c.toList o vs).toArray t f):=by
 unfold Hp.wr;rw[if_pos rfl,hb]
end Go.Eng.YtbjnlacacapjiaaGreatDoor
end
section
namespace Go.Eng.YtbjnlacacapjiaaGreatDoor
def maxI:Int:=9223372036854775807
def outR:Nat->List Place->RS->Option (List Place×RS)
 |0,acc,s=>some (acc,s)
 |f+1,acc,s=>if (rU (rW 4 s).2).2.bad=true then none else outR f (acc++[⟨(rW 4 s).1,(rU (rW 4 s).2).1⟩]) (rU (rW 4 s).2).2
def plS(s:RS):Placed×RS:=
 let a:=rW 4 s
 let b:=rU a.2
 let c:=rW 9223372036854775807 b.2
 let d:=rW 9223372036854775807 c.2
 let e:=rW 9223372036854775807 d.2
 let x:=rT e.2
 let y:=rT x.2
 (⟨a.1,b.1,c.1,d.1,e.1,x.1,y.1⟩,y.2)
def inR:Nat->List Placed->RS->Option (List Placed×RS)
 |0,acc,s=>some (acc,s)
 |f+1,acc,s=>if (plS s).2.bad=true then none else inR f (acc++[(plS s).1]) (plS s).2
def ptR:Nat->List ByteArray->RS->Option (List ByteArray×RS)
 |0,acc,s=>some (acc,s)
 |f+1,acc,s=>if (rT s).2.bad=true then none else ptR f (acc++[(rT s).1]) (rT s).2
def rdP(c a b d:Int)(o:List Place)(i:List Placed)(s:RS):Option (Edit×Bool):=
 match ptR (rU s).1.toNat [] (rU s).2 with
 |none=>none
 |some x=>if x.2.bad=true then none else if x.2.b.length=0 then some (⟨a,b,d,o,i,x.1⟩,decide (c=1)) else none
def rdI(c a b d:Int)(o:List Place)(s:RS):Option (Edit×Bool):=
 match inR (rU s).1.toNat [] (rU s).2 with
 |none=>none
 |some x=>rdP c a b d o x.1 x.2
def rdO(c a b d:Int)(s:RS):Option (Edit×Bool):=
 match outR (rU s).1.toNat [] (rU s).2 with
 |none=>none
 |some x=>rdI c a b d x.1 x.2
def rd:List Int->Option (Edit×Bool)
 |[]=>none
 |c::l=>if 1<c then none else rdO c (rU ⟨l,false⟩).1 (rU (rU ⟨l,false⟩).2).1 (rU (rU (rU ⟨l,false⟩).2).2).1 (rU (rU (rU ⟨l,false⟩).2).2).2
def Place.val(p:Place):Prop:=p.lv<9223372036854775808/\okU p.num
def Placed.val(p:Placed):Prop:=p.lv<9223372036854775808/\okU p.num/\p.weight<9223372036854775808/\p.bytes<9223372036854775808/\p.entries<9223372036854775808
structure St(h0 h:Hp)(b:Nat)(s:RS)(l1 l2 l3:Sl)(o:List Place)(i:List Placed)(p:List ByteArray)(N:Nat):Prop where
 rd:RdAt h0 h b s
 out:Buf h l1 2 116 (outV o)
 inn:Buf h l2 7 148 (inV i)
 ptr:Buf h l3 1 9 (ptrV p)
 n1:l1.a=none\/New h0 l1
 n2:l2.a=none\/New h0 l2
 n3:l3.a=none\/New h0 l3
 room:o.length+i.length+p.length+s.b.length<=N
 vo:∀ x∈o,x.val
 vi:∀ x∈i,x.val
@[reducible] def noneV:Value:=.tuple ⟨[.agg ⟨[.int .u64 0,.int .u64 0,.int .u64 0,.slice none 0 0,.slice none 0 0,.slice none 0 0]⟩,.bool false,.bool false]⟩
structure EdB(h0 h:Hp)(e:Edit)(l1 l2 l3:Sl):Prop where
 out:Buf h l1 2 116 (outV e.out)
 inn:Buf h l2 7 148 (inV e.inn)
 ptr:Buf h l3 1 9 (ptrV e.ptr)
 n1:l1.a=none\/New h0 l1
 n2:l2.a=none\/New h0 l2
 n3:l3.a=none\/New h0 l3
end Go.Eng.YtbjnlacacapjiaaGreatDoor
end
section
namespace Go.Eng.YtbjnlacacapjiaaGreatDoor
def Rows(h:Hp)(ss:List Sl)(bs:List (List Int)):Prop:=ss.length=bs.length/\∀ (i:Nat) (hi:i<ss.length) (hj:i<bs.length),h.row ss[i].a ss[i].n (bv bs[i])
def sameP(e:Edit)(recs:List (List Int))(whole:Bool):Bool:=
 if (putS e).length<recs.length then false else if whole=true/\(putS e).length≠recs.length then false else decide ((putS e).take recs.length=recs)
end Go.Eng.YtbjnlacacapjiaaGreatDoor
end
section
namespace Go.Eng.YtbjnlacacapjiaaGreatDoor
def zE:Edit:=⟨0,0,0,[],[],[]⟩
def pl0:Placed:=⟨0,0,0,0,0,⟨#[]⟩,⟨#[]⟩⟩
def joinE(cur x:Edit)(part:List (List Int)):Edit:=if part.length=0 then x else⟨x.log,x.next,x.seq,cur.out++x.out,cur.inn++x.inn,x.ptr⟩
def withP(e:Edit):Edit:=⟨e.log,e.next,e.seq,e.out,e.inn++[pl0],e.ptr⟩
def getR:List (List Int)->List Edit->Edit->List (List Int)->Option (List Edit)
 |[],acc,cur,part=>if part.length=0 then some acc else if sameP (withP cur) part false=true then some acc else none
 |r::rs,acc,cur,part=>
  match rd r with
  |none=>none
  |some x=>if x.2=true then(if sameP (joinE cur x.1 part) (part++[r]) true=true then getR rs (acc++[joinE cur x.1 part]) zE [] else none) else getR rs acc (joinE cur x.1 part) (part++[r])
def tot(l:List (List Int)):Nat:=(l.map λr=>r.length+1).sum
structure EdS where
 e:Edit
 a:Sl
 b:Sl
 c:Sl
def EdS.cells(x:EdS):List Value:=[.int .u64 x.e.log,.int .u64 x.e.next,.int .u64 x.e.seq,.slice x.a.a x.a.n x.a.c,.slice x.b.a x.b.n x.b.c,.slice x.c.a x.c.n x.c.c]
def edV(l:List EdS):List Value:=l.flatMap EdS.cells
structure EdOk(h:Hp)(x:EdS):Prop where
 out:Buf h x.a 2 116 (outV x.e.out)
 inn:Buf h x.b 7 148 (inV x.e.inn)
 ptr:Buf h x.c 1 9 (ptrV x.e.ptr)
 val:x.e.valid
 size:x.e.out.length+x.e.inn.length<=400000000000
 nptr:x.e.ptr.length<=1000000000
structure Recs(h:Hp)(l:Sl)(ss:List Sl)(recs:List (List Int)):Prop where
 row:h.row l.a l.n (slV ss)
 cap:l.n<=l.c
 rows:Rows h ss recs
 caps:∀ s∈ss,s.n<=s.c
 ok:∀ r∈recs,∀ c∈r,0<=c/\c<256
 each:∀ r∈recs,r.length<=1000000000
 tot:tot recs<=200000000000
end Go.Eng.YtbjnlacacapjiaaGreatDoor
end
section
namespace Go.Eng.YtbjnlacacapjiaaGreatDoor
theorem keep_wr_new{h h1:Hp}{b:Nat}(hb:h b=none)(K:Keep h h1)(o:Nat)(vs:List Value):Keep h (h1.wr b o vs):=by
 intro k x e
 unfold Hp.wr
 by_cases hk:k=b
 ·rw[hk,hb] at e;cases e
 ·rw[if_neg hk];exact K k x e
theorem new_self(h:Hp)(b:Nat)(o:Obj):(h.new b o) b=some o:=by unfold Hp.new;rw[if_pos rfl]
def totS(l:List Sl):Nat:=(l.map λs=>s.n+1).sum
end Go.Eng.YtbjnlacacapjiaaGreatDoor
end
section
namespace Go.Eng.YtbjnlacacapjiaaGreatDoor
def eK:Edit:=⟨2,9,300,[⟨0,4⟩],[⟨1,8,455,90,1,⟨#[97]⟩,⟨#[97]⟩⟩],[]⟩
def rK:List Int:=[1,2,9,172,2,1,0,4,1,1,8,199,3,90,1,1,97,1,97,0]
end Go.Eng.YtbjnlacacapjiaaGreatDoor
end
section
namespace Go.Eng.YtbjnlacacapjiaaGreatDoor
structure PGood(p:Place):Prop where
 l0:0<=p.lv
 l4:p.lv<=4
 num:okU p.num
structure DGood(p:Placed):Prop where
 l0:0<=p.lv
 l4:p.lv<=4
 num:okU p.num
 w0:0<=p.weight
 w1:p.weight<=9223372036854775807
 b0:0<=p.bytes
 b1:p.bytes<=9223372036854775807
 e0:0<=p.entries
 e1:p.entries<=9223372036854775807
 least:p.least.size<=64
 greatest:p.greatest.size<=64
structure Good(e:Edit):Prop where
 log:okU e.log
 next:okU e.next
 seq:okU e.seq
 out:∀ p∈e.out,PGood p
 inn:∀ p∈e.inn,DGood p
 ptr:∀ p∈e.ptr,p.size<=64
 nptr:e.ptr.length<=5
end Go.Eng.YtbjnlacacapjiaaGreatDoor
end
section
namespace Go.Eng.YtbjnlacacapjiaaGreatDoor
def Edit.size(e:Edit):Nat:=e.out.length+e.inn.length
def piece(e:Edit):Edit:={ front e with ptr:=[] }
def pre:Nat->Edit->Edit
 |0,e=>⟨e.log,e.next,e.seq,[],[],[]⟩
 |k+1,e=>⟨e.log,e.next,e.seq,(front e).out++(pre k (behind e)).out,(front e).inn++(pre k (behind e)).inn,[]⟩
end Go.Eng.YtbjnlacacapjiaaGreatDoor
end
