/-
  JOINED.
-/
import Derived.Test.YtblghgacokoklaaDoorK0
import Derived.Laws.StructEq
import Derived.Orders
set_option linter.unusedSimpArgs false
set_option linter.unusedVariables false
open Go.IntKind (wrap)
open List (eq_nil_of_length_eq_zero mem_cons_self map_append mem_cons_of_mem map_cons mem_append_left mem_cons)
section
namespace Go.Eng
section
variable{P:Program}{lo:List Nat}{fr:Hp}{g:Nat->Nat}{L:List LE}{h:Hp}{w:World}{K:KO}
theorem fitK_length:∀ {ks:List Kd} {vs:List Value},fitK ks vs=true->vs.length=ks.length
 |[],[],_=>rfl
 |[],_::_,h=>by cases h
 |k::ks,[],h=>by cases k<;>cases h
 |k::ks,v::vs,h=>by
  cases k<;>cases v<;>simp only[fitK,Bool.and_eq_true,Bool.false_eq_true] at h<;>first
   |(have:=fitK_length h.2;simp[this];done)
   |(have:=fitK_length h;simp[this];done)
theorem fitK_append:∀ {ks ls:List Kd} {vs:List Value},fitK (ks++ls) vs=true->fitK ks (vs.take ks.length)=true/\fitK ls (vs.drop ks.length)=true
 |[],ls,vs,h=>⟨by cases vs<;>rfl,by simpa using h⟩
 |k::ks,ls,[],h=>by cases k<;>cases h
 |k::ks,ls,v::vs,h=>by
  cases k<;>cases v<;>simp only[List.cons_append,fitK,Bool.and_eq_true,Bool.false_eq_true] at h<;>first
   |(obtain⟨h1,h2⟩:=h;obtain⟨h3,h4⟩:=fitK_append h2;refine⟨?_,h4⟩;simp only[List.length_cons,List.take_succ_cons,fitK,h1,h3,Bool.and_self];done)
   |(obtain⟨h3,h4⟩:=fitK_append h;refine⟨?_,h4⟩;simp only[List.length_cons,List.take_succ_cons,fitK,h3];done)
theorem eq_run:∀ (d j t:Nat) (vs ws:List Value),eqTy P d t=true->tight P d t=true->fitK (kinds P d t) vs=true->fitK (kinds P d t) ws=true ->
  vs.length=P.cellsOf t/\∃ b,(Op.equalIn (d+j) t (mkv P t vs) (mkv P t ws)).run P w=.ok b w/\(b=true↔vs=ws)
 |0,j,t,vs,ws,he,_,_,_=>by cases he
 |d+1,j,t,vs,ws,he,ht,hv,hw=>by
  have leaf:∀ (k:Kd),(∀ fs,under P t≠.struct fs)->isAggB P t=false->kinds P (d+1) t=[k]->P.cellsOf t=1:=by
   intro k h1 _ _
   unfold tight at ht
   cases hd:under P t<;>rw[hd] at ht<;>first
    |exact absurd hd (h1 _)
    |simpa using ht
  have one:∀ {k:Kd} {us:List Value},fitK [k] us=true->∃ v,us=[v]/\fitK [k] [v]=true:=by
   intro k us hu
   have hl:=fitK_length hu
   match us,hl with
   |[v],_=>exact⟨v,rfl,hu⟩
  have hdj:d+1+j=(d+j)+1:=by omega
  rw[hdj]
  cases hd:under P t with
  |int k=>
   have hut:=under_some hd (by simp)
   have hna:isAggB P t=false:=by unfold isAggB;rw[hd]
   have hks:kinds P (d+1) t=[.int k]:=by unfold kinds kindOf;rw[hd]
   rw[hks] at hv hw
   obtain⟨v,rfl,hv⟩:=one hv
   obtain⟨u,rfl,hw⟩:=one hw
   refine⟨(leaf _ (λfs e=>by rw[hd] at e;cases e) hna hks).symm,?_⟩
   have m1:∀ x:Value,mkv P t [x]=x:=λx=>by unfold mkv;rw[hna]
   rw[m1,m1]
   cases v with
   |int k1 a=>cases u with
    |int k2 b=>
     simp only[fitK,Bool.and_true,decide_eq_true_eq] at hv hw
     subst hv;subst hw
     exact⟨a == b,by simp only[Op.equalIn,Sem.run_bind,run_underlying hut,Result.andThen_ok,if_true,Sem.run_pure],by simp⟩
    |_=>cases hw
   |_=>cases hv
  |bool=>
   have hut:=under_some hd (by simp)
   have hna:isAggB P t=false:=by unfold isAggB;rw[hd]
   have hks:kinds P (d+1) t=[.bool]:=by unfold kinds kindOf;rw[hd]
   rw[hks] at hv hw
   obtain⟨v,rfl,hv⟩:=one hv
   obtain⟨u,rfl,hw⟩:=one hw
   refine⟨(leaf _ (λfs e=>by rw[hd] at e;cases e) hna hks).symm,?_⟩
   have m1:∀ x:Value,mkv P t [x]=x:=λx=>by unfold mkv;rw[hna]
   rw[m1,m1]
   cases v with
   |bool a=>cases u with
    |bool b=>exact⟨a == b,by simp only[Op.equalIn,Sem.run_bind,run_underlying hut,Result.andThen_ok,Sem.run_pure],by simp⟩
    |_=>cases hw
   |_=>cases hv
  |string=>
   have hut:=under_some hd (by simp)
   have hna:isAggB P t=false:=by unfold isAggB;rw[hd]
   have hks:kinds P (d+1) t=[.str]:=by unfold kinds kindOf;rw[hd]
   rw[hks] at hv hw
   obtain⟨v,rfl,hv⟩:=one hv
   obtain⟨u,rfl,hw⟩:=one hw
   refine⟨(leaf _ (λfs e=>by rw[hd] at e;cases e) hna hks).symm,?_⟩
   have m1:∀ x:Value,mkv P t [x]=x:=λx=>by unfold mkv;rw[hna]
   rw[m1,m1]
   cases v with
   |string a=>cases u with
    |string b=>exact⟨a == b,by simp only[Op.equalIn,Sem.run_bind,run_underlying hut,Result.andThen_ok,Sem.run_pure],by rw[beq_toListBytes,beq_iff_eq,str_ext];simp⟩
    |_=>cases hw
   |_=>cases hv
  |struct fs=>
   have hut:=under_some hd (by simp)
   have hag:isAggB P t=true:=by unfold isAggB;rw[hd]
   have hks:kinds P (d+1) t=fs.toList.flatMap λf=>kinds P d f.type:=by rw[kinds,hd]
   rw[hks] at hv hw
   simp only[eqTy,hd,Bool.and_eq_true,Bool.not_eq_true'] at he
   obtain⟨hst,he⟩:=he
   have he:=List.all_eq_true.1 he
   simp only[tight,hd,Bool.and_eq_true,beq_iff_eq] at ht
   obtain⟨hgo,ht⟩:=ht
   have ht:=List.all_eq_true.1 ht
   have key:∀ (l:List Field) (o e:Nat),(∀ f∈l,f∈fs.toList)->tight.go P l o=some e->∀ (us xs:List Value),fitK (l.flatMap λf=>kinds P d f.type) (us.drop o)=true->fitK (l.flatMap λf=>kinds P d f.type) (xs.drop o)=true ->
     (us.drop o).length=e-o/\o<=e/\∃ b,(Op.eqFields (d+j) us.toArray xs.toArray l).run P w=.ok b w/\(b=true↔us.drop o=xs.drop o):=by
    intro l
    induction l with
    |nil=>
     intro o e _ hg us xs hu hx
     simp only[tight.go,Option.some.injEq] at hg
     subst hg
     have h1:us.drop o=[]:=eq_nil_of_length_eq_zero (by have:=fitK_length hu;simpa using this)
     have h2:xs.drop o=[]:=eq_nil_of_length_eq_zero (by have:=fitK_length hx;simpa using this)
     exact⟨by simp[h1],Nat.le_refl _,true,by simp[Op.eqFields],by simp[h1,h2]⟩
    |cons f l ih=>
     intro o e hmem hg us xs hu hx
     have hf:=hmem f mem_cons_self
     have hef:=he f hf
     simp only[Bool.and_eq_true,bne_iff_ne,ne_eq] at hef
     obtain⟨hname,hinfo,hefT⟩:=hef
     simp only[tight.go] at hg
     cases hoff:f.offset == o with
     |false=>rw[hoff] at hg;cases hg
     |true=>
      rw[hoff] at hg
      have hoff:f.offset=o:=by simpa using hoff
      simp only[List.flatMap_cons] at hu hx
      obtain⟨hu1,hu2⟩:=fitK_append hu
      obtain⟨hx1,hx2⟩:=fitK_append hx
      obtain⟨hl1,b1,hr1,hb1⟩:=eq_run d j f.type _ _ hefT (ht f hf) hu1 hx1
      have hkl:(kinds P d f.type).length=P.cellsOf f.type:=by rw[<- fitK_length hu1];exact hl1
      rw[hkl] at hu1 hu2 hx1 hx2 hr1 hl1 hb1
      rw[List.drop_drop] at hu2 hx2
      obtain⟨hlen,hoe,b2,hrest,hb2⟩:=ih (o+P.cellsOf f.type) e (λx hx=>hmem x (mem_cons_of_mem _ hx)) hg us xs hu2 hx2
      have hpart:∀ zs:List Value,fitK (kinds P d f.type) ((zs.drop o).take (P.cellsOf f.type))=true->((zs.drop o).take (P.cellsOf f.type)).length=P.cellsOf f.type->(part f.type zs.toArray f.offset).run P w=.ok (mkv P f.type ((zs.drop o).take (P.cellsOf f.type))) w:=by
       intro zs hz hzl
       have hund:hasUnder P f.type=true:=by
        unfold hasUnder
        cases hq:P.underlying f.type with
        |none=>
         cases d with
         |zero=>cases hefT
         |succ d=>simp[eqTy,under,hq] at hefT
        |some x=>rfl
       unfold part
       simp only[Sem.run_bind,run_isAgg hund,Result.andThen_ok]
       cases ha:isAggB P f.type with
       |true=>
        simp only[if_true,Sem.run_bind,run_sizeOf' hinfo,Result.andThen_ok,Sem.run_pure,hoff]
        rw[mkv_agg ha]
        congr 2
        apply Array.ext'
        simp[List.extract_eq_take_drop]
       |false=>
        have h1:P.cellsOf f.type=1:=by
         have h2:=ht f hf
         have h3:=hefT
         cases d with
         |zero=>cases h3
         |succ d=>
          unfold tight at h2
          unfold isAggB at ha
          cases hq:under P f.type<;>rw[hq] at ha h2<;>first|(simpa using h2;done)|cases ha
        rw[h1] at hzl ⊢
        match hm:(zs.drop o).take 1,hzl with
        |[v],_=>
         have hv:zs[o]?=some v:=by
          have:=congrArg (λl:List Value=>l[0]?) hm
          simpa using this
         simp only[Bool.false_eq_true,if_false,hoff,List.getElem?_toArray,hv,Sem.run_pure]
         unfold mkv
         rw[ha]
      have hlx:((xs.drop o).take (P.cellsOf f.type)).length=P.cellsOf f.type:=(fitK_length hx1).trans hkl
      refine⟨?_,by omega,?_⟩
      ·have h4:((us.drop o).take (P.cellsOf f.type)).length+((us.drop o).drop (P.cellsOf f.type)).length=(us.drop o).length:=by
        rw[<- List.length_append,List.take_append_drop]
       rw[hl1,List.drop_drop,hlen] at h4
       omega
      ·rw[Op.eqFields,if_pos hname]
       simp only[Sem.run_bind,hpart us hu1 hl1,hpart xs hx1 hlx,Result.andThen_ok,hr1]
       have split:us.drop o=xs.drop o↔(us.drop o).take (P.cellsOf f.type)=(xs.drop o).take (P.cellsOf f.type)/\us.drop (o+P.cellsOf f.type)=xs.drop (o+P.cellsOf f.type):=by
        constructor
        ·intro e;rw[e,<- List.drop_drop,e,List.drop_drop];exact⟨rfl,rfl⟩
        ·rintro⟨e1,e2⟩
         rw[<- List.take_append_drop (P.cellsOf f.type) (us.drop o),<- List.take_append_drop (P.cellsOf f.type) (xs.drop o),e1,List.drop_drop,List.drop_drop,e2]
       cases b1 with
       |true=>
        refine⟨b2,by simpa using hrest,?_⟩
        rw[hb2,split]
        exact⟨λe=>⟨hb1.1 rfl,e⟩,λe=>e.2⟩
       |false=>
        refine⟨false,by simp,?_⟩
        rw[split]
        exact⟨λe=>(by cases e),λe=>absurd (hb1.2 e.1) (by simp)⟩
   obtain⟨hlen,_,b,hrun,hb⟩:=key fs.toList 0 _ (λ_ h=>h) hgo vs ws (by simpa using hv) (by simpa using hw)
   refine⟨by simpa using hlen,b,?_,by simpa using hb⟩
   have hfo:P.fieldsOf t=fs:=by simp[Program.fieldsOf,hut]
   rw[mkv_agg hag,mkv_agg hag,run_equalIn_struct w (d+j) t _ _ (by rw[hfo];exact hut) hst,hfo]
   simpa using hrun
  |_=>unfold eqTy at he;rw[hd] at he;cases he
end
end Go.Eng
end
section
namespace Go.Eng
section
variable{P:Program}{lo:List Nat}{fr:Hp}{g:Nat->Nat}{L:List LE}{h:Hp}{w:World}{K:KO}
theorem run_sameAddr(H:HO fr g L h w){a b:Addr}(hs:a.block≠b.block->solid h a/\solid h b):(sameAddr a b).run P w=.ok (decide (a=b)) w:=by
 unfold sameAddr
 by_cases hb:a.block=b.block
 ·simp[hb,Sem.run_pure]
  by_cases hab:a=b<;>simp[hab]
 ·obtain⟨⟨c,t,hc,h0⟩,⟨c',t',hc',h0'⟩⟩:=hs hb
  have e1:=H.hh _ _ hc
  have e2:=H.hh _ _ hc'
  have hne:a≠b:=λe=>hb (by rw[e])
  have f1:∀ x:Addr,x.block=a.block->w.frozen? x=false:=λx hx=>by simp[World.frozen?,hx,e1]
  have f2:∀ x:Addr,x.block=b.block->w.frozen? x=false:=λx hx=>by simp[World.frozen?,hx,e2]
  have s1:w.shape? a.block=some (t,c.size):=by simp[World.shape?,e1]
  have s2:w.shape? b.block=some (t',c'.size):=by simp[World.shape?,e2]
  have v1:(noView a).run P w=.ok () w:=by simp[noView,viewAt,shape,Sem.run,s1]
  have v2:(noView b).run P w=.ok () w:=by simp[noView,viewAt,shape,Sem.run,s2]
  have t1:(stringish a).run P w=.ok false w:=by simp[stringish,frozen,shape,Sem.run,s1,f1 a rfl,f1 ⟨a.block,c.size,none⟩ rfl]
  have t2:(stringish b).run P w=.ok false w:=by simp[stringish,frozen,shape,Sem.run,s2,f2 b rfl,f2 ⟨b.block,c'.size,none⟩ rfl]
  have m:(mayBeOne a b).run P w=.ok false w:=by simp[mayBeOne,t1,t2]
  have fz:(frozen a).run P w=.ok false w:=by simp[frozen,Sem.run,f1 a rfl]
  have fz2:(frozen b).run P w=.ok false w:=by simp[frozen,Sem.run,f2 b rfl]
  simp[hb,fz,fz2,v1,v2,m,hne]
theorem equal_succ(t:Nat)(x y:Value):∃ d,Op.equal t x y=Op.equalIn (d+1) t x y:=⟨9999,rfl⟩
theorem eq_ok'(H:HO fr g L h w){op:BinOp}{t:Nat}{c:Prop}{b:Bool}{x y:Value}(hne:op=.eql\/op=.neq)
  (hgd:∀ u v,(eqGuard op t u v x y).run P w=.ok () w) (hb:(Op.equal t x y).run P w=.ok b w) (hbc:b=true↔c)
  (hbin:(binOp op t x y).run P w=((Op.equal t x y).run P w).andThen λb w'=>.ok (.bool (if op=.eql then b else !b)) w') (hk:tf op c L h K) (u v:Operand) :
  Out fr g L w ((do eqGuard op t u v x y;binOp op t x y:Sem Value).run P w) K:=by
 have hr:(do eqGuard op t u v x y;binOp op t x y:Sem Value).run P w=.ok (.bool (if op=.eql then b else !b)) w:=by
  simp only[Sem.run_bind,hgd,Result.andThen_ok,hbin,hb]
 rcases hne with rfl|rfl
 ·exact Out.tf H hr (by simpa using hbc) hk
 ·refine Out.ft H hr ?_ hk
  simp only[reduceCtorEq,if_false,Bool.not_eq_true']
  rw[<- Bool.not_eq_true]
  exact not_congr hbc
theorem tf_op{op:BinOp}{c:Prop}(hk:tf op c L h K):op=.eql\/op=.neq:=by
 cases op<;>first|exact .inl rfl|exact .inr rfl|exact False.elim hk
theorem eq_ok(H:HO fr g L h w){op:BinOp}{t:Nat}{x y:Value}(hk:dEq P op t x y L h K)(u v:Operand):Out fr g L w ((do eqGuard op t u v x y;binOp op t x y:Sem Value).run P w) K:=by
 unfold dEq at hk
 cases hd:under P t<;>rw[hd] at hk<;>try exact False.elim hk
 all_goals have hut:=under_some hd (by simp)
 case bool=>
  cases x with
  |bool a=>cases y with
   |bool b=>
    refine eq_ok' H (b:=a == b) (tf_op hk) (λu v=>by rcases tf_op hk with rfl|rfl<;>simp[eqGuard]) ?_ (by simp) ?_ hk u v
    ·(obtain⟨d,hd'⟩:=equal_succ t _ _;rw[hd'];simp[Op.equalIn,run_underlying hut])
    ·rcases tf_op hk with rfl|rfl<;>simp[binOp]
   |_=>exact False.elim hk
  |_=>exact False.elim hk
 case pointer e=>
  cases x with
  |pointer p=>cases y with
   |pointer q=>
    have hq:=grd_spec hk
    clear hk
    obtain⟨hg,hok,hk⟩:=hq
    simp only[Bool.and_eq_true,Bool.not_eq_true',beq_eq_false_iff_ne] at hg
    obtain⟨hie,hsz⟩:=hg
    have hrun:∃ b,(Op.equal t (.pointer p) (.pointer q)).run P w=.ok b w/\(b=true↔p=q):=by
     cases p with
     |none=>cases q with
      |none=>exact⟨true,by obtain⟨d,hd'⟩:=equal_succ t _ _;rw[hd'];simp[Op.equalIn,run_underlying hut],by simp⟩
      |some b=>exact⟨false,by obtain⟨d,hd'⟩:=equal_succ t _ _;rw[hd'];simp[Op.equalIn,run_underlying hut],by simp⟩
     |some a=>cases q with
      |none=>exact⟨false,by obtain⟨d,hd'⟩:=equal_succ t _ _;rw[hd'];simp[Op.equalIn,run_underlying hut],by simp⟩
      |some b=>
       refine⟨decide (a=b),?_,by simp⟩
       obtain⟨d,hd'⟩:=equal_succ t (.pointer (some a)) (.pointer (some b))
       rw[hd']
       simp only[Op.equalIn,Sem.run_bind,run_underlying hut,Result.andThen_ok,run_sizeOf' hie,ne_eq,hsz,not_false_eq_true,if_true]
       exact run_sameAddr H (hok a b rfl rfl)
    obtain⟨b,hb,hbc⟩:=hrun
    refine eq_ok' H (tf_op hk) (λu v=>by rcases tf_op hk with rfl|rfl<;>simp[eqGuard]) hb hbc ?_ hk u v
    rcases tf_op hk with rfl|rfl<;>simp[binOp]
   |_=>exact False.elim hk
  |_=>exact False.elim hk
 case slice e=>
  cases x with
  |slice a n c=>cases y with
   |slice b m d=>
    cases b with
    |some b=>exact False.elim hk
    |none=>
     refine eq_ok' H (b:=a.isNone) (c:=a=none) (tf_op hk) (λu v=>by rcases tf_op hk with rfl|rfl<;>simp[eqGuard]) ?_ (by simp) ?_ hk u v
     ·cases a<;>(obtain⟨d,hd'⟩:=equal_succ t _ _;rw[hd'];simp[Op.equalIn,run_underlying hut])
     ·rcases tf_op hk with rfl|rfl<;>simp[binOp]
   |_=>exact False.elim hk
  |_=>exact False.elim hk
 case map kt et=>
  cases x with
  |map a=>cases y with
   |map b=>
    cases b with
    |some b=>exact False.elim hk
    |none=>
     refine eq_ok' H (b:=a.isNone) (c:=a=none) (tf_op hk) (λu v=>by rcases tf_op hk with rfl|rfl<;>simp[eqGuard]) ?_ (by simp) ?_ hk u v
     ·cases a<;>(obtain⟨d,hd'⟩:=equal_succ t _ _;rw[hd'];simp[Op.equalIn,run_underlying hut])
     ·rcases tf_op hk with rfl|rfl<;>simp[binOp]
   |_=>exact False.elim hk
  |_=>exact False.elim hk
 case struct fs=>
  cases x with
  |agg cs=>cases y with
   |agg ds=>
    obtain⟨vs⟩:=cs
    obtain⟨ws⟩:=ds
    have hq:=grd_spec hk
    clear hk
    obtain⟨hg,hk⟩:=hq
    simp only[Bool.and_eq_true,Bool.not_eq_true'] at hg
    obtain⟨⟨⟨⟨he,ht⟩,hgt⟩,hv⟩,hw⟩:=hg
    have hag:isAggB P t=true:=by unfold isAggB;rw[hd]
    obtain⟨_,b,hb,hbc⟩:=eq_run (P:=P) (w:=w) 8 9992 t vs ws he ht hv hw
    rw[mkv_agg hag,mkv_agg hag] at hb
    refine eq_ok' H (b:=b) (tf_op hk) (λu v=>by rcases tf_op hk with rfl|rfl<;>simp[eqGuard,hgt]) hb hbc ?_ hk u v
    rcases tf_op hk with rfl|rfl<;>simp[binOp]
   |_=>exact False.elim hk
  |_=>exact False.elim hk
theorem bin_ok(H:HO fr g L h w){op:BinOp}{t:Nat}{x y:AV}{a b:Value}(hk:dBin P op t x y L h K)(hx:x.is g a)(hy:y.is g b)(u v:Operand) :
  Out fr g L w ((do eqGuard op t u v a b;binOp op t a b:Sem Value).run P w) K:=by
 have gen:x.get (λv=>y.get λu=>dEq P op t v u L h K)->Out fr g L w ((do eqGuard op t u v a b;binOp op t a b:Sem Value).run P w) K:=by
  intro hk
  exact eq_ok H (AV.is_get hy (AV.is_get hx hk)) u v
 have pre:∀ (a b:Value),(∀ u v,(eqGuard op t u v a b).run P w=.ok () w)->Out fr g L w ((binOp op t a b).run P w) K->Out fr g L w ((do eqGuard op t u v a b;binOp op t a b:Sem Value).run P w) K:=by
  intro a b h1 h2
  simp only[Sem.run_bind,h1,Result.andThen_ok]
  exact h2
 unfold dBin at hk
 cases x with
 |v xv=>
  have ha:a=xv:=hx
  subst ha
  cases a with
  |int k n=>
   cases y with
   |v yv=>
    have hb:b=yv:=hy
    subst hb
    cases b with
    |int k' m=>exact pre _ _ (λu v=>by cases op<;>simp[eqGuard]) (int_ok H hk)
    |_=>exact False.elim hk
   |_=>exact False.elim hk
  |string s=>
   cases y with
   |v yv=>
    have hb:b=yv:=hy
    subst hb
    cases b with
    |string s'=>exact pre _ _ (λu v=>by cases op<;>simp[eqGuard]) (str_ok H hk)
    |_=>exact False.elim hk
   |_=>exact False.elim hk
  |_=>exact gen hk
 |_=>exact gen hk
theorem conv_ok(H:HO fr g L h w){src dst:Nat}{x:AV}{y:Value}(hk:dConv P src dst x L h K)(hx:x.is g y):Out fr g L w ((convert src dst y).run P w) K:=by
 unfold dConv at hk
 cases hd:under P dst<;>rw[hd] at hk<;>try exact False.elim hk
 all_goals have hut:=under_some hd (by simp)
 case int k=>
  cases x with
  |v xv=>
   have hy:y=xv:=hx
   subst hy
   cases y with
   |int k' n=>
    have hq:=grd_spec hk
    clear hk
    obtain⟨hus,hk⟩:=hq
    refine Out.here H (x:=.v _) ?_ rfl hk
    unfold convert
    simp only[Sem.run_bind,run_underlying (hasUnder_some hus),run_underlying hut,Result.andThen_ok]
    cases under P src<;>simp[Conv.intToInt]
   |_=>exact False.elim hk
  |_=>exact False.elim hk
 case string=>
  cases x with
  |v xv=>
   have hy:y=xv:=hx
   subst hy
   cases y with
   |string s=>
    dsimp only at hk
    cases hs:under P src<;>rw[hs] at hk<;>try exact False.elim hk
    have hus:=under_some hs (by simp)
    refine Out.here H (x:=.v _) ?_ rfl hk
    simp[convert,run_underlying hus,run_underlying hut]
   |slice a n c=>
    dsimp only at hk
    cases hs:under P src<;>rw[hs] at hk<;>try exact False.elim hk
    rename_i e
    have hus:=under_some hs (by simp)
    dsimp only at hk
    cases he:under P e<;>rw[he] at hk<;>try exact False.elim hk
    rename_i ek
    have hue:=under_some he (by simp)
    cases ek<;>try exact False.elim hk
    obtain⟨s,⟨hl,hrow⟩,hk⟩:=hk
    rw[bytesV_length] at hl
    subst hl
    refine Out.here H (x:=.v (.string s)) (v:=.string s) ?_ rfl hk
    have sn:strOfNums (s.data.toList.map λb=>(b.toNat:Int))=s:=by
     unfold strOfNums
     apply ByteArray.ext
     apply Array.ext'
     simp only[List.map_map]
     have:((λn:Int=>UInt8.ofNat n.toNat) ∘ λb:UInt8=>(b.toNat:Int))=id:=by funext b;simp
     rw[this]
     simp
    rcases hrow with h0|⟨b,o,rfl,hat⟩
    ·have hse:s=ByteArray.empty:=by
      apply ByteArray.ext
      apply Array.ext'
      have:s.data.toList.length=0:=by rw[Array.length_toList];exact h0
      rw[eq_nil_of_length_eq_zero this]
      rfl
     cases a with
     |none=>rw[hse];exact run_convert_bytes_nil w src e hus hue _ _ dst hut
     |some ad=>
      have hr:=run_convert_bytes_string w src dst e (some ad) s.size c hus hue hut
      rw[hr,h0,hse]
      simp[Conv.bytesToString,loadCells,loadCellsFrom]
    ·have:=run_convert_bytes_arg (P:=P) w src e hus hue b o s.size c (s.data.toList.map λb=>(b.toNat:Int)) (by rw[List.length_map,Array.length_toList];rfl)
      (λi hi=>by
       have h1:=hat i hi
       have hil:i<s.data.toList.length:=by rw[Array.length_toList];exact hi
       have h2:(bytesV s)[i]?=some (.int .u8 ((s.data.toList.map λb=>(b.toNat:Int)).getD i 0)):=by
        simp[bytesV,List.getD_eq_getElem?_getD,List.getElem?_eq_getElem hil]
       rw[h2] at h1
       exact cell_of H.hh h1) dst hut
     rw[sn] at this
     exact this
   |_=>exact False.elim hk
  |_=>exact False.elim hk
 case slice e=>
  cases x with
  |v xv=>
   have hy:y=xv:=hx
   subst hy
   cases y with
   |string s=>
    dsimp only at hk
    cases hs:under P src<;>rw[hs] at hk<;>try exact False.elim hk
    have hus:=under_some hs (by simp)
    dsimp only at hk
    cases he:under P e<;>rw[he] at hk<;>try exact False.elim hk
    rename_i ek
    have hue:=under_some he (by simp)
    cases ek<;>try exact False.elim hk
    have hge:s.size<=grownCap w s.size 0 e:=by simp[grownCap,Question.cut]
    have hrun:∃ w1,(convert src dst (.string s)).run P w=.ok (.slice (some ⟨w.heap.size,0,none⟩) s.size (grownCap w s.size 0 e)) w1 /\
      New w w1 (.cells ⟨bytesV s++List.replicate (grownCap w s.size 0 e-s.size) (.int .u8 0)⟩ e (grownCap w s.size 0 e,grownCap w s.size 0 e+1)):=by
     have hsize:(⟨bytesV s++List.replicate (grownCap w s.size 0 e-s.size) (.int .u8 0)⟩:Array Value).size=grownCap w s.size 0 e:=by
      simp[bytesV_length];omega
     have harr:(s.data.map λb=>Value.int .u8 b.toNat)++Array.replicate (grownCap w s.size 0 e-s.size) (.int .u8 0)=⟨bytesV s++List.replicate (grownCap w s.size 0 e-s.size) (.int .u8 0)⟩:=by
      apply Array.ext';simp[bytesV]
     generalize hC:(⟨bytesV s++List.replicate (grownCap w s.size 0 e-s.size) (.int .u8 0)⟩:Array Value)=C at *
     have hch:(choose (.appendCap s.size 0 e)).run P w=.ok (grownCap w s.size 0 e) { w with drawn:=w.drawn+1 }:=by
      simp[choose,Sem.run,Question.forced,grownCap]
     refine⟨({ w with heap:=w.heap.push (.cells C e (0,0)),drawn:=w.drawn+1 }:World).freeze ⟨w.heap.size,C.size,none⟩ 1,?_,?_⟩
     ·unfold convert
      simp only[Sem.run_bind,run_underlying hus,run_underlying hut,run_underlying hue,Result.andThen_ok]
      unfold Conv.stringToBytes
      have hnew:(newRow e C).run P { w with drawn:=w.drawn+1 }=.ok ⟨w.heap.size,0,none⟩ { w with heap:=w.heap.push (.cells C e (0,0)),drawn:=w.drawn+1 }:=rfl
      have hshape:(shape w.heap.size).run P { w with heap:=w.heap.push (.cells C e (0,0)),drawn:=w.drawn+1 }=.ok (some (e,C.size)) { w with heap:=w.heap.push (.cells C e (0,0)),drawn:=w.drawn+1 }:=by
       show Result.ok _ _=_
       simp[World.shape?]
      have hmark:(markStringish ⟨w.heap.size,0,none⟩).run P { w with heap:=w.heap.push (.cells C e (0,0)),drawn:=w.drawn+1 }=.ok () (({ w with heap:=w.heap.push (.cells C e (0,0)),drawn:=w.drawn+1 }:World).freeze ⟨w.heap.size,C.size,none⟩ 1):=by
       unfold markStringish
       simp only[Sem.run_bind,hshape,Result.andThen_ok]
       rfl
      simp only[Sem.run_bind,hch,Result.andThen_ok,harr,hnew,hmark,Sem.run_pure]
     ·have hfz:∀ k,(({ w with heap:=w.heap.push (.cells C e (0,0)),drawn:=w.drawn+1 }:World).freeze ⟨w.heap.size,C.size,none⟩ 1).heap[k]?=if w.heap.size=k then some (.cells C e (C.size,C.size+1)) else(w.heap.push (.cells C e (0,0)))[k]?:=by
       intro k
       unfold World.freeze
       rw[if_neg (by omega)]
       simp only[Array.getElem?_modify]
       by_cases hk':w.heap.size=k
       ·subst hk';simp
       ·simp[hk']
      refine⟨?_,λk hk'=>?_,?_,?_,?_,?_⟩
      ·rw[hfz,if_pos rfl,hsize]
      ·rw[hfz,if_neg (by omega),Array.getElem?_push,if_neg (by omega)]
      ·simp[World.freeze]
      all_goals simp[World.freeze]
    obtain⟨w1,hr,hn⟩:=hrun
    exact⟨.v (.slice (some ⟨w.heap.size,0,none⟩) s.size (grownCap w s.size 0 e)),L,_,_,w1,hr,rfl,HO.new_heap H hn,hn.wr,Kp.refl L,hk _ _ (H.none_h (Nat.le_refl _)) hge⟩
   |slice A n c=>
    dsimp only at hk
    split at hk
    ·rename_i b o
     cases hs:under P src<;>rw[hs] at hk<;>try exact False.elim hk
     have hus:=under_some hs (by simp)
     dsimp only at hk
     cases hsd:src == dst with
     |false=>rw[hsd] at hk;exact False.elim hk
     |true=>
      rw[hsd] at hk
      dsimp only at hk
      cases he:under P e<;>rw[he] at hk<;>try exact False.elim hk
      rename_i ek
      have hue:=under_some he (by simp)
      cases ek<;>try exact False.elim hk
      obtain⟨cs,t,hb,hk⟩:=hk
      have hwb:=H.hh b _ hb
      let w':World:=w.freeze ⟨b,cs.size,none⟩ 1
      have hbs:b<w.heap.size:=(Array.getElem?_eq_some_iff.1 hwb).1
      have hl:Laid w w' b (.cells cs t (cs.size,cs.size+1)):=by
       have hwh:w'.heap=w.heap.modify b fun
         |.cells c elem (lo,hi)=>.cells c elem (if lo == hi then(cs.size,cs.size+1) else(min lo cs.size,max hi (cs.size+1)))
         |o=>o:=by
        simp only[w',World.freeze]
        rw[if_neg (by decide)]
        congr 1
       refine⟨?_,λk hkb=>?_,?_,rfl,rfl,rfl⟩
       ·rw[hwh,Array.getElem?_modify,if_pos rfl,hwb];rfl
       ·rw[hwh,Array.getElem?_modify,if_neg (Ne.symm hkb)]
       ·rw[hwh,Array.size_modify]
      refine⟨.v _,L,_,_,w',?_,rfl,HO.upd H (by rw[hb];simp) hl,hl.wr,Kp.refl L,hk⟩
      have hsh:w.shape? b=some (t,cs.size):=by simp[World.shape?,hwb]
      unfold convert
      simp only[Sem.run_bind,run_underlying hus,run_underlying hut,Result.andThen_ok,run_underlying hue,hsd,markStringish]
      simp[shape,Sem.run,hsh,freeze,w']
    ·exact False.elim hk
   |_=>exact False.elim hk
  |_=>exact False.elim hk
end
end Go.Eng
end
section
namespace Go.Eng
structure Own(fr h:Hp)(w:World):Prop where
 hh:∀ b o,h b=some o->w.heap[b]?=some o
 ff:∀ b o,fr b=some o->w.heap[b]?=some o
 dj:∀ b,h b=none\/fr b=none
def Impl(P:Program)(f:Nat)(args:List Value)(T:PT):Prop:=
 ∀ h Q,T h Q->∀ fr w,Own fr h w->Calls P f args.toArray w λe w'=>∃ v h',e=.returned v/\Own fr h' w'/\Wr w w'/\Q v h'
def Enters (P : Program) (f : Nat) : Prop := ∃ fn, P.funcs[f]? = some fn ∧ fn.body.isNone = false ∧ (fn.name == "runtime.NumGoroutine") = false
def ExtOk(P:Program)(f:Nat)(T:List Value->PT):Prop:=∀ args h Q,T args h Q->∀ w,∃ v,(callFunc f args.toArray).run P w=.ok (.value v) w/\Q v h
def GOk(P:Program)(G:List (Nat×(List Value->PT))):Prop:=∀ f T,lkG G f=some T->(Enters P f/\∀ args,Impl P f args (T args))\/ExtOk P f T
def VOk(P:Program)(V:Value->List Value->PT):Prop:=
 ∀ v args h Q,V v args h Q->∃ f first cap,v=.func (.func f) first cap/\Enters P f/\∃ T,Impl P f (first.toList++(args++cap.toList)) T/\T h Q
theorem run_callFunc{P:Program}{f:Nat}(hf:Enters P f)(args:Array Value)(w:World):(callFunc f args).run P w=.ok (.enter f args) w:=by
 obtain⟨fn,h1,h2,h3⟩:=hf
 unfold callFunc
 simp only[Sem.run_bind,run_program,Result.andThen_ok,h1,h2,h3,Bool.false_eq_true,if_false,Sem.run_pure]
section
variable{P:Program}{lo:List Nat}{G:List (Nat×(List Value->PT))}{V:Value->List Value->PT}{fr:Hp}{g:Nat->Nat}{L:List LE}{h:Hp}{w:World}{K:KO}
theorem exAll_spec:∀ {ks:List Kd} {K:List Value->Prop},exAll ks K->∃ vs,K vs
 |[],_,hk=>⟨[],hk⟩
 |k::ks,K,hk=>by
  obtain⟨v,_,hr⟩:=ex1_spec hk
  obtain⟨vs,hK⟩:=exAll_spec hr
  exact⟨_,hK⟩
theorem exTup_spec:∀ {ts:List Nat} {K:List Value->Prop},exTup P ts K->∃ vs,K vs
 |[],_,hk=>⟨[],hk⟩
 |t::ts,K,hk=>by
  obtain⟨vs,hr⟩:=exAll_spec hk
  obtain⟨ws,hK⟩:=exTup_spec hr
  exact⟨_,hK⟩
theorem exVal_spec{t:Nat}{v:Value}{K:AV->Prop}(hk:exVal P t v K):∃ x,(∀ g,AV.is g x v)/\K x:=by
 unfold exVal at hk
 cases hd:under P t<;>rw[hd] at hk<;>dsimp only at hk
 case bool=>
  obtain⟨b,rfl,hk⟩:=hk
  cases b with
  |true=>exact⟨.v _,λ_=>rfl,hk.1 rfl⟩
  |false=>exact⟨.v _,λ_=>rfl,hk.2 rfl⟩
 case tuple ts=>
  cases hts:ts.toList with
  |nil=>rw[hts] at hk;exact⟨.v _,λ_=>rfl,hk⟩
  |cons t0 ts0=>
   rw[hts] at hk
   obtain⟨vs,rfl,hK⟩:=exTup_spec hk
   exact⟨.v _,λ_=>rfl,hK⟩
 all_goals
  obtain⟨vs,rfl,hK⟩:=exAll_spec hk
  exact⟨.v _,λ_=>rfl,hK⟩
def boxes(g:Nat->Nat)(L:List LE)(w:World)(fr:Hp):Hp:=λb=>match fr b with
 |some o=>some o
 |none=>open Classical in if ∃ e∈L,g e.l=b then w.heap[b]? else none
theorem HO.own(H:HO fr g L h w):Own (boxes g L w fr) h w:=by
 refine⟨H.hh,λb o hb=>?_,λb=>?_⟩
 ·unfold boxes at hb
  cases hf:fr b with
  |some x=>rw[hf] at hb;rw[<- hb];exact H.ff b x hf
  |none=>
   rw[hf] at hb
   dsimp only at hb
   split at hb
   ·exact hb
   ·cases hb
 ·cases hh:h b with
  |none=>exact .inl rfl
  |some o=>
   refine .inr ?_
   have hf:fr b=none:=(H.dj b).resolve_left (by rw[hh];simp)
   unfold boxes
   rw[hf]
   dsimp only
   rw[if_neg]
   rintro⟨e,he,rfl⟩
   obtain⟨cs,q⟩:=H.ll e he
   rw[q.nh] at hh;cases hh
theorem HO.back(H:HO fr g L h w){h':Hp}{w':World}(O:Own (boxes g L w fr) h' w'):HO fr g L h' w':=by
 have hbox:∀ e∈L,∀ cs,LEok fr g h w e cs->boxes g L w fr (g e.l)=some (.cells cs e.t (0,0)):=by
  intro e he cs q
  unfold boxes
  rw[q.nf]
  dsimp only
  rw[if_pos ⟨e,he,rfl⟩]
  exact q.at_
 refine⟨O.hh,λb o hb=>O.ff b o (by unfold boxes;rw[hb]),λb=>?_,λe he=>?_,H.uq⟩
 ·rcases O.dj b with h1|h1
  ·exact .inl h1
  ·refine .inr ?_
   unfold boxes at h1
   cases hf:fr b with
   |none=>rfl
   |some o=>rw[hf] at h1;cases h1
 ·obtain⟨cs,q⟩:=H.ll e he
  have hb:=hbox e he cs q
  exact⟨cs,⟨O.ff _ _ hb,q.sz,q.is_,q.pl,(O.dj _).resolve_right (by rw[hb];simp),q.nf⟩⟩
theorem impl_out(H:HO fr g L h w){f t:Nat}{args:List Value}{T:PT}(hT:T h λv h'=>exVal P t v λx=>K x L h')(hI:Impl P f args T) :
  Calls P f args.toArray w λe w'=>∃ v,e=.returned v/\Out fr g L w (.ok v w') K:=by
 refine(hI h _ hT _ w H.own).mono ?_
 rintro e w' ⟨v,h',rfl,O,hw,hq⟩
 obtain⟨x,hx,hK⟩:=exVal_spec hq
 exact⟨v,rfl,x,L,h',v,w',rfl,hx g,HO.back H O,hw,Kp.refl L,hK⟩
theorem minmax_ok{mx:Bool}:∀ {xs:List AV} {vs:List Value} {x:AV} {v:Value},dMinMax mx x xs L h K->x.is g v->inStep g xs vs->HO fr g L h w ->
  Out fr g L w ((vs.foldlM (if mx then Builtin.max2 else Builtin.min2) v).run P w) K
 |[],vs,x,v,hk,hx,hs,H=>by
  have:vs=[]:=eq_nil_of_length_eq_zero hs.1
  subst this
  exact Out.here H (x:=x) (by simp) hx hk
 |y::ys,[],x,v,hk,hx,hs,H=>by have:=hs.1;cases this
 |y::ys,u::us,x,v,hk,hx,hs,H=>by
  have hy:y.is g u:=hs.2 0 (by simp)
  have hst:inStep g ys us:=⟨by simpa using hs.1,λi hi=>hs.2 (i+1) (by simpa using hi)⟩
  rw[List.foldlM_cons]
  unfold dMinMax at hk
  cases x with
  |v xv=>
   have hxe:v=xv:=hx
   subst hxe
   cases v with
   |int k a=>
    cases y with
    |v yv=>
     have hye:u=yv:=hy
     subst hye
     cases u with
     |int k' b=>
      dsimp only at hk
      by_cases hkk:k=k'
      ·subst hkk
       rw[decide_eq_true rfl] at hk
       dsimp only at hk
       have h1:((if mx then Builtin.max2 else Builtin.min2) (.int k a) (.int k b)).run P w=.ok (.int k (mmI mx a b)) w:=by
        cases mx<;>simp[Builtin.max2,Builtin.min2,iMax,iMin,mmI]
       rw[Sem.run_bind,h1,Result.andThen_ok]
       exact minmax_ok hk rfl hst H
      ·rw[decide_eq_false hkk] at hk;exact False.elim hk
     |_=>exact False.elim hk
    |_=>exact False.elim hk
   |string a=>
    cases y with
    |v yv=>
     have hye:u=yv:=hy
     subst hye
     cases u with
     |string b=>
      dsimp only at hk
      have h1:((if mx then Builtin.max2 else Builtin.min2) (.string a) (.string b)).run P w=.ok (.string (mmS mx a b)) w:=by
       cases mx<;>simp only[Builtin.max2,Builtin.min2,mmS,sMax,sMin,Op.stringOp,asBool,if_true,Bool.false_eq_true,if_false,Sem.run_bind,Sem.run_pure,Result.andThen_ok]
       all_goals (congr 2;first|rfl|(cases Op.bytesLess a.toList b.toList<;>rfl))
      rw[Sem.run_bind,h1,Result.andThen_ok]
      exact minmax_ok hk rfl hst H
     |_=>exact False.elim hk
    |_=>exact False.elim hk
   |_=>exact False.elim hk
  |_=>exact False.elim hk
end
end Go.Eng
end
section
namespace Go.Eng
section
variable{P:Program}{lo:List Nat}{fr:Hp}{g:Nat->Nat}{L:List LE}{h:Hp}{w:World}{K:KO}
theorem run_getMap{r:Nat}{es:Array MapEntry}{c:Nat}(hb:w.heap[r]?=some (.map es c)):(getObj r).run P w=.ok (.map es c) w:=by
 simp[getObj,Sem.run,hb]
theorem run_getIter{r:Nat}{m:Option Nat}{s la:Nat}{sn:Array Nat}(hb:w.heap[r]?=some (.mapIter m s sn la)):(getObj r).run P w=.ok (.mapIter m s sn la) w:=by
 simp[getObj,Sem.run,hb]
theorem laid_set{r:Nat}{o:Obj}(hr:r<w.heap.size):Laid w { w with heap:=w.heap.setIfInBounds r o } r o:=
 ⟨by simp[hr],λk hk=>by simp[Array.getElem?_setIfInBounds_ne (Ne.symm hk)],by simp,rfl,rfl,rfl⟩
theorem run_setMap{r:Nat}{es:Array MapEntry}{c:Nat}{o:Obj}(hb:w.heap[r]?=some (.map es c)):(setObj r o).run P w=.ok () { w with heap:=w.heap.setIfInBounds r o }:=by
 simp[setObj,Sem.run,hb]
theorem run_setIter{r:Nat}{m:Option Nat}{s la:Nat}{sn:Array Nat}{o:Obj}(hb:w.heap[r]?=some (.mapIter m s sn la)):(setObj r o).run P w=.ok () { w with heap:=w.heap.setIfInBounds r o }:=by
 simp[setObj,Sem.run,hb]
theorem beq_str(a b:ByteArray):(a == b)=decide (a=b):=by
 rw[Bool.eq_iff_iff,beq_toListBytes,beq_iff_eq,str_ext];simp
inductive KeyOk (P:Program) (t:Nat):Value->Prop
 |int {k k':IntKind} {a:Int}:P.underlying t=some (.int k)->KeyOk P t (.int k' a)
 |str {s:ByteArray}:P.underlying t=some .string->KeyOk P t (.string s)
inductive KeyPt (P:Program) (t:Nat):Value->Prop
 |mk {e:Nat} {p:Option Addr}:P.underlying t=some (.pointer e)->hasInfo P e=true->P.cellsOf e≠0->KeyPt P t (.pointer p)
theorem keyV_spec{t:Nat}{v:Value}{p:Prop}(hk:keyV P t v p):(KeyOk P t v\/KeyPt P t v)/\p:=by
 unfold keyV at hk
 cases hd:under P t<;>rw[hd] at hk<;>try exact False.elim hk
 all_goals have hut:=under_some hd (by simp)
 ·cases v<;>first|exact False.elim hk|exact⟨.inl (.int hut),hk⟩
 ·cases v<;>first|exact False.elim hk|exact⟨.inl (.str hut),hk⟩
 ·cases v<;>first|exact False.elim hk|skip
  obtain⟨hg,hk⟩:=grd_spec hk
  simp only[Bool.and_eq_true,Bool.not_eq_true',beq_eq_false_iff_ne] at hg
  exact⟨.inr (.mk hut hg.1 hg.2),hk⟩
theorem run_checkKey{t:Nat}{v:Value}(hk:KeyOk P t v)(b:Bool)(w:World):(Instr.checkKey b 10000 t v).run P w=.ok () w:=by
 unfold Instr.checkKey
 cases hk with
 |int hu=>simp[Sem.run_bind,run_underlying hu]
 |str hu=>simp[Sem.run_bind,run_underlying hu]
theorem run_checkKeyA{t:Nat}{v:Value}(hk:KeyOk P t v\/KeyPt P t v)(b:Bool)(w:World):(Instr.checkKey b 10000 t v).run P w=.ok () w:=by
 rcases hk with hk|hk
 ·exact run_checkKey hk b w
 ·unfold Instr.checkKey
  cases hk with
  |mk hu=>simp[Sem.run_bind,run_underlying hu]
def ffind(k:Value):List MapEntry->Nat->Option (Nat×Value)
 |[],_=>none
 |e::es,i=>if kEq k e.key then some (i,e.val) else ffind k es (i+1)
theorem find_now{t:Nat}{k:Value}{d:TypeDesc}(hd:P.underlying t=some d)(hk:KeyOk P t k):∀ (es:List MapEntry) (i:Nat),(∀ e∈es,kFit k e.key=true)->Instr.findNow d k es i=some (ffind k es i)
 |[],_,_=>rfl
 |e::es,i,hf=>by
  have h1:=hf e mem_cons_self
  have ih:=find_now hd hk es (i+1) λe' he=>hf e' (mem_cons_of_mem _ he)
  have key:Instr.sameNow d k e.key=some (kEq k e.key):=by
   cases hk with
   |int hu=>
    rw[hd] at hu;cases hu
    cases he:e.key<;>rw[he] at h1<;>simp[kFit] at h1
    subst h1
    simp[Instr.sameNow,kEq]
   |str hu=>
    rw[hd] at hu;cases hu
    cases he:e.key<;>rw[he] at h1<;>simp[kFit] at h1
    simp[Instr.sameNow,kEq,beq_str]
  unfold Instr.findNow ffind
  rw[key,ih]
  cases kEq k e.key<;>rfl
theorem run_findKey{t:Nat}{k:Value}(hk:KeyOk P t k){es:Array MapEntry}(hf:keysFit k es)(w:World):(Instr.findKey t k es.toList).run P w=.ok (ffind k es.toList 0) w:=by
 unfold Instr.findKey
 cases hk with
 |int hu=>simp[Sem.run_bind,run_underlying hu,find_now hu (.int hu) es.toList 0 hf]
 |str hu=>simp[Sem.run_bind,run_underlying hu,find_now hu (.str hu) es.toList 0 hf]
theorem run_eqPtr(H:HO fr g L h w){t e:Nat}(hut:P.underlying t=some (.pointer e))(hie:hasInfo P e=true)(hsz:P.cellsOf e≠0){p q:Option Addr}(hok:okPtr h p q):(Op.equal t (.pointer p) (.pointer q)).run P w=.ok (decide (p=q)) w:=by
 cases p with
 |none=>cases q with
  |none=>obtain⟨d,hd'⟩:=equal_succ t (.pointer none) (.pointer none);rw[hd'];simp[Op.equalIn,run_underlying hut]
  |some b=>obtain⟨d,hd'⟩:=equal_succ t (.pointer none) (.pointer (some b));rw[hd'];simp[Op.equalIn,run_underlying hut]
 |some a=>cases q with
  |none=>obtain⟨d,hd'⟩:=equal_succ t (.pointer (some a)) (.pointer none);rw[hd'];simp[Op.equalIn,run_underlying hut]
  |some b=>
   obtain⟨d,hd'⟩:=equal_succ t (.pointer (some a)) (.pointer (some b))
   rw[hd']
   simp only[Op.equalIn,Sem.run_bind,run_underlying hut,Result.andThen_ok,run_sizeOf' hie,ne_eq,hsz,not_false_eq_true,if_true]
   rw[run_sameAddr H (hok a b rfl rfl)]
   simp
theorem run_askPtr(H:HO fr g L h w){t e:Nat}(hut:P.underlying t=some (.pointer e))(hie:hasInfo P e=true)(hsz:P.cellsOf e≠0){p:Option Addr}:∀ (es:List MapEntry) (i:Nat),(∀ e∈es,∃ q,e.key=.pointer q/\okPtr h p q)->(Instr.findAsking t (.pointer p) es i).run P w=.ok (ffind (.pointer p) es i) w
 |[],i,_=>rfl
 |e::es,i,hf=>by
  obtain⟨q,hq,hok⟩:=hf e mem_cons_self
  have ih:=run_askPtr H hut hie hsz es (i+1) λe' he=>hf e' (mem_cons_of_mem _ he)
  unfold Instr.findAsking ffind
  rw[hq]
  simp only[Sem.run_bind,run_eqPtr H hut hie hsz hok,Result.andThen_ok,kEq]
  by_cases hpq:p=q
  ·simp[hpq]
  ·simpa[hpq] using ih
theorem fit_find(H:HO fr g L h w){t:Nat}{k:Value}{es:Array MapEntry}{p:Prop}(hk:KeyOk P t k\/KeyPt P t k)(hf:keyFit P t h k es p):(Instr.findKey t k es.toList).run P w=.ok (ffind k es.toList 0) w/\p:=by
 have un:∀ d,P.underlying t=some d->under P t=d:=λd hd=>by unfold under;rw[hd];rfl
 unfold keyFit at hf
 rcases hk with hk|hk
 ·cases hk with
  |int hu=>rw[un _ hu] at hf;exact⟨run_findKey (.int hu) hf.1 w,hf.2⟩
  |str hu=>rw[un _ hu] at hf;exact⟨run_findKey (.str hu) hf.1 w,hf.2⟩
 ·cases hk with
  |mk hu hie hsz=>
   rw[un _ hu] at hf
   refine⟨?_,hf.2⟩
   rename_i e q
   have hP:∀ e∈es.toList,∃ q',e.key=.pointer q'/\okPtr h q q':=hf.1
   unfold Instr.findKey
   simp only[Sem.run_bind,run_underlying hu,Result.andThen_ok]
   cases hes:es.toList with
   |nil=>simp[Instr.findNow,ffind]
   |cons x xs=>
    have:Instr.findNow (.pointer e) (.pointer q) (x::xs) 0=none:=by simp[Instr.findNow,Instr.sameNow]
    rw[this]
    exact run_askPtr H hu hie hsz (x::xs) 0 (by rw[<- hes];exact hP)
theorem ffind_none{k:Value}:∀ {es:List MapEntry} {i:Nat},ffind k es i=none->es.find? (λe=>kEq k e.key)=none/\es.findIdx? (λe=>kEq k e.key)=none
 |[],_,_=>⟨rfl,rfl⟩
 |e::es,i,hn=>by
  unfold ffind at hn
  split at hn
  ·cases hn
  ·rename_i hne
   obtain⟨h1,h2⟩:=ffind_none hn
   have hne':kEq k e.key=false:=by simpa using hne
   exact⟨by rw[List.find?_cons,hne'];exact h1,by rw[List.findIdx?_cons,hne',h2];rfl⟩
theorem ffind_some{k:Value}:∀ {es:List MapEntry} {i j:Nat} {v:Value},ffind k es i=some (j,v)->∃ e,es.find? (λe=>kEq k e.key)=some e/\e.val=v/\i<=j/\es.findIdx? (λe=>kEq k e.key)=some (j-i)/\es[j-i]?=some e/\kEq k e.key=true
 |[],_,_,_,hn=>(by cases hn)
 |e::es,i,j,v,hn=>by
  unfold ffind at hn
  split at hn
  ·rename_i he
   simp only[Option.some.injEq,Prod.mk.injEq] at hn
   obtain⟨rfl,rfl⟩:=hn
   exact⟨e,by rw[List.find?_cons,he],rfl,Nat.le_refl _,by rw[List.findIdx?_cons,he,Nat.sub_self];rfl,by rw[Nat.sub_self];rfl,he⟩
  ·rename_i hne
   obtain⟨e',h1,h2,h3,h4,h5,h6⟩:=ffind_some hn
   have hne':kEq k e.key=false:=by simpa using hne
   have hji:j-i=(j-(i+1))+1:=by omega
   exact⟨e',by rw[List.find?_cons,hne'];exact h1,h2,by omega,by rw[List.findIdx?_cons,hne',h4,hji];rfl,by rw[hji];exact h5,h6⟩
theorem same_bits{k v:Value}(h:kEq k v=true):Instr.sameBits 10000 v k=true:=by
 cases k<;>cases v<;>simp only[kEq,Bool.and_eq_true,decide_eq_true_eq,Bool.false_eq_true] at h
 ·obtain⟨rfl,h2⟩:=h
  simp only[beq_iff_eq] at h2
  subst h2
  simp[Instr.sameBits]
 ·subst h
  simp[Instr.sameBits,beq_str]
 ·subst h
  simp[Instr.sameBits]
theorem look_run{h:Hp}{w:World}(hh:∀ b o,h b=some o->w.heap[b]?=some o){t kt et:Nat}{z:Value}(hut:P.underlying t=some (.map kt et))(hz:zeroV P et=some z){m:Option Nat}{j:Value}(hkey:KeyOk P kt j\/KeyPt P kt j){es:Array MapEntry}{c:Nat}(hm:h.mp m es c)(hfk:(Instr.findKey kt j es.toList).run P w=.ok (ffind j es.toList 0) w) :
  (Instr.lookup t (.map m) j false).run P w=.ok (mget es j z) w:=by
 have hzr:(zeroValue et).run P w=.ok z w:=by
  unfold zeroV at hz
  cases hinf:P.info? et with
  |none=>rw[hinf] at hz;cases hz
  |some inf=>rw[hinf] at hz;simp[zeroValue,typeInfo,hinf,show inf.zero=some z from hz]
 have hmget:mget es j z=match ffind j es.toList 0 with|some (_,v)=>v|none=>z:=by
  unfold mget
  cases hff:ffind j es.toList 0 with
  |none=>rw[(ffind_none hff).1]
  |some q=>
   obtain⟨q1,q2⟩:=q
   obtain⟨e,h1,h2,_⟩:=ffind_some hff
   rw[h1];exact h2
 rw[hmget]
 unfold Instr.lookup
 cases m with
 |none=>
  obtain⟨rfl,rfl⟩:=hm
  simp only[Sem.run_bind,run_underlying hut,Result.andThen_ok,Sem.run_pure,run_checkKeyA hkey,hfk]
  cases hff:ffind j (#[]:Array MapEntry).toList 0 with
  |none=>simp only[Sem.run_bind,hzr,Result.andThen_ok,Sem.run_pure];rfl
  |some q=>simp only[Sem.run_pure,Result.andThen_ok];rfl
 |some b=>
  have hb:=hh b _ hm
  simp only[Sem.run_bind,run_underlying hut,Result.andThen_ok,Sem.run_pure,run_getMap hb,run_checkKeyA hkey,hfk]
  cases hff:ffind j es.toList 0 with
  |none=>simp only[Sem.run_bind,hzr,Result.andThen_ok,Sem.run_pure];rfl
  |some q=>simp only[Sem.run_pure,Result.andThen_ok];rfl
theorem lookup_ok(H:HO fr g L h w){t:Nat}{x i:AV}{y j:Value}{ok:Bool}(hk:dLookup P t x i ok L h K)(hx:x.is g y)(hi:i.is g j):Out fr g L w ((Instr.lookup t y j ok).run P w) K:=by
 unfold dLookup at hk
 cases hd:under P t<;>rw[hd] at hk<;>try exact False.elim hk
 rename_i kt et
 have hut:=under_some hd (by simp)
 dsimp only at hk
 cases hz:zeroV P et<;>rw[hz] at hk<;>try exact False.elim hk
 rename_i z
 have hzr:(zeroValue et).run P w=.ok z w:=by
  unfold zeroV at hz
  cases hinf:P.info? et with
  |none=>rw[hinf] at hz;cases hz
  |some inf=>rw[hinf] at hz;simp[zeroValue,typeInfo,hinf,show inf.zero=some z from hz]
 cases x with
 |v xv=>
  have hy:y=xv:=hx
  subst hy
  cases y with
  |map m=>
   dsimp only at hk
   obtain⟨k,hkg,hk,hpl⟩:=AV.get_plain hk
   have hjk:j=k:=is_unique hpl hi (hkg g)
   subst hjk
   obtain⟨hkey,es,c,hm,hk⟩:=keyV_spec hk
   obtain⟨hfk,hk⟩:=fit_find H hkey hk
   have hrun:(Instr.lookup t (.map m) j ok).run P w=.ok (if ok then .tuple #[mget es j z,.bool (ffind j es.toList 0).isSome] else mget es j z) w:=by
    have hmget:mget es j z=match ffind j es.toList 0 with|some (_,v)=>v|none=>z:=by
     unfold mget
     cases hff:ffind j es.toList 0 with
     |none=>rw[(ffind_none hff).1]
     |some q=>
      obtain⟨q1,q2⟩:=q
      obtain⟨e,h1,h2,_⟩:=ffind_some hff
      rw[h1];exact h2
    rw[hmget]
    unfold Instr.lookup
    cases m with
    |none=>
     obtain⟨rfl,rfl⟩:=hm
     simp only[Sem.run_bind,run_underlying hut,Result.andThen_ok,Sem.run_pure,run_checkKeyA hkey,hfk]
     cases hff:ffind j (#[]:Array MapEntry).toList 0 with
     |none=>simp only[Sem.run_bind,hzr,Result.andThen_ok,Sem.run_pure];rfl
     |some q=>simp only[Sem.run_pure,Result.andThen_ok];rfl
    |some b=>
     have hb:=H.hh b _ hm
     simp only[Sem.run_bind,run_underlying hut,Result.andThen_ok,Sem.run_pure,run_getMap hb,run_checkKeyA hkey,hfk]
     cases hff:ffind j es.toList 0 with
     |none=>simp only[Sem.run_bind,hzr,Result.andThen_ok,Sem.run_pure];rfl
     |some q=>simp only[Sem.run_pure,Result.andThen_ok];rfl
   rw[hrun]
   cases ok with
   |false=>
    obtain⟨x,hx,hK⟩:=exVal_spec hk
    exact Out.here H rfl (hx g) hK
   |true=>
    cases hff:ffind j es.toList 0 with
    |none=>
     have hno:¬ mhas es j:=by
      rintro⟨e,he,hke⟩
      have:=(ffind_none hff).1
      rw[List.find?_eq_none] at this
      exact this e he hke
     have hK:=hk.2 hno
     have hmg:mget es j z=z:=by unfold mget;rw[(ffind_none hff).1]
     rw[hmg]
     exact Out.here H (x:=.v _) rfl rfl hK
    |some q=>
     obtain⟨q1,q2⟩:=q
     obtain⟨e,h1,h2,_,_,_,h6⟩:=ffind_some hff
     obtain⟨vs,hvs,hK⟩:=exAll_spec (hk.1 ⟨e,List.mem_of_find?_eq_some h1,h6⟩)
     rw[hvs]
     exact Out.here H (x:=.v _) rfl rfl hK
  |_=>exact False.elim hk
 |_=>exact False.elim hk
theorem set_out(H:HO fr g L h w){b:Nat}{es:Array MapEntry}{c:Nat}{o:Obj}(hb:h b=some (.map es c)):HO fr g L (h.new b o) { w with heap:=w.heap.setIfInBounds b o }/\Wr w { w with heap:=w.heap.setIfInBounds b o }:=by
 have hl:Laid w { w with heap:=w.heap.setIfInBounds b o } b o:=laid_set (H.lt_h hb)
 exact⟨H.upd (by rw[hb];simp) hl,hl.wr⟩
theorem mapUpdate_ok(H:HO fr g L h w){t:Nat}{x i v:AV}{y j u:Value}(hk:dMapUpdate P t x i v L h K)(hx:x.is g y)(hi:i.is g j)(hv:v.is g u) :
  ∃ L' h' w',(Instr.mapUpdate t y j u).run P w=.ok () w'/\HO fr g L' h' w'/\Wr w w'/\Kp L L'/\K (.v undef) L' h':=by
 unfold dMapUpdate at hk
 cases hd:under P t<;>rw[hd] at hk<;>try exact False.elim hk
 rename_i kt et
 have hut:=under_some hd (by simp)
 cases x with
 |v xv=>
  have hy:y=xv:=hx
  subst hy
  cases y with
  |map m=>
   dsimp only at hk
   obtain⟨k,hkg,hk,hpl⟩:=AV.get_plain hk
   have hjk:j=k:=is_unique hpl hi (hkg g)
   subst hjk
   obtain⟨u',hug,hk,hpl2⟩:=AV.get_plain hk
   have huu:u=u':=is_unique hpl2 hv (hug g)
   subst huu
   obtain⟨hkey,b,es,c,rfl,hm,hk⟩:=keyV_spec hk
   obtain⟨hfk,hk⟩:=fit_find H hkey hk
   have hb:=H.hh b _ hm
   obtain⟨HO',Wr'⟩:=set_out (o:=mPut es c j u) H hm
   refine⟨L,_,_,?_,HO',Wr',Kp.refl L,hk⟩
   unfold Instr.mapUpdate
   simp only[Sem.run_bind,run_underlying hut,Result.andThen_ok,Sem.run_pure,run_getMap hb,run_checkKeyA hkey,hfk]
   unfold mPut
   cases hff:ffind j es.toList 0 with
   |none=>
    rw[(ffind_none hff).2]
    simp only[run_setMap hb]
   |some q=>
    obtain⟨q1,q2⟩:=q
    obtain⟨e,h1,h2,h3,h4,h5,h6⟩:=ffind_some hff
    rw[Nat.sub_zero] at h4 h5
    have hkt:(Instr.keyThatStays e.key j).run P w=.ok j w:=by
     unfold Instr.keyThatStays
     rw[if_pos (same_bits h6)];rfl
    have he:((es[q1]?).map (·.key)).getD j=e.key:=by
     rw[<- Array.getElem?_toList,h5];rfl
    rw[h4]
    simp only[he,Sem.run_bind,hkt,Result.andThen_ok,run_setMap hb]
  |_=>exact False.elim hk
 |_=>exact False.elim hk
theorem setM_out(H:HO fr g L h w){m:Option Nat}{es es':Array MapEntry}{c:Nat}(hm:h.mp m es c):∃ w',(match m with|none=>(pure ():Sem Unit)|some b=>setObj b (.map es' c):Sem Unit).run P w=.ok () w'/\HO fr g L (h.setM m (.map es' c)) w'/\Wr w w':=by
 cases m with
 |none=>exact⟨w,rfl,H,Wr.refl w⟩
 |some b=>
  obtain⟨h1,h2⟩:=set_out (o:=.map es' c) H hm
  exact⟨_,run_setMap (H.hh b _ hm),h1,h2⟩
theorem delete_ok(H:HO fr g L h w){t ty:Nat}{ts:List Nat}{x i:AV}{y j:Value}(hk:dDelete P t x i L h K)(hx:x.is g y)(hi:i.is g j):Out fr g L w ((Builtin.delete_ (t::ts).toArray ty #[y,j]).run P w) K:=by
 unfold dDelete at hk
 cases hd:under P t<;>rw[hd] at hk<;>try exact False.elim hk
 rename_i kt et
 have hut:=under_some hd (by simp)
 cases x with
 |v xv=>
  have hy:y=xv:=hx
  subst hy
  cases y with
  |map m=>
   dsimp only at hk
   obtain⟨k,hkg,hk,hpl⟩:=AV.get_plain hk
   have hjk:j=k:=is_unique hpl hi (hkg g)
   subst hjk
   obtain⟨hkey,es,c,hm,hk⟩:=keyV_spec hk
   obtain⟨hfk,hk⟩:=fit_find H hkey hk
   obtain⟨w',hr,H',hw⟩:=setM_out (P:=P) (es':=mDel es j) H hm
   refine⟨.v _,L,_,_,w',?_,rfl,H',hw,Kp.refl L,hk⟩
   unfold Builtin.delete_
   cases m with
   |none=>
    simp only[Sem.run_pure,Result.ok.injEq,true_and] at hr
    subst hr
    simp[run_underlying hut,run_checkKeyA hkey,Sem.run_bind]
   |some b=>
    have hb:=H.hh b _ hm
    simp only[List.getElem?_toArray,List.getElem?_cons_zero,List.getElem?_cons_succ,Sem.run_bind,run_underlying hut,Result.andThen_ok,Sem.run_pure,run_getMap hb,run_checkKeyA hkey,hfk]
    have hr:(setObj b (.map (mDel es j) c)).run P w=.ok () w':=hr
    cases hff:ffind j es.toList 0 with
    |none=>
     have e:mDel es j=es:=by unfold mDel;rw[(ffind_none hff).2]
     rw[e] at hr
     simp only[Sem.run_bind,hr,Result.andThen_ok,Sem.run_pure]
    |some q=>
     obtain⟨q1,q2⟩:=q
     obtain⟨e,h1,h2,h3,h4,h5,h6⟩:=ffind_some hff
     rw[Nat.sub_zero] at h4
     have e:mDel es j=es.eraseIdxIfInBounds q1:=by unfold mDel;rw[h4]
     rw[e] at hr
     simp only[Sem.run_bind,hr,Result.andThen_ok,Sem.run_pure]
  |_=>exact False.elim hk
 |_=>exact False.elim hk
theorem zerosV_mem{z:List Value}{n:Nat}{v:Value}(h:v∈zerosV z n):v∈z:=by
 unfold zerosV Builtin.zeroCells at h
 simp only[Array.toList_map,List.mem_map,List.size_toArray,Array.toList_range,List.mem_range] at h
 obtain⟨i,hi,rfl⟩:=h
 have hz:0<z.length:=by
  rcases Nat.eq_zero_or_pos z.length with h0|h0
  ·rw[h0] at hi;omega
  ·exact h0
 have hm:=Nat.mod_lt i hz
 simp only[getElem!_def,List.getElem?_toArray,List.getElem?_eq_getElem hm]
 exact List.getElem_mem _
theorem zerosV_len(z:List Value)(n:Nat):(zerosV z n).length=n*z.length:=by
 unfold zerosV Builtin.zeroCells
 simp
theorem clear_ok(H:HO fr g L h w){t ty:Nat}{x:AV}{y:Value}(hk:dClear P t x L h K)(hx:x.is g y):Out fr g L w ((Builtin.clear_ #[t] ty #[y]).run P w) K:=by
 unfold dClear at hk
 cases hd:under P t<;>rw[hd] at hk<;>try exact False.elim hk
 all_goals have hut:=under_some hd (by simp)
 case map kt et=>
  cases x with
  |v xv=>
   have hy:y=xv:=hx
   subst hy
   cases y with
   |map m=>
    obtain⟨es,c,hm,hk⟩:=hk
    obtain⟨w',hr,H',hw⟩:=setM_out (P:=P) (es':=#[]) H hm
    refine⟨.v _,L,_,_,w',?_,rfl,H',hw,Kp.refl L,hk⟩
    unfold Builtin.clear_
    cases m with
    |none=>
     simp only[Sem.run_pure,Result.ok.injEq,true_and] at hr
     subst hr
     simp[run_underlying hut,Sem.run_bind]
    |some b=>
     have hb:=H.hh b _ hm
     simp only[List.getElem?_toArray,List.getElem?_cons_zero,Sem.run_bind,run_underlying hut,Result.andThen_ok,Sem.run_pure,run_getMap hb,hr]
   |_=>exact False.elim hk
  |_=>exact False.elim hk
 case slice e=>
  dsimp only at hk
  cases hz:zeroOf P e<;>rw[hz] at hk<;>try exact False.elim hk
  rename_i z
  cases x with
  |v xv=>
   have hy:y=xv:=hx
   subst hy
   cases y with
   |slice a n c=>
    obtain⟨hone,hk⟩:=grd_spec hk
    have h1:∀ v∈zerosV z n,v.oneCell'=true:=λv hv=>by
     rw[List.all_eq_true] at hone
     exact hone v (zerosV_mem hv)
    obtain⟨w',hr,H',hw⟩:=layA_ok (P:=P) H (by rw[zerosV_len];exact hk.1) h1
    refine⟨.v _,L,_,_,w',?_,rfl,H',hw,Kp.refl L,hk.2⟩
    obtain⟨zv,hzr,hzc⟩:=run_zero hz w
    unfold Builtin.clear_
    simp only[List.getElem?_toArray,List.getElem?_cons_zero,Sem.run_bind,run_underlying hut,Result.andThen_ok]
    cases a with
    |none=>
     simp only[Sem.run_pure,Result.ok.injEq,true_and] at hr
     subst hr
     simp
    |some ad=>
     cases n with
     |zero=>
      have hnil:zerosV z 0=[]:=eq_nil_of_length_eq_zero (by rw[zerosV_len,Nat.zero_mul])
      rw[hnil] at hr
      have hr:(storeCells ad []).run P w=.ok () w':=hr
      have hw':(storeCells ad []).run P w=.ok () w:=by simp[storeCells]
      rw[hw'] at hr
      simp only[Result.ok.injEq,true_and] at hr
      subst hr
      simp
     |succ n=>
      simp only[Sem.run_bind,hzr,Result.andThen_ok,hzc]
      have hr:(storeCells ad (zerosV z (n+1))).run P w=.ok () w':=hr
      unfold zerosV at hr
      simp only[hr,Result.andThen_ok,Sem.run_pure]
   |_=>exact False.elim hk
  |_=>exact False.elim hk
theorem range_ok(H:HO fr g L h w){t:Nat}{x:AV}{y:Value}(hk:dRange P t x L h K)(hx:x.is g y):Out fr g L w ((Instr.range t y).run P w) K:=by
 unfold dRange at hk
 cases hd:under P t<;>rw[hd] at hk<;>try exact False.elim hk
 rename_i kt et
 have hut:=under_some hd (by simp)
 cases x with
 |v xv=>
  have hy:y=xv:=hx
  subst hy
  cases y with
  |map m=>
   obtain⟨es,c,hm,hk⟩:=hk
   have hn:=New.push w (.mapIter m c #[] c) w.drawn
   refine⟨.p w.heap.size 0,L,_,.pointer (some ⟨w.heap.size,0,none⟩),_,?_,rfl,HO.new_heap H hn,hn.wr,Kp.refl L,hk _ (H.none_h (Nat.le_refl _))⟩
   unfold Instr.range
   cases m with
   |none=>
    obtain⟨rfl,rfl⟩:=hm
    simp[run_underlying hut,Sem.run_bind,newObj,Sem.run]
   |some b=>
    have hb:=H.hh b _ hm
    simp[run_underlying hut,Sem.run_bind,run_getMap hb,newObj,Sem.run]
  |_=>exact False.elim hk
 |_=>exact False.elim hk
theorem iter_out(H:HO fr g L h w){b:Nat}{m:Option Nat}{s la:Nat}{sn:Array Nat}{o:Obj}(hb:h b=some (.mapIter m s sn la)){w1:World}(hw1:w1.heap=w.heap/\w1.os=w.os/\w1.tape=w.tape/\w1.output=w.output):HO fr g L (h.new b o) { w1 with heap:=w1.heap.setIfInBounds b o }/\Wr w { w1 with heap:=w1.heap.setIfInBounds b o }:=by
 have hlt:=H.lt_h hb
 have hl:Laid w { w1 with heap:=w1.heap.setIfInBounds b o } b o:=by
  obtain⟨e1,e2,e3,e4⟩:=hw1
  exact⟨by simp[e1,hlt],λk hk=>by simp[e1,Array.getElem?_setIfInBounds_ne (Ne.symm hk)],by simp[e1],e2,e3,e4⟩
 exact⟨H.upd (by rw[hb];simp) hl,hl.wr⟩
theorem choose_next{n:Nat}(hn:0<n)(w:World):∃ i w1,(choose (.mapNext n)).run P w=.ok i w1/\i<n/\w1.heap=w.heap/\w1.os=w.os/\w1.tape=w.tape/\w1.output=w.output:=by
 by_cases h1:n<=1
 ·exact⟨0,w,by simp[choose,Sem.run,Question.forced,h1],hn,rfl,rfl,rfl,rfl⟩
 ·exact⟨(w.tape w.drawn (.mapNext n)) % n,{ w with drawn:=w.drawn+1 },by simp[choose,Sem.run,Question.forced,h1,Question.cut],Nat.mod_lt _ hn,rfl,rfl,rfl,rfl⟩
theorem next_pick{es:Array MapEntry}{seen:Array Nat}{s i:Nat} :
  let left:=es.filter λe=>!seen.contains e.born
  let old:=left.filter λe=>decide (e.born<s)
  let new:=left.filter λe=>decide (e.born ≥ s)
  let cand:=(if old.isEmpty then #[none] else #[])++(old++new).map some
  0<cand.size/\(i<cand.size->(∃ e,cand[i]?=some (some e)/\e∈es.toList/\seen.contains e.born=false)\/(cand[i]?=some none/\∀ e∈es.toList,e.born<s->seen.contains e.born=true)):=by
 intro left old new cand
 have hmem:∀ e,e∈old++new->e∈es.toList/\seen.contains e.born=false:=by
  intro e he
  have hl:e∈left:=by
   rcases Array.mem_append.1 he with h1|h1
   ·exact(Array.mem_filter.1 h1).1
   ·exact(Array.mem_filter.1 h1).1
  have:=Array.mem_filter.1 hl
  exact⟨by simpa using this.1,by simpa using this.2⟩
 have hsome:∀ {l:Array (Option MapEntry)} {j:Nat},l=(old++new).map some->j<l.size->∃ e,l[j]?=some (some e)/\e∈es.toList/\seen.contains e.born=false:=by
  rintro l j rfl hj
  rw[Array.size_map] at hj
  refine⟨(old++new)[j],by rw[Array.getElem?_map,Array.getElem?_eq_getElem hj];rfl,?_⟩
  exact hmem _ (Array.getElem_mem hj)
 by_cases ho:old.isEmpty=true
 ·have hc:cand=#[none]++(old++new).map some:=by show(if old.isEmpty then #[none] else #[])++_=_;rw[if_pos ho]
  have hall:∀ e∈es.toList,e.born<s->seen.contains e.born=true:=by
   intro e he hs
   cases hcn:seen.contains e.born with
   |true=>rfl
   |false=>
    have:e∈old:=Array.mem_filter.2 ⟨Array.mem_filter.2 ⟨by simpa using he,by rw[hcn];rfl⟩,by simpa using hs⟩
    have he0:old=#[]:=by simpa using ho
    rw[he0] at this
    simp at this
  rw[hc]
  refine⟨by simp;omega,λhi=>?_⟩
  cases i with
  |zero=>exact .inr ⟨by rw[Array.getElem?_append_left (by simp)];rfl,hall⟩
  |succ i=>
   left
   obtain⟨e,h1,h2⟩:=hsome (j:=i) rfl (by simp at hi ⊢;omega)
   refine⟨e,?_,h2⟩
   rw[<- h1,Array.getElem?_append_right (by simp)]
   simp
 ·have hc:cand=(old++new).map some:=by show(if old.isEmpty then #[none] else #[])++_=_;rw[if_neg ho,Array.empty_append]
  rw[hc]
  refine⟨?_,λhi=>.inl (hsome rfl hi)⟩
  have:0<old.size:=by
   rw[Array.isEmpty_iff_size_eq_zero] at ho;omega
  simp;omega
theorem next_ok(H:HO fr g L h w){t:Nat}{x:AV}{str:Bool}{y:Value}(hk:dNext x str L h K)(hx:x.is g y):Out fr g L w ((Instr.next y str t).run P w) K:=by
 unfold dNext at hk
 cases str with
 |true=>exact False.elim hk
 |false=>
  dsimp only at hk
  obtain⟨v,hkg,hk,hpl⟩:=AV.get_plain hk
  have hyv:y=v:=is_unique hpl hx (hkg g)
  subst hyv
  cases y with
  |pointer p=>
   obtain⟨r,m,s,seen,la,es,c,rfl,hr,hm,hok,hall,hend⟩:=hk
   have hir:=H.hh r _ hr
   unfold Instr.next
   cases m with
   |none=>
    obtain⟨rfl,rfl⟩:=hm
    have hK:=hend λe he=>by simp at he
    refine Out.here H (x:=.v _) ?_ rfl hK
    simp[Sem.run_bind,run_getIter hir]
   |some b=>
    have hb:=H.hh b _ hm
    simp only[Sem.run_bind,run_getIter hir,Result.andThen_ok,run_getMap hb]
    have hno:(!seen.isEmpty && !es.isEmpty && es.all (λe=>decide (e.born ≥ la)))=false:=by
     unfold nextOk at hok
     cases hb0:(!seen.isEmpty && !es.isEmpty && es.all (λe=>decide (e.born ≥ la))) with
     |false=>rfl
     |true=>rw[hb0] at hok;cases hok
    have hpick:=λi=>@next_pick es seen s i
    dsimp only at hpick
    have hpos:=(hpick 0).1
    obtain⟨i,w1,hch,hi,e1,e2,e3,e4⟩:=choose_next (P:=P) hpos w
    rw[hno]
    simp only[Bool.false_eq_true,if_false,Sem.run_bind,Sem.run_pure,Result.andThen_ok,hch]
    rcases (hpick i).2 hi with⟨e,h1,h2,h3⟩|⟨h1,h2⟩
    ·rw[h1]
     obtain⟨H',hw⟩:=iter_out (o:=.mapIter (some b) s (seen.push e.born) c) H hr ⟨e1,e2,e3,e4⟩
     have hir1:w1.heap[r]?=some (.mapIter (some b) s seen la):=by rw[e1];exact hir
     refine⟨.v _,L,_,_,_,?_,rfl,H',hw,Kp.refl L,hall e h2 h3⟩
     simp only[Sem.run_bind,run_setIter hir1,Result.andThen_ok,Sem.run_pure]
    ·rw[h1]
     have hH:HO fr g L h w1:=⟨λb o hb=>by rw[e1];exact H.hh b o hb,λb o hb=>by rw[e1];exact H.ff b o hb,H.dj,λe he=>by
      obtain⟨cs,q⟩:=H.ll e he
      exact⟨cs,⟨by rw[e1];exact q.at_,q.sz,q.is_,q.pl,q.nh,q.nf⟩⟩,H.uq⟩
     exact⟨.v _,L,h,_,w1,rfl,rfl,hH,⟨e2,e3,e4,by rw[e1];exact Nat.le_refl _⟩,Kp.refl L,hend h2⟩
  |_=>exact False.elim hk
theorem entry_ok(H:HO fr g L h w){d:Option Nat}{x:AV}{y:Value}(hk:dEntry P lo d x L h K)(hx:x.is g y):Out fr g L w ((Instr.entry y).run P w) K:=by
 unfold dEntry at hk
 cases hh:hintOf d lo with
 |none=>rw[hh] at hk;exact False.elim hk
 |some q=>
  obtain⟨kt,et⟩:=q
  rw[hh] at hk
  dsimp only at hk
  obtain⟨v,hkg,hk,hpl⟩:=AV.get_plain hk
  have hyv:y=v:=is_unique hpl hx (hkg g)
  subst hyv
  cases y with
  |pointer p=>
   obtain⟨r,b,s,seen,es,c,st,e,rfl,hr,hbk,hm,hfd,hk⟩:=hk
   obtain⟨vs,hvs,hK⟩:=exTup_spec hk
   subst hvs
   refine Out.here H (x:=.v _) ?_ rfl hK
   have hir:=H.hh r _ hr
   have hb:=H.hh b _ hm
   unfold Instr.entry
   simp only[Sem.run_bind,run_getIter hir,Result.andThen_ok,hbk,run_getMap hb,bne_self_eq_false,Bool.false_eq_true,if_false,Sem.run_pure,hfd]
  |_=>exact False.elim hk
end
end Go.Eng
end
section
namespace Go.Eng
structure Tr(W:List Nat)(g:Nat->Nat)(L:List LE)(a:Act)(w:World)(g':Nat->Nat)(L':List LE)(a':Act)(w':World):Prop where
 wr:Wr w w'
 kp:Kp L L'
 gg:∀ l,memN l W=false->g' l=g l
 un:∀ i,memN i W=false->a'.tmps.getD i undef=a.tmps.getD i undef
 sz:a'.tmps.size=a.tmps.size
theorem Tr.refl(W:List Nat)(g:Nat->Nat)(L:List LE)(a:Act)(w:World):Tr W g L a w g L a w:=⟨Wr.refl w,Kp.refl L,λ_ _=>rfl,λ_ _=>rfl,rfl⟩
theorem Tr.trans{W:List Nat}{g g1 g2:Nat->Nat}{L L1 L2:List LE}{a a1 a2:Act}{w w1 w2:World}(h:Tr W g L a w g1 L1 a1 w1)(k:Tr W g1 L1 a1 w1 g2 L2 a2 w2):Tr W g L a w g2 L2 a2 w2:=
 ⟨h.wr.trans k.wr,h.kp.trans k.kp,λl hl=>(k.gg l hl).trans (h.gg l hl),λi hi=>(k.un i hi).trans (h.un i hi),k.sz.trans h.sz⟩
theorem Tr.mono{W W':List Nat}{g g1:Nat->Nat}{L L1:List LE}{a a1:Act}{w w1:World}(h:Tr W g L a w g1 L1 a1 w1)(hW:∀ i,memN i W'=false->memN i W=false):Tr W' g L a w g1 L1 a1 w1:=
 ⟨h.wr,h.kp,λl hl=>h.gg l (hW l hl),λi hi=>h.un i (hW i hi),h.sz⟩
def Rel(W:List Nat)(fr:Hp)(g:Nat->Nat)(L:List LE)(a:Act)(w:World)(K:KS):Act->World->Prop:=λa' w'=>
 ∃ g' A' L' h',FO g' A' a'/\HO fr g' L' h' w'/\Tr W g L a w g' L' a' w'/\K A' L' h'
def dW(d:Option Nat):List Nat:=match d with|some d=>[d]|none=>[]
theorem put_size(a:Act)(d:Option Nat)(v:Value):(a.put d v).tmps.size=a.tmps.size:=by
 cases d with
 |none=>rfl
 |some d=>show(a.tmps.setIfInBounds d v).size=_;simp
theorem put_un(a:Act)(d:Option Nat)(v:Value)(i:Nat)(hi:memN i (dW d)=false):(a.put d v).tmps.getD i undef=a.tmps.getD i undef:=by
 cases d with
 |none=>rfl
 |some d=>
  have hne:d≠i:=λe=>by subst e;simp[dW,memN] at hi
  show(a.tmps.setIfInBounds d v).getD i undef=_
  simp[Array.getElem?_setIfInBounds_ne hne]
section
variable{P:Program}{lo:List Nat}{G:List (Nat×(List Value->PT))}{V:Value->List Value->PT}{fr:Hp}{g:Nat->Nat}{A:Env}{L:List LE}{h:Hp}{w:World}{a:Act}{o:Oper}{K1:KS}{Q:Exit->Act->World->Prop}
theorem put_rel(F:FO g A a){x:AV}{v:Value}{L':List LE}{h':Hp}{w':World}(hx:x.is g v)(H':HO fr g L' h' w')(hw:Wr w w')(hkp:Kp L L')(hk:K1 (putD A o.dst x) L' h') :
  Rel (dW o.dst) fr g L a w K1 (a.put o.dst v) w':=
 ⟨g,_,L',h',F.put o.dst hx,H',⟨hw,hkp,λ_ _=>rfl,λi hi=>put_un a o.dst v i hi,put_size a o.dst v⟩,hk⟩
theorem killA_no(hm:makes o.op=false):killA lo o.dst o.op A=A:=by unfold killA;rw[hm]
theorem fin_out(F:FO g A a)(hm:makes o.op=false){s:Sem Value}(hrun:(execOp a.eval o).run P w=(s.run P w).andThen λv w'=>.ok (.value v) w')
  (hout:Out fr g L w (s.run P w) λx L' h'=>K1 (putD (killA lo o.dst o.op A) o.dst x) L' h'):o.wp P a w (Rel (dW o.dst) fr g L a w K1) Q:=by
 obtain⟨x,L',h',v,w',hr,hx,H',hw,hkp,hk⟩:=hout
 unfold Oper.wp
 rw[hrun,hr]
 rw[killA_no hm] at hk
 exact put_rel F hx H' hw hkp hk
theorem fin_outN(F:FO g A a)(hm:makes o.op=true){s:Sem Value}(hrun:(execOp a.eval o).run P w=(s.run P w).andThen λv w'=>.ok (.value v) w')
  (hout:OutN lo fr g L w o.dst (s.run P w) λx L' h'=>K1 (putD (killA lo o.dst o.op A) o.dst x) L' h'):o.wp P a w (Rel (dW o.dst) fr g L a w K1) Q:=by
 obtain⟨x,L',h',v,w',g',hr,hx,H',hw,hkp,hk,hg⟩:=hout
 unfold Oper.wp
 rw[hrun,hr]
 show Rel (dW o.dst) fr g L a w K1 (a.put o.dst v) w'
 rcases hg with⟨rfl,hno⟩|⟨l,b,hd,hl,rfl⟩
 ·have hA:killA lo o.dst o.op A=A:=by
   unfold killA;rw[hm]
   cases hd:o.dst with
   |none=>rfl
   |some d=>dsimp only;rw[hno d hd]
  rw[hA] at hk
  exact put_rel F hx H' hw hkp hk
 ·have hA:killA lo o.dst o.op A=killE [l] A:=by
   unfold killA;rw[hm,hd];dsimp only;rw[hl]
  rw[hA] at hk
  refine⟨updG g l b,_,L',h',(F.killA l b).put o.dst hx,H',⟨hw,hkp,λl' hl'=>?_,λi hi=>put_un a o.dst v i hi,put_size a o.dst v⟩,hk⟩
  have:l'≠l:=λe=>by subst e;rw[hd] at hl';simp[dW,memN] at hl'
  simp[updG,this]
theorem mapEv_step(F:FO g A a):∀ (xs:List Operand),inStep g (mapEv A xs) (xs.map a.eval)
 |[]=>⟨rfl,λi hi=>by simp[mapEv] at hi⟩
 |x::xs=>by
  obtain⟨h1,h2⟩:=mapEv_step F xs
  refine⟨by simp[mapEv,h1],λi hi=>?_⟩
  cases i with
  |zero=>exact ev_is F x
  |succ i=>exact h2 i (by simpa[mapEv] using hi)
theorem partsEv_is(F:FO g A a):∀ (xs:List (Nat×Operand)),partsIs g (partsEv A xs) (xs.map λ(i,x)=>(i,a.eval x))
 |[]=>trivial
 |(i,x)::xs=>⟨rfl,ev_is F x,partsEv_is F xs⟩
theorem optEv_is(F:FO g A a)(x:Option Operand):optIs g (optEv A x) (x.map a.eval):=by
 cases x with
 |none=>trivial
 |some x=>exact ev_is F x
theorem getAll_vals{xs:List AV}{us:List Value}{K:List Value->Prop}(hk:getAll xs K)(hs:inStep g xs us):K us:=by
 obtain⟨vs,hl,hat,hpl,hK⟩:=getAll_spec hk
 have:=lists_eq hpl hs.1 hl hs.2 (hat g)
 rw[this];exact hK
theorem run_v{s:Sem Value}:((do pure (Next.value (<- s)):Sem Next).run P w)=(s.run P w).andThen λv w'=>.ok (.value v) w':=by
 simp only[Sem.run_bind,Sem.run_pure]
theorem call_fin(F:FO g A a)(hm:makes o.op=false){f:Nat}{args:List Value}
  (hrun:(execOp a.eval o).run P w=.ok (.enter f args.toArray) w)
  (hc:Calls P f args.toArray w λe w'=>∃ v,e=.returned v/\Out fr g L w (.ok v w') λx L' h'=>K1 (putD (killA lo o.dst o.op A) o.dst x) L' h'):o.wp P a w (Rel (dW o.dst) fr g L a w K1) Q:=by
 unfold Oper.wp
 rw[hrun]
 refine hc.mono ?_
 rintro e w' ⟨v,rfl,x,L',h',v',w1,hr,hx,H',hw,hkp,hk⟩
 simp only[Result.ok.injEq] at hr
 obtain⟨rfl,rfl⟩:=hr
 rw[killA_no hm] at hk
 exact put_rel F hx H' hw hkp hk
theorem builtin_ok(hG:GOk P G)(H:HO fr g L h w)(F:FO g A a){b:Builtin}{args:Array Operand}{ts:Array Nat}(ho:o.op=.call { callee:=.builtin b,args:=args,argTypes:=ts })
  (hk:dBuiltin P b ts.toList (mapEv A args.toList) L h λx L' h'=>K1 (putD (killA lo o.dst o.op A) o.dst x) L' h'):o.wp P a w (Rel (dW o.dst) fr g L a w K1) Q:=by
 have hm:makes o.op=false:=by rw[ho];rfl
 have hst:=mapEv_step F args.toList
 have hres:∀ (s:Sem Value),(builtin b ts o.type (args.map λ| .const _=>true|_=>false) (args.map a.eval)).run P w=(s.run P w).andThen (λv w'=>.ok (.value v) w') ->
   (execOp a.eval o).run P w=(s.run P w).andThen λv w'=>.ok (.value v) w':=by
  intro s hs
  unfold execOp
  rw[ho]
  simp only[resolve,Sem.run_bind,Sem.run_pure,Result.andThen_ok,invoke]
  exact hs
 have hargs:(args.map a.eval)=(args.toList.map a.eval).toArray:=by apply Array.ext';simp
 unfold dBuiltin at hk
 cases b<;>try exact False.elim hk
 case len=>
  dsimp only at hk
  match hts:ts.toList,hxs:args.toList with
  |[t],[x]=>
   rw[hts,hxs] at hk
   refine fin_out (lo:=lo) F hm (hres (Builtin.len_ #[t] o.type #[a.eval x]) ?_) (len_ok H hk (ev_is F x))
   rw[hargs,hxs,<- Array.toArray_toList (xs:=ts),hts]
   simp only[builtin]
   exact run_v
  |[],_=>rw[hts] at hk;exact False.elim hk
  |_::_::_,_=>rw[hts] at hk;exact False.elim hk
  |[t],[]=>rw[hts,hxs] at hk;exact False.elim hk
  |[t],_::_::_=>rw[hts,hxs] at hk;exact False.elim hk
 case cap=>
  dsimp only at hk
  match hts:ts.toList,hxs:args.toList with
  |[t],[x]=>
   rw[hts,hxs] at hk
   refine fin_out (lo:=lo) F hm (hres (Builtin.cap_ #[t] o.type #[a.eval x]) ?_) (cap_ok H hk (ev_is F x))
   rw[hargs,hxs,<- Array.toArray_toList (xs:=ts),hts]
   simp only[builtin]
   exact run_v
  |[],_=>rw[hts] at hk;exact False.elim hk
  |_::_::_,_=>rw[hts] at hk;exact False.elim hk
  |[t],[]=>rw[hts,hxs] at hk;exact False.elim hk
  |[t],_::_::_=>rw[hts,hxs] at hk;exact False.elim hk
 case append=>
  dsimp only at hk
  match hts:ts.toList,hxs:args.toList with
  |[t,u],[x,y]=>
   rw[hts,hxs] at hk
   simp only[mapEv] at hk
   have hk':((∀ k,under P u≠.int k)/\hasUnder P u=true/\dAppend P t (ev A x) (ev A y) L h (λx L' h'=>K1 (putD (killA lo o.dst o.op A) o.dst x) L' h'))\/(∃ k,under P u=.int k/\hasUnder P u=true/\dAppendN P t (ev A x) (ev A y) L h (λx L' h'=>K1 (putD (killA lo o.dst o.op A) o.dst x) L' h')):=by
    cases hu:under P u<;>rw[hu] at hk<;>first
     |(have hq:=grd_spec hk;exact .inl ⟨λk e=>(by cases e),hq.1,hq.2⟩)
     |(have hq:=grd_spec hk;exact .inr ⟨_,rfl,hq.1,hq.2⟩)
   refine fin_out (lo:=lo) F hm (hres (Builtin.append_ #[t,u] o.type #[a.eval x,a.eval y]) ?_) (by
    rcases hk' with⟨hni,hhu,hk⟩|⟨k,hni,hhu,hk⟩
    ·exact append_ok H hni hhu hk (ev_is F x) (ev_is F y)
    ·exact appendN_ok H hni hhu hk (ev_is F x) (ev_is F y))
   rw[hargs,hxs,<- Array.toArray_toList (xs:=ts),hts]
   simp only[builtin]
   exact run_v
  |[],_=>rw[hts] at hk;exact False.elim hk
  |[_],_=>rw[hts] at hk;exact False.elim hk
  |_::_::_::_,_=>rw[hts] at hk;exact False.elim hk
  |[_,_],[]=>rw[hts,hxs] at hk;exact False.elim hk
  |[_,_],[_]=>rw[hts,hxs] at hk;exact False.elim hk
  |[_,_],_::_::_::_=>rw[hts,hxs] at hk;exact False.elim hk
 case copy=>
  dsimp only at hk
  match hts:ts.toList,hxs:args.toList with
  |[t,u],[x,y]=>
   rw[hts,hxs] at hk
   simp only[mapEv] at hk
   refine fin_out (lo:=lo) F hm (hres (Builtin.copy_ #[t,u] o.type #[a.eval x,a.eval y]) ?_) (copy_ok H hk (ev_is F x) (ev_is F y))
   rw[hargs,hxs,<- Array.toArray_toList (xs:=ts),hts]
   simp only[builtin]
   exact run_v
  |[],_=>rw[hts] at hk;exact False.elim hk
  |[_],_=>rw[hts] at hk;exact False.elim hk
  |_::_::_::_,_=>rw[hts] at hk;exact False.elim hk
  |[_,_],[]=>rw[hts,hxs] at hk;exact False.elim hk
  |[_,_],[_]=>rw[hts,hxs] at hk;exact False.elim hk
  |[_,_],_::_::_::_=>rw[hts,hxs] at hk;exact False.elim hk
 case clear=>
  dsimp only at hk
  match hts:ts.toList,hxs:args.toList with
  |[t],[x]=>
   rw[hts,hxs] at hk
   refine fin_out (lo:=lo) F hm (hres (Builtin.clear_ #[t] o.type #[a.eval x]) ?_) (clear_ok H hk (ev_is F x))
   rw[hargs,hxs,<- Array.toArray_toList (xs:=ts),hts]
   simp only[builtin]
   exact run_v
  |[],_=>rw[hts] at hk;exact False.elim hk
  |_::_::_,_=>rw[hts] at hk;exact False.elim hk
  |[t],[]=>rw[hts,hxs] at hk;exact False.elim hk
  |[t],_::_::_=>rw[hts,hxs] at hk;exact False.elim hk
 case delete=>
  dsimp only at hk
  match hts:ts.toList,hxs:args.toList with
  |t::ts',[x,y]=>
   rw[hts,hxs] at hk
   simp only[mapEv] at hk
   refine fin_out (lo:=lo) F hm (hres (Builtin.delete_ (t::ts').toArray o.type #[a.eval x,a.eval y]) ?_) (delete_ok H hk (ev_is F x) (ev_is F y))
   rw[hargs,hxs,<- Array.toArray_toList (xs:=ts),hts]
   simp only[builtin]
   exact run_v
  |[],_=>rw[hts] at hk;exact False.elim hk
  |_::_,[]=>rw[hts,hxs] at hk;exact False.elim hk
  |_::_,[_]=>rw[hts,hxs] at hk;exact False.elim hk
  |_::_,_::_::_::_=>rw[hts,hxs] at hk;exact False.elim hk
 case min=>
  dsimp only at hk
  match hxs:args.toList with
  |[]=>rw[hxs] at hk;exact False.elim hk
  |x::xs=>
   rw[hxs] at hk hst
   have hst':inStep g (mapEv A xs) (xs.map a.eval):=mapEv_step F xs
   refine fin_out (lo:=lo) F hm (hres (Builtin.min_ ts o.type (args.map a.eval)) ?_) ?_
   ·simp only[builtin];exact run_v
   ·have:=minmax_ok (P:=P) (mx:=false) hk (ev_is F x) hst' H
    simp only[Bool.false_eq_true,if_false] at this
    unfold Builtin.min_
    rw[hargs,hxs]
    exact this
 case max=>
  dsimp only at hk
  match hxs:args.toList with
  |[]=>rw[hxs] at hk;exact False.elim hk
  |x::xs=>
   rw[hxs] at hk hst
   have hst':inStep g (mapEv A xs) (xs.map a.eval):=mapEv_step F xs
   refine fin_out (lo:=lo) F hm (hres (Builtin.max_ ts o.type (args.map a.eval)) ?_) ?_
   ·simp only[builtin];exact run_v
   ·have:=minmax_ok (P:=P) (mx:=true) hk (ev_is F x) hst' H
    simp only[if_true] at this
    unfold Builtin.max_
    rw[hargs,hxs]
    exact this
theorem dcall_ok(hG:GOk P G)(hV:VOk P V)(H:HO fr g L h w)(F:FO g A a){f:Operand}{args:Array Operand}{ts:Array Nat}(ho:o.op=.call { callee:=.value f,args:=args,argTypes:=ts })
  (hk:dCall P G V (ev A f) (args.toList.map a.eval) o.type L h λx L' h'=>K1 (putD (killA lo o.dst o.op A) o.dst x) L' h'):o.wp P a w (Rel (dW o.dst) fr g L a w K1) Q:=by
 have hm:makes o.op=false:=by rw[ho];rfl
 have hargs:(args.map a.eval)=(args.toList.map a.eval).toArray:=by apply Array.ext';simp
 have hf:=ev_is F f
 have run:∀ (fn:Nat) (first cap:Array Value),a.eval f=.func (.func fn) first cap->Enters P fn->(execOp a.eval o).run P w=.ok (.enter fn (first.toList++(args.toList.map a.eval++cap.toList)).toArray) w:=by
  intro fn first cap he hen
  unfold execOp
  rw[ho]
  simp only[resolve,he,Deferred.ofValue,Sem.run_bind,Sem.run_pure,Result.andThen_ok,invoke]
  rw[run_callFunc hen]
  congr 2
  apply Array.ext'
  simp
 unfold dCall at hk
 cases hfa:ev A f with
 |v fv=>
  rw[hfa] at hk hf
  have hfe:a.eval f=fv:=hf
  cases fv with
  |func fn first cap=>
   cases fn with
   |func gn=>
    obtain⟨first⟩:=first
    obtain⟨cap⟩:=cap
    dsimp only at hk
    cases hl:lkG G gn with
    |none=>rw[hl] at hk;exact False.elim hk
    |some T=>
     rw[hl] at hk
     dsimp only at hk
     rcases hG gn T hl with⟨hen,hI⟩|hX
     ·exact call_fin F hm (run gn _ _ hfe hen) (impl_out H hk (hI _))
     ·obtain⟨v,hr,hv⟩:=hX _ _ _ hk w
      obtain⟨x,hx,hK⟩:=exVal_spec hv
      refine fin_out (lo:=lo) (s:=pure v) F hm ?_ (Out.here H rfl (hx g) hK)
      have hr':(callFunc gn ((⟨first⟩:Array Value)++(args.map a.eval)++(⟨cap⟩:Array Value))).run P w=.ok (.value v) w:=by
       rw[<- hr]
       congr 2
       apply Array.ext'
       simp
      unfold execOp
      rw[ho]
      simp only[resolve,hfe,Deferred.ofValue,Sem.run_bind,Sem.run_pure,Result.andThen_ok,invoke]
      exact hr'
   |_=>exact False.elim hk
  |_=>exact False.elim hk
 |f fv=>
  rw[hfa] at hk hf
  have hfe:a.eval f=fv:=hf
  obtain⟨gn,first,cap,hfv,hen,T,hI,hT⟩:=hV _ _ _ _ hk
  exact call_fin F hm (run gn _ _ (hfe.trans hfv) hen) (impl_out H hT hI)
 |_=>rw[hfa] at hk;exact False.elim hk
theorem op_ok(hG:GOk P G)(hV:VOk P V)(H:HO fr g L h w)(F:FO g A a)
  (hk:opD P lo G V o.dst o.type o.op A L h λx L' h'=>K1 (putD (killA lo o.dst o.op A) o.dst x) L' h'):o.wp P a w (Rel (dW o.dst) fr g L a w K1) Q:=by
 have exv:∀ {s:Sem Value},execOp a.eval o=(do pure (Next.value (<- s)):Sem Next)->(execOp a.eval o).run P w=(s.run P w).andThen λv w'=>.ok (.value v) w':=by
  intro s hs;rw[hs];exact run_v
 cases ho:o.op with
 |move x=>
  rw[ho] at hk
  have hm:makes o.op=false:=by rw[ho];rfl
  refine fin_out (lo:=lo) (s:=pure (a.eval x)) F hm (exv (by unfold execOp;rw[ho];rfl)) ?_
  rw[ho]
  exact Out.here H (by simp) (ev_is F x) hk
 |assign x=>
  rw[ho] at hk
  have hm:makes o.op=false:=by rw[ho];rfl
  refine fin_out (lo:=lo) (s:=pure (a.eval x)) F hm (exv (by unfold execOp;rw[ho];rfl)) ?_
  rw[ho]
  exact Out.here H (by simp) (ev_is F x) hk
 |pick c x y=>
  rw[ho] at hk
  have hm:makes o.op=false:=by rw[ho];rfl
  have hc:=ev_is F c
  unfold opD at hk
  dsimp only at hk
  cases hca:ev A c with
  |v cv=>
   rw[hca] at hk hc
   have hce:a.eval c=cv:=hc
   cases cv with
   |bool b=>
    refine fin_out (lo:=lo) (s:=pure (if b then a.eval x else a.eval y)) F hm ?_ ?_
    ·unfold execOp
     rw[ho]
     simp only[hce,asBool,Sem.run_bind,Sem.run_pure,Result.andThen_ok]
    ·rw[ho]
     cases b with
     |true=>exact Out.here H (by simp) (ev_is F x) hk
     |false=>exact Out.here H (by simp) (ev_is F y) hk
   |_=>exact False.elim hk
  |_=>rw[hca] at hk;exact False.elim hk
 |alloc t=>
  rw[ho] at hk
  exact fin_outN F (by rw[ho];rfl) (exv (s:=Instr.alloc t true (.tuple #[])) (by unfold execOp;rw[ho])) (by rw[ho];exact alloc_ok H hk)
 |box t x=>
  rw[ho] at hk
  exact fin_outN F (by rw[ho];rfl) (exv (s:=Instr.box t (a.eval x)) (by unfold execOp;rw[ho])) (by rw[ho];exact box_ok H hk (ev_is F x))
 |build t ps=>
  rw[ho] at hk
  refine fin_out (lo:=lo) F (by rw[ho];rfl) (exv (s:=Instr.build t (ps.map λ(i,x)=>(i,a.eval x))) (by unfold execOp;rw[ho])) ?_
  rw[ho]
  refine build_ok H hk ?_
  rw[Array.toList_map];exact partsEv_is F ps.toList
 |buildSlice t n ps=>
  rw[ho] at hk
  refine fin_outN (lo:=lo) F (by rw[ho];rfl) (exv (s:=Instr.buildSlice t n (ps.map λ(i,x)=>(i,a.eval x))) (by unfold execOp;rw[ho])) ?_
  rw[ho]
  refine buildSlice_ok H hk ?_
  rw[Array.toList_map];exact partsEv_is F ps.toList
 |load t x=>
  rw[ho] at hk
  exact fin_out (lo:=lo) F (by rw[ho];rfl) (exv (s:=Instr.loadAt t (a.eval x)) (by unfold execOp;rw[ho])) (by rw[ho];exact load_ok H hk (ev_is F x))
 |store t x y=>
  rw[ho] at hk
  have hm:makes o.op=false:=by rw[ho];rfl
  obtain⟨L',h',w',hr,H',hw,hkp,hk⟩:=store_ok (K:=λz L' h'=>K1 (putD (killA lo o.dst (.store t x y) A) o.dst z) L' h') H hk (ev_is F x) (ev_is F y)
  have hrun:(execOp a.eval o).run P w=.ok .skip w':=by
   unfold execOp
   rw[ho]
   simp only[Sem.run_bind,hr,Result.andThen_ok,Sem.run_pure]
  unfold Oper.wp
  rw[hrun]
  rw[<- ho,killA_no hm] at hk
  exact put_rel (x:=.v undef) F rfl H' hw hkp hk
 |nilCheck x=>
  rw[ho] at hk
  have hm:makes o.op=false:=by rw[ho];rfl
  have hx:=ev_is F x
  unfold opD dNil at hk
  dsimp only at hk
  have key:∀ v:Value,a.eval x=v->(∀ p,v=.pointer p->p≠none)->(∃ ad,v=.pointer (some ad))->(execOp a.eval o).run P w=.ok (.value v) w:=by
   rintro v he _ ⟨ad,rfl⟩
   unfold execOp
   rw[ho]
   simp[he]
  cases hxa:ev A x with
  |p b q=>
   rw[hxa] at hk hx
   have he:a.eval x=.pointer (some ⟨b,q,none⟩):=hx
   refine fin_out (lo:=lo) (s:=pure (.pointer (some ⟨b,q,none⟩))) F hm (by rw[key _ he (λp e=>by cases e;simp) ⟨_,rfl⟩];simp) ?_
   rw[ho]
   exact Out.here H (x:=.p b q) (v:=.pointer (some ⟨b,q,none⟩)) (by simp) rfl hk
  |loc l q=>
   rw[hxa] at hk hx
   have he:a.eval x=.pointer (some ⟨g l,q,none⟩):=hx
   refine fin_out (lo:=lo) (s:=pure (.pointer (some ⟨g l,q,none⟩))) F hm (by rw[key _ he (λp e=>by cases e;simp) ⟨_,rfl⟩];simp) ?_
   rw[ho]
   exact Out.here H (x:=.loc l q) (v:=.pointer (some ⟨g l,q,none⟩)) (by simp) rfl hk
  |v xv=>
   rw[hxa] at hk hx
   have he:a.eval x=xv:=hx
   cases xv with
   |pointer p=>
    obtain⟨b,q,rfl,hk⟩:=hk
    refine fin_out (lo:=lo) (s:=pure (.pointer (some ⟨b,q,none⟩))) F hm (by rw[key _ he (λp e=>by cases e;simp) ⟨_,rfl⟩];simp) ?_
    rw[ho]
    exact Out.here H (x:=.p b q) (v:=.pointer (some ⟨b,q,none⟩)) (by simp) rfl hk
   |_=>exact False.elim hk
  |_=>rw[hxa] at hk;exact False.elim hk
 |binOp op t x y yt=>
  rw[ho] at hk
  exact fin_out (lo:=lo) F (by rw[ho];rfl) (exv (s:=(do eqGuard op t x y (a.eval x) (a.eval y);binOp op t (a.eval x) (a.eval y))) (by unfold execOp;rw[ho])) (by rw[ho];exact bin_ok H hk (ev_is F x) (ev_is F y) x y)
 |unOp op t x=>
  rw[ho] at hk
  exact fin_out (lo:=lo) F (by rw[ho];rfl) (exv (s:=Op.unary op (a.eval x)) (by unfold execOp;rw[ho])) (by rw[ho];exact un_ok H hk (ev_is F x))
 |convert s t x=>
  rw[ho] at hk
  exact fin_out (lo:=lo) F (by rw[ho];rfl) (exv (s:=convert s t (a.eval x)) (by unfold execOp;rw[ho])) (by rw[ho];exact conv_ok H hk (ev_is F x))
 |makeSlice t l c=>
  rw[ho] at hk
  exact fin_out (lo:=lo) F (by rw[ho];rfl) (exv (s:=Instr.makeSlice t (a.eval l) (a.eval c)) (by unfold execOp;rw[ho])) (by rw[ho];exact make_ok H hk (ev_is F l) (ev_is F c))
 |makeMap t r=>
  rw[ho] at hk
  refine fin_out (lo:=lo) F (by rw[ho];rfl) (exv (s:=Instr.makeMap t (r.map a.eval)) (by unfold execOp;rw[ho])) ?_
  rw[ho]
  cases r with
  |none=>
   have hk:∀ b,h b=none->K1 (putD (killA lo o.dst (.makeMap t none) A) o.dst (.v (.map (some b)))) L (h.new b (.map #[] 0)):=hk
   exact⟨.v (.map (some w.heap.size)),L,_,_,{ w with heap:=w.heap.push (.map #[] 0) },by simp[Instr.makeMap,newObj,Sem.run],rfl,HO.new_heap H (New.push w (.map #[] 0) w.drawn),(New.push w (.map #[] 0) w.drawn).wr,Kp.refl L,hk _ (H.none_h (Nat.le_refl _))⟩
  |some x=>exact False.elim hk
 |lookup t x i ok=>
  rw[ho] at hk
  exact fin_out (lo:=lo) F (by rw[ho];rfl) (exv (s:=Instr.lookup t (a.eval x) (a.eval i) ok) (by unfold execOp;rw[ho])) (by rw[ho];exact lookup_ok H hk (ev_is F x) (ev_is F i))
 |mapUpdate t x i y=>
  rw[ho] at hk
  have hm:makes o.op=false:=by rw[ho];rfl
  obtain⟨L',h',w',hr,H',hw,hkp,hk⟩:=mapUpdate_ok (K:=λz L' h'=>K1 (putD (killA lo o.dst (.mapUpdate t x i y) A) o.dst z) L' h') H hk (ev_is F x) (ev_is F i) (ev_is F y)
  have hrun:(execOp a.eval o).run P w=.ok .skip w':=by
   unfold execOp
   rw[ho]
   simp only[Sem.run_bind,hr,Result.andThen_ok,Sem.run_pure]
  unfold Oper.wp
  rw[hrun]
  rw[<- ho,killA_no hm] at hk
  exact put_rel (x:=.v undef) F rfl H' hw hkp hk
 |range t x=>
  rw[ho] at hk
  exact fin_out (lo:=lo) F (by rw[ho];rfl) (exv (s:=Instr.range t (a.eval x)) (by unfold execOp;rw[ho])) (by rw[ho];exact range_ok H hk (ev_is F x))
 |next x str=>
  rw[ho] at hk
  exact fin_out (lo:=lo) F (by rw[ho];rfl) (exv (s:=Instr.next (a.eval x) str o.type) (by unfold execOp;rw[ho])) (by rw[ho];exact next_ok H hk (ev_is F x))
 |entry x=>
  rw[ho] at hk
  exact fin_out (lo:=lo) F (by rw[ho];rfl) (exv (s:=Instr.entry (a.eval x)) (by unfold execOp;rw[ho])) (by rw[ho];exact entry_ok H hk (ev_is F x))
 |slice t x l u m=>
  rw[ho] at hk
  exact fin_out (lo:=lo) F (by rw[ho];rfl) (exv (s:=Instr.sliceAt t (a.eval x) (l.map a.eval) (u.map a.eval) (m.map a.eval)) (by unfold execOp;rw[ho])) (by rw[ho];exact slice_ok H hk (ev_is F x) (optEv_is F l) (optEv_is F u) (optEv_is F m))
 |fieldAddr s x f=>
  rw[ho] at hk
  exact fin_out (lo:=lo) F (by rw[ho];rfl) (exv (s:=Instr.fieldAt s (a.eval x) f) (by unfold execOp;rw[ho])) (by rw[ho];exact field_ok H hk (ev_is F x))
 |indexAddr t x i=>
  rw[ho] at hk
  exact fin_out (lo:=lo) F (by rw[ho];rfl) (exv (s:=Instr.indexAt t (a.eval x) (a.eval i)) (by unfold execOp;rw[ho])) (by rw[ho];exact indexA_ok H hk (ev_is F x) (ev_is F i))
 |index t x i=>
  rw[ho] at hk
  exact fin_out (lo:=lo) F (by rw[ho];rfl) (exv (s:=Instr.index t (a.eval x) (a.eval i)) (by unfold execOp;rw[ho])) (by rw[ho];exact index_ok H hk (ev_is F x) (ev_is F i))
 |extract x i=>
  rw[ho] at hk
  exact fin_out (lo:=lo) F (by rw[ho];rfl) (exv (s:=Instr.extract (a.eval x) i) (by unfold execOp;rw[ho])) (by rw[ho];exact extract_ok H hk (ev_is F x))
 |makeFunc fn first cap=>
  rw[ho] at hk
  have hk:=getAll_vals (getAll_vals hk (mapEv_step F first.toList)) (mapEv_step F cap.toList)
  refine fin_out (lo:=lo) (s:=Instr.makeFunc fn (first.map a.eval) (cap.map a.eval)) F (by rw[ho];rfl) (exv (by unfold execOp;rw[ho])) ?_
  rw[ho]
  refine Out.here H (x:=.v _) ?_ rfl hk
  simp only[Instr.makeFunc,Sem.run_pure]
  congr 2
  ·apply Array.ext';simp
  ·apply Array.ext';simp
 |call c=>
  rw[ho] at hk
  obtain⟨callee,args,ts⟩:=c
  cases callee with
  |builtin b=>exact builtin_ok hG H F ho (by rw[ho];exact hk)
  |value f=>exact dcall_ok hG hV H F ho (by rw[ho];exact getAll_vals hk (mapEv_step F args.toList))
  |invoke r m=>exact False.elim hk
 |_=>rw[ho] at hk;exact False.elim hk
end
end Go.Eng
end
section
namespace Go.Eng
section
variable{P:Program}{lo:List Nat}{G:List (Nat×(List Value->PT))}{V:Value->List Value->PT}{fr:Hp}{g:Nat->Nat}{A:Env}{L:List LE}{h:Hp}{w:World}{a:Act}{Q:Exit->Act->World->Prop}
theorem memN_append{i:Nat}{l k:List Nat}:memN i (l++k)=(memN i l || memN i k):=by
 induction l with
 |nil=>rfl
 |cons j l ih=>simp[memN,ih,Bool.or_assoc]
theorem Rel.mono{W:List Nat}{K K':KS}(hk:∀ A L h,K A L h->K' A L h){a':Act}{w':World}(hr:Rel W fr g L a w K a' w'):Rel W fr g L a w K' a' w':=
 let ⟨g',A',L',h',F,H,T,k⟩:=hr;⟨g',A',L',h',F,H,T,hk _ _ _ k⟩
def boolOf:Value->Option Bool
 |.bool b=>some b
 |_=>none
theorem yielded_eq{ops:Array Oper}{j d:Nat}(hd:dstOf ops.toList j=some d){v:Value}(hv:a.tmps.getD d undef=v):yielded ops a.tmps j=boolOf v:=by
 unfold dstOf at hd
 have ho:(ops[j]?).bind (·.dst)=some d:=by
  rw[<- Array.getElem?_toList]
  cases hj:ops.toList[j]? with
  |none=>rw[hj] at hd;cases hd
  |some o=>rw[hj] at hd;exact hd
 unfold yielded
 rw[ho]
 simp only[Option.bind_some]
 cases ht:a.tmps[d]? with
 |none=>
  have:v=undef:=by rw[<- hv];simp[ht]
  rw[this];rfl
 |some x=>
  have:v=x:=by rw[<- hv];simp[ht]
  rw[this]
  cases x<;>rfl
theorem step_ok(hG:GOk P G)(hV:VOk P V)(H:HO fr g L h w)(F:FO g A a){ops:Array Oper}{o:Oper}{K:KS}(hk:stepD P lo G V ops.toList o A L h K) :
  if Region.wanted o (yielded ops a.tmps) then o.wp P a w (Rel (dW o.dst) fr g L a w K) Q else Rel (dW o.dst) fr g L a w K (a.put o.dst undef) w:=by
 have skip:K (putD A o.dst (.v undef)) L h->Rel (dW o.dst) fr g L a w K (a.put o.dst undef) w:=λhk=>put_rel (x:=.v undef) F rfl H (Wr.refl w) (Kp.refl L) hk
 unfold stepD at hk
 cases hg:o.guard with
 |none=>
  rw[hg] at hk
  have hw:Region.wanted o (yielded ops a.tmps)=true:=by simp[Region.wanted,hg]
  rw[if_pos hw]
  exact op_ok hG hV H F hk
 |some gw=>
  obtain⟨j,want⟩:=gw
  rw[hg] at hk
  dsimp only at hk
  cases hd:dstOf ops.toList j with
  |none=>rw[hd] at hk;exact False.elim hk
  |some d=>
   rw[hd] at hk
   dsimp only at hk
   have hat:=F.at_ d
   have hwanted:∀ r:Option Bool,yielded ops a.tmps j=r->Region.wanted o (yielded ops a.tmps)=(r == some want):=by
    intro r hr;simp[Region.wanted,hg,hr]
   cases hA:getE A d with
   |v x=>
    rw[hA] at hk hat
    have hy:=yielded_eq hd hat
    cases x with
    |bool b=>
     simp only[boolOf] at hy
     have hw:=hwanted _ hy
     cases b<;>cases want<;>simp only at hk hw
     ·rw[if_pos (by rw[hw];rfl)];exact op_ok hG hV H F hk
     ·rw[if_neg (by rw[hw];decide)];exact skip hk
     ·rw[if_neg (by rw[hw];decide)];exact skip hk
     ·rw[if_pos (by rw[hw];rfl)];exact op_ok hG hV H F hk
    |tuple vs=>
     have hw:=hwanted _ hy
     rw[if_neg (by rw[hw];simp[boolOf])]
     exact skip hk
    |_=>exact False.elim hk
   |_=>rw[hA] at hk;exact False.elim hk
theorem dW_sub{o:Oper}{l:List Oper}(ho:o∈l):∀ i,memN i (opWrites l)=false->memN i (dW o.dst)=false:=by
 induction l with
 |nil=>cases ho
 |cons x l ih=>
  intro i hi
  have step:(∀ d,x.dst=some d->i≠d)/\memN i (opWrites l)=false:=by
   unfold opWrites at hi
   cases hx:x.dst with
   |none=>rw[hx] at hi;exact⟨λd h=>(by cases h),hi⟩
   |some d=>
    rw[hx] at hi
    simp only[memN,Bool.or_eq_false_iff,beq_eq_false_iff_ne] at hi
    exact⟨λd' h=>(by cases h;exact hi.1),hi.2⟩
  rcases mem_cons.1 ho with rfl|ho
  ·unfold dW
   cases hx:o.dst with
   |none=>rfl
   |some d=>simp[memN,step.1 d hx]
  ·exact ih ho i step.2
theorem ops_ok(hG:GOk P G)(hV:VOk P V){ops:Array Oper}{K:KS}{K0:Act->World->Prop}(hQ:∀ a w,K0 a w->Q .normal a w):∀ (l:List Oper) (W:List Nat),(∀ i,memN i W=false->memN i (opWrites l)=false)->∀ (g:Nat->Nat) (A:Env) (L:List LE) (h:Hp) (a:Act) (w:World),HO fr g L h w->FO g A a ->
  denOps P lo G V ops.toList l A L h K->(∀ a' w',Rel W fr g L a w K a' w'->K0 a' w')->wpList P ops Q l a w
 |[],W,_,g,A,L,h,a,w,H,F,hk,hK0=>hQ _ _ (hK0 _ _ ⟨g,A,L,h,F,H,Tr.refl _ _ _ _ _,hk⟩)
 |o::l,W,hW,g,A,L,h,a,w,H,F,hk,hK0=>by
  have hs:=step_ok (Q:=Q) hG hV H F hk
  have next:∀ a' w',Rel (dW o.dst) fr g L a w (λA' L' h'=>denOps P lo G V ops.toList l A' L' h' K) a' w'->wpList P ops Q l a' w':=by
   rintro a' w' ⟨g',A',L',h',F',H',T,hk'⟩
   have hWo:∀ i,memN i W=false->memN i (dW o.dst)=false:=λi hi=>dW_sub (l:=o::l) mem_cons_self i (hW i hi)
   refine ops_ok hG hV hQ l W (λi hi=>?_) g' A' L' h' a' w' H' F' hk' (λa'' w'' hr=>hK0 _ _ ?_)
   ·have:=hW i hi
    unfold opWrites at this
    cases ho:o.dst with
    |none=>rw[ho] at this;exact this
    |some d=>rw[ho] at this;simp only[memN,Bool.or_eq_false_iff] at this;exact this.2
   ·obtain⟨g2,A2,L2,h2,F2,H2,T2,k2⟩:=hr
    exact⟨g2,A2,L2,h2,F2,H2,(T.mono hWo).trans T2,k2⟩
  refine wpList_step λK' hK'=>?_
  split
  ·rename_i hw
   rw[if_pos hw] at hs
   exact Oper.wp_mono' (λa' w' hr=>hK' _ _ (next a' w' hr)) hs
  ·rename_i hw
   rw[if_neg hw] at hs
   exact hK' _ _ (next _ _ hs)
where Oper.wp_mono' {o:Oper} {a:Act} {w:World} {K K':Act->World->Prop} (h:∀ a w,K a w->K' a w) (hh:o.wp P a w K Q):o.wp P a w K' Q:=Oper.wp_mono h hh
end
end Go.Eng
end
section
namespace Go.Eng
section
variable{P:Program}
def Dead{α:Type}(P:Program)(s:Sem α):Prop:=∀ w v w',s.run P w≠.ok v w'
def Flat{α:Type}(P:Program)(s:Sem α):Prop:=(∃ v,∀ w,s.run P w=.ok v w)\/Dead P s
theorem Flat.pure{α:Type}(a:α):Flat P (pure a:Sem α):=.inl ⟨a,λw=>rfl⟩
theorem Dead.halt{α:Type}(x:Halt):Dead P (Sem.halt x:Sem α):=λw v w' e=>by simp at e
theorem Flat.halt{α:Type}(x:Halt):Flat P (Sem.halt x:Sem α):=.inr (Dead.halt x)
theorem Dead.bind{α β:Type}{s:Sem α}{f:α->Sem β}(hf:∀ a,Dead P (f a)):Dead P (s >>= f):=by
 intro w v w' e
 simp only[Sem.run_bind] at e
 cases hr:s.run P w with
 |ok a w1=>rw[hr] at e;exact hf a _ _ _ e
 |halt x w1=>rw[hr] at e;simp at e
theorem Flat.bind{α β:Type}{s:Sem α}{f:α->Sem β}(hs:Flat P s)(hf:∀ a,Flat P (f a)):Flat P (s >>= f):=by
 rcases hs with⟨v,hv⟩|hh
 ·rcases hf v with⟨u,hu⟩|hh
  ·exact .inl ⟨u,λw=>by simp only[Sem.run_bind,hv,Result.andThen_ok,hu]⟩
  ·refine .inr λw v' w' e=>?_
   simp only[Sem.run_bind,hv,Result.andThen_ok] at e
   exact hh _ _ _ e
 ·refine .inr λw v' w' e=>?_
  simp only[Sem.run_bind] at e
  cases hr:s.run P w with
  |ok a w1=>exact hh _ _ _ hr
  |halt x w1=>rw[hr] at e;simp at e
theorem Flat.program:Flat P program:=.inl ⟨P,λw=>by simp only[run_program]⟩
theorem Flat.stuck{α:Type}(x:String):Flat P (stuck x:Sem α):=Flat.halt _
theorem Flat.unsupported{α:Type}(x:Unsupported):Flat P (unsupported x:Sem α):=Flat.halt _
theorem Flat.underlying(t:TypeId):Flat P (underlying t):=by
 unfold Go.underlying
 refine Flat.bind Flat.program λp=>?_
 split
 ·exact Flat.pure _
 ·exact Flat.stuck _
theorem Flat.typeInfo(t:TypeId):Flat P (typeInfo t):=by
 unfold Go.typeInfo
 refine Flat.bind Flat.program λp=>?_
 split
 ·exact Flat.pure _
 ·exact Flat.stuck _
theorem Flat.sizeOf(t:TypeId):Flat P (sizeOf t):=by
 unfold Go.sizeOf
 exact Flat.bind (Flat.typeInfo t) λ_=>Flat.pure _
theorem Dead.runtimePanic{α:Type}(e:RuntimeError):Dead P (runtimePanic e:Sem α):=by
 unfold Go.runtimePanic
 refine Dead.bind λp=>?_
 cases e<;>first
  |exact Dead.halt _
  |exact Dead.bind λ_=>Dead.bind λ_=>Dead.halt _
theorem Flat.runtimePanic{α:Type}(e:RuntimeError):Flat P (runtimePanic e:Sem α):=.inr (Dead.runtimePanic e)
theorem Flat.boundsPanic{α:Type}(k:IntKind)(x y:Int)(c:BoundsCode):Flat P (boundsPanic k x y c:Sem α):=by
 refine .inr ?_
 unfold Go.boundsPanic
 repeat' first
  |exact Dead.runtimePanic _
  |refine Dead.bind λ_=>?_
  |split
theorem Flat.asIntOf(v:Value):Flat P (asIntOf v):=by
 unfold Go.asIntOf
 split<;>first|exact Flat.pure _|exact Flat.unsupported _|exact Flat.stuck _
theorem Flat.asBool(v:Value):Flat P (asBool v):=by
 unfold Go.asBool
 split<;>first|exact Flat.pure _|exact Flat.stuck _
theorem Flat.sureAddr(v:Value):Flat P (Instr.sureAddr v):=by
 unfold Instr.sureAddr
 split<;>first|exact Flat.pure _|exact Flat.stuck _
theorem Flat.asAddr(v:Value):Flat P (asAddr v):=by
 unfold Go.asAddr
 split<;>first|exact Flat.pure _|exact Flat.stuck _|exact Flat.runtimePanic _
theorem Flat.indexAt(t:TypeId)(x i:Value):Flat P (Instr.indexAt t x i):=by
 unfold Instr.indexAt
 repeat' first
  |exact Flat.pure _
  |exact Flat.stuck _
  |exact Flat.unsupported _
  |exact Flat.boundsPanic _ _ _ _
  |exact Flat.sizeOf _
  |exact Flat.underlying _
  |exact Flat.asIntOf _
  |exact Flat.sureAddr _
  |refine Flat.bind ?_ λ_=>?_
  |split
  |(dsimp only;split)
def idxS(q:IntKind×Int)(x:Value):Sem Value:=
 match x with
 |.string s=>match (if 0<=q.2 then s[q.2.toNat]? else none) with
  |some b=>pure (.int .u8 b.toNat)
  |none=>Go.boundsPanic q.1 q.2 s.size .index
 | _ => Go.stuck "Index: array or string expected"
theorem Flat.congr{α:Type}{s s':Sem α}(e:∀ w,s.run P w=s'.run P w)(h:Flat P s'):Flat P s:=by
 rcases h with⟨v,hv⟩|hd
 ·exact .inl ⟨v,λw=>(e w).trans (hv w)⟩
 ·exact .inr λw v w' hw=>hd w v w' ((e w).symm.trans hw)
theorem Flat.indexS{t:TypeId}(ht:strT P t=true)(x i:Value):Flat P (Instr.index t x i):=by
 have hu:P.underlying t=some .string:=by
  unfold strT at ht
  cases hd:under P t<;>rw[hd] at ht<;>first|exact under_some hd (by simp)|cases ht
 unfold Instr.index
 refine Flat.bind (Flat.asIntOf _) λq=>?_
 refine Flat.congr (s':=idxS q x) (λw=>?_) ?_
 ·obtain⟨k,j⟩:=q
  simp only[Sem.run_bind,run_underlying hu,Result.andThen_ok]
  cases x<;>rfl
 ·unfold idxS
  repeat' first
   |exact Flat.pure _
   |exact Flat.stuck _
   |exact Flat.boundsPanic _ _ _ _
   |split
theorem Flat.sliceBound(x:Value)(y:Nat)(c:BoundsCode):Flat P (Instr.sliceBound x y c):=by
 unfold Instr.sliceBound
 repeat' first
  |exact Flat.pure _
  |exact Flat.boundsPanic _ _ _ _
  |exact Flat.asIntOf _
  |refine Flat.bind ?_ λ_=>?_
  |split
  |(dsimp only;split)
theorem Flat.sliceBounds(b:Bool)(n c:Nat)(x y z:Option Value):Flat P (Instr.sliceBounds b n c x y z):=by
 unfold Instr.sliceBounds
 repeat' first
  |exact Flat.pure _
  |exact Flat.stuck _
  |exact Flat.sliceBound _ _ _
  |refine Flat.bind ?_ λ_=>?_
  |split
  |(dsimp only;split)
theorem Flat.sliceAt(t:TypeId)(x:Value)(l u m:Option Value):Flat P (Instr.sliceAt t x l u m):=by
 unfold Instr.sliceAt Instr.slice
 repeat' first
  |exact Flat.pure _
  |exact Flat.stuck _
  |exact Flat.sizeOf _
  |exact Flat.underlying _
  |exact Flat.sureAddr _
  |exact Flat.asAddr _
  |exact Flat.sliceBounds _ _ _ _ _ _
  |refine Flat.bind ?_ λ_=>?_
  |split
  |(dsimp only;split)
theorem Flat.ite{α:Type}{c:Prop}[Decidable c]{x y:Sem α}(hx:Flat P x)(hy:Flat P y):Flat P (if c then x else y):=by split<;>assumption
theorem Flat.intArith(op:BinOp)(k:IntKind)(x y:Int):Flat P (Op.intArith op k x y):=by
 unfold Op.intArith
 cases op<;>first|exact Flat.pure _|exact Flat.stuck _
theorem Flat.intBits(op:BinOp)(k:IntKind)(x y:Int):Flat P (Op.intBits op k x y):=by
 unfold Op.intBits
 cases op<;>first|exact Flat.pure _|exact Flat.stuck _
theorem Flat.intDiv(op:BinOp)(k:IntKind)(x y:Int):Flat P (Op.intDiv op k x y):=by
 unfold Op.intDiv
 cases op<;>exact Flat.ite (Flat.runtimePanic _) (by first|exact Flat.pure _|exact Flat.stuck _)
theorem Flat.intCmp(op:BinOp)(x y:Int):Flat P (Op.intCmp op x y):=by
 unfold Op.intCmp
 cases op<;>first|exact Flat.pure _|exact Flat.stuck _
theorem Flat.shift(op:BinOp)(k:IntKind)(x:Int)(yk:IntKind)(y:Int):Flat P (Op.shift op k x yk y):=by
 unfold Op.shift
 cases op<;>exact Flat.ite (Flat.runtimePanic _) (by first|exact Flat.pure _|exact Flat.stuck _)
theorem Flat.stringOp(op:BinOp)(x y:ByteArray):Flat P (Op.stringOp op x y):=by
 unfold Op.stringOp
 cases op<;>first|exact Flat.pure _|exact Flat.stuck _|exact Flat.ite (Flat.unsupported _) (Flat.pure _)
theorem Flat.unary(op:UnOp)(x:Value):Flat P (Op.unary op x):=by
 unfold Op.unary
 split<;>first|exact Flat.pure _|exact Flat.stuck _|exact Flat.unsupported _|exact Flat.intArith _ _ _ _|exact Flat.intBits _ _ _ _
theorem Flat.binInt(op:BinOp)(t:TypeId)(k k':IntKind)(a b:Int):Flat P (binOp op t (.int k a) (.int k' b)):=by
 have h1 : ∀ s : Sem Value, Flat P s → Flat P (if k ≠ k' then Go.stuck "BinOp: operands of different kinds" else s) := fun s hs => Flat.ite (Flat.stuck _) hs
 cases op<;>simp only[binOp]<;>first|exact h1 _ (Flat.intArith _ _ _ _)|exact h1 _ (Flat.intDiv _ _ _ _)|exact h1 _ (Flat.intBits _ _ _ _)|exact h1 _ (Flat.intCmp _ _ _)|exact Flat.shift _ _ _ _ _
theorem Flat.binStr(op:BinOp)(t:TypeId)(a b:ByteArray):Flat P (binOp op t (.string a) (.string b)):=by
 cases op<;>simp only[binOp]<;>exact Flat.stringOp _ _ _
theorem Flat.eqGuard(op:BinOp)(t:TypeId)(x y:Operand)(a b:Value)(ha:(∃ k n k' m,a=.int k n/\b=.int k' m)\/∃ s u,a=.string s/\b=.string u):Flat P (eqGuard op t x y a b):=by
 unfold Go.eqGuard
 rcases ha with⟨k,n,k',m,rfl,rfl⟩|⟨s,u,rfl,rfl⟩<;>cases op<;>exact Flat.pure _
theorem Flat.extract(x:Value)(i:Nat):Flat P (Instr.extract x i):=by
 unfold Instr.extract
 repeat' first
  |exact Flat.pure _
  |exact Flat.stuck _
  |split
theorem Flat.fieldAt{s f:Nat}(h:(fieldOff P s f).isSome=true)(x:Value):Flat P (Instr.fieldAt s x f):=by
 unfold fieldOff at h
 cases hd:under P s with
 |struct fs=>
  rw[hd] at h
  simp only at h
  cases hf:fs[f]? with
  |none=>rw[hf] at h;cases h
  |some fl=>
   rw[hf] at h
   simp only at h
   have hc:P.cellsOf fl.type≠0:=by intro e;rw[e] at h;cases h
   have hi:hasInfo P fl.type=true:=by
    cases hi:hasInfo P fl.type with
    |true=>rfl
    |false=>rw[hi] at h;revert h;cases P.cellsOf fl.type<;>simp
   have hu:=under_some hd (by simp)
   have key:∀ ad:Addr,∃ v,∀ w,(Instr.fieldAt s (.pointer (some ad)) f).run P w=.ok v w:=λad=>by
    refine⟨.pointer (some (ad.add fl.offset)),λw=>?_⟩
    simp[Instr.fieldAt,run_underlying hu,hf,Instr.sureAddr,fieldPlace,run_sizeOf' hi,hc]
   have dead:(∀ ad,x≠.pointer (some ad))->Dead P (Instr.fieldAt s x f):=by
    intro hx w v w' e
    have hs:∀ v w',(Instr.sureAddr x).run P w≠.ok v w':=by
     intro v w' e
     unfold Instr.sureAddr at e
     split at e
     ·exact hx _ rfl
     ·simp[Go.stuck] at e
    unfold Instr.fieldAt at e
    simp only[Sem.run_bind,run_underlying hu,Result.andThen_ok,hf] at e
    cases hr:(Instr.sureAddr x).run P w with
    |ok v1 w1=>exact hs _ _ hr
    |halt y w1=>rw[hr] at e;simp at e
   cases x with
   |pointer p=>cases p with
    |some ad=>exact .inl (key ad)
    |none=>exact .inr (dead λad e=>by simp at e)
   |_=>exact .inr (dead λad e=>by simp at e)
 |_=>rw[hd] at h;cases h
theorem Flat.convInt{s t:TypeId}(hs:intT P s=true)(ht:intT P t=true)(k:IntKind)(n:Int):Flat P (convert s t (.int k n)):=by
 unfold intT at hs ht
 cases hds:under P s<;>rw[hds] at hs<;>first|exact absurd hs Bool.false_ne_true|skip
 cases hdt:under P t<;>rw[hdt] at ht<;>first|exact absurd ht Bool.false_ne_true|skip
 have h1:=under_some hds (by simp)
 have h2:=under_some hdt (by simp)
 unfold convert
 rename_i k1 k2
 exact .inl ⟨.int k2 (k2.wrap n),λw=>by simp only[Sem.run_bind,run_underlying h1,run_underlying h2,Result.andThen_ok,Conv.intToInt,Sem.run_pure]⟩
theorem Flat.len{t:TypeId}(ht:lenT P t=true)(r:TypeId)(x:Value):Flat P (Builtin.len_ #[t] r #[x]):=by
 unfold lenT at ht
 have hu:∃ d,P.underlying t=some d/\(d=.string\/∃ e,d=.slice e):=by
  cases hd:under P t<;>rw[hd] at ht<;>first
   |exact absurd ht Bool.false_ne_true
   |exact⟨_,under_some hd (by simp),.inl rfl⟩
   |exact⟨_,under_some hd (by simp),.inr ⟨_,rfl⟩⟩
 obtain⟨d,hd,hc⟩:=hu
 rcases hc with rfl|⟨e,rfl⟩<;>cases x<;>first
  |exact .inl ⟨_,λw=>by simp[Builtin.len_,run_underlying hd];rfl⟩
  |exact .inr λw v w' e=>by simp[Builtin.len_,run_underlying hd,Go.stuck] at e
theorem minmax_flat{mx:Bool}{g:Nat->Nat}{L:List LE}{h:Hp}{K:KO}:∀ {xs:List AV} {vs:List Value} {x:AV} {v:Value},dMinMax mx x xs L h K->x.is g v->inStep g xs vs ->
  ∃ v',∀ w,(vs.foldlM (if mx then Builtin.max2 else Builtin.min2) v).run P w=.ok v' w
 |[],vs,x,v,hk,hx,hs=>by
  have:vs=[]:=eq_nil_of_length_eq_zero hs.1
  subst this
  exact⟨v,λw=>by simp⟩
 |y::ys,[],x,v,hk,hx,hs=>by have:=hs.1;cases this
 |y::ys,u::us,x,v,hk,hx,hs=>by
  have hy:y.is g u:=hs.2 0 (by simp)
  have hst:inStep g ys us:=⟨by simpa using hs.1,λi hi=>hs.2 (i+1) (by simpa using hi)⟩
  rw[List.foldlM_cons]
  unfold dMinMax at hk
  cases x with
  |v xv=>
   have hxe:v=xv:=hx
   subst hxe
   cases v with
   |int k a=>
    cases y with
    |v yv=>
     have hye:u=yv:=hy
     subst hye
     cases u with
     |int k' b=>
      dsimp only at hk
      by_cases hkk:k=k'
      ·subst hkk
       rw[decide_eq_true rfl] at hk
       dsimp only at hk
       have h1:∀ w,((if mx then Builtin.max2 else Builtin.min2) (.int k a) (.int k b)).run P w=.ok (.int k (mmI mx a b)) w:=by
        intro w
        cases mx<;>simp[Builtin.max2,Builtin.min2,iMax,iMin,mmI]
       obtain⟨v',hv⟩:=minmax_flat hk (v:=.int k (mmI mx a b)) rfl hst
       exact⟨v',λw=>by rw[Sem.run_bind,h1,Result.andThen_ok];exact hv w⟩
      ·rw[decide_eq_false hkk] at hk;exact False.elim hk
     |_=>exact False.elim hk
    |_=>exact False.elim hk
   |string a=>
    cases y with
    |v yv=>
     have hye:u=yv:=hy
     subst hye
     cases u with
     |string b=>
      dsimp only at hk
      have h1:∀ w,((if mx then Builtin.max2 else Builtin.min2) (.string a) (.string b)).run P w=.ok (.string (mmS mx a b)) w:=by
       intro w
       cases mx<;>simp only[Builtin.max2,Builtin.min2,mmS,sMax,sMin,Op.stringOp,asBool,if_true,Bool.false_eq_true,if_false,Sem.run_bind,Sem.run_pure,Result.andThen_ok]
       all_goals (congr 2;first|rfl|(cases Op.bytesLess a.toList b.toList<;>rfl))
      obtain⟨v',hv⟩:=minmax_flat hk (v:=.string (mmS mx a b)) rfl hst
      exact⟨v',λw=>by rw[Sem.run_bind,h1,Result.andThen_ok];exact hv w⟩
     |_=>exact False.elim hk
    |_=>exact False.elim hk
   |_=>exact False.elim hk
  |_=>exact False.elim hk
theorem quiet_flat{lo:List Nat}{G:List (Nat×(List Value->PT))}{V:Value->List Value->PT}{g:Nat->Nat}{A:Env}{L:List LE}{h:Hp}{a:Act}{o:Oper}{K:KO}(F:FO g A a)(hq:quietB P o.op=true)(hl:isRead P o.op=false)
  (hk:opD P lo G V o.dst o.type o.op A L h K):(∃ v,∀ w,(execOp a.eval o).run P w=.ok (.value v) w)\/Dead P (execOp a.eval o):=by
 have fin:∀ {s:Sem Value},execOp a.eval o=(do pure (Next.value (<- s)):Sem Next)->Flat P s->(∃ v,∀ w,(execOp a.eval o).run P w=.ok (.value v) w)\/Dead P (execOp a.eval o):=by
  intro s hs hf
  rw[hs]
  rcases hf with⟨v,hv⟩|hd
  ·exact .inl ⟨v,λw=>by simp only[Sem.run_bind,hv,Result.andThen_ok,Sem.run_pure]⟩
  ·refine .inr λw v w' e=>?_
   simp only[Sem.run_bind] at e
   cases hr:s.run P w with
   |ok v1 w1=>exact hd _ _ _ hr
   |halt y w1=>rw[hr] at e;simp at e
 cases ho:o.op with
 |move x=>exact fin (s:=pure (a.eval x)) (by unfold execOp;rw[ho];rfl) (Flat.pure _)
 |pick c x y=>
  refine fin (s:=do pure (if <- asBool (a.eval c) then a.eval x else a.eval y)) (by unfold execOp;rw[ho];simp) (Flat.bind (Flat.asBool _) λ_=>Flat.pure _)
 |extract x i=>exact fin (s:=Instr.extract (a.eval x) i) (by unfold execOp;rw[ho]) (Flat.extract _ _)
 |fieldAddr s x f=>rw[ho] at hq;exact fin (s:=Instr.fieldAt s (a.eval x) f) (by unfold execOp;rw[ho]) (Flat.fieldAt hq _)
 |indexAddr t x i=>exact fin (s:=Instr.indexAt t (a.eval x) (a.eval i)) (by unfold execOp;rw[ho]) (Flat.indexAt _ _ _)
 |index t x i=>rw[ho] at hq;exact fin (s:=Instr.index t (a.eval x) (a.eval i)) (by unfold execOp;rw[ho]) (Flat.indexS hq _ _)
 |slice t x l u m=>exact fin (s:=Instr.sliceAt t (a.eval x) (l.map a.eval) (u.map a.eval) (m.map a.eval)) (by unfold execOp;rw[ho]) (Flat.sliceAt _ _ _ _ _)
 |unOp op t x=>exact fin (s:=Op.unary op (a.eval x)) (by unfold execOp;rw[ho]) (Flat.unary _ _)
 |binOp op t x y yt=>
  rw[ho] at hk hq hl
  replace hq:pureT P t=true:=by
   have hl2:isEqP P (.binOp op t x y yt)=false:=by
    unfold isRead at hl
    simp only[Bool.or_eq_false_iff] at hl
    exact hl.2.2.2
   have hq2:(pureT P t || isEqP P (.binOp op t x y yt))=true:=hq
   rw[hl2,Bool.or_false] at hq2
   exact hq2
  refine fin (s:=(do eqGuard op t x y (a.eval x) (a.eval y);binOp op t (a.eval x) (a.eval y))) (by unfold execOp;rw[ho]) ?_
  have hx:=ev_is F x
  have hy:=ev_is F y
  replace hk:dBin P op t (ev A x) (ev A y) L h K:=hk
  have no:∀ v u,¬ dEq P op t v u L h K:=by
   intro v u hk
   unfold dEq at hk
   have hq':pureT P t=true:=hq
   unfold pureT at hq'
   cases hd:under P t<;>rw[hd] at hk hq'<;>first|exact hk|simp at hq'
  unfold dBin at hk
  have third:∀ z:AV,(z.get λv=>(ev A y).get λu=>dEq P op t v u L h K)->False:=by
   intro z hz
   obtain⟨v,_,hz,_⟩:=AV.get_plain hz
   obtain⟨u,_,hz,_⟩:=AV.get_plain hz
   exact no _ _ hz
  split at hk
  ·rename_i k n hxa
   split at hk
   ·rename_i k' m hya
    rw[hxa] at hx;rw[hya] at hy
    have hx:a.eval x=.int k n:=hx
    have hy:a.eval y=.int k' m:=hy
    rw[hx,hy]
    exact Flat.bind (Flat.eqGuard _ _ _ _ _ _ (.inl ⟨_,_,_,_,rfl,rfl⟩)) λ_=>Flat.binInt _ _ _ _ _ _
   ·exact hk.elim
  ·rename_i s hxa
   split at hk
   ·rename_i u hya
    rw[hxa] at hx;rw[hya] at hy
    have hx:a.eval x=.string s:=hx
    have hy:a.eval y=.string u:=hy
    rw[hx,hy]
    exact Flat.bind (Flat.eqGuard _ _ _ _ _ _ (.inr ⟨_,_,rfl,rfl⟩)) λ_=>Flat.binStr _ _ _ _
   ·exact hk.elim
  ·exact(third _ hk).elim
 |convert s t x=>
  rw[ho] at hk hq hl
  have hq':intT P s=true/\intT P t=true:=by
   have h1:(intT P s && intT P t || bytesT P s && strT P t)=true:=hq
   have h2:(bytesT P s && strT P t)=false:=by have h3:(false || ((bytesT P s && strT P t) || false))=false:=hl;simpa using h3
   rw[h2,Bool.or_false,Bool.and_eq_true] at h1
   exact h1
  refine fin (s:=convert s t (a.eval x)) (by unfold execOp;rw[ho]) ?_
  have hx:=ev_is F x
  replace hk:dConv P s t (ev A x) L h K:=hk
  unfold dConv at hk
  have ht:=hq'.2
  unfold intT at ht
  cases hd:under P t<;>rw[hd] at hk ht<;>first|exact absurd ht Bool.false_ne_true|skip
  dsimp only at hk
  split at hk
  ·rename_i k n hxa
   rw[hxa] at hx
   have hx:a.eval x=.int k n:=hx
   rw[hx]
   exact Flat.convInt hq'.1 hq'.2 _ _
  ·exact hk.elim
 |nilCheck x=>
  rw[ho] at hk
  have hx:=ev_is F x
  have key:∀ v,a.eval x=v->(∃ ad,v=.pointer (some ad))->(∃ v,∀ w,(execOp a.eval o).run P w=.ok (.value v) w)\/Dead P (execOp a.eval o):=by
   rintro v he ⟨ad,rfl⟩
   refine .inl ⟨.pointer (some ad),λw=>?_⟩
   unfold execOp
   rw[ho]
   simp[he]
  replace hk:dNil (ev A x) L h K:=hk
  unfold dNil at hk
  split at hk
  ·rename_i b q hxa;rw[hxa] at hx;exact key _ hx ⟨_,rfl⟩
  ·rename_i l q hxa;rw[hxa] at hx;exact key _ hx ⟨_,rfl⟩
  ·rename_i p hxa
   rw[hxa] at hx
   obtain⟨b,q,rfl,_⟩:=hk
   exact key _ hx ⟨_,rfl⟩
  ·exact hk.elim
 |call c=>
  rw[ho] at hq
  obtain⟨callee,args,ts⟩:=c
  cases callee with
  |builtin b=>
   cases b<;>first|exact absurd hq Bool.false_ne_true|skip
   case min=>
    rw[ho] at hk
    replace hk:dBuiltin P .min ts.toList (mapEv A args.toList) L h K:=hk
    unfold dBuiltin at hk
    dsimp only at hk
    match hxs:args.toList with
    |[]=>rw[hxs] at hk;exact False.elim hk
    |x::xs=>
     rw[hxs] at hk
     have hst':inStep g (mapEv A xs) (xs.map a.eval):=mapEv_step F xs
     obtain⟨v',hv⟩:=minmax_flat (P:=P) (mx:=false) hk (ev_is F x) hst'
     simp only[Bool.false_eq_true,if_false] at hv
     have hargs:(args.map a.eval).toList=a.eval x::xs.map a.eval:=by simp[hxs]
     have hrun:∀ w,(execOp a.eval o).run P w=((Builtin.min_ ts o.type (args.map a.eval)).run P w).andThen λv w'=>.ok (.value v) w':=by
      intro w
      unfold execOp
      rw[ho]
      simp only[resolve,Sem.run_bind,Sem.run_pure,Result.andThen_ok,invoke]
      simp only[builtin]
      exact run_v
     refine .inl ⟨v',λw=>?_⟩
     have h2:(Builtin.min_ ts o.type (args.map a.eval)).run P w=.ok v' w:=by
      unfold Builtin.min_
      rw[hargs]
      exact hv w
     rw[hrun,h2];rfl
   case max=>
    rw[ho] at hk
    replace hk:dBuiltin P .max ts.toList (mapEv A args.toList) L h K:=hk
    unfold dBuiltin at hk
    dsimp only at hk
    match hxs:args.toList with
    |[]=>rw[hxs] at hk;exact False.elim hk
    |x::xs=>
     rw[hxs] at hk
     have hst':inStep g (mapEv A xs) (xs.map a.eval):=mapEv_step F xs
     obtain⟨v',hv⟩:=minmax_flat (P:=P) (mx:=true) hk (ev_is F x) hst'
     simp only[if_true] at hv
     have hargs:(args.map a.eval).toList=a.eval x::xs.map a.eval:=by simp[hxs]
     have hrun:∀ w,(execOp a.eval o).run P w=((Builtin.max_ ts o.type (args.map a.eval)).run P w).andThen λv w'=>.ok (.value v) w':=by
      intro w
      unfold execOp
      rw[ho]
      simp only[resolve,Sem.run_bind,Sem.run_pure,Result.andThen_ok,invoke]
      simp only[builtin]
      exact run_v
     refine .inl ⟨v',λw=>?_⟩
     have h2:(Builtin.max_ ts o.type (args.map a.eval)).run P w=.ok v' w:=by
      unfold Builtin.max_
      rw[hargs]
      exact hv w
     rw[hrun,h2];rfl
   simp only[quietB] at hq
   split at hq
   ·rename_i t hts
    rw[ho] at hk
    replace hk:dBuiltin P .len ts.toList (mapEv A args.toList) L h K:=hk
    unfold dBuiltin at hk
    dsimp only at hk
    rw[hts] at hk
    match hxs:args.toList with
    |[]=>rw[hxs] at hk;exact False.elim hk
    |_::_::_=>rw[hxs] at hk;exact False.elim hk
    |[x]=>
     have hargs:(args.map a.eval)=#[a.eval x]:=by apply Array.ext';simp[hxs]
     have hts':ts=#[t]:=by apply Array.ext';simp[hts]
     have hrun:∀ w,(execOp a.eval o).run P w=((Builtin.len_ #[t] o.type #[a.eval x]).run P w).andThen λv w'=>.ok (.value v) w':=by
      intro w
      unfold execOp
      rw[ho]
      simp only[resolve,Sem.run_bind,Sem.run_pure,Result.andThen_ok,invoke]
      rw[hargs,hts']
      simp only[builtin]
      exact run_v
     rcases Flat.len (P:=P) hq o.type (a.eval x) with⟨v,hv⟩|hd
     ·exact .inl ⟨v,λw=>by rw[hrun,hv];rfl⟩
     ·refine .inr λw v w' e=>?_
      rw[hrun] at e
      cases hr:(Builtin.len_ #[t] o.type #[a.eval x]).run P w with
      |ok v1 w1=>exact hd _ _ _ hr
      |halt y w1=>rw[hr] at e;simp at e
   ·cases hq
  |_=>exact absurd hq Bool.false_ne_true
 |build t ps=>
  rw[ho] at hk
  exact fin (s:=Instr.build t (ps.map λ(i,x)=>(i,a.eval x))) (by unfold execOp;rw[ho]) (.inl (build_flat hk (by rw[Array.toList_map];exact partsEv_is F ps.toList)))
 |load t x=>rw[ho] at hl;exact absurd hl (by simp[isRead,isLoad])
 |lookup t x i ok=>rw[ho] at hl hq;exfalso;unfold isRead at hl;simp only[isLook] at hl;simp only[quietB] at hq;rw[hq] at hl;simp at hl
 |_=>rw[ho] at hq;exact absurd hq Bool.false_ne_true
end
end Go.Eng
end
section
namespace Go.Eng
section
variable{P:Program}{ops:Array Oper}{Q:Exit->Act->World->Prop}{Φ:Act->World->Prop}
def Yat(P:Program)(ops:Array Oper)(o:Oper)(v:Value)(a:Act)(w:World):Prop:=
 (Region.wanted o (yielded ops a.tmps)=true/\(execOp a.eval o).run P w=.ok (.value v) w)\/(Region.wanted o (yielded ops a.tmps)=false/\v=undef)
def Chk(P:Program)(ops:Array Oper)(y:Nat)(a:Act)(w:World):Prop:=∃ o v,ops[y]?=some o/\Yat P ops o v a w/\a.put o.dst v=a
def eff(P:Program)(ops:Array Oper)(Q:Exit->Act->World->Prop)(o:Oper)(K:Act->World->Prop)(a:Act)(w:World):Prop:=
 if Region.wanted o (yielded ops a.tmps) then o.wp P a w K Q else K (a.put o.dst undef) w
abbrev Nd:=Nat×Bool×List Nat
def runP(P:Program)(ops:Array Oper)(Q:Exit->Act->World->Prop)(Φ:Act->World->Prop):List Nd->Act->World->Prop
 |[],a,w=>Φ a w
 |(i,true,_)::R,a,w=>∃ o v,ops[i]?=some o/\Yat P ops o v a w/\runP P ops Q Φ R (a.put o.dst v) w
 |(i,false,c)::R,a,w=>∃ o,ops[i]?=some o/\eff P ops Q o (λa' w'=>(∀ y∈c,Chk P ops y a' w')/\runP P ops Q Φ R a' w') a w
def Ind(ops:Array Oper)(x y:Nat):Prop:=∀ ox oy,ops[x]?=some ox->ops[y]?=some oy->∀ d,ox.dst=some d->d∉oy.looksAt ops/\oy.dst≠some d
theorem Yat.put{o:Oper}(hs:∀ cs b,o.op≠.select cs b){v:Value}{a:Act}{w:World}{dst:Option Tmp}{u:Value}(h:∀ d,dst=some d->d∉o.looksAt ops):Yat P ops o v (a.put dst u) w↔Yat P ops o v a w:=by
 unfold Yat
 rw[execOp_put o hs a dst u h,wanted_put o a dst u h]
theorem eff_mono{o:Oper}{K K':Act->World->Prop}{a:Act}{w:World}(h:∀ a w,K a w->K' a w)(hh:eff P ops Q o K a w):eff P ops Q o K' a w:=by
 unfold eff at *
 split
 ·rename_i hw;rw[if_pos hw] at hh;exact Oper.wp_mono h hh
 ·rename_i hw;rw[if_neg hw] at hh;exact h _ _ hh
theorem eff_put(hQ:∀ c a w,¬ Q (.panic c) a w){oj:Oper}(hsj:∀ cs b,oj.op≠.select cs b){dx:Option Tmp}{v:Value}(h1:∀ d,dx=some d->d∉oj.looksAt ops)(h2:∀ d,dx=some d->oj.dst≠some d)
  {K:Act->World->Prop} {a:Act} {w:World} (hout:∀ a w,¬ Q .outgrown a w\/True) (h:eff P ops Q oj K (a.put dx v) w):eff P ops Q oj (λb w'=>K (b.put dx v) w') a w:=by
 unfold eff at *
 rw[wanted_put oj a dx v h1] at h
 split
 ·rename_i hw
  rw[if_pos hw] at h
  unfold Oper.wp at *
  rw[execOp_put oj hsj a dx v h1] at h
  generalize (execOp a.eval oj).run P w=r at *
  cases r with
  |ok n w'=>
   cases n<;>simp only[Oper.upon] at h ⊢
   case value u=>rw[<- Act.put_comm a v u h2];exact h
   case skip=>rw[<- Act.put_comm a v undef h2];exact h
   case defer d=>
    rw[<- Act.put_comm _ v undef h2,<- Act.put_defers]
    exact h
   case enter f args=>
    refine Calls.mono h λe w'' he=>?_
    cases e with
    |returned u=>exact(show K ((a.put oj.dst u).put dx v) w'' from by rw[<- Act.put_comm a v u h2];exact he)
    |panicked c=>exact(hQ _ _ _ he).elim
    |outgrown=>exact he
   case row row args=>exact Rows.mono h λu w'' he=>by rw[<- Act.put_comm a v u h2];exact he
  |halt x w'=>
   cases x<;>simp only[Oper.upon] at h ⊢
   case panic u=>exact(hQ _ _ _ h).elim
 ·rename_i hw
  rw[if_neg hw] at h
  rw[<- Act.put_comm a v undef h2];exact h
theorem put_put(a:Act)(d:Option Tmp)(v u:Value):(a.put d v).put d u=a.put d u:=by
 cases d with
 |none=>rfl
 |some d=>simp[Act.put]
theorem put_fix{b:Act}{dx dy:Option Tmp}{v u:Value}(hne:∀ d,dx=some d->dy≠some d)(h:(b.put dx v).put dy u=b.put dx v):b.put dy u=b:=by
 cases dy with
 |none=>rfl
 |some e=>
  cases dx with
  |none=>exact h
  |some d=>
   have hde:d≠e:=λq=>hne d rfl (by rw[q])
   have ht:(b.tmps.setIfInBounds d v).setIfInBounds e u=b.tmps.setIfInBounds d v:=congrArg Act.tmps h
   have:b.tmps.setIfInBounds e u=b.tmps:=by
    apply Array.ext_getElem?
    intro i
    have hi:((b.tmps.setIfInBounds d v).setIfInBounds e u)[i]?=(b.tmps.setIfInBounds d v)[i]?:=by rw[ht]
    by_cases hei:e=i
    ·subst hei
     rw[Array.getElem?_setIfInBounds_ne hde] at hi
     rw[Array.getElem?_setIfInBounds] at hi ⊢
     simpa using hi
    ·rw[Array.getElem?_setIfInBounds_ne hei]
   show({ b with tmps:=b.tmps.setIfInBounds e u }:Act)=b
   rw[this]
theorem Chk.back{x y:Nat}{ox:Oper}(hx:ops[x]?=some ox)(hsel:∀ (j:Nat) (o:Oper) cs b,ops[j]?=some o->o.op≠.select cs b)(hi:Ind ops x y){b:Act}{v:Value}{w:World}(h:Chk P ops y (b.put ox.dst v) w):Chk P ops y b w:=by
 obtain⟨o,u,ho,hy,hp⟩:=h
 exact⟨o,u,ho,(Yat.put (hsel y o · · ho) (λd hd=>(hi ox o hx ho d hd).1)).1 hy,put_fix (λd hd=>(hi ox o hx ho d hd).2) hp⟩
theorem swap_q{x i:Nat}{cx ci:List Nat}{R:List Nd}{a:Act}{w:World}(hsel:∀ (j:Nat) (o:Oper) cs b,ops[j]?=some o->o.op≠.select cs b)(h1:Ind ops x i)(h2:Ind ops i x)
  (h:runP P ops Q Φ ((x,true,cx)::(i,true,ci)::R) a w):runP P ops Q Φ ((i,true,ci)::(x,true,cx)::R) a w:=by
 obtain⟨ox,v,hx,hy,oi,u,hi,hz,hr⟩:=h
 refine⟨oi,u,hi,(Yat.put (hsel i oi · · hi) (λd hd=>(h1 ox oi hx hi d hd).1)).1 hz,ox,v,hx,(Yat.put (hsel x ox · · hx) (λd hd=>(h2 oi ox hi hx d hd).1)).2 hy,?_⟩
 rw[<- Act.put_comm a v u (λd hd=>(h1 ox oi hx hi d hd).2)]
 exact hr
theorem swap_e(hQ:∀ c a w,¬ Q (.panic c) a w){x i:Nat}{cx ci:List Nat}{R:List Nd}{a:Act}{w:World}(hsel:∀ (j:Nat) (o:Oper) cs b,ops[j]?=some o->o.op≠.select cs b)(h1:Ind ops x i)(hown:∀ ox,ops[x]?=some ox->∀ d,ox.dst=some d->d∉ox.looksAt ops)(hxc:∀ y∈ci,Ind ops x y)
  (h:runP P ops Q Φ ((x,true,cx)::(i,false,x::ci)::R) a w):runP P ops Q Φ ((i,false,ci)::(x,true,cx)::R) a w:=by
 obtain⟨ox,v,hx,hy,oi,hi,he⟩:=h
 refine⟨oi,hi,?_⟩
 have he':=eff_put hQ (hsel i oi · · hi) (λd hd=>(h1 ox oi hx hi d hd).1) (λd hd=>(h1 ox oi hx hi d hd).2) (λ_ _=>.inr trivial) he
 refine eff_mono (λb w' hb=>?_) he'
 obtain⟨hc,hr⟩:=hb
 refine⟨λy hyc=>(hc y (mem_cons_of_mem _ hyc)).back hx hsel (hxc y hyc),?_⟩
 obtain⟨o,u,ho,hyu,hp⟩:=hc x mem_cons_self
 rw[hx] at ho
 cases ho
 rw[put_put] at hp
 exact⟨ox,u,hx,(Yat.put (hsel x ox · · hx) (λd hd=>hown ox hx d hd)).1 hyu,by rw[hp];exact hr⟩
def Fit(ops:Array Oper)(n1 n:Nd):Prop:=n1.2.1=true/\Ind ops n1.1 n.1/\Ind ops n.1 n1.1/\(n.2.1=true\/n1.1∈n.2.2)
theorem pull(hQ:∀ c a w,¬ Q (.panic c) a w)(hsel:∀ (j:Nat) (o:Oper) cs b,ops[j]?=some o->o.op≠.select cs b){i:Nat}{q:Bool}{R2:List Nd} :
  ∀ (R1:List Nd) (c c':List Nat) (a:Act) (w:World),(∀ x∈R1,Fit ops x (i,q,c))->(∀ x∈R1,∀ ox,ops[x.1]?=some ox->∀ d,ox.dst=some d->d∉ox.looksAt ops)->R1.Pairwise (λy x=>Ind ops x.1 y.1)->(∀ y∈c',y∈c)->(∀ y∈c',∀ x∈R1,Ind ops x.1 y) ->
   runP P ops Q Φ (R1++(i,q,c)::R2) a w->runP P ops Q Φ ((i,q,c')::(R1++R2)) a w
 |[],c,c',a,w,_,_,_,hsub,_,h=>by
  cases q with
  |true=>exact h
  |false=>
   obtain⟨o,ho,he⟩:=h
   exact⟨o,ho,eff_mono (λa w hk=>⟨λy hy=>hk.1 y (hsub y hy),hk.2⟩) he⟩
 |(x,qx,cx)::R1,c,c',a,w,hfit,hown,hpw,hsub,hind,h=>by
  obtain⟨hqx,hx1,hx2,hx3⟩:=hfit _ mem_cons_self
  have hqx:qx=true:=hqx
  subst hqx
  obtain⟨hp1,hp2⟩:=List.pairwise_cons.1 hpw
  obtain⟨ox,v,hox,hy,hr⟩:=h
  cases q with
  |true=>
   have ih:=pull hQ hsel R1 c c' (a.put ox.dst v) w (λz hz=>hfit z (mem_cons_of_mem _ hz)) (λz hz=>hown z (mem_cons_of_mem _ hz)) hp2 hsub (λy hyc z hz=>hind y hyc z (mem_cons_of_mem _ hz)) hr
   exact swap_q hsel hx1 hx2 ⟨ox,v,hox,hy,ih⟩
  |false=>
   have hxc:x∈c:=hx3.resolve_left (by simp)
   have ih:=pull hQ hsel R1 c (x::c') (a.put ox.dst v) w (λz hz=>hfit z (mem_cons_of_mem _ hz)) (λz hz=>hown z (mem_cons_of_mem _ hz)) hp2
    (λy hyc=>by
     rcases mem_cons.1 hyc with rfl|hyc
     ·exact hxc
     ·exact hsub y hyc)
    (λy hyc z hz=>by
     rcases mem_cons.1 hyc with rfl|hyc
     ·exact hp1 z hz
     ·exact hind y hyc z (mem_cons_of_mem _ hz)) hr
   exact swap_e hQ hsel hx1 (λo ho=>hown _ mem_cons_self o ho) (λy hyc=>hind y hyc _ mem_cons_self) ⟨ox,v,hox,hy,ih⟩
inductive Anc (ops:Array Oper):Nat->Nat->Prop
 |edge {e i:Nat} {o:Oper}:ops[i]?=some o->e∈edgesOf o->Anc ops e i
 |step {x e i:Nat} {o:Oper}:ops[i]?=some o->e∈edgesOf o->Anc ops x e->Anc ops x i
def Down(ops:Array Oper)(listed:Array Bool):Prop:=∀ j o,ops[j]?=some o->listed.getD j false=true->∀ e∈edgesOf o,listed.getD e false=true
theorem Anc.listed{listed:Array Bool}(hd:Down ops listed){x i:Nat}(h:Anc ops x i)(hi:∀ o,ops[i]?=some o->∀ e∈edgesOf o,listed.getD e false=true):listed.getD x false=true:=by
 induction h with
 |edge ho he=>exact hi _ ho _ he
 |step ho he _ ih=>exact ih λo' ho' e' he'=>hd _ o' ho' (hi _ ho _ he) e' he'
theorem addAll_mem:∀ {xs l:List Nat} {x:Nat},x∈addAll l xs->x∈l\/x∈xs
 |[],l,x,h=>.inl h
 |y::ys,l,x,h=>by
  unfold addAll at h
  cases hm:memN y l with
  |true=>
   rw[hm] at h
   rcases addAll_mem h with h|h
   ·exact .inl h
   ·exact .inr (mem_cons_of_mem _ h)
  |false=>
   rw[hm] at h
   rcases addAll_mem h with h|h
   ·rcases mem_cons.1 h with rfl|h
    ·exact .inr mem_cons_self
    ·exact .inl h
   ·exact .inr (mem_cons_of_mem _ h)
theorem ancOf_mem{tab:List (List Nat)}:∀ {es l:List Nat} {x:Nat},x∈ancOf tab l es->x∈l\/∃ e∈es,x=e\/x∈(tab[e]?).getD []
 |[],l,x,h=>.inl h
 |e::es,l,x,h=>by
  unfold ancOf at h
  rcases ancOf_mem h with h|⟨e',he',h⟩
  ·rcases addAll_mem h with h|h
   ·exact .inl h
   ·rcases mem_cons.1 h with rfl|h
    ·exact .inr ⟨_,mem_cons_self,.inl rfl⟩
    ·exact .inr ⟨e,mem_cons_self,.inr h⟩
  ·exact .inr ⟨e',mem_cons_of_mem _ he',h⟩
theorem ancTab_ok:∀ (os done:List Oper) (tab:List (List Nat)),tab.length=done.length->(done++os).toArray=ops->(∀ i x,x∈(tab[i]?).getD []->Anc ops x i)->∀ i x,x∈((ancTab tab os)[i]?).getD []->Anc ops x i
 |[],done,tab,_,_,h=>h
 |o::os,done,tab,hl,hops,h=>by
  unfold ancTab
  refine ancTab_ok os (done++[o]) _ (by simp[hl]) (by simpa using hops) λi x hx=>?_
  by_cases hi:i<tab.length
  ·rw[List.getElem?_append_left hi] at hx
   exact h i x hx
  ·rw[List.getElem?_append_right (by omega)] at hx
   have hi0:i=tab.length:=by
    apply Classical.byContradiction
    intro hne
    rw[List.getElem?_eq_none (by simp;omega)] at hx
    cases hx
   subst hi0
   have hoi:ops[tab.length]?=some o:=by rw[<- hops];simp[hl]
   simp only[Nat.sub_self,List.getElem?_cons_zero,Option.getD_some] at hx
   rcases ancOf_mem hx with hx|⟨e,he,hx⟩
   ·cases hx
   ·rcases hx with rfl|hx
    ·exact .edge hoi he
    ·exact .step hoi he (h e x hx)
theorem notAnc_false{i x:Nat}(h:notAnc (ancTab [] ops.toList) i x=false):Anc ops x i:=by
 unfold notAnc at h
 have:memN x (((ancTab [] ops.toList)[i]?).getD [])=true:=by simpa using h
 exact ancTab_ok ops.toList [] [] rfl (by simp) (λi x hx=>by simp at hx) i x (memN_iff.1 this)
structure Good(ops:Array Oper)(R:List Nd):Prop where
 pw:R.Pairwise (λn1 n=>(Anc ops n1.1 n.1\/Fit ops n1 n)/\(n.2.1=true->Ind ops n.1 n1.1)/\∀ o,ops[n1.1]?=some o->n.1∉edgesOf o)
 self:∀ n∈R,∃ o,ops[n.1]?=some o/\n.1∉edgesOf o/\(∀ e∈edgesOf o,e<ops.size)/\(n.2.1=true->∀ d,o.dst=some d->d∉o.looksAt ops)
 nd:(R.map (·.1)).Nodup
theorem Good.sub{R R':List Nd}(h:Good ops R)(hs:R'.Sublist R):Good ops R':=
 ⟨h.pw.sublist hs,λn hn=>h.self n (hs.subset hn),h.nd.sublist (hs.map _)⟩
theorem any_of_run(hΦ:∀ a w,Φ a w->Q .normal a w)(hQ:∀ c a w,¬ Q (.panic c) a w)(hsel:∀ (j:Nat) (o:Oper) cs b,ops[j]?=some o->o.op≠.select cs b) :
  ∀ (fuel:Nat) (R:List Nd) (listed:Array Bool) (a:Act) (w:World),R.length=fuel->listed.size=ops.size->(∀ j,listed.getD j true=false↔j∈R.map (·.1))->Down ops listed->Good ops R->runP P ops Q Φ R a w->wpAny P .any ops Q fuel listed a w
 |0,R,listed,a,w,hl,hsz,hun,hd,hg,h=>by
  have:R=[]:=eq_nil_of_length_eq_zero hl
  subst this
  refine⟨?_,hΦ _ _ h⟩
  cases hr:Region.ready .any ops listed with
  |nil=>rfl
  |cons j l=>
   have hj:j∈Region.ready .any ops listed:=by rw[hr];exact mem_cons_self
   have:=(hun j).1 (mem_ready.1 hj).1
   simp at this
 |fuel+1,R,listed,a,w,hl,hsz,hun,hd,hg,h=>by
  have edge_bind:∀ (o:Oper) (e:Edge),e∈o.after->Region.binds .any e=true->e.on∈edgesOf o:=by
   intro o e he hb
   unfold edgesOf
   exact List.mem_map.2 ⟨e,List.mem_filter.2 ⟨Array.mem_toList_iff.2 he,hb⟩,rfl⟩
  have bind_edge:∀ (o:Oper) (k:Nat),k∈edgesOf o->∃ e∈o.after,Region.binds .any e=true/\e.on=k:=by
   intro o k hk
   unfold edgesOf at hk
   obtain⟨e,he,rfl⟩:=List.mem_map.1 hk
   obtain⟨h1,h2⟩:=List.mem_filter.1 he
   exact⟨e,Array.mem_toList_iff.1 h1,h2,rfl⟩
  refine⟨λh0=>?_,λi hi=>?_⟩
  ·exfalso
   match R,hl with
   |n::R',_=>
    obtain⟨o,ho,hself,hlt,_⟩:=hg.self n mem_cons_self
    have hnr:n.1∈Region.ready .any ops listed:=by
     refine mem_ready.2 ⟨(hun n.1).2 (by simp),o,ho,λe he hb=>?_⟩
     apply Classical.byContradiction
     intro hne
     have heo:=edge_bind o e he hb
     have hes:e.on<listed.size:=by rw[hsz];exact hlt _ heo
     have heu:listed.getD e.on true=false:=by
      simp only[Array.getD,hes,dif_pos] at hne ⊢
      simpa using hne
     have hmem:=(hun e.on).1 heu
     rcases mem_cons.1 hmem with h1|h1
     ·have h1:e.on=n.1:=h1
      rw[h1] at heo;exact hself heo
     ·obtain⟨n2,hn2,he2⟩:=List.mem_map.1 h1
      have he2:n2.1=e.on:=he2
      exact((List.pairwise_cons.1 hg.pw).1 n2 hn2).2.2 o ho (by rw[he2];exact heo)
    rw[h0] at hnr;cases hnr
  ·obtain⟨hiu,o,ho,hall⟩:=mem_ready.1 hi
   obtain⟨n,hn,hni⟩:=List.mem_map.1 ((hun i).1 hiu)
   obtain⟨R1,R2,rfl⟩:=List.append_of_mem hn
   obtain⟨i',q,c⟩:=n
   have hni:i'=i:=hni
   subst hni
   have hdeps:∀ o',ops[i']?=some o'->∀ e∈edgesOf o',listed.getD e false=true:=by
    intro o' ho' e he
    rw[ho] at ho'
    cases ho'
    obtain⟨e',he',hb,rfl⟩:=bind_edge o e he
    exact hall e' he' hb
   have in_size:∀ j,j∈(R1++(i',q,c)::R2).map (·.1)->listed.getD j false=false:=by
    intro j hj
    have h1:=(hun j).2 hj
    by_cases hjs:j<listed.size
    ·simp only[Array.getD,hjs,dif_pos] at h1 ⊢;exact h1
    ·simp[Array.getD,hjs] at h1
   have hpw:=List.pairwise_append.1 hg.pw
   have hrun:=pull hQ hsel (Q:=Q) R1 c [] a w
    (λx hx=>by
     rcases (hpw.2.2 x hx _ mem_cons_self).1 with ha|hf
     ·exfalso
      have h1:=ha.listed hd hdeps
      rw[in_size x.1 (List.mem_map.2 ⟨x,mem_append_left _ hx,rfl⟩)] at h1
      cases h1
     ·exact hf)
    (λx hx ox hox d hdd=>by
     obtain⟨o2,ho2,_,_,hs⟩:=hg.self x (mem_append_left _ hx)
     rw[hox] at ho2
     cases ho2
     rcases (hpw.2.2 x hx _ mem_cons_self).1 with ha|hf
     ·exfalso
      have h1:=ha.listed hd hdeps
      rw[in_size x.1 (List.mem_map.2 ⟨x,mem_append_left _ hx,rfl⟩)] at h1
      cases h1
     ·exact hs hf.1 d hdd)
    (hpw.1.imp_of_mem λ{y x} hy hx h=>h.2.1 (by
     rcases (hpw.2.2 x hx _ mem_cons_self).1 with ha|hf
     ·exfalso
      have h1:=ha.listed hd hdeps
      rw[in_size x.1 (List.mem_map.2 ⟨x,mem_append_left _ hx,rfl⟩)] at h1
      cases h1
     ·exact hf.1)) (λy hy=>(by cases hy)) (λy hy=>(by cases hy)) h
   have hnd:=hg.nd
   rw[map_append,map_cons] at hnd
   have hni1:i'∉(R1++R2).map (·.1):=by
    rw[map_append]
    rw[List.nodup_append] at hnd
    obtain⟨_,h2,h3⟩:=hnd
    intro hmem
    rcases List.mem_append.1 hmem with h1|h1
    ·exact h3 _ h1 _ mem_cons_self rfl
    ·exact(List.nodup_cons.1 h2).1 h1
   have hsub:(R1++R2).Sublist (R1++(i',q,c)::R2):=List.Sublist.append_left (List.sublist_cons_self _ _) _
   have next:∀ a' w',runP P ops Q Φ (R1++R2) a' w'->wpAny P .any ops Q fuel (listed.setIfInBounds i' true) a' w':=by
    intro a' w' hr
    refine any_of_run hΦ hQ hsel fuel (R1++R2) _ a' w' (by simp at hl ⊢;omega) (by simp[hsz]) (λj=>?_) (λj oj hoj hlj e he=>?_) (hg.sub hsub) hr
    ·by_cases hij:i'=j
     ·subst hij
      refine⟨λhh=>?_,λhh=>absurd hh hni1⟩
      by_cases his:i'<listed.size
      ·simp[his] at hh
      ·simp[his] at hh
     ·rw[getD_set_ne true hij,hun j]
      simp only[map_append,map_cons,List.mem_append,mem_cons]
      constructor
      ·rintro(h1|h1|h1)
       ·exact .inl h1
       ·exact absurd h1.symm hij
       ·exact .inr h1
      ·rintro(h1|h1)
       ·exact .inl h1
       ·exact .inr (.inr h1)
    ·by_cases hij:i'=j
     ·subst hij
      exact getD_set_true (hdeps oj hoj e he)
     ·rw[getD_set_ne false hij] at hlj
      exact getD_set_true (hd j oj hoj hlj e he)
   cases q with
   |true=>
    obtain⟨o',v,ho',hy,hr⟩:=hrun
    rw[ho] at ho'
    cases ho'
    unfold wpOp
    rw[ho]
    dsimp only
    rcases hy with⟨hw,hv⟩|⟨hw,rfl⟩
    ·rw[if_pos hw]
     refine .inl ?_
     unfold Oper.wp
     rw[hv]
     exact next _ _ hr
    ·rw[if_neg (by rw[hw];simp)]
     exact next _ _ hr
   |false=>
    obtain⟨o',ho',he⟩:=hrun
    rw[ho] at ho'
    cases ho'
    have he':=eff_mono (λa' w' hk=>next a' w' hk.2) he
    unfold eff at he'
    unfold wpOp
    rw[ho]
    dsimp only
    split
    ·rename_i hw;rw[if_pos hw] at he';exact .inl he'
    ·rename_i hw;rw[if_neg hw] at he';exact he'
end
end Go.Eng
end
section
namespace Go.Eng
section
variable{P:Program}{lo:List Nat}{G:List (Nat×(List Value->PT))}{V:Value->List Value->PT}{fr:Hp}{g:Nat->Nat}{A:Env}{L:List LE}{h:Hp}{w:World}{a:Act}{Q:Exit->Act->World->Prop}
def Says(xs ys:List AV):Prop:=ys.length=xs.length/\(∀ y∈ys,y.plain=true)/\∀ g us,inStep g xs us->inStep g ys us
theorem Says.cons{x y:AV}{xs ys:List AV}(hy:y.plain=true)(hxy:∀ g u,x.is g u->y.is g u)(h:Says xs ys):Says (x::xs) (y::ys):=by
 refine⟨by simp[h.1],λz hz=>?_,λg us hs=>?_⟩
 ·rcases mem_cons.1 hz with rfl|hz
  ·exact hy
  ·exact h.2.1 z hz
 ·cases us with
  |nil=>have:=hs.1;simp at this
  |cons u us=>
   have ht:inStep g xs us:=⟨by simpa using hs.1,λi hi=>hs.2 (i+1) (by simpa using hi)⟩
   obtain⟨h1,h2⟩:=h.2.2 g us ht
   refine⟨by simp[h1],λi hi=>?_⟩
   cases i with
   |zero=>exact hxy g u (hs.2 0 (by simp))
   |succ i=>exact h2 i (by simpa using hi)
theorem appK_cons{k:Kd}{ks:List Kd}{β:Type}{f:Fun (k::ks) β}{x:AV}{xs:List AV}{K:β->Prop}(hk:appK (k::ks) f (x::xs) K) :
  ∃ y:k.T,(k.av y).plain=true/\(∀ g u,x.is g u->(k.av y).is g u)/\appK ks (f y) xs K/\∀ {γ:Type} (f':Fun (k::ks) γ) (K':γ->Prop),appK (k::ks) f' (x::xs) K'↔appK ks (f' y) xs K':=by
 cases k with
 |int ik=>
  cases x with
  |v xv=>cases xv with
   |int ik' n=>
    simp only[appK] at hk
    by_cases he:ik=ik'
    ·subst he
     rw[decide_eq_true rfl] at hk
     exact⟨n,rfl,λg u hu=>hu,hk,λf' K'=>by simp only[appK,decide_true]⟩
    ·rw[decide_eq_false he] at hk;exact False.elim hk
   |_=>exact False.elim hk
  |_=>exact False.elim hk
 |bool=>
  cases x with
  |v xv=>cases xv with
   |bool b=>exact⟨b,rfl,λg u hu=>hu,hk,λf' K'=>Iff.rfl⟩
   |_=>exact False.elim hk
  |_=>exact False.elim hk
 |str=>
  cases x with
  |v xv=>cases xv with
   |string s=>exact⟨s,rfl,λg u hu=>hu,hk,λf' K'=>Iff.rfl⟩
   |_=>exact False.elim hk
  |_=>exact False.elim hk
 |sl=>
  cases x with
  |v xv=>cases xv with
   |slice a n c=>exact⟨⟨a,n,c⟩,rfl,λg u hu=>hu,hk,λf' K'=>Iff.rfl⟩
   |_=>exact False.elim hk
  |_=>exact False.elim hk
 |ptr=>
  cases x with
  |v xv=>cases xv with
   |pointer p=>exact⟨p,rfl,λg u hu=>hu,hk,λf' K'=>Iff.rfl⟩
   |_=>exact False.elim hk
  |p b o=>exact⟨some ⟨b,o,none⟩,rfl,λg u hu=>hu,hk,λf' K'=>Iff.rfl⟩
  |_=>exact False.elim hk
 |map=>
  cases x with
  |v xv=>cases xv with
   |map m=>exact⟨m,rfl,λg u hu=>hu,hk,λf' K'=>Iff.rfl⟩
   |_=>exact False.elim hk
  |_=>exact False.elim hk
 |raw=>
  cases x with
  |f v=>exact⟨v,rfl,λg u hu=>hu,hk,λf' K'=>Iff.rfl⟩
  |_=>exact False.elim hk
theorem all1_at{k:Kd}{ks:List Kd}{β:Type}{f:Fun (k::ks) β}{Φ:List AV->β->Prop}(h:all1 (k::ks) f Φ)(x:k.T):all1 ks (f x) λvs a=>Φ (k.av x::vs) a:=by
 cases k with
 |bool=>cases x with
  |true=>exact h.1
  |false=>exact h.2
 |_=>exact h x
theorem all2_at{k:Kd}{ks:List Kd}{β γ:Type}{f:Fun (k::ks) β}{m:Fun (k::ks) γ}{Φ:List AV->β->γ->Prop}(h:all2 (k::ks) f m Φ)(x:k.T):all2 ks (f x) (m x) λvs a b=>Φ (k.av x::vs) a b:=by
 cases k with
 |bool=>cases x with
  |true=>exact h.1
  |false=>exact h.2
 |_=>exact h x
theorem join_says:∀ {ks:List Kd} {β:Type} {f:Fun ks β} {xs:List AV} {K:β->Prop} {Φ:List AV->β->Prop},appK ks f xs K->all1 ks f Φ->∃ ys j,Says xs ys/\K j/\Φ ys j
 |[],_,f,[],_,_,hk,ha=>⟨[],f,⟨rfl,λy hy=>(by simp at hy),λg us h=>h⟩,hk,ha⟩
 |[],_,_,_::_,_,_,hk,_=>False.elim hk
 |k::ks,_,_,[],_,_,hk,_=>by cases k<;>exact False.elim hk
 |k::ks,_,f,x::xs,K,Φ,hk,ha=>by
  obtain⟨y,hp,hxy,hr,_⟩:=appK_cons hk
  obtain⟨ys,j,hs,hK,hΦ⟩:=join_says hr (all1_at ha y)
  exact⟨k.av y::ys,j,Says.cons hp hxy hs,hK,hΦ⟩
theorem loop_says:∀ {ks:List Kd} {β γ:Type} {f:Fun ks β} {m:Fun ks γ} {xs:List AV} {K:β->Prop} {K':γ->Prop} {Φ:List AV->β->γ->Prop},appK ks f xs K->appK ks m xs K'->all2 ks f m Φ->∃ ys i u,Says xs ys/\K i/\K' u/\Φ ys i u
 |[],_,_,f,m,[],_,_,_,hk,hm,ha=>⟨[],f,m,⟨rfl,λy hy=>(by simp at hy),λg us h=>h⟩,hk,hm,ha⟩
 |[],_,_,_,_,_::_,_,_,_,hk,_,_=>False.elim hk
 |k::ks,_,_,_,_,[],_,_,_,hk,_,_=>by cases k<;>exact False.elim hk
 |k::ks,_,_,f,m,x::xs,K,K',Φ,hk,hm,ha=>by
  obtain⟨y,hp,hxy,hr,hiff⟩:=appK_cons hk
  obtain⟨ys,i,u,hs,hK,hK',hΦ⟩:=loop_says hr ((hiff m K').1 hm) (all2_at ha y)
  exact⟨k.av y::ys,i,u,Says.cons hp hxy hs,hK,hK',hΦ⟩
theorem appK_any:∀ {ks:List Kd} {β γ:Type} {f:Fun ks β} {m:Fun ks γ} {xs:List AV} {K:β->Prop},appK ks f xs K->appK ks m xs (λ_=>True)
 |[],_,_,f,m,[],_,hk=>trivial
 |[],_,_,_,_,_::_,_,hk=>False.elim hk
 |k::ks,_,_,_,_,[],_,hk=>by cases k<;>exact False.elim hk
 |k::ks,_,_,f,m,x::xs,K,hk=>by
  obtain⟨y,hp,hxy,hr,hiff⟩:=appK_cons hk
  exact(hiff m _).2 (appK_any hr)
theorem forget_look(W:List Nat):∀ (l:List (Nat×AV)) (i:Nat),look (forgetL W l) i=if memN i W then .unk else(look l i).kill W
 |[],i=>by simp only[forgetL,look];split<;>rfl
 |(j,x)::l,i=>by
  simp only[forgetL]
  cases hm:memN j W with
  |true=>
   simp only[look,forget_look W l i]
   cases he:Nat.beq j i with
   |true=>have:=Nat.eq_of_beq_eq_true he;subst this;simp[hm]
   |false=>rfl
  |false=>
   simp only[look,forget_look W l i]
   cases he:Nat.beq j i with
   |true=>have:=Nat.eq_of_beq_eq_true he;subst this;simp[hm]
   |false=>rfl
theorem forget_get(W:List Nat)(A:Env)(i:Nat):getE (forgetE W A) i=if memN i W then .unk else(getE A i).kill W:=by
 show(match Nat.blt i A.n with|true=>look (forgetL W A.l) i|false=>.unk)=if memN i W then .unk else(match Nat.blt i A.n with|true=>look A.l i|false=>AV.unk).kill W
 cases Nat.blt i A.n with
 |true=>exact forget_look W A.l i
 |false=>show AV.unk=if memN i W=true then AV.unk else AV.unk;split<;>rfl
theorem kill_is{W:List Nat}{g g':Nat->Nat}(hg:∀ l,memN l W=false->g' l=g l){x:AV}{v:Value}(h:x.is g v):(x.kill W).is g' v:=by
 cases x with
 |loc l o=>
  show AV.is _ (match memN l W with|true=>.unk|false=>.loc l o) v
  cases hm:memN l W with
  |true=>trivial
  |false=>show v=_;rw[show v=.pointer (some ⟨g l,o,none⟩) from h,hg l hm]
 |sl l n=>
  show AV.is _ (match memN l W with|true=>.unk|false=>.sl l n) v
  cases hm:memN l W with
  |true=>trivial
  |false=>show v=_;rw[show v=.slice (some ⟨g l,0,none⟩) n n from h,hg l hm]
 |_=>exact h
theorem FO.forget{W:List Nat}{g':Nat->Nat}{A':Env}{a':Act}(F:FO g A a)(F':FO g' A' a')(hg:∀ l,memN l W=false->g' l=g l)(hu:∀ i,memN i W=false->a'.tmps.getD i undef=a.tmps.getD i undef)(hsz:a'.tmps.size=a.tmps.size):FO g' (forgetE W A) a':=by
 refine⟨F.len.trans hsz.symm,λi=>?_,F'.df⟩
 rw[forget_get]
 cases hm:memN i W with
 |true=>trivial
 |false=>
  rw[hu i hm]
  exact kill_is hg (F.at_ i)
theorem liveV_length(A:Env)(vs:List (Nat×Kd)):(liveV A vs).length=vs.length:=by
 induction vs with
 |nil=>rfl
 |cons v vs ih=>obtain⟨i,k⟩:=v;simp[liveV,ih]
theorem FO.putSame{B:Env}(F:FO g B a){i:Nat}{y:AV}(hy:y.is g (a.tmps.getD i undef)):FO g (putE B i y) a:=by
 refine⟨F.len,λj=>?_,F.df⟩
 rw[getE_put]
 by_cases hij:i=j/\i<B.n
 ·rw[if_pos hij,<- hij.1];exact hy
 ·rw[if_neg hij];exact F.at_ j
theorem FO.backV:∀ (vs:List (Nat×Kd)) (ys:List AV) {B:Env},FO g B a->(∀ j v,vs[j]?=some v->j<ys.length->(getN ys j).is g (a.tmps.getD v.1 undef))->FO g (Go.Eng.backV B vs ys) a
 |[],ys,B,F,_=>by simpa[Go.Eng.backV] using F
 |(i,k)::vs,[],B,F,_=>by simpa[Go.Eng.backV] using F
 |(i,k)::vs,y::ys,B,F,hh=>by
  simp only[Go.Eng.backV]
  refine FO.backV vs ys (F.putSame (hh 0 (i,k) rfl (by simp))) (λj v hv hj=>?_)
  exact hh (j+1) v (by simpa using hv) (by simpa using hj)
theorem liveV_step{A':Env}(F:FO g A' a):∀ vs:List (Nat×Kd),inStep g (liveV A' vs) (vs.map λv=>a.tmps.getD v.1 undef)
 |[]=>⟨rfl,λi hi=>by simp[liveV] at hi⟩
 |(i,k)::vs=>by
  obtain⟨h1,h2⟩:=liveV_step F vs
  refine⟨by simp[liveV_length],λj hj=>?_⟩
  cases j with
  |zero=>exact F.at_ i
  |succ j=>exact h2 j (by simpa[liveV] using hj)
theorem inStep.append{xs ys:List AV}{us ws:List Value}(h:inStep g xs us)(k:inStep g ys ws):inStep g (xs++ys) (us++ws):=by
 refine⟨by simp[h.1,k.1],λi hi=>?_⟩
 rw[getN_eq,List.getD_eq_getElem?_getD]
 by_cases hl:i<xs.length
 ·rw[List.getElem?_append_left hl,List.getElem?_append_left (by rw[h.1];exact hl)]
  have:=h.2 i hl
  rwa [getN_eq,List.getD_eq_getElem?_getD] at this
 ·rw[List.getElem?_append_right (by omega),List.getElem?_append_right (by rw[h.1];omega),h.1]
  have:=k.2 (i-xs.length) (by simp at hi;omega)
  rwa [getN_eq,List.getD_eq_getElem?_getD] at this
theorem inStep.take{xs:List AV}{us:List Value}(h:inStep g xs us)(n:Nat):inStep g (xs.take n) (us.take n):=by
 refine⟨by simp[h.1],λi hi=>?_⟩
 have h2:i<n/\i<xs.length:=by simp at hi;omega
 have:=h.2 i h2.2
 rw[getN_eq,List.getD_eq_getElem?_getD] at this ⊢
 rw[List.getElem?_take,List.getElem?_take]
 simpa[h2.1] using this
theorem inStep.drop{xs:List AV}{us:List Value}(h:inStep g xs us)(n:Nat):inStep g (xs.drop n) (us.drop n):=by
 refine⟨by simp[h.1],λi hi=>?_⟩
 have h2:n+i<xs.length:=by simp at hi;omega
 have:=h.2 (n+i) h2
 rw[getN_eq,List.getD_eq_getElem?_getD] at this ⊢
 rw[List.getElem?_drop,List.getElem?_drop]
 exact this
theorem liveL_step{L':List LE}(H:HO fr g L' h w):∀ (ls:List (Nat×List Kd)),okL L' ls=true->∃ us,inStep g (liveL L' ls) us /\
  (∀ zs,inStep g zs us->(∀ z∈zs,z.plain=true)->∀ (M:List LE),(∀ e∈M,¬ e.l∈ls.map (·.1)->∃ cs,LEok fr g h w e cs)->M.Pairwise (λe e'=>e.l≠e'.l/\g e.l≠g e'.l) ->
   (∀ e∈M,∀ e'∈L',e'.l=e.l->e'.t=e.t)->distinct (ls.map (·.1))=true->(∀ e∈backL M ls zs,∃ cs,LEok fr g h w e cs)/\(backL M ls zs).Pairwise (λe e'=>e.l≠e'.l/\g e.l≠g e'.l))
 |[],_=>⟨[],⟨rfl,λi hi=>by simp[liveL] at hi⟩,λzs _ _ M hM hu _ _=>⟨λe he=>hM e (by simpa[backL] using he) (by simp),by simpa[backL] using hu⟩⟩
 |(l,ks)::ls,hok=>by
  simp only[okL,Bool.and_eq_true] at hok
  obtain⟨hl,hok⟩:=hok
  cases hf:findL L' l with
  |none=>rw[hf] at hl;cases hl
  |some e=>
   rw[hf] at hl
   simp only[Bool.and_eq_true,beq_iff_eq] at hl
   obtain⟨hm,hcl⟩:=hl
   obtain⟨hmem,rfl⟩:=findL_mem hf
   obtain⟨cs,q⟩:=H.ll e hmem
   obtain⟨us,hus,hback⟩:=liveL_step H ls hok
   have hcs:inStep g e.cs cs.toList:=by
    refine⟨by simp[q.sz],λi hi=>?_⟩
    have:=q.is_ i hi
    simpa[List.getD_eq_getElem?_getD] using this
   refine⟨cs.toList++us,?_,?_⟩
   ·simp only[liveL,hf]
    exact inStep.append hcs hus
   ·intro zs hzs hzp M hM hu ht hd
    simp only[map_cons,distinct,Bool.and_eq_true,Bool.not_eq_true'] at hd
    obtain⟨hdl,hd⟩:=hd
    have hnl:¬ e.l∈ls.map (·.1):=λhin=>by rw[memN_iff.2 hin] at hdl;cases hdl
    simp only[backL]
    have hz1:inStep g (zs.take ks.length) cs.toList:=by
     have:=inStep.take hzs ks.length
     rwa [List.take_left' (by simp[q.sz,hcl])] at this
    have hz2:inStep g (zs.drop ks.length) us:=by
     have:=inStep.drop hzs ks.length
     rwa [List.drop_left' (by simp[q.sz,hcl])] at this
    refine hback _ hz2 (λz hz=>hzp z (List.mem_of_mem_drop hz)) _ (λx hx hxn=>?_) (updL_uq hu) (λx hx e' he' hel=>?_) hd
    ·rcases mem_updL hu hx with⟨h1,h2⟩|⟨e0,h1,h2,rfl⟩
     ·exact hM x h1 (by simp only[map_cons,mem_cons,not_or];exact⟨h2,hxn⟩)
     ·have het:e.t=e0.t:=ht e0 h1 e hmem h2.symm
      refine⟨cs,⟨by rw[h2,<- het];exact q.at_,by have:=hz1.1;simp at this ⊢;omega,λi hi=>?_,λz hz=>hzp z (List.mem_of_mem_take hz),by rw[h2];exact q.nh,by rw[h2];exact q.nf⟩⟩
      have:=hz1.2 i hi
      simpa[List.getD_eq_getElem?_getD] using this
    ·rcases mem_updL hu hx with⟨h1,h2⟩|⟨e0,h1,h2,rfl⟩
     ·exact ht x h1 e' he' hel
     ·exact ht e0 h1 e' he' hel
theorem freezeL_mem{ls:List (Nat×List Kd)}{L:List LE}{e:LE}(he:e∈L)(hn:e.m=false\/¬ e.l∈ls.map (·.1)):(⟨e.l,false,e.t,e.cs⟩:LE)∈freezeL ls L:=by
 induction L with
 |nil=>cases he
 |cons x L ih=>
  simp only[freezeL]
  rcases mem_cons.1 he with rfl|he
  ·have:(e.m && memN e.l (ls.map (·.1)))=false:=by
    rcases hn with h1|h1
    ·rw[h1];rfl
    ·cases hm:memN e.l (ls.map (·.1)) with
     |true=>exact absurd (memN_iff.1 hm) h1
     |false=>simp
   rw[this]
   exact mem_cons_self
  ·exact mem_cons_of_mem _ (ih he)
theorem freezeL_of{ls:List (Nat×List Kd)}{L:List LE}{x:LE}(hx:x∈freezeL ls L):∃ e∈L,e.l=x.l/\e.t=x.t/\e.cs=x.cs/\(x.m=true->e.m=true):=by
 induction L with
 |nil=>simp[freezeL] at hx
 |cons y L ih=>
  simp only[freezeL] at hx
  rcases mem_cons.1 hx with rfl|hx
  ·exact⟨y,mem_cons_self,rfl,rfl,rfl,λh=>by simp at h;exact h.1⟩
  ·obtain⟨e,h1,h2⟩:=ih hx
   exact⟨e,mem_cons_of_mem _ h1,h2⟩
theorem freezeL_ls(ls:List (Nat×List Kd))(L:List LE):(freezeL ls L).map (·.l)=L.map (·.l):=by
 induction L with
 |nil=>rfl
 |cons y L ih=>simp[freezeL,ih]
theorem pw_of_ls{g:Nat->Nat}{M L:List LE}(hl:M.map (·.l)=L.map (·.l))(hu:L.Pairwise (λe e'=>e.l≠e'.l/\g e.l≠g e'.l)):M.Pairwise (λe e'=>e.l≠e'.l/\g e.l≠g e'.l):=by
 have h1:(L.map (·.l)).Pairwise (λa b=>a≠b/\g a≠g b):=List.pairwise_map.2 hu
 rw[<- hl] at h1
 exact List.pairwise_map.1 h1
theorem LEok.same{e e':LE}{cs:Array Value}(q:LEok fr g h w e cs)(hl:e.l=e'.l)(ht:e.t=e'.t)(hc:e.cs=e'.cs):LEok fr g h w e' cs:=
 ⟨by rw[<- hl,<- ht];exact q.at_,by rw[<- hc];exact q.sz,by rw[<- hc];exact q.is_,by rw[<- hc];exact q.pl,by rw[<- hl];exact q.nh,by rw[<- hl];exact q.nf⟩
theorem HO.freeze(ls:List (Nat×List Kd))(H:HO fr g L h w):HO fr g (freezeL ls L) h w:=by
 refine⟨H.hh,H.ff,H.dj,λx hx=>?_,pw_of_ls (freezeL_ls ls L) H.uq⟩
 obtain⟨e,he,h1,h2,h3,_⟩:=freezeL_of hx
 obtain⟨cs,q⟩:=H.ll e he
 exact⟨cs,q.same h1 h2 h3⟩
theorem backL_keep:∀ (ls:List (Nat×List Kd)) (zs:List AV) (M:List LE) (e:LE),e∈M->¬ e.l∈ls.map (·.1)->e∈backL M ls zs
 |[],_,_,e,he,_=>he
 |(l,ks)::ls,zs,M,e,he,hn=>by
  simp only[map_cons,mem_cons,not_or] at hn
  exact backL_keep ls _ _ e (updL_other he hn.1) hn.2
theorem okL_named:∀ {ls:List (Nat×List Kd)} {L:List LE},okL L ls=true->∀ l∈ls.map (·.1),∃ e,findL L l=some e/\e.m=true
 |[],_,_,l,hl=>by cases hl
 |(l0,ks)::ls,L,hok,l,hl=>by
  simp only[okL,Bool.and_eq_true] at hok
  rcases mem_cons.1 hl with hl0|hl
  ·have hl0:l=l0:=hl0
   subst hl0
   cases hf:findL L l with
   |none=>rw[hf] at hok;cases hok.1
   |some e=>rw[hf] at hok;simp only[Bool.and_eq_true] at hok;exact⟨e,rfl,hok.1.1⟩
  ·exact okL_named hok.2 l hl
theorem sameT_spec:∀ {ls:List (Nat×List Kd)} {L L':List LE},sameT L L' ls=true->∀ l∈ls.map (·.1),∀ e e',findL L l=some e->findL L' l=some e'->e.t=e'.t
 |[],_,_,_,l,hl=>by cases hl
 |(l0,ks)::ls,L,L',hs,l,hl=>by
  simp only[sameT,Bool.and_eq_true] at hs
  intro e e' he he'
  rcases mem_cons.1 hl with rfl|hl
  ·rw[he,he'] at hs;simpa using hs.1
  ·exact sameT_spec hs.2 l hl e e' he he'
theorem findL_of_mem{g:Nat->Nat}{L:List LE}(hu:L.Pairwise (λe e'=>e.l≠e'.l/\g e.l≠g e'.l)){e:LE}(he:e∈L):findL L e.l=some e:=by
 cases hf:findL L e.l with
 |none=>exact absurd rfl (findL_none hf e he)
 |some x=>
  obtain⟨h1,h2⟩:=findL_mem hf
  rw[uq_eq hu x h1 e he h2]
theorem rejoin{W:List Nat}{vs:List (Nat×Kd)}{ls:List (Nat×List Kd)}{g':Nat->Nat}{A':Env}{L' M:List LE}{h':Hp}{a':Act}{w':World}{ys:List AV}
  (F:FO g A a) (H:HO fr g L h w) (F':FO g' A' a') (H':HO fr g' L' h' w') (T:Tr W g (freezeL ls L) a w g' L' a' w')
  (hok:okL L ls=true) (hok':okL L' ls=true) (hst:sameT L L' ls=true) (hd:distinct (ls.map (·.1))=true)
  (hM:M=L\/M=freezeL ls L) (hs:Says (liveV A' vs++liveL L' ls) ys) :
  FO g' (Go.Eng.backV (Go.Eng.forgetE W A) vs ys) a'/\HO fr g' (backL M ls (ys.drop vs.length)) h' w'/\Tr W g M a w g' (backL M ls (ys.drop vs.length)) a' w':=by
 obtain⟨us,hus,hback⟩:=liveL_step H' ls hok'
 have hall:=hs.2.2 g' _ (inStep.append (liveV_step F' vs) hus)
 have hlv:(vs.map λv=>a'.tmps.getD v.1 undef).length=vs.length:=by simp
 have hMe:∀ e∈M,∃ e0∈L,e0.l=e.l/\e0.t=e.t/\e0.cs=e.cs/\(e.m=true->e0.m=true):=by
  rcases hM with rfl|rfl
  ·exact λe he=>⟨e,he,rfl,rfl,rfl,λh=>h⟩
  ·exact λe he=>freezeL_of he
 have hMl:M.map (·.l)=L.map (·.l):=by
  rcases hM with rfl|rfl
  ·rfl
  ·exact freezeL_ls ls L
 have named_m:∀ e0∈L,e0.l∈ls.map (·.1)->e0.m=true:=by
  intro e0 he0 hn
  obtain⟨x,hf,hm⟩:=okL_named hok _ hn
  have:=findL_of_mem H.uq he0
  rw[hf] at this
  cases this
  exact hm
 have kept:∀ e0∈L,¬ e0.l∈ls.map (·.1)->(⟨e0.l,false,e0.t,e0.cs⟩:LE)∈L':=λe0 he0 hn=>T.kp _ (freezeL_mem he0 (.inr hn)) rfl
 have inL':∀ e0∈L,∃ e'∈L',e'.l=e0.l:=by
  intro e0 he0
  by_cases hn:e0.l∈ls.map (·.1)
  ·obtain⟨x,hf,_⟩:=okL_named hok' _ hn
   exact⟨x,(findL_mem hf).1,(findL_mem hf).2⟩
  ·exact⟨_,kept e0 he0 hn,rfl⟩
 have huM:M.Pairwise (λe e'=>e.l≠e'.l/\g' e.l≠g' e'.l):=by
  refine pw_of_ls hMl ?_
  refine H.uq.imp_of_mem ?_
  intro x y hx hy hxy
  refine⟨hxy.1,?_⟩
  obtain⟨x',hx',hxl⟩:=inL' x hx
  obtain⟨y',hy',hyl⟩:=inL' y hy
  have:=uq_ne H'.uq x' hx' y' hy' (by rw[hxl,hyl];exact hxy.1)
  rwa [hxl,hyl] at this
 obtain⟨hll,huq⟩:=hback (ys.drop vs.length) (by have:=inStep.drop hall vs.length;rwa [List.drop_left' (by simp[liveV_length])] at this) (λz hz=>hs.2.1 z (List.mem_of_mem_drop hz)) M
  (λe he hn=>by
   obtain⟨e0,he0,h1,h2,h3,_⟩:=hMe e he
   obtain⟨cs,q⟩:=H'.ll _ (kept e0 he0 (by rw[h1];exact hn))
   exact⟨cs,q.same h1 h2 h3⟩) huM
  (λe he e' he' hel=>by
   obtain⟨e0,he0,h1,h2,h3,_⟩:=hMe e he
   by_cases hn:e.l∈ls.map (·.1)
   ·have f1:=findL_of_mem H.uq he0
    have f2:=findL_of_mem H'.uq he'
    rw[h1] at f1
    rw[hel] at f2
    rw[<- h2,sameT_spec hst _ hn _ _ f1 f2]
   ·have hk:=kept e0 he0 (by rw[h1];exact hn)
    have:=uq_eq H'.uq e' he' _ hk (by rw[hel,h1])
    rw[this,h2]) hd
 refine⟨FO.backV vs ys (FO.forget F F' T.gg T.un T.sz) (λj v hv hj=>?_),⟨H'.hh,H'.ff,H'.dj,hll,huq⟩,⟨T.wr,λe he hm=>?_,T.gg,T.un,T.sz⟩⟩
 ·have:=hall.2 j hj
  rw[List.getD_eq_getElem?_getD,List.getElem?_append_left (by rw[hlv];exact(List.getElem?_eq_some_iff.1 hv).1)] at this
  simpa[hv] using this
 ·refine backL_keep ls _ M e he (λhn=>?_)
  rcases hM with rfl|rfl
  ·rw[named_m e he hn] at hm;cases hm
  ·have:∀ (L:List LE),(∀ e0∈L,e0.l∈ls.map (·.1)->e0.m=true)->∀ e∈freezeL ls L,e.l∈ls.map (·.1)->e.m=true:=by
    intro L hL
    induction L with
    |nil=>intro e he;simp[freezeL] at he
    |cons y L ih=>
     intro e he hn
     simp only[freezeL] at he
     rcases mem_cons.1 he with rfl|he
     ·simp only at hn ⊢
      rw[hL y mem_cons_self hn,memN_iff.2 hn];rfl
     ·exact ih (λe0 he0=>hL e0 (mem_cons_of_mem _ he0)) e he hn
   rw[this L named_m e he hn] at hm;cases hm
theorem thaw_ls(L0 L:List LE):(thaw L0 L).map (·.l)=L.map (·.l):=by
 induction L with
 |nil=>rfl
 |cons y L ih=>
  simp only[thaw,map_cons,ih]
  congr 1
  cases findL L0 y.l<;>rfl
theorem thaw_of{L0 L:List LE}{x:LE}(hx:x∈thaw L0 L):∃ e∈L,e.l=x.l/\e.t=x.t/\e.cs=x.cs:=by
 induction L with
 |nil=>simp[thaw] at hx
 |cons y L ih=>
  simp only[thaw] at hx
  rcases mem_cons.1 hx with rfl|hx
  ·refine⟨y,mem_cons_self,?_⟩
   cases findL L0 y.l<;>exact⟨rfl,rfl,rfl⟩
  ·obtain⟨e,h1,h2⟩:=ih hx
   exact⟨e,mem_cons_of_mem _ h1,h2⟩
theorem thaw_mem{L0 L:List LE}{e0 e:LE}(he:e∈L)(hf:findL L0 e.l=some e0):(⟨e.l,e0.m,e.t,e.cs⟩:LE)∈thaw L0 L:=by
 induction L with
 |nil=>cases he
 |cons y L ih=>
  simp only[thaw]
  rcases mem_cons.1 he with rfl|he
  ·rw[hf];exact mem_cons_self
  ·exact mem_cons_of_mem _ (ih he)
theorem HO.thaw(L0:List LE)(H:HO fr g L h w):HO fr g (Go.Eng.thaw L0 L) h w:=by
 refine⟨H.hh,H.ff,H.dj,λx hx=>?_,pw_of_ls (thaw_ls L0 L) H.uq⟩
 obtain⟨e,he,h1,h2,h3⟩:=thaw_of hx
 obtain⟨cs,q⟩:=H.ll e he
 exact⟨cs,q.same h1 h2 h3⟩
theorem Kp.thaw{ls:List (Nat×List Kd)}{L':List LE}(H:HO fr g L h w)(hk:Kp (freezeL ls L) L'):Kp L (Go.Eng.thaw L L'):=by
 intro e he hm
 have h1:(⟨e.l,false,e.t,e.cs⟩:LE)∈L':=hk _ (freezeL_mem he (.inl hm)) rfl
 have h2:=thaw_mem (L0:=L) (e0:=e) h1 (findL_of_mem H.uq he)
 exact h2
end
end Go.Eng
end
