/-
  JOINED.
-/
import Derived.Test.YtblghgacokoklaaDoorK6
import Derived.Test.YtblghgacokoklaaDoorK4
import Derived.Test.YtblghgacokoklaaDoorK2
import Derived.Test.YtblghgacokoklaaDoorProg
import Derived.Test.YtblghgacokoklaaDoorK3
set_option linter.unusedSimpArgs false
set_option linter.unusedVariables false
set_option maxRecDepth 100000
open Go.IntKind (wrap)
open List (length_append length_map length_cons eq_nil_of_length_eq_zero mem_of_getElem? mem_cons_self getElem?_eq_getElem getElem?_map map_append length_singleton map_cons mem_map_of_mem length_nil mem_cons mem_append append_nil)
section
namespace Go.Eng.YtblghgacokoklaaDoor
def VerR(h:Hp)(vb:Nat)(lv:Lv):Prop:=∃ (ls:Sl) (xs:List (Sl×List Tab)),h vb=some (.cells ⟨[.slice ls.a ls.n ls.c]⟩ 113 (0,0))/\h.row ls.a (ls.n*1) (slV (xs.map (·.1)))/\(∀ x∈xs,h.row x.1.a (x.1.n*6) (tabV x.2))/\xs.map (·.2)=lv
theorem VerR.keep{h h':Hp}{vb:Nat}{lv:Lv}(k:Keep h h')(V:VerR h vb lv):VerR h' vb lv:=by
 obtain⟨ls,xs,h1,h2,h3,h4⟩:=V
 exact⟨ls,xs,k _ _ h1,k.row h2,λx hx=>k.row (h3 x hx),h4⟩
structure Ver(g h:Hp)(vb:Nat)(ls:Sl)(xs:List (Sl×List Tab)):Prop where
 L:Lvs g h ls xs
 nv:g vb=none
 v:h vb=some (.cells ⟨[.slice ls.a ls.n ls.c]⟩ 113 (0,0))
theorem Ver.r{g h:Hp}{vb:Nat}{ls:Sl}{xs:List (Sl×List Tab)}(V:Ver g h vb ls xs):VerR h vb (xs.map (·.2)):=⟨ls,xs,V.v,V.L.l.row,λx hx=>(V.L.t x hx).row,rfl⟩
theorem Ver.keep{g h h':Hp}{vb:Nat}{ls:Sl}{xs:List (Sl×List Tab)}(V:Ver g h vb ls xs)(K:Keep h h'):Ver g h' vb ls xs:=⟨V.L.keep K,V.nv,K _ _ V.v⟩
theorem Ver.ck{κ:List Nat}{g h h':Hp}{vb:Nat}{ls:Sl}{xs:List (Sl×List Tab)}(V:Ver g h vb ls xs)(C:Ck κ h h')(K:Keep g h')(a:126∉κ)(b:108∉κ)(c:115∉κ):Ver g h' vb ls xs:=⟨V.L.ck C K a b,V.nv,C.keep _ _ V.v c⟩
theorem rows_rd{h:Hp}{ls:Sl}{xs:List (Sl×List Tab)}(hr:h.row ls.a (ls.n*1) (slV (xs.map (·.1)))){i:Nat}{x:Sl×List Tab}(hx:xs[i]?=some x):ls.n=xs.length/\∃ b o,ls.a=some ⟨b,o,none⟩/\h.at b (o+i)=some (.slice x.1.a x.1.n x.1.c):=by
 have hi:i<xs.length:=(List.getElem?_eq_some_iff.1 hx).1
 have hn:ls.n=xs.length:=by have:=hr.1;rw[slV_length,length_map] at this;omega
 obtain⟨b,o,ha,hat⟩:=row_get hr (i:=i) (by omega)
 refine⟨hn,b,o,ha,?_⟩
 rw[hat i (by omega)]
 unfold slV;rw[getElem?_map,getElem?_map,hx];rfl
theorem upd_new{h:Hp}{b t n c:Nat}{x:Array Value}(hb:h b=none)(sz:Nat):Upd h (h.new b (.cells x t (0,0))) ⟨none,0,0⟩ ⟨some ⟨b,0,none⟩,n,c⟩:=
 ⟨λk y _ e=>Keep.new hb _ k y e,.inr ⟨b,rfl,hb⟩,(Keep.new hb _).dom⟩
theorem rep_get{α:Type}{ys:List α}{n:Nat}{z:α}(hn:0<n):(ys++List.replicate n z)[ys.length]?=some z:=by
 rw[List.getElem?_append_right (Nat.le_refl _),Nat.sub_self,List.getElem?_replicate,if_pos hn]
theorem rep_set{α:Type}{ys:List α}{n:Nat}{z a:α}:(ys++List.replicate (n+1) z).set ys.length a=(ys++[a])++List.replicate n z:=by
 rw[List.set_append_right _ _ (Nat.le_refl _),Nat.sub_self,List.replicate_succ]
 simp
theorem copied_ver{h:Hp}{vb:Nat}{lv:Lv}{Q:Value->Hp->Prop}(V:VerR h vb lv)(h5:lv.length<=5)(hs:totL lv<=5000000)
  (hQ:∀ h' vb' ls xs,Ver h h' vb' ls xs->xs.map (·.2)=lv->Q (.pointer (some ⟨vb',0,none⟩)) h'):F70.T (some ⟨vb,0,none⟩) h Q:=by
 obtain⟨ls,xs,hv,hr,ht,rfl⟩:=V
 rw[length_map] at h5
 have hn:ls.n=xs.length:=by have:=hr.1;rw[slV_length,length_map] at this;omega
 unfold F70.T
 simp only[Int.toNat_natCast]
 refine⟨vb,0,rfl,ls,at_of hv 0,⟨by omega,by omega,by omega⟩,λb1 hb1=>?_⟩
 have K1:=Keep.new hb1 (.cells (Builtin.zeroCells (List.toArray [.slice none 0 0]) ls.n) 124 (0,0))
 refine⟨vb,0,rfl,ls,at_of (K1 _ _ hv) 0,λn h1=>∃ ys:List (Sl×List Tab),n=(ys.length:Int)/\ys.map (·.2)=(xs.map (·.2)).take ys.length/\ys.length<=xs.length/\Lvs h h1 ⟨some ⟨b1,0,none⟩,ls.n,ls.n⟩ (ys++List.replicate (xs.length-ys.length) (⟨none,0,0⟩,[])),λn _=>xs.length-n.toNat,⟨[],rfl,rfl,Nat.zero_le _,K1,.inr ⟨b1,rfl,hb1⟩,?_,?_,?_,?_⟩,?_⟩
 ·have B:=buf_make h b1 ls.n 124 [.slice none 0 0] (by decide)
  rw[zerosV_one] at B
  have e:slV ((([]:List (Sl×List Tab))++List.replicate (xs.length-([]:List (Sl×List Tab)).length) ((⟨none,0,0⟩:Sl),([]:List Tab))).map (·.1))=List.replicate ls.n (.slice none 0 0):=by
   rw[hn];simp[slV]
  rw[e];exact B
 ·intro x hx
  simp only[List.nil_append,List.mem_replicate] at hx
  rw[hx.2];exact Buf.nil _ _ _
 ·intro x hx
  simp only[List.nil_append,List.mem_replicate] at hx
  rw[hx.2];exact .inl rfl
 ·intro i j x y hx _ _
  have:=mem_of_getElem? hx
  simp only[List.nil_append,List.mem_replicate] at this
  rw[this.2];exact off_nil (.inl rfl)
 rintro n h1 ⟨ys,rfl,he,hl,L⟩
 refine⟨λhlt=>?_,λhge=>?_⟩
 ·have hlt':ys.length<xs.length:=by omega
  have hx:=getElem?_eq_getElem hlt'
  generalize xs[ys.length]=x at hx
  have hxm:=mem_of_getElem? hx
  obtain⟨_,b3,o2,ha3,hat3⟩:=rows_rd (L.k.row hr) hx
  have htx:=ht x hxm
  have hxn:x.1.n=x.2.length:=by have:=htx.1;rw[tabV_len] at this;omega
  have hxs:x.2.length<=totL (xs.map (·.2)):=totL_mem (mem_map_of_mem hxm)
  refine⟨b3,o2,ha3,⟨by omega,by omega⟩,x.1,hat3,⟨by omega,by omega,by omega⟩,λb4 hb4=>?_⟩
  have B4:=buf_make h1 b4 x.1.n 106 [.int .u64 0,.int .i64 0,.int .i64 0,.int .i64 0,.string ⟨#[]⟩,.string ⟨#[]⟩] (by decide)
  rw[zeros_tab] at B4
  have U4:Upd h1 _ ⟨none,0,0⟩ ⟨some ⟨b4,0,none⟩,x.1.n,x.1.n⟩:=upd_new (t:=106) (x:=Builtin.zeroCells (List.toArray [.int .u64 0,.int .i64 0,.int .i64 0,.int .i64 0,.string ⟨#[]⟩,.string ⟨#[]⟩]) x.1.n) hb4 6
  have hz:(ys++List.replicate (xs.length-ys.length) ((⟨none,0,0⟩:Sl),([]:List Tab)))[ys.length]?=some (⟨none,0,0⟩,[]):=rep_get (by omega)
  obtain⟨b5,ha5,_,hc5,L5,C5⟩:=L.put hz U4 B4
  have hb15:b1=b5:=by simpa using ha5
  subst hb15
  obtain⟨k,hk⟩:∃ k,xs.length-ys.length=k+1:=⟨xs.length-ys.length-1,by omega⟩
  rw[hk,rep_set] at L5
  have hz5:(ys++[((⟨some ⟨b4,0,none⟩,x.1.n,x.1.n⟩:Sl),List.replicate x.1.n zT)]++List.replicate k ((⟨none,0,0⟩:Sl),([]:List Tab)))[ys.length]?=some (⟨some ⟨b4,0,none⟩,x.1.n,x.1.n⟩,List.replicate x.1.n zT):=by
   rw[List.append_assoc,List.getElem?_append_right (Nat.le_refl _),Nat.sub_self];rfl
  obtain⟨b6,ha6,hat6⟩:=L5.rd hz5
  have hb16:b1=b6:=by simpa using ha6
  subst hb16
  refine⟨b1,0,rfl,⟨by omega,by omega⟩,by rw[Nat.zero_add];exact hc5,b1,0,rfl,⟨by omega,by omega⟩,⟨some ⟨b4,0,none⟩,x.1.n,x.1.n⟩,by rw[Nat.zero_add];exact hat6,tabV x.2,?_⟩
  simp only[Nat.zero_add]
  have hT5:=L5.t _ (mem_of_getElem? hz5)
  have hmin:Nat.min x.1.n x.1.n=x.1.n:=Nat.min_self _
  obtain⟨hc6,U6,T6⟩:=bufWr' (A:=[]) (U:=tabV (List.replicate x.1.n zT)) (V:=tabV x.2) (B:=[]) (b:=b4) (by rw[List.nil_append,append_nil];exact hT5) (by rw[tabV_len,tabV_len,List.length_replicate,hxn]) rfl
  simp only[List.nil_append,append_nil,length_nil] at hc6 U6 T6
  obtain⟨L6,C6⟩:=L5.fill hz5 U6 T6
  refine⟨by rw[hmin];exact L5.k.row htx,tab_one _,hc6,⟨ys++[(⟨some ⟨b4,0,none⟩,x.1.n,x.1.n⟩,x.2)],?_,?_,?_,?_⟩,?_⟩
  ·rw[next_i (n:=100) (by omega) (by omega)];simp
  ·rw[map_append,he,length_append,length_singleton,List.take_succ_eq_append_getElem (by rw[length_map];exact hlt')]
   rw[List.getElem_map]
   rw[getElem?_eq_getElem hlt'] at hx
   simp only[Option.some.injEq] at hx
   rw[hx];rfl
  ·rw[length_append,length_singleton];omega
  ·have e1:xs.length-(ys++[((⟨some ⟨b4,0,none⟩,x.1.n,x.1.n⟩:Sl),x.2)]).length=k:=by rw[length_append,length_singleton];omega
   rw[e1]
   have e2:(ys++[((⟨some ⟨b4,0,none⟩,x.1.n,x.1.n⟩:Sl),List.replicate x.1.n zT)]++List.replicate k ((⟨none,0,0⟩:Sl),([]:List Tab))).set ys.length (⟨some ⟨b4,0,none⟩,x.1.n,x.1.n⟩,x.2)=ys++[((⟨some ⟨b4,0,none⟩,x.1.n,x.1.n⟩:Sl),x.2)]++List.replicate k ((⟨none,0,0⟩:Sl),([]:List Tab)):=by
    rw[List.append_assoc,List.set_append_right _ _ (Nat.le_refl _),Nat.sub_self];simp
   rw[<- e2]
   exact L6
  ·rw[next_i (n:=100) (by omega) (by omega)];omega
 ·have hl2:ys.length=xs.length:=by omega
  intro b7 hb7
  have K7:=Keep.new hb7 (.cells ⟨[.slice (some ⟨b1,0,none⟩) ls.n ls.n]⟩ 113 (0,0))
  refine hQ _ b7 ⟨some ⟨b1,0,none⟩,ls.n,ls.n⟩ ys ⟨?_,L.k.dom b7 hb7,new_at _ _ _⟩ ?_
  ·rw[hl2,Nat.sub_self,List.replicate_zero,append_nil] at L
   exact L.keep K7
  ·rw[he,hl2,<- length_map (f:=λx:Sl×List Tab=>x.2),List.take_length]
theorem has_spec{h:Hp}{vb:Nat}{ls:Sl}{n:Int}{Q:Value->Hp->Prop}(hv:h vb=some (.cells ⟨[.slice ls.a ls.n ls.c]⟩ 113 (0,0)))(hT:0<=n->n<(ls.n:Int)->Q (.bool true) h)(hF:n<0\/(ls.n:Int)<=n->Q (.bool false) h):F104.T (some ⟨vb,0,none⟩) n h Q:=
 ⟨λh0=>⟨vb,0,rfl,ls,at_of hv 0,λh1=>hT h0 h1,λh1=>hF (.inr (by omega))⟩,λh0=>hF (.inl (by omega))⟩
theorem index_spec{h:Hp}{l:Sl}{ts:List Tab}{b:Nat}{num:Int}{Q:Value->Hp->Prop}(hr:h.row l.a (l.n*6) (tabV ts))(hn:l.n<=5000000)(hb:h.at b 1=some (.int .u64 num))
  (h1:∀ P x R,ts=P++x::R->(∀ y∈P,y.num≠num)->x.num=num->Q (.int .i64 (P.length:Int)) h) (h2:(∀ y∈ts,y.num≠num)->Q (.int .i64 (-1)) h):F105.T l b 0 h Q:=by
 have hl:l.n=ts.length:=by have:=hr.1;rw[tabV_len] at this;omega
 refine⟨λn g=>g=h/\∃ P R,ts=P++R/\n=(P.length:Int)/\∀ y∈P,y.num≠num,λn _=>ts.length-n.toNat,⟨rfl,[],ts,rfl,rfl,λy hy=>by cases hy⟩,?_⟩
 rintro n g ⟨rfl,P,R,rfl,rfl,hP⟩
 rw[length_append] at hl
 refine⟨λhlt=>?_,λhge=>?_⟩
 ·rcases R with _|⟨x,R⟩
  ·exact absurd hlt (by simp at hl;omega)
  refine tab_rd hr rfl λb1 o1=>⟨num,hb,λhe=>⟨true,rfl,λ_=>h1 P x R rfl hP he,λh0=>(by cases h0)⟩,λhne=>⟨false,rfl,λh0=>(by cases h0),λ_=>?_⟩⟩
  rw[length_cons] at hl
  rw[next_i (n:=5100000) (by omega) (by omega)]
  refine⟨⟨rfl,P++[x],R,by simp,by simp,λy hy=>?_⟩,by dsimp only;rw[length_append,length_cons];omega⟩
  rcases mem_append.1 hy with hy|hy
  ·exact hP y hy
  ·rw[List.mem_singleton] at hy;subst hy;exact hne
 ·have:R=[]:=eq_nil_of_length_eq_zero (by omega)
  subst this
  exact h2 (by simpa using hP)
theorem delete_spec{h:Hp}{l:Sl}{P R:List Tab}{x:Tab}{n n1:Int}{Q:Value->Hp->Prop}(B:TB h l (P++x::R))(hn:l.n<=5000000)(e:n=(P.length:Int))(e1:n1=((P.length+1:Nat):Int))
  (hQ:∀ h' l',TB h' l' (P++R)->Upd h h' l l'->Q (.slice l'.a l'.n l'.c) h'):F107.T l n n1 h Q:=by
 subst e e1
 have hl:=B.n
 have hcap:=Buf.cap B
 rw[length_append,length_cons] at hl
 obtain⟨b,hb⟩:=buf_b B (by rw[tabV_len,length_append,length_cons];omega)
 have hcb:=cut_back (k:=P.length+1) (Buf.row B) (by omega) hcap
 have hdrop:(tabV (P++x::R)).drop ((P.length+1)*6)=tabV R:=by
  rw[tabV_app,tabV_cons,<- List.append_assoc]
  exact List.drop_left' (by rw[length_append,tabV_len];show P.length*6+6=_;omega)
 rw[hdrop] at hcb
 have hbn:(Sl.cut l 6 ((P.length+1:Nat):Int) (l.n:Int) (l.c:Int)).n=R.length:=by unfold Sl.cut;dsimp only;omega
 have hfn:(Sl.cut l 6 0 (P.length:Int) (l.c:Int)).n=P.length:=by unfold Sl.cut;dsimp only;omega
 have hfc:(Sl.cut l 6 0 (P.length:Int) (l.c:Int)).c=l.c:=by unfold Sl.cut;dsimp only;omega
 refine⟨⟨by omega,by omega,by omega,by omega⟩,λhe=>absurd he (by omega),λ_=>⟨⟨by omega,by omega,by omega,by omega⟩,⟨by omega,by omega,by omega,by omega⟩,tabV R,hcb,tab_one _,?_⟩⟩
 unfold appendD
 rw[hbn,hfn,hfc,cut_a,hb]
 have hadd:(some (⟨b,0,none⟩:Addr)).map (·.add (P.length*6))=some ⟨b,P.length*6,none⟩:=by simp[addr_add]
 rw[hadd]
 refine⟨by omega,λ_=>?_,λhlt=>absurd hlt (by omega)⟩
 -- the tail over what goes
 obtain⟨U2,B2,hUB,hUl⟩:=cut_at (l:=x.cells++tabV R) (k:=R.length*6) (by rw[length_append,tabV_len];omega)
 have hB2:B2.length=6:=by
  have:=congrArg List.length hUB
  rw[length_append,length_append,tabV_len] at this
  have h6:x.cells.length=6:=rfl
  omega
 have Bf:Buf h l 6 106 (tabV P++(U2++B2)):=by rw[<- hUB,<- tabV_cons,<- tabV_app];exact B
 obtain⟨c1,Up1,W1⟩:=bufWr' (V:=tabV R) Bf (by rw[tabV_len];exact hUl) hb
 rw[tabV_len] at c1 Up1 W1
 refine⟨c1,⟨by dsimp only;omega,by dsimp only;omega,by dsimp only;omega,by dsimp only;omega⟩,?_⟩
 have hcn:(Sl.cut ⟨some ⟨b,0,none⟩,P.length+R.length,l.c⟩ 6 ((P.length+R.length:Nat):Int) (l.n:Int) (l.c:Int)).n=1:=by unfold Sl.cut;dsimp only;omega
 have hca:(Sl.cut ⟨some ⟨b,0,none⟩,P.length+R.length,l.c⟩ 6 ((P.length+R.length:Nat):Int) (l.n:Int) (l.c:Int)).a=some ⟨b,(tabV P++tabV R).length,none⟩:=by
  unfold Sl.cut
  dsimp only
  rw[if_neg (by omega)]
  simp only[Option.map_some,addr_add,length_append,tabV_len,Option.some.injEq,Addr.mk.injEq,and_true,true_and]
  omega
 have W1':Buf (h.wrA (some ⟨b,P.length*6,none⟩) (tabV R)) l 6 106 ((tabV P++tabV R)++(B2++[])):=by simpa using W1
 have hz:zerosV [.int .u64 0,.int .i64 0,.int .i64 0,.int .i64 0,.string ⟨#[]⟩,.string ⟨#[]⟩] 1=tabV [zT]:=zeros_tab 1
 obtain⟨c2,Up2,W2⟩:=bufWr' (V:=tabV [zT]) W1' (by rw[tabV_len];exact hB2) hb
 rw[tabV_len] at c2
 dsimp only
 rw[hcn,hca,hz]
 refine⟨c2,hQ _ ⟨some ⟨b,0,none⟩,P.length+R.length,l.c⟩ ?_ ?_⟩
 ·have:=buf_shrink (k:=P.length+R.length) W2 (by rw[length_append,tabV_len,tabV_len];omega) (by omega)
  rw[hb] at this
  show Buf _ _ 6 106 (tabV (P++R))
  rw[tabV_app]
  exact this
 ·have Up:=Up1.trans Up2
  exact⟨Up.keep,.inl hb.symm,Up.dom⟩
end Go.Eng.YtblghgacokoklaaDoor
end
section
namespace Go.Eng.YtblghgacokoklaaDoor
theorem out_rd{h:Hp}{l:Sl}{P R:List Place}{p:Place}(hr:h.row l.a (l.n*2) (outV (P++p::R))):∃ b o,l.a=some ⟨b,o,none⟩/\(P.length:Int)<(l.n:Int)/\h.at b (o+(P.length:Int).toNat*2)=some (.int .i64 p.lv)/\h.at b ((o+(P.length:Int).toNat*2)+1)=some (.int .u64 p.num):=by
 have hl:=hr.1
 rw[outV_len,length_append,length_cons] at hl
 obtain⟨b,o,ha,hat⟩:=row_get hr (i:=P.length*2) (by omega)
 have c:∀ j,j<2->h.at b ((o+(P.length:Int).toNat*2)+j)=(Place.cells p)[j]?:=λj hj=>by
  rw[Int.toNat_natCast,Nat.add_assoc,hat _ (by omega)]
  have:=flat_get Place.cells 2 (λ_=>rfl) (P++p::R) P.length j (by rw[length_append,length_cons];omega) hj
  rw[List.getElem_append_right (Nat.le_refl _)] at this
  simp only[Nat.sub_self,List.getElem_cons_zero] at this
  exact this
 exact⟨b,o,ha,by omega,c 0 (by decide),c 1 (by decide)⟩
theorem out_spec{g h:Hp}{vb:Nat}{ls l:Sl}{xs:List (Sl×List Tab)}{ps:List Place}{Q:Value->Hp->Prop}(V:Ver g h vb ls xs)(hr:g.row l.a (l.n*2) (outV ps))(hs:totL (xs.map (·.2))<=5000000)(hp:ps.length<=5000000)
  (hQ:∀ h' xs',Ver g h' vb ls xs'->Ck [108,126] h h'->xs'.map (·.2)=(outM ps (xs.map (·.2))).2->Q (.int .i64 (outM ps (xs.map (·.2))).1) h'):F71.T (some ⟨vb,0,none⟩) l h Q:=by
 have hln:l.n=ps.length:=by have:=hr.1;rw[outV_len] at this;omega
 refine⟨λn h1=>∃ P R xs1,ps=P++R/\n=(P.length:Int)/\Ver g h1 vb ls xs1/\Ck [108,126] h h1/\outM ps (xs.map (·.2))=outM R (xs1.map (·.2))/\totL (xs1.map (·.2))<=5000000,λn _=>ps.length-n.toNat,⟨[],ps,xs,rfl,rfl,V,Ck.refl _ _,rfl,hs⟩,?_⟩
 rintro n h1 ⟨P,R,xs1,rfl,rfl,V1,C1,he,ht⟩
 rw[length_append] at hln hp
 rw[he] at hQ
 refine⟨λhlt=>?_,λhge=>?_⟩
 ·rcases R with _|⟨p,R⟩
  ·exact absurd hlt (by simp at hln;omega)
  rw[length_cons] at hln hp
  obtain⟨b,o,ha,hb,h0,hn1⟩:=out_rd (V1.L.k.row hr)
  refine⟨b,o,ha,⟨by omega,hb⟩,p.lv,h0,p.num,hn1,λb1 hb1=>?_⟩
  rw[new_wr]
  have eS:(setL ((⟨[Value.int .i64 0,Value.int .u64 0]⟩:Array Value).toList) 0 [.int .i64 p.lv,.int .u64 p.num]).toArray=⟨[.int .i64 p.lv,.int .u64 p.num]⟩:=rfl
  rw[eS]
  have K1:=Keep.new hb1 (.cells ⟨[.int .i64 p.lv,.int .u64 p.num]⟩ 104 (0,0))
  have hx1:(h1.new b1 (.cells ⟨[.int .i64 p.lv,.int .u64 p.num]⟩ 104 (0,0))) b1=some (.cells ⟨[.int .i64 p.lv,.int .u64 p.num]⟩ 104 (0,0)):=new_at _ _ _
  have V2:=V1.keep K1
  have C2:Ck [108,126] h (h1.new b1 (.cells ⟨[.int .i64 p.lv,.int .u64 p.num]⟩ 104 (0,0))):=C1.trans (Ck.of_keep K1)
  refine⟨canW_new (new_at _ _ _) (Nat.le_refl _),p.lv,at_of hx1 0,?_⟩
  clear V1 C1 K1 h0 hn1
  generalize h1.new b1 (.cells ⟨[.int .i64 p.lv,.int .u64 p.num]⟩ 104 (0,0))=h2 at hx1 V2 C2 ⊢
  refine has_spec V2.v (λc0 c1=>⟨true,rfl,λ_=>?_,λh0=>(by cases h0)⟩) (λhc=>⟨false,rfl,λh0=>(by cases h0),λ_=>?_⟩)
  ·have hlx:=V2.L.len
   obtain⟨x,hx⟩:∃ x,xs1[p.lv.toNat]?=some x:=⟨_,getElem?_eq_getElem (by omega)⟩
   obtain⟨b4,ha4,hat4⟩:=V2.L.rd hx
   have hxm:=mem_of_getElem? hx
   have T2:=V2.L.t x hxm
   have hx6:x.2.length<=5000000:=Nat.le_trans (totL_mem (mem_map_of_mem hxm)) ht
   have hlv:(xs1.map (·.2))[p.lv.toNat]?=some x.2:=by rw[getElem?_map,hx];rfl
   refine⟨vb,0,rfl,ls,at_of V2.v 0,p.lv,at_of hx1 0,b4,0,ha4,⟨c0,c1⟩,x.1,by rw[Nat.zero_add];exact hat4,at_of V2.v 0,at_of hx1 0,by rw[Nat.zero_add];exact hat4,?_⟩
   refine index_spec (Buf.row T2) (by rw[T2.n];exact hx6) (at_of hx1 1) (λA y B e hA hy=>⟨(A.length:Int),rfl,λh0=>absurd h0 (by omega),λ_=>?_⟩) (λhno=>⟨-1,rfl,λ_=>?_,λh0=>absurd (by decide) h0⟩)
   ·refine⟨vb,0,rfl,ls,at_of V2.v 0,p.lv,at_of hx1 0,vb,0,rfl,ls,at_of V2.v 0,p.lv,at_of hx1 0,b4,0,ha4,⟨c0,c1⟩,x.1,by rw[Nat.zero_add];exact hat4,?_⟩
    have hcut:cutN p.num x.2=some (A++B):=by rw[e];exact cutN_some hA hy
    have T2':TB h2 x.1 (A++y::B):=by rw[<- e];exact T2
    have eA:x.2.length=A.length+(B.length+1):=by rw[e,length_append,length_cons]
    refine delete_spec T2' (by rw[T2.n];exact hx6) rfl (by rw[next_i (n:=5100000) (by omega) (by omega)]) λh4 l' T4 U4=>⟨l',rfl,?_⟩
    have C4:Ck [108] h2 h4:=Ck.of_upd T2' U4
    obtain⟨b8,ha8,_,hc8,L8,C8⟩:=V2.L.put hx U4 T4
    refine⟨by rw[C4.at V2.v (by decide)];rfl,by rw[C4.at hx1 (by decide)];rfl,b8,0,ha8,⟨c0,c1⟩,by rw[Nat.zero_add];exact hc8,?_⟩
    rw[Nat.zero_add,next_i (n:=5100000) (by omega) (by omega)]
    refine⟨⟨P++[p],R,xs1.set p.lv.toNat (l',A++B),by simp,by simp,⟨L8,V2.nv,C8.keep _ _ V2.v (show 115∉[108,126] by decide)⟩,C2.trans C8,?_,?_⟩,by dsimp only;rw[length_append,length_cons];omega⟩
    ·rw[he,outM,if_neg (by omega),hlv]
     dsimp only
     rw[hcut]
     dsimp only
     rw[List.map_set]
    ·rw[List.map_set]
     have:=totL_set (us:=A++B) hlv
     rw[length_append] at this
     dsimp only
     omega
   ·have e1:outM (p::R) (xs1.map (·.2))=(130,xs1.map (·.2)):=by
     rw[outM,if_neg (by omega),hlv]
     dsimp only
     rw[cutN_none hno]
    rw[e1] at hQ
    exact hQ h2 xs1 V2 C2 rfl
  ·have e1:outM (p::R) (xs1.map (·.2))=(133,xs1.map (·.2)):=by
    rw[outM]
    by_cases h0:p.lv<0
    ·rw[if_pos h0]
    ·rw[if_neg h0,List.getElem?_eq_none (by rw[length_map,<- V2.L.len];omega)]
   rw[e1] at hQ
   exact hQ h2 xs1 V2 C2 rfl
 ·have:R=[]:=eq_nil_of_length_eq_zero (by omega)
  subst this
  exact hQ h1 xs1 V1 C1 rfl
theorem nums_app(A B:Lv):nums (A++B)=nums A++nums B:=by unfold nums;simp
theorem nums_one(l:List Tab):nums [l]=l.map Tab.num:=by unfold nums;simp
theorem nums_len(A:Lv):(nums A).length=totL A:=by unfold nums totL;rw[length_map,List.length_flatten]
def cnt(l:List Int)(k:Int):Int:=((l.count k:Nat):Int)
theorem cnt_nil(k:Int):cnt [] k=0:=rfl
theorem cnt_app(A B:List Int)(k:Int):cnt (A++B) k=cnt A k+cnt B k:=by unfold cnt;rw[List.count_append];omega
theorem cnt_one(j k:Int):cnt [j] k=if k=j then 1 else 0:=by
 unfold cnt
 by_cases h:k=j
 ·subst h;simp
 ·rw[if_neg h,List.count_eq_zero.2 (by simpa using h)];rfl
theorem cnt_le(l:List Int)(k:Int):0<=cnt l k/\cnt l k<=(l.length:Int):=by
 unfold cnt
 have:=List.count_le_length (a:=k) (l:=l)
 omega
theorem cnt_pos(l:List Int)(k:Int):0<cnt l k↔k∈l:=by
 unfold cnt
 rw[<- List.count_pos_iff]
 omega
theorem Mp.congr{h:Hp}{b:Nat}{f f':Int->Int}(M:Mp h b f)(e:∀ k,f k=f' k):Mp h b f':=by
 have:f=f':=funext e
 rw[<- this];exact M
theorem counted_spec{h:Hp}{vb b:Nat}{lv:Lv}{f:Int->Int}{Q:Value->Hp->Prop}(V:VerR h vb lv)(M:Mp h b f)(hf:∀ k,0<=f k/\f k<=4000000000000000)(hs:totL lv<=5000000)(h5:lv.length<=5)
  (hQ:∀ h',Mp h' b (λk=>f k+cnt (nums lv) k)->One b h h'->Q (.tuple ⟨[]⟩) h'):F108.T (some ⟨vb,0,none⟩) (some b) h Q:=by
 obtain⟨ls,xs,hv,hr,ht,rfl⟩:=V
 obtain⟨es0,c0,hb0,_⟩:=id M
 rw[length_map] at h5
 have hn:ls.n=xs.length:=by have:=hr.1;rw[slV_length,length_map] at this;omega
 refine⟨vb,0,rfl,ls,at_of hv 0,λn h1=>∃ P R,xs=P++R/\n=(P.length:Int)/\Mp h1 b (λk=>f k+cnt (nums (P.map (·.2))) k)/\One b h h1,λn _=>xs.length-n.toNat,⟨[],xs,rfl,rfl,Mp.congr M λk=>by show f k=f k+cnt [] k;rw[cnt_nil];omega,One.refl _ _⟩,?_⟩
 rintro n h1 ⟨P,R,rfl,rfl,M1,O1⟩
 rw[length_append] at hn h5
 refine⟨λhlt=>?_,λhge=>?_⟩
 ·rcases R with _|⟨x,R⟩
  ·exact absurd hlt (by simp at hn;omega)
  rw[length_cons] at hn h5
  obtain⟨_,b1,o1,ha1,hat1⟩:=rows_rd (O1.row hb0 hr) (i:=P.length) (x:=x) (by simp)
  have htx:=ht x (by simp)
  have hxn:x.1.n=x.2.length:=by have:=htx.1;rw[tabV_len] at this;omega
  have hxs:totL (P.map (·.2))+x.2.length<=5000000:=by
   unfold totL at hs ⊢
   rw[map_append,map_cons,map_append,map_cons,List.sum_append,List.sum_cons] at hs
   omega
  refine⟨b1,o1,ha1,⟨by omega,hlt⟩,x.1,by rw[Int.toNat_natCast];exact hat1,λn1 h2=>∃ A B,x.2=A++B/\n1=(A.length:Int)/\Mp h2 b (λk=>f k+cnt (nums (P.map (·.2))) k+cnt (A.map Tab.num) k)/\One b h h2,λn1 _=>x.2.length-n1.toNat,⟨[],x.2,rfl,rfl,Mp.congr M1 λk=>by rw[List.map_nil,cnt_nil];omega,O1⟩,?_⟩
  rintro n1 h2 ⟨A,B,eAB,rfl,M2,O2⟩
  refine⟨λhlt1=>?_,λhge1=>?_⟩
  ·rcases B with _|⟨t,B⟩
   ·exact absurd hlt1 (by rw[hxn,eAB];simp)
   rw[eAB] at htx
   have eL:x.2.length=A.length+(B.length+1):=by rw[eAB,length_append,length_cons]
   refine tab_rd (O2.row hb0 htx) rfl λb2 o2=>?_
   refine Mp.add M2 t.num λes c hes M3=>?_
   rw[next_i (n:=5100000) (by omega) (by omega)]
   have b1:=cnt_le (nums (P.map (·.2))) t.num
   have b2:=cnt_le (A.map Tab.num) t.num
   rw[nums_len] at b1
   rw[length_map] at b2
   have b3:=hf t.num
   refine⟨⟨A++[t],B,by rw[eAB];simp,by simp,Mp.congr M3 λk=>?_,O2.trans (One.new _ (by rw[hes];simp))⟩,by rw[eL];dsimp only;omega⟩
   rw[wrap_i64 (by omega) (by omega),map_append,cnt_app,map_cons,List.map_nil,cnt_one]
   by_cases hk:k=t.num
   ·rw[if_pos hk,if_pos hk,hk];omega
   ·rw[if_neg hk,if_neg hk];omega
  ·have hB:B=[]:=eq_nil_of_length_eq_zero (by have:=congrArg List.length eAB;rw[length_append] at this;omega)
   subst hB
   rw[append_nil] at eAB
   rw[next_i (n:=100) (by omega) (by omega)]
   refine⟨⟨P++[x],R,by simp,by simp,Mp.congr M2 λk=>?_,O2⟩,by(try dsimp only);rw[length_append,length_cons];omega⟩
   rw[map_append,nums_app,cnt_app,map_cons,List.map_nil,nums_one,eAB];omega
 ·have:R=[]:=eq_nil_of_length_eq_zero (by omega)
  subst this
  rw[append_nil] at hQ
  exact hQ h1 M1 O1
end Go.Eng.YtblghgacokoklaaDoor
end
section
namespace Go.Eng.YtblghgacokoklaaDoor
theorem tab_at{h:Hp}{l:Sl}{ts:List Tab}(hr:h.row l.a (l.n*6) (tabV ts)){i:Nat}{x:Tab}(hx:ts[i]?=some x):∃ b o,l.a=some ⟨b,o,none⟩/\i<l.n/\∀ j,j<6->h.at b ((o+i*6)+j)=(Tab.cells x)[j]?:=by
 have hi:i<ts.length:=(List.getElem?_eq_some_iff.1 hx).1
 have hl:=hr.1
 rw[tabV_len] at hl
 obtain⟨b,o,ha,hat⟩:=row_get hr (i:=i*6) (by omega)
 refine⟨b,o,ha,by omega,λj hj=>?_⟩
 rw[Nat.add_assoc,hat _ (by omega)]
 have:=flat_get Tab.cells 6 (λ_=>rfl) ts i j hi hj
 rw[getElem?_eq_getElem hi] at hx
 rw[Option.some.inj hx] at this
 exact this
theorem in_rd{h:Hp}{l:Sl}{P R:List Placed}{p:Placed}(hr:h.row l.a (l.n*7) (inV (P++p::R))){i:Int}(hi:i=(P.length:Int)){K:Nat->Nat->Int->Int->Int->Int->Int->ByteArray->ByteArray->Prop}(hK:∀ b o,K b o p.lv p.num p.weight p.bytes p.entries p.least p.greatest) :
  ∃ b o,(l.a:Option Addr)=some ⟨b,o,none⟩/\((0:Int)<=i/\i<(l.n:Int))/\∃ n1:Int,h.at b (o+i.toNat*7)=some (.int .i64 n1)/\∃ n2:Int,h.at b ((o+i.toNat*7)+1)=some (.int .u64 n2)/\∃ n3:Int,h.at b ((o+i.toNat*7)+2)=some (.int .i64 n3)/\∃ n4:Int,h.at b ((o+i.toNat*7)+3)=some (.int .i64 n4)/\∃ n5:Int,h.at b ((o+i.toNat*7)+4)=some (.int .i64 n5)/\∃ s:ByteArray,h.at b ((o+i.toNat*7)+5)=some (.string s)/\∃ s1:ByteArray,h.at b ((o+i.toNat*7)+6)=some (.string s1)/\K b o n1 n2 n3 n4 n5 s s1:=by
 subst hi
 have hl:=hr.1
 rw[inV_len,length_append,length_cons] at hl
 obtain⟨b,o,ha,hat⟩:=row_get hr (i:=P.length*7) (by omega)
 have c:∀ j,j<7->h.at b ((o+(P.length:Int).toNat*7)+j)=(Placed.cells p)[j]?:=λj hj=>by
  rw[Int.toNat_natCast,Nat.add_assoc,hat _ (by omega)]
  have:=flat_get Placed.cells 7 (λ_=>rfl) (P++p::R) P.length j (by rw[length_append,length_cons];omega) hj
  rw[List.getElem_append_right (Nat.le_refl _)] at this
  simp only[Nat.sub_self,List.getElem_cons_zero] at this
  exact this
 exact⟨b,o,ha,⟨by omega,by omega⟩,_,c 0 (by decide),_,c 1 (by decide),_,c 2 (by decide),_,c 3 (by decide),_,c 4 (by decide),_,c 5 (by decide),_,c 6 (by decide),hK b o⟩
theorem cnt_set:∀ {lv:Lv} {k:Nat} {ts:List Tab} (t:Tab),lv[k]?=some ts->∀ j,cnt (nums (lv.set k (ts++[t]))) j=cnt (nums lv) j+if j=t.num then 1 else 0
 |[],k,ts,t,h,j=>by simp at h
 |l::lv,0,ts,t,h,j=>by
  simp only[List.getElem?_cons_zero,Option.some.injEq] at h
  subst h
  rw[List.set_cons_zero,show(l++[t])::lv=[l++[t]]++lv from rfl,show l::lv=[l]++lv from rfl,nums_app,nums_app,nums_one,nums_one,map_append,cnt_app,cnt_app,cnt_app,map_cons,List.map_nil,cnt_one];omega
 |l::lv,k+1,ts,t,h,j=>by
  simp only[List.getElem?_cons_succ] at h
  have:=cnt_set t h j
  rw[List.set_cons_succ,show l::lv.set k (ts++[t])=[l]++lv.set k (ts++[t]) from rfl,show l::lv=[l]++lv from rfl,nums_app,nums_app,cnt_app,cnt_app,this];omega
def InR(lv:Lv)(ps:List Placed)(c:Int)(lw:Lv):Prop:=
 if (inM ps lv).1=0 then(c=132/\∃ i ts,1<=i/\(inM ps lv).2[i]?=some ts/\Bad ts)\/(c=0/\Sorted (inM ps lv).2 lw) else c=(inM ps lv).1
def SortTo(k:Nat)(lv lw:Lv):Prop:=lw.length=lv.length/\∀ i ts us,lv[i]?=some ts->lw[i]?=some us->if 1<=i/\i<k then Fine ts us else us=ts
theorem SortTo.step{k:Nat}{lv lw:Lv}{us:List Tab}(S:SortTo k lv lw)(hk:1<=k){ts:List Tab}(h1:lw[k]?=some ts)(hF:Fine ts us):SortTo (k+1) lv (lw.set k us):=by
 refine⟨by rw[List.length_set];exact S.1,λi x y hx hy=>?_⟩
 rcases set_get hy with⟨rfl,rfl,_⟩|⟨hne,hy⟩
 ·have:=S.2 i x ts hx h1
  rw[if_neg (by omega)] at this
  rw[if_pos ⟨hk,by omega⟩,<- this];exact hF
 ·have:=S.2 i x y hx hy
  by_cases hi:1<=i/\i<k
  ·rw[if_pos hi] at this;rw[if_pos ⟨hi.1,by omega⟩];exact this
  ·rw[if_neg hi] at this;rw[if_neg (by omega)];exact this
theorem SortTo.done{k:Nat}{lv lw:Lv}(S:SortTo k lv lw)(hk:lv.length<=k):Sorted lv lw:=by
 refine⟨S.1,?_,λi ts us hi h1 h2=>?_⟩
 ·by_cases h0:0<lv.length
  ·have h1:=getElem?_eq_getElem h0
   have h2:=getElem?_eq_getElem (l:=lw) (i:=0) (by rw[S.1];exact h0)
   have:=S.2 0 _ _ h1 h2
   rw[if_neg (by omega)] at this
   rw[h1,h2,this]
  ·have e1:=S.1
   have e2:lv=[]:=eq_nil_of_length_eq_zero (by omega)
   have e3:lw=[]:=eq_nil_of_length_eq_zero (by omega)
   rw[e2,e3]
 ·have:=S.2 i ts us h1 h2
  rw[if_pos ⟨hi,by have:=(List.getElem?_eq_some_iff.1 h1).1;omega⟩] at this
  exact this
theorem sle{a b:ByteArray}:(sLt a b\/a=b)↔¬ Bl b a:=by
 rw[sLt_bl]
 constructor
 ·rintro(h|rfl)
  ·exact h.asym
  ·exact Bl.irr
 ·intro h
  rcases bl_tri a b with x|x|x
  ·exact .inl x
  ·exact absurd x h
  ·exact .inr x
theorem sort_levels{g h:Hp}{vb:Nat}{ls:Sl}{xs:List (Sl×List Tab)}{Q:Value->Hp->Prop}(V:Ver g h vb ls xs)(hs:totL (xs.map (·.2))<=5000000)(h1:1<=xs.length)(h5:xs.length<=5)
  (hB:∀ h' xs',Ver g h' vb ls xs'->Ck [108,126] h h'->(∃ i ts,1<=i/\(xs.map (·.2))[i]?=some ts/\Bad ts)->Q (.int .i64 132) h')
  (hG:∀ h' xs',Ver g h' vb ls xs'->Ck [108,126] h h'->Sorted (xs.map (·.2)) (xs'.map (·.2))->Q (.int .i64 0) h') :
  ∃ b8 o5,((some ⟨vb,0,none⟩):Option Addr)=some ⟨b8,o5,none⟩/\∃ l5:Sl,h.at b8 o5=some (.slice l5.a l5.n l5.c)/\Sl.okCut l5 1 (l5.n:Int) (l5.c:Int)/\∃ (I1:Int->Hp->Prop) (m1:Int->Hp->Nat),I1 0 h/\(∀ n8:Int,∀ h5:Hp,I1 n8 h5->par (n8<((Sl.cut l5 1 1 (l5.n:Int) (l5.c:Int)).n:Int)) (∃ b9 o6,((Sl.cut l5 1 1 (l5.n:Int) (l5.c:Int)).a:Option Addr)=some ⟨b9,o6,none⟩/\((0:Int)<=n8/\n8<((Sl.cut l5 1 1 (l5.n:Int) (l5.c:Int)).n:Int))/\∃ l6:Sl,h5.at b9 (o6+n8.toNat)=some (.slice l6.a l6.n l6.c)/\F109.T l6 h5 λr2 h6=>∃ (I2:Int->Hp->Prop) (m2:Int->Hp->Nat),I2 1 h6/\(∀ n9:Int,∀ h7:Hp,I2 n9 h7->par (n9<(l6.n:Int)) (∃ b10 o7,(l6.a:Option Addr)=some ⟨b10,o7,none⟩/\((0:Int)<=n9/\n9<(l6.n:Int))/\∃ s2:ByteArray,h7.at b10 ((o7+n9.toNat*6)+4)=some (.string s2)/\∃ b11 o8,(l6.a:Option Addr)=some ⟨b11,o8,none⟩/\((0:Int)<=(wrap .i64 (n9-1))/\(wrap .i64 (n9-1))<(l6.n:Int))/\∃ s3:ByteArray,h7.at b11 ((o8+((wrap .i64 (n9-1))).toNat*6)+5)=some (.string s3)/\par (sLt s2 s3\/s2=s3) (Q (.int .i64 132) h7) (I2 (wrap .i64 (n9+1)) h7/\m2 (wrap .i64 (n9+1)) h7<m2 n9 h7)) (I1 (wrap .i64 (n8+1)) h7/\m1 (wrap .i64 (n8+1)) h7<m1 n8 h5))) (Q (.int .i64 0) h5)):=by
 have hln:=V.L.len
 have hcap:=V.L.l.cap
 have hcn:(Sl.cut ls 1 1 (ls.n:Int) (ls.c:Int)).n=xs.length-1:=by unfold Sl.cut;dsimp only;omega
 refine⟨vb,0,rfl,ls,at_of V.v 0,⟨by omega,by omega,by omega,by omega⟩,λn h'=>∃ (j:Nat) (xs2:List (Sl×List Tab)),n=(j:Int)/\j+1<=xs.length/\Ver g h' vb ls xs2/\Ck [108,126] h h'/\SortTo (j+1) (xs.map (·.2)) (xs2.map (·.2)),λn _=>xs.length-n.toNat,⟨0,xs,rfl,by omega,V,Ck.refl _ _,rfl,λi ts us a b=>by rw[if_neg (by omega)];rw[a] at b;exact(Option.some.inj b).symm⟩,?_⟩
 rintro n h2 ⟨j,xs2,rfl,hj,V2,C2,S2⟩
 have hl2:=V2.L.len
 rw[hcn]
 refine⟨λhlt=>?_,λhge=>?_⟩
 ·obtain⟨x,hx⟩:∃ x,xs2[j+1]?=some x:=⟨_,getElem?_eq_getElem (by omega)⟩
  have hxm:=mem_of_getElem? hx
  obtain⟨b,ha,hat⟩:=V2.L.rd hx
  have hlv2:(xs2.map (·.2))[j+1]?=some x.2:=by rw[getElem?_map,hx];rfl
  obtain⟨ts,hts⟩:∃ ts,(xs.map (·.2))[j+1]?=some ts:=⟨_,getElem?_eq_getElem (by rw[length_map];omega)⟩
  have hxts:x.2=ts:=by
   have:=S2.2 (j+1) ts x.2 hts hlv2
   rw[if_neg (by omega)] at this;exact this
  have hx6:x.2.length<=5000000:=by rw[hxts];exact Nat.le_trans (totL_mem (mem_of_getElem? hts)) hs
  have hca:(Sl.cut ls 1 1 (ls.n:Int) (ls.c:Int)).a=some ⟨b,1,none⟩:=by
   unfold Sl.cut
   dsimp only
   rw[if_neg (by omega),ha]
   simp[addr_add]
  have T2:=V2.L.t x hxm
  refine⟨b,1,hca,⟨by omega,by omega⟩,x.1,by rw[Int.toNat_natCast,Nat.add_comm];exact hat,?_⟩
  refine stable_t T2 (by rw[T2.n];exact hx6) λh3 us Sv3 hp hsrt=>?_
  obtain⟨L3,C3⟩:=V2.L.fill hx Sv3.up Sv3.b
  have V3:Ver g h3 vb ls (xs2.set (j+1) (x.1,us)):=⟨L3,V2.nv,C3.keep _ _ V2.v (show 115∉[108] by decide)⟩
  have C23:Ck [108,126] h h3:=C2.trans (C3.mono (by simp))
  have hun:x.1.n=us.length:=Sv3.b.n
  have hul:us.length<=5000000:=by rw[hp.length_eq];exact hx6
  refine⟨λn9 h7=>h7=h3/\∃ q:Nat,n9=(q:Int)/\1<=q/\q<=us.length+1/\∀ i a b,i+1<q->us[i]?=some a->us[i+1]?=some b->Bl a.greatest b.least,λn9 _=>us.length+1-n9.toNat,⟨rfl,1,rfl,Nat.le_refl _,by omega,λi a b h0=>absurd h0 (by omega)⟩,?_⟩
  rintro n9 h7 ⟨rfl,q,rfl,q1,q2,hA⟩
  refine⟨λhq=>?_,λhq=>?_⟩
  ·obtain⟨y,hy⟩:∃ y,us[q]?=some y:=⟨_,getElem?_eq_getElem (by omega)⟩
   obtain⟨z,hz⟩:∃ z,us[q-1]?=some z:=⟨_,getElem?_eq_getElem (by omega)⟩
   obtain⟨b1,o1,a1,l1,r1⟩:=tab_at (Buf.row Sv3.b) hy
   obtain⟨b2,o2,a2,l2,r2⟩:=tab_at (Buf.row Sv3.b) hz
   have ew:wrap .i64 ((q:Int)-1)=((q-1:Nat):Int):=by rw[wrap_i64 (by omega) (by omega)];omega
   rw[ew]
   refine⟨b1,o1,a1,⟨by omega,hq⟩,y.least,r1 4 (by decide),b2,o2,a2,⟨by omega,by omega⟩,z.greatest,r2 5 (by decide),λhc=>?_,λhc=>?_⟩
   ·exact hB h7 _ V3 C23 ⟨j+1,ts,by omega,hts,us,by rw[<- hxts];exact hp,hsrt,q-1,z,y,hz,by rw[Nat.sub_add_cancel q1];exact hy,sle.1 hc⟩
   ·rw[next_i (n:=5100000) (by omega) (by omega)]
    refine⟨⟨rfl,q+1,rfl,by omega,by omega,λi a b hi ea eb=>?_⟩,by(try dsimp only);omega⟩
    by_cases hiq:i+1<q
    ·exact hA i a b hiq ea eb
    ·have:i=q-1:=by omega
     subst this
     rw[Nat.sub_add_cancel q1,hy] at eb
     rw[hz] at ea
     cases ea;cases eb
     rcases bl_tri z.greatest y.least with t|t|t
     ·exact t
     ·exact absurd (sle.2 t.asym) hc
     ·exact absurd (Or.inr t.symm) hc
  ·rw[next_i (n:=100) (by omega) (by omega)]
   refine⟨⟨j+1,_,rfl,by omega,V3,C23,?_⟩,by(try dsimp only);omega⟩
   rw[List.map_set]
   exact S2.step (by omega) hlv2 ⟨hp,hsrt,λi a b ea eb=>hA i a b (by have:=(List.getElem?_eq_some_iff.1 eb).1;dsimp only at this;omega) ea eb⟩
 ·exact hG h2 xs2 V2 C2 (S2.done (by rw[length_map];omega))
theorem in_spec{g h:Hp}{vb:Nat}{ls l:Sl}{xs:List (Sl×List Tab)}{ps:List Placed}{Q:Value->Hp->Prop}(V:Ver g h vb ls xs)(hr:g.row l.a (l.n*7) (inV ps))(hs:totL (xs.map (·.2))+ps.length<=5000000)(h1:1<=xs.length)(h5:xs.length<=5)
  (hQ:∀ h' c xs',Ver g h' vb ls xs'->Ck [108,126] h h'->InR (xs.map (·.2)) ps c (xs'.map (·.2))->Q (.int .i64 c) h'):F72.T (some ⟨vb,0,none⟩) l h Q:=by
 have hln:l.n=ps.length:=by have:=hr.1;rw[inV_len] at this;omega
 intro b hb
 have gb:g b=none:=V.L.k.dom b hb
 have K0:=Keep.new hb (.map #[] 0)
 refine counted_spec (V.r.keep K0) (Mp.new h b 0) (λk=>⟨Int.le_refl _,by omega⟩) (by omega) (by rw[length_map];exact h5) λh1 M1 O1=>?_
 have hb0:=new_at h b (.map #[] 0)
 have V1:Ver g h1 vb ls xs:=(V.keep K0).ck (O1.ck hb0) ((V.L.k.trans K0).one O1 gb) (by decide) (by decide) (by decide)
 have C1:Ck [108,126] h h1:=(Ck.of_keep K0).one O1 hb
 refine⟨λn h2=>∃ P R xs1,ps=P++R/\n=(P.length:Int)/\Ver g h2 vb ls xs1/\Ck [108,126] h h2/\inM ps (xs.map (·.2))=inM R (xs1.map (·.2))/\totL (xs1.map (·.2))+R.length<=5000000/\Mp h2 b (λk=>cnt (nums (xs1.map (·.2))) k),λn _=>ps.length-n.toNat,⟨[],ps,xs,rfl,rfl,V1,C1,rfl,hs,Mp.congr M1 λk=>by omega⟩,?_⟩
 rintro n h2 ⟨P,R,xs1,rfl,rfl,V2,C2,he,ht,M2⟩
 rw[length_append] at hln
 have hs':=hs
 rw[length_append] at hs'
 have hxl:=V2.L.len
 have hx0:=V.L.len
 refine⟨λhlt=>?_,λhge=>?_⟩
 ·rcases R with _|⟨p,R⟩
  ·exact absurd hlt (by simp at hln;omega)
  rw[length_cons] at hln ht hs'
  have err:∀ {c:Int},c≠0->inM (p::R) (xs1.map (·.2))=(c,xs1.map (·.2))->Q (.int .i64 c) h2:=λ{c} hc e=>hQ h2 c xs1 V2 C2 (by unfold InR;rw[he,e,if_neg hc])
  refine in_rd (V2.L.k.row hr) rfl λb1 o1=>?_
  refine has_spec V2.v (λc0 c1=>⟨true,rfl,λ_=>?_,λh0=>(by cases h0)⟩) (λhc=>⟨false,rfl,λh0=>(by cases h0),λ_=>?_⟩)
  ·obtain⟨x,hx⟩:∃ x,xs1[p.lv.toNat]?=some x:=⟨_,getElem?_eq_getElem (by omega)⟩
   have hxm:=mem_of_getElem? hx
   have hlv:(xs1.map (·.2))[p.lv.toNat]?=some x.2:=by rw[getElem?_map,hx];rfl
   refine Mp.get M2 p.num λes c=>⟨λh0=>?_,λh0=>⟨λhlt2=>?_,λhge2=>?_⟩⟩
   ·refine err (by decide) ?_
    rw[inM,if_neg (by omega),hlv]
    dsimp only
    rw[if_pos ((cnt_pos _ _).1 h0)]
   ·refine err (by decide) ?_
    rw[inM,if_neg (by omega),hlv]
    dsimp only
    rw[if_neg (λhm=>h0 ((cnt_pos _ _).2 hm)),if_pos (blB_t.2 ((sLt_bl _ _).1 hlt2))]
   ·refine Mp.add M2 p.num λes1 c1' hes M3=>?_
    have hcb:=cnt_le (nums (xs1.map (·.2))) p.num
    rw[nums_len] at hcb
    have O3:One b h2 _:=One.new (mPut es1 c1' (.int .u64 p.num) (.int .i64 (wrap .i64 (cnt (nums (xs1.map (·.2))) p.num+1)))) (by rw[hes];simp)
    have V3:=V2.ck (O3.ck hes) (V2.L.k.one O3 gb) (show 126∉[0] by decide) (show 108∉[0] by decide) (show 115∉[0] by decide)
    have C3:=C2.one O3 hb
    rw[wrap_i64 (by omega) (by omega)] at M3 V3 C3 ⊢
    clear O3
    generalize h2.new b (mPut es1 c1' (.int .u64 p.num) (.int .i64 (cnt (nums (xs1.map (·.2))) p.num+1)))=h3 at M3 V3 C3 ⊢
    obtain⟨b6,ha6,hat6⟩:=V3.L.rd hx
    have T3:=V3.L.t x hxm
    have hx6:x.2.length+1<=5000000:=by have:=totL_mem (mem_of_getElem? hlv);omega
    refine⟨vb,0,rfl,ls,at_of V3.v 0,vb,0,rfl,ls,at_of V3.v 0,b6,0,ha6,⟨c0,c1⟩,x.1,by rw[Nat.zero_add];exact hat6,at_of V3.v 0,at_of V3.v 0,by rw[Nat.zero_add];exact hat6,?_⟩
    refine append_buf T3 rfl rfl (by have:=T3.n;omega) λl' h4 B4 hl4 U4=>?_
    have T4:TB h4 l' (x.2++[p.tab]):=by
     show Buf _ _ 6 106 (tabV _)
     rw[tabV_app];exact B4
    have C4:Ck [108] h3 h4:=Ck.of_upd T3 U4
    obtain⟨b8,ha8,_,hc8,L8,C8⟩:=V3.L.put hx U4 T4
    refine⟨by rw[C4.at V3.v (by decide)];rfl,b8,0,ha8,⟨c0,c1⟩,by rw[Nat.zero_add];exact hc8,?_⟩
    rw[Nat.zero_add,next_i (n:=5100000) (by omega) (by omega)]
    refine⟨⟨P++[p],R,xs1.set p.lv.toNat (l',x.2++[p.tab]),by simp,by simp,⟨L8,V3.nv,C8.keep _ _ V3.v (show 115∉[108,126] by decide)⟩,C3.trans C8,?_,?_,?_⟩,by(try dsimp only);simp only[length_append,length_cons];omega⟩
    ·rw[he,inM,if_neg (by omega),hlv]
     dsimp only
     rw[if_neg (λhm=>h0 ((cnt_pos _ _).2 hm)),if_neg (λhbl=>hge2 ((sLt_bl _ _).2 (blB_t.1 hbl))),List.map_set]
    ·rw[List.map_set]
     have:=totL_set (us:=x.2++[p.tab]) hlv
     rw[length_append,length_singleton] at this
     dsimp only
     omega
    ·refine Mp.congr (Mp.ck C8 (by decide) M3) λk=>?_
     rw[List.map_set,cnt_set p.tab hlv k]
     show(if k=p.num then _ else _)=_+if k=p.num then 1 else 0
     by_cases hk:k=p.num
     ·rw[if_pos hk,if_pos hk,hk]
     ·rw[if_neg hk,if_neg hk];omega
  ·refine err (by decide) ?_
   rw[inM]
   by_cases h0:p.lv<0
   ·rw[if_pos h0]
   ·rw[if_neg h0,List.getElem?_eq_none (by rw[length_map];omega)]
 ·have:R=[]:=eq_nil_of_length_eq_zero (by omega)
  subst this
  refine sort_levels V2 (by simpa using ht) (by omega) (by omega) (λh3 xs3 V3 C3 hbad=>hQ h3 132 xs3 V3 (C2.trans C3) ?_) (λh3 xs3 V3 C3 hS=>hQ h3 0 xs3 V3 (C2.trans C3) ?_)
  ·unfold InR;rw[he];exact .inl ⟨rfl,hbad⟩
  ·unfold InR;rw[he];exact .inr ⟨rfl,hS⟩
end Go.Eng.YtblghgacokoklaaDoor
end
section
namespace Go.Eng.YtblghgacokoklaaDoor
section
open Go.Sort
theorem scU_go(p:Int->Bool)(d:Array Int){j i:Nat}(h:i<=j)(hp:p d[i]! = true):scanUp p d j i=scanUp p d j (i+1):=by
 rw[scanUp,if_pos (by simp only[Bool.and_eq_true,decide_eq_true_eq];exact⟨h,hp⟩)]
theorem scU_end(p:Int->Bool)(d:Array Int){j i:Nat}(h:¬ i<=j\/p d[i]! = false):scanUp p d j i=i:=by
 rw[scanUp,if_neg]
 simp only[Bool.and_eq_true,decide_eq_true_eq]
 rintro⟨h1,h2⟩
 rcases h with h|h
 ·exact h h1
 ·rw[h] at h2;cases h2
theorem scD_go(p:Int->Bool)(d:Array Int){i j:Nat}(h:i<=j)(h0:0<j)(hp:p d[j]! = true):scanDown p d i j=scanDown p d i (j-1):=by
 obtain⟨k,rfl⟩:∃ k,j=k+1:=⟨j-1,by omega⟩
 rw[scanDown,if_pos (by simp only[Bool.and_eq_true,decide_eq_true_eq];exact⟨h,hp⟩)];rfl
theorem scD_end(p:Int->Bool)(d:Array Int){i j:Nat}(h:¬ i<=j\/p d[j]! = false):scanDown p d i j=j:=by
 cases j with
 |zero=>rfl
 |succ k=>
  rw[scanDown,if_neg]
  simp only[Bool.and_eq_true,decide_eq_true_eq]
  rintro⟨h1,h2⟩
  rcases h with h|h
  ·exact h h1
  ·rw[h] at h2;cases h2
theorem scU_le(p:Int->Bool)(d:Array Int){j i:Nat}(h:i<=j+2):scanUp p d j i<=j+2:=by
 have key:∀ n i,j+2-i=n->i<=j+2->scanUp p d j i<=j+2:=λn=>by
  induction n with
  |zero=>intro i h1 h2;rw[scU_end p d (.inl (by omega))];exact h2
  |succ n ih=>
   intro i h1 h2
   by_cases hc:i<=j/\p d[i]! = true
   ·rw[scU_go p d hc.1 hc.2];exact ih (i+1) (by omega) (by omega)
   ·rw[scU_end p d (by
     by_cases h3:i<=j
     ·exact .inr (by cases hp:p d[i]! with|false=>rfl|true=>exact absurd ⟨h3,hp⟩ hc)
     ·exact .inl h3)]
    exact h2
 exact key _ i rfl h
variable{h:Hp}{l:Sl}{d:Array Int}{a b p:Nat}{Q:Value->Hp->Prop}
theorem partEq_s(B:Buf h l 1 22 (uvs d.toList))(ha:a<=p)(hp:p<b)(hb:b<=l.n)(hn:l.n<=100000000000)(hQ:∀ h',Dx h h' l (partitionEqual ltI d a b p).2->Q (.int .i64 ((partitionEqual ltI d a b p).1:Nat)) h'):F145.T l (a:Int) (b:Int) (p:Int) h Q:=by
 unfold F145.T F145.G
 rw[wA (by omega),wS (by omega) (by omega)]
 refine(Dx.refl B).swp (i:=p) (j:=a) (by omega) (by omega) λg0 S0=>?_
 generalize hD:partitionEqual ltI d a b p=D at hQ
 unfold partitionEqual at hD
 refine⟨λn n1 h1=>∃ i j d',n=((i:Nat):Int)/\n1=((j:Nat):Int)/\a+1<=i/\i<=j+2/\j<b/\Dx h h1 l d'/\partEqLoop ltI a i j d'=D,λn n1 _=>(n1-n+1).toNat,⟨a+1,b-1,_,rfl,rfl,Nat.le_refl _,by omega,by omega,S0,hD⟩,?_⟩
 rintro n n1 g ⟨i,j,d1,rfl,rfl,i0,i1,j0,S,e⟩
 rw[partEqLoop_eq] at e
 have u1:=scU_le (λx=>!ltI d1[a]! x) d1 i1
 have u2:=scanUp_ge (λx=>!ltI d1[a]! x) d1 j i
 generalize hi2:scanUp (λx=>!ltI d1[a]! x) d1 j i=i2 at e u1 u2
 have v1:=scanDown_le (λx=>ltI d1[a]! x) d1 i2 j
 generalize hj2:scanDown (λx=>ltI d1[a]! x) d1 i2 j=j2 at e v1
 refine⟨λn h2=>n=((i2:Nat):Int)/\Dx h h2 l d1,?_,?_⟩
 ·rintro n g2 ⟨rfl,S⟩
  have fin:∀ g3,Dx h g3 l d1->par ((j2:Int)<(i2:Int)) (Q (.int .i64 (i2:Int)) g3) (ix l.a (j2:Int) l.n λb6 o6=>ldI .u64 g3 b6 (o6+((j2:Nat):Int).toNat) λn11=>ix l.a (i2:Int) l.n λb7 o7=>ldI .u64 g3 b7 (o7+((i2:Nat):Int).toNat) λn12=>ix l.a (i2:Int) l.n λb8 o8=>st g3 b8 (o8+((i2:Nat):Int).toNat) 1 [.int .u64 n11] λh7=>ix l.a (j2:Int) l.n λb9 o9=>st h7 b9 (o9+((j2:Nat):Int).toNat) 1 [.int .u64 n12] λh8=>(∃ i' j' d',wrap .i64 ((i2:Int)+1)=((i':Nat):Int)/\wrap .i64 ((j2:Int)-1)=((j':Nat):Int)/\a+1<=i'/\i'<=j'+2/\j'<b/\Dx h h8 l d'/\partEqLoop ltI a i' j' d'=D)/\(wrap .i64 ((j2:Int)-1)-wrap .i64 ((i2:Int)+1)+1).toNat<((j:Int)-(i:Int)+1).toNat):=λg3 S3=>by
   refine⟨λhlt=>?_,λhge=>?_⟩
   ·rw[if_pos (by omega)] at e
    subst e
    exact hQ g3 S3
   ·rw[if_neg (by omega)] at e
    refine S3.swp (i:=j2) (j:=i2) (by omega) (by omega) λg4 S4=>?_
    rw[wA (by omega),wS (by omega) (by omega)]
    exact⟨⟨i2+1,j2-1,_,rfl,rfl,by omega,by omega,by omega,S4,e⟩,by omega⟩
  refine⟨λn h3=>∃ j':Nat,n=((j':Nat):Int)/\j'<=j/\Dx h h3 l d1/\scanDown (λx=>ltI d1[a]! x) d1 i2 j'=j2,λn _=>n.toNat,⟨j,rfl,Nat.le_refl _,S,hj2⟩,?_⟩
  rintro n g3 ⟨j',rfl,hj',S3,e3⟩
  refine⟨λhle=>?_,λhgt=>?_⟩
  ·refine S3.less (i:=a) (j:=j') (by omega) (by omega) (λhl=>?_) (λhl=>?_)
   ·rw[wS (by omega) (by omega)]
    rw[scD_go _ d1 (by omega) (by omega) hl] at e3
    exact⟨⟨j'-1,rfl,by omega,S3,e3⟩,by dsimp only;omega⟩
   ·rw[scD_end _ d1 (.inr hl)] at e3
    subst e3
    exact fin g3 S3
  ·rw[scD_end _ d1 (.inl (by omega))] at e3
   subst e3
   exact fin g3 S3
 ·refine⟨λn h2=>∃ i':Nat,n=((i':Nat):Int)/\i'<=j+2/\a+1<=i'/\Dx h h2 l d1/\scanUp (λx=>!ltI d1[a]! x) d1 j i'=i2,λn _=>j+1-n.toNat,⟨i,rfl,i1,i0,S,hi2⟩,?_⟩
  rintro n g2 ⟨i',rfl,hi',hi0,S2,e2⟩
  refine⟨λhle=>?_,λhgt=>?_⟩
  ·refine S2.less (i:=a) (j:=i') (by omega) (by omega) (λhl=>?_) (λhl=>?_)
   ·rw[scU_end _ d1 (.inr (by rw[hl];rfl))] at e2
    exact⟨by rw[e2],S2⟩
   ·rw[wA (by omega)]
    rw[scU_go _ d1 (by omega) (by rw[hl];rfl)] at e2
    exact⟨⟨i'+1,rfl,by omega,by omega,S2,e2⟩,by dsimp only;omega⟩
  ·rw[scU_end _ d1 (.inl (by omega))] at e2
   exact⟨by rw[e2],S2⟩
theorem part_s(B:Buf h l 1 22 (uvs d.toList))(ha:a<=p)(hp:p<b)(hb:b<=l.n)(hn:l.n<=100000000000)(hQ:∀ h',Dx h h' l (partition ltI d a b p).2.2->Q (.tuple ⟨[.int .i64 ((partition ltI d a b p).1:Nat),.bool (partition ltI d a b p).2.1]⟩) h'):F146.T l (a:Int) (b:Int) (p:Int) h Q:=by
 unfold F146.T F146.G
 rw[wA (by omega),wS (by omega) (by omega)]
 refine(Dx.refl B).swp (i:=p) (j:=a) (by omega) (by omega) λg0 S0=>?_
 generalize hD:partition ltI d a b p=D at hQ
 unfold partition at hD
 dsimp only at hD
 generalize swp d a p=d1 at hD S0
 have u1:=scU_le (λx=>ltI x d1[a]!) d1 (j:=b-1) (i:=a+1) (by omega)
 have u2:=scanUp_ge (λx=>ltI x d1[a]!) d1 (b-1) (a+1)
 generalize hi2:scanUp (λx=>ltI x d1[a]!) d1 (b-1) (a+1)=i1 at hD u1 u2
 have v1:=scanDown_le (λx=>!ltI x d1[a]!) d1 i1 (b-1)
 generalize hj2:scanDown (λx=>!ltI x d1[a]!) d1 i1 (b-1)=j1 at hD v1
 refine⟨λn h2=>n=((i1:Nat):Int)/\Dx h h2 l d1,?_,?_⟩
 ·rintro n g2 ⟨rfl,S⟩
  refine⟨λn h2=>n=((j1:Nat):Int)/\Dx h h2 l d1,?_,?_⟩
  ·rintro n g3 ⟨rfl,S⟩
   refine⟨λhlt=>?_,λhge=>?_⟩
   ·rw[if_pos (by omega)] at hD
    subst hD
    exact S.swp (i:=a) (j:=j1) (by omega) (by omega) λg4 S4=>hQ g4 S4
   ·rw[if_neg (by omega)] at hD
    refine S.swp (i:=j1) (j:=i1) (by omega) (by omega) λg4 S4=>?_
    rw[wA (by omega),wS (by omega) (by omega)]
    generalize hr:partLoop ltI a (i1+1) (j1-1) (swp d1 i1 j1)=r at hD
    subst hD
    refine⟨λn n1 h1=>∃ i j d',n=((i:Nat):Int)/\n1=((j:Nat):Int)/\a+1<=i/\i<=j+2/\j<b/\Dx h h1 l d'/\partLoop ltI a i j d'=r,λn n1 _=>(n1-n+1).toNat,⟨i1+1,j1-1,_,rfl,rfl,by omega,by omega,by omega,S4,hr⟩,?_⟩
    clear hr S4 S S0 hi2 hj2 u1 u2 v1 hge
    rintro n n1 g ⟨i,j,d1,rfl,rfl,i0,i1,j0,S,e⟩
    rw[partLoop_eq] at e
    have u1:=scU_le (λx=>ltI x d1[a]!) d1 i1
    have u2:=scanUp_ge (λx=>ltI x d1[a]!) d1 j i
    generalize hi2:scanUp (λx=>ltI x d1[a]!) d1 j i=i2 at e u1 u2
    have v1:=scanDown_le (λx=>!ltI x d1[a]!) d1 i2 j
    generalize hj2:scanDown (λx=>!ltI x d1[a]!) d1 i2 j=j2 at e v1
    refine⟨λn h2=>n=((i2:Nat):Int)/\Dx h h2 l d1,?_,?_⟩
    ·rintro n g2 ⟨rfl,S⟩
     have fin:∀ g3,Dx h g3 l d1->par ((j2:Int)<(i2:Int)) (ix l.a (a:Int) l.n λb14 o14=>ldI .u64 g3 b14 (o14+((a:Nat):Int).toNat) λn17=>ix l.a (j2:Int) l.n λb15 o15=>ldI .u64 g3 b15 (o15+((j2:Nat):Int).toNat) λn18=>ix l.a (j2:Int) l.n λb16 o16=>st g3 b16 (o16+((j2:Nat):Int).toNat) 1 [.int .u64 n17] λh13=>ix l.a (a:Int) l.n λb17 o17=>st h13 b17 (o17+((a:Nat):Int).toNat) 1 [.int .u64 n18] λh14=>Q (.tuple ⟨[.int .i64 (j2:Int),.bool false]⟩) h14) (ix l.a (j2:Int) l.n λb6 o6=>ldI .u64 g3 b6 (o6+((j2:Nat):Int).toNat) λn11=>ix l.a (i2:Int) l.n λb7 o7=>ldI .u64 g3 b7 (o7+((i2:Nat):Int).toNat) λn12=>ix l.a (i2:Int) l.n λb8 o8=>st g3 b8 (o8+((i2:Nat):Int).toNat) 1 [.int .u64 n11] λh7=>ix l.a (j2:Int) l.n λb9 o9=>st h7 b9 (o9+((j2:Nat):Int).toNat) 1 [.int .u64 n12] λh8=>(∃ i' j' d',wrap .i64 ((i2:Int)+1)=((i':Nat):Int)/\wrap .i64 ((j2:Int)-1)=((j':Nat):Int)/\a+1<=i'/\i'<=j'+2/\j'<b/\Dx h h8 l d'/\partLoop ltI a i' j' d'=r)/\(wrap .i64 ((j2:Int)-1)-wrap .i64 ((i2:Int)+1)+1).toNat<((j:Int)-(i:Int)+1).toNat):=λg3 S3=>by
      refine⟨λhlt=>?_,λhge=>?_⟩
      ·rw[if_pos (by omega)] at e
       subst e
       exact S3.swp (i:=a) (j:=j2) (by omega) (by omega) λg4 S4=>hQ g4 S4
      ·rw[if_neg (by omega)] at e
       refine S3.swp (i:=j2) (j:=i2) (by omega) (by omega) λg4 S4=>?_
       rw[wA (by omega),wS (by omega) (by omega)]
       exact⟨⟨i2+1,j2-1,_,rfl,rfl,by omega,by omega,by omega,S4,e⟩,by omega⟩
     refine⟨λn h3=>∃ j':Nat,n=((j':Nat):Int)/\j'<=j/\Dx h h3 l d1/\scanDown (λx=>!ltI x d1[a]!) d1 i2 j'=j2,λn _=>n.toNat,⟨j,rfl,Nat.le_refl _,S,hj2⟩,?_⟩
     rintro n g3 ⟨j',rfl,hj',S3,e3⟩
     refine⟨λhle=>?_,λhgt=>?_⟩
     ·refine S3.less (i:=j') (j:=a) (by omega) (by omega) (λhl=>?_) (λhl=>?_)
      ·rw[scD_end _ d1 (.inr (by rw[hl];rfl))] at e3
       subst e3
       exact fin g3 S3
      ·rw[wS (by omega) (by omega)]
       rw[scD_go _ d1 (by omega) (by omega) (by rw[hl];rfl)] at e3
       exact⟨⟨j'-1,rfl,by omega,S3,e3⟩,by dsimp only;omega⟩
     ·rw[scD_end _ d1 (.inl (by omega))] at e3
      subst e3
      exact fin g3 S3
    ·refine⟨λn h2=>∃ i':Nat,n=((i':Nat):Int)/\i'<=j+2/\a+1<=i'/\Dx h h2 l d1/\scanUp (λx=>ltI x d1[a]!) d1 j i'=i2,λn _=>j+1-n.toNat,⟨i,rfl,i1,i0,S,hi2⟩,?_⟩
     rintro n g2 ⟨i',rfl,hi',hi0,S2,e2⟩
     refine⟨λhle=>?_,λhgt=>?_⟩
     ·refine S2.less (i:=i') (j:=a) (by omega) (by omega) (λhl=>?_) (λhl=>?_)
      ·rw[wA (by omega)]
       rw[scU_go (λx=>ltI x d1[a]!) d1 (by omega) hl] at e2
       exact⟨⟨i'+1,rfl,by omega,by omega,S2,e2⟩,by dsimp only;omega⟩
      ·rw[scU_end (λx=>ltI x d1[a]!) d1 (.inr hl)] at e2
       exact⟨by rw[e2],S2⟩
     ·rw[scU_end _ d1 (.inl (by omega))] at e2
      exact⟨by rw[e2],S2⟩
  ·refine⟨λn h3=>∃ j':Nat,n=((j':Nat):Int)/\j'<=b-1/\Dx h h3 l d1/\scanDown (λx=>!ltI x d1[a]!) d1 i1 j'=j1,λn _=>n.toNat,⟨b-1,rfl,Nat.le_refl _,S,hj2⟩,?_⟩
   rintro n g3 ⟨j',rfl,hj',S3,e3⟩
   refine⟨λhle=>?_,λhgt=>?_⟩
   ·refine S3.less (i:=j') (j:=a) (by omega) (by omega) (λhl=>?_) (λhl=>?_)
    ·rw[scD_end _ d1 (.inr (by rw[hl];rfl))] at e3
     exact⟨by rw[e3],S3⟩
    ·rw[wS (by omega) (by omega)]
     rw[scD_go _ d1 (by omega) (by omega) (by rw[hl];rfl)] at e3
     exact⟨⟨j'-1,rfl,by omega,S3,e3⟩,by dsimp only;omega⟩
   ·rw[scD_end _ d1 (.inl (by omega))] at e3
    exact⟨by rw[e3],S3⟩
 ·refine⟨λn h2=>∃ i':Nat,n=((i':Nat):Int)/\i'<=b+1/\a+1<=i'/\Dx h h2 l d1/\scanUp (λx=>ltI x d1[a]!) d1 (b-1) i'=i1,λn _=>b-n.toNat,⟨a+1,rfl,by omega,Nat.le_refl _,S0,hi2⟩,?_⟩
  rintro n g2 ⟨i',rfl,hi',hi0,S2,e2⟩
  refine⟨λhle=>?_,λhgt=>?_⟩
  ·refine S2.less (i:=i') (j:=a) (by omega) (by omega) (λhl=>?_) (λhl=>?_)
   ·rw[wA (by omega)]
    rw[scU_go (λx=>ltI x d1[a]!) d1 (by omega) hl] at e2
    exact⟨⟨i'+1,rfl,by omega,by omega,S2,e2⟩,by dsimp only;omega⟩
   ·rw[scU_end (λx=>ltI x d1[a]!) d1 (.inr hl)] at e2
    exact⟨by rw[e2],S2⟩
  ·rw[scU_end _ d1 (.inl (by omega))] at e2
   exact⟨by rw[e2],S2⟩
theorem partial_s(B:Buf h l 1 22 (uvs d.toList))(hab:a<b)(hb:b<=l.n)(hn:l.n<=100000000000)(hQ:∀ h',Dx h h' l (partialInsertionSort ltI d a b).1->Q (.bool (partialInsertionSort ltI d a b).2) h'):F143.T l (a:Int) (b:Int) h Q:=by
 unfold F143.T F143.G
 rw[wA (by omega),wM (by omega) (by omega)]
 generalize hD:partialInsertionSort ltI d a b=D at hQ
 unfold partialInsertionSort at hD
 refine⟨λn n1 h1=>∃ i s d',n=((i:Nat):Int)/\n1=((5-s:Nat):Int)/\s<=5/\a+1<=i/\i<=b/\Dx h h1 l d'/\partialIns ltI a b s i d'=D,λ_ n1 _=>5-n1.toNat,⟨a+1,5,d,rfl,rfl,Nat.le_refl _,Nat.le_refl _,hab,Dx.refl B,hD⟩,?_⟩
 rintro n n1 g ⟨i,s,d1,rfl,rfl,s5,i0,i1,S,e⟩
 cases s with
 |zero=>
  unfold partialIns at e
  subst e
  exact⟨λhlt=>absurd hlt (by decide),λ_=>hQ g S⟩
 |succ s=>
 refine⟨λhlt=>?_,λhge=>absurd (show((5-(s+1):Nat):Int)<5 by omega) hge⟩
 have es:wrap .i64 (((5-(s+1):Nat):Int)+1)=((5-s:Nat):Int):=by rw[wr64 (by omega) (by omega)];omega
 rw[es]
 unfold partialIns at e
 dsimp only at e
 have sc1:∀ i,i<=b->scanSorted ltI d1 b i<=b/\i<=scanSorted ltI d1 b i:=λi=>by
  have:∀ n i,b-i=n->i<=b->scanSorted ltI d1 b i<=b/\i<=scanSorted ltI d1 b i:=λn=>by
   induction n with
   |zero=>intro i h1 h2;rw[scanSorted,if_neg (by simp;omega)];exact⟨h2,Nat.le_refl _⟩
   |succ n ih=>
    intro i h1 h2
    rw[scanSorted]
    split
    ·have:=ih (i+1) (by omega) (by omega);exact⟨this.1,by omega⟩
    ·exact⟨h2,Nat.le_refl _⟩
  exact this _ i rfl
 obtain⟨k1,k2⟩:=sc1 i i1
 generalize hk:scanSorted ltI d1 b i=k at e k1 k2
 refine⟨λn h2=>n=((k:Nat):Int)/\Dx h h2 l d1,?_,?_⟩
 ·rintro n g2 ⟨rfl,S⟩
  refine⟨λhe=>?_,λhne=>?_⟩
  ·rw[if_pos (by omega)] at e
   subst e
   exact hQ g2 S
  rw[if_neg (by omega)] at e
  refine⟨λh50=>?_,λh50=>?_⟩
  ·rw[if_pos (by omega)] at e
   subst e
   exact hQ g2 S
  rw[if_neg (by omega)] at e
  rw[wS (by omega) (by omega),wM (by omega) (by omega),wM (by omega) (by omega)]
  refine S.swp (i:=k-1) (j:=k) (by omega) (by omega) λg3 S3=>?_
  generalize swp d1 k (k-1)=d2 at e S3
  generalize hdn:(if k-a ≥ 2 then shiftDown ltI (k-1) d2 else d2)=d3 at e
  refine⟨λh5=>Dx h h5 l d3,?_,λh2=>?_,λh2=>?_⟩
  ·intro g4 S4
   refine⟨λh2=>?_,λh2=>?_⟩
   ·rw[if_pos (by omega)] at e
    rw[wA (by omega)]
    generalize hup:shiftUp ltI b (k+1) d3=d4 at e
    refine⟨λn h6=>∃ j d',n=((j:Nat):Int)/\k+1<=j/\j<=b/\Dx h h6 l d'/\shiftUp ltI b j d'=d4,λn _=>b-n.toNat,⟨k+1,d3,rfl,Nat.le_refl _,by omega,S4,hup⟩,?_⟩
    rintro n g5 ⟨j,d5,rfl,j0,j1,S5,e5⟩
    rw[shiftUp] at e5
    refine⟨λhlt=>?_,λhge=>?_⟩
    ·rw[if_pos (by omega)] at e5
     rw[wS (by omega) (by omega),wA (by omega)]
     refine S5.less (i:=j) (j:=j-1) (by omega) (by omega) (λhl=>?_) (λhl=>?_)
     ·rw[if_neg (by rw[hl];decide)] at e5
      exact S5.swp (i:=j-1) (j:=j) (by omega) (by omega) λg6 S6=>⟨⟨j+1,_,rfl,by omega,by omega,S6,e5⟩,by dsimp only;omega⟩
     ·rw[if_pos (by rw[hl];decide)] at e5
      subst e5
      exact⟨⟨k,s,_,rfl,rfl,by omega,by omega,by omega,S5,e⟩,by dsimp only;omega⟩
    ·rw[if_neg (by omega)] at e5
     subst e5
     exact⟨⟨k,s,_,rfl,rfl,by omega,by omega,by omega,S5,e⟩,by dsimp only;omega⟩
   ·rw[if_neg (by omega)] at e
    exact⟨⟨k,s,_,rfl,rfl,by omega,by omega,by omega,S4,e⟩,by dsimp only;omega⟩
  ·rw[if_pos (by omega)] at hdn
   refine⟨λn h6=>∃ j d',n=((j:Nat):Int)/\j<=k-1/\Dx h h6 l d'/\shiftDown ltI j d'=d3,λn _=>n.toNat,⟨k-1,d2,rfl,Nat.le_refl _,S3,hdn⟩,?_⟩
   rintro n g5 ⟨j,d5,rfl,j1,S5,e5⟩
   cases j with
   |zero=>
    rw[shiftDown] at e5
    subst e5
    exact⟨λhlt=>absurd hlt (by decide),λ_=>S5⟩
   |succ j=>
    rw[shiftDown] at e5
    refine⟨λhlt=>?_,λhge=>absurd (show(1:Int)<=((j+1:Nat):Int) by omega) hge⟩
    rw[wS (by omega) (by omega),Nat.add_sub_cancel]
    refine S5.less (i:=j+1) (j:=j) (by omega) (by omega) (λhl=>?_) (λhl=>?_)
    ·rw[if_neg (by rw[hl];decide)] at e5
     exact S5.swp (i:=j) (j:=j+1) (by omega) (by omega) λg6 S6=>⟨⟨j,_,rfl,by omega,S6,e5⟩,by dsimp only;omega⟩
    ·rw[if_pos (by rw[hl];decide)] at e5
     subst e5
     exact S5
  ·rw[if_neg (by omega)] at hdn
   subst hdn
   exact S3
 ·refine⟨λn h2=>∃ i':Nat,n=((i':Nat):Int)/\i'<=b/\a+1<=i'/\Dx h h2 l d1/\scanSorted ltI d1 b i'=k,λn _=>b-n.toNat,⟨i,rfl,i1,i0,S,hk⟩,?_⟩
  rintro n g2 ⟨i',rfl,hi',hi0,S2,e2⟩
  rw[scanSorted] at e2
  refine⟨λhlt'=>?_,λhge'=>?_⟩
  ·rw[wS (by omega) (by omega),wA (by omega)]
   refine S2.less (i:=i') (j:=i'-1) (by omega) (by omega) (λhl=>?_) (λhl=>?_)
   ·rw[if_neg (by rw[hl];simp)] at e2
    exact⟨by rw[e2],S2⟩
   ·rw[if_pos (by rw[hl];simp;omega)] at e2
    exact⟨⟨i'+1,rfl,by omega,by omega,S2,e2⟩,by dsimp only;omega⟩
  ·rw[if_neg (by simp;omega)] at e2
   exact⟨by rw[e2],S2⟩
end
end Go.Eng.YtblghgacokoklaaDoor
end
section
namespace Go.Eng.YtblghgacokoklaaDoor
section
open Go.Sort
structure Ct(h0 h:Hp)(b n:Nat):Prop where
 nb:h0 b=none
 k:Keep h0 h
 c:h b=some (.cells ⟨[.int .i64 (n:Int)]⟩ 3 (0,0))
variable{h h0:Hp}{l:Sl}{d:Array Int}{a b c p cb sw:Nat}{Q:Value->Hp->Prop}
theorem order2_le(d:Array Int)(a b sw:Nat):(order2 ltI d a b sw).2.2<=sw+1/\((order2 ltI d a b sw).1=a\/(order2 ltI d a b sw).1=b)/\((order2 ltI d a b sw).2.1=a\/(order2 ltI d a b sw).2.1=b):=by
 unfold order2
 split
 ·exact⟨Nat.le_refl _,.inr rfl,.inl rfl⟩
 ·exact⟨Nat.le_succ _,.inl rfl,.inr rfl⟩
theorem order2_s(B:Buf h0 l 1 22 (uvs d.toList))(C:Ct h0 h cb sw)(ha:a<l.n)(hb:b<l.n)(hs:sw<=100)
  (hQ:∀ h',Ct h0 h' cb (order2 ltI d a b sw).2.2->Q (.tuple ⟨[.int .i64 ((order2 ltI d a b sw).1:Nat),.int .i64 ((order2 ltI d a b sw).2.1:Nat)]⟩) h'):F157.T l (a:Int) (b:Int) (some ⟨cb,0,none⟩) h Q:=by
 unfold F157.T F157.G
 have S:=Dx.refl (B.keep C.k)
 unfold order2 at hQ
 refine S.less (i:=b) (j:=a) hb ha (λhl=>?_) (λhl=>?_)
 ·rw[if_pos hl] at hQ
  have x:=C.c
  refine⟨cb,0,rfl,(sw:Int),by unfold Hp.at;rw[x];rfl,cb,0,rfl,⟨_,_,_,x,Nat.le_refl _,λj _ _=>by simp⟩,?_⟩
  refine hQ _ ⟨C.nb,keep_wr_new C.nb C.k _ _,?_⟩
  rw[wA (by omega),wr_at x];rfl
 ·rw[if_neg (by rw[hl];decide)] at hQ
  exact hQ h C
theorem median_s(B:Buf h0 l 1 22 (uvs d.toList))(C:Ct h0 h cb sw)(ha:a<l.n)(hb:b<l.n)(hc:c<l.n)(hs:sw<=90)
  (hQ:∀ h',Ct h0 h' cb (median ltI d a b c sw).2->Q (.int .i64 ((median ltI d a b c sw).1:Nat)) h'):F154.T l (a:Int) (b:Int) (c:Int) (some ⟨cb,0,none⟩) h Q:=by
 unfold F154.T F154.G
 unfold median at hQ
 dsimp only at hQ
 have e1:=order2_le d a b sw
 refine order2_s B C ha hb (by omega) λg1 C1=>⟨_,_,rfl,?_⟩
 generalize order2 ltI d a b sw=r1 at e1 hQ C1
 have e2:=order2_le d r1.2.1 c r1.2.2
 refine order2_s B C1 (by rcases e1.2.2 with h|h<;>omega) hc (by omega) λg2 C2=>⟨_,_,rfl,?_⟩
 generalize order2 ltI d r1.2.1 c r1.2.2=r2 at e2 hQ C2
 refine order2_s B C2 (by rcases e1.2.1 with h|h<;>omega) (by rcases e2.2.1 with h|h<;>rcases e1.2.2 with h'|h'<;>omega) (by omega) λg3 C3=>⟨_,_,rfl,hQ g3 C3⟩
theorem median_le(d:Array Int)(a b c sw:Nat):(median ltI d a b c sw).2<=sw+3/\((median ltI d a b c sw).1=a\/(median ltI d a b c sw).1=b\/(median ltI d a b c sw).1=c):=by
 unfold median
 dsimp only
 have e1:=order2_le d a b sw
 generalize order2 ltI d a b sw=r1 at e1
 have e2:=order2_le d r1.2.1 c r1.2.2
 generalize order2 ltI d r1.2.1 c r1.2.2=r2 at e2
 have e3:=order2_le d r1.1 r2.1 r2.2.2
 refine⟨by omega,?_⟩
 rcases e3.2.2 with h|h<;>rw[h]
 ·rcases e1.2.1 with h|h
  ·exact .inl h
  ·exact .inr (.inl h)
 ·rcases e2.2.1 with h|h
  ·rw[h];rcases e1.2.2 with h|h
   ·exact .inl h
   ·exact .inr (.inl h)
  ·exact .inr (.inr h)
theorem medianAdj_le(d:Array Int)(a sw:Nat):(medianAdjacent ltI d a sw).2<=sw+3/\(medianAdjacent ltI d a sw).1<=a+1:=by
 unfold medianAdjacent
 have:=median_le d (a-1) a (a+1) sw
 refine⟨this.1,?_⟩
 rcases this.2 with h|h|h<;>omega
theorem medianAdj_s(B:Buf h0 l 1 22 (uvs d.toList))(C:Ct h0 h cb sw)(h1:1<=a)(ha:a+1<l.n)(hn:l.n<=100000000000)(hs:sw<=90)
  (hQ:∀ h',Ct h0 h' cb (medianAdjacent ltI d a sw).2->Q (.int .i64 ((medianAdjacent ltI d a sw).1:Nat)) h'):F153.T l (a:Int) (some ⟨cb,0,none⟩) h Q:=by
 unfold F153.T F153.G
 rw[wS h1 (by omega),wA (by omega)]
 exact median_s B C (by omega) (by omega) (by omega) hs λh' C'=>⟨_,rfl,hQ h' C'⟩
theorem choose_s(B:Buf h l 1 22 (uvs d.toList))(hab:a<b)(hb:b<=l.n)(hn:l.n<=100000000000)
  (hQ:∀ h',Keep h h'->Q (.tuple ⟨[.int .i64 ((choosePivot ltI d a b).1:Nat),.int .i64 (match (choosePivot ltI d a b).2 with|.increasing=>1|.decreasing=>2|.unknown=>0)]⟩) h'):F141.T l (a:Int) (b:Int) h Q:=by
 unfold F141.T F141.G
 intro cb hcb
 have C:Ct h (h.new cb (.cells ⟨[.int .i64 0]⟩ 3 (0,0))) cb 0:=⟨hcb,Keep.new hcb _,new_self h cb _⟩
 generalize h.new cb (.cells ⟨[.int .i64 0]⟩ 3 (0,0))=h1 at C ⊢
 unfold choosePivot at hQ
 dsimp only at hQ
 rw[wM (by omega) (by omega)]
 generalize hL:b-a=L at hQ ⊢
 have hd:Int.tdiv (L:Int) 4=((L / 4:Nat):Int):=by rw[Int.tdiv_eq_ediv_of_nonneg (by omega)];omega
 have w0:wrap .i64 ((L / 4:Nat):Int)=((L / 4:Nat):Int):=wr64 (by omega) (by omega)
 have wk:∀ k:Nat,k<=3->wrap .i64 (((L / 4:Nat):Int)*(k:Int))=((L / 4*k:Nat):Int):=λk hk=>by
  have e:((L / 4:Nat):Int)*(k:Int)=((L / 4*k:Nat):Int):=(Int.natCast_mul _ _).symm
  rw[e]
  have:L / 4*k<=L / 4*3:=Nat.mul_le_mul_left _ hk
  exact wr64 (by omega) (by omega)
 have w1:=wk 1 (by omega)
 have w2:=wk 2 (by omega)
 have w3:=wk 3 (by omega)
 have n1:((1:Nat):Int)=1:=rfl
 have n2:((2:Nat):Int)=2:=rfl
 have n3:((3:Nat):Int)=3:=rfl
 rw[n1] at w1
 rw[n2] at w2
 rw[n3] at w3
 rw[hd,w0,w1,w2,w3,wP (by omega),wP (by omega),wP (by omega)]
 generalize hr:(if L ≥ 8 then if L ≥ 50 then median ltI d (medianAdjacent ltI d (a+L / 4*1) 0).1 (medianAdjacent ltI d (a+L / 4*2) (medianAdjacent ltI d (a+L / 4*1) 0).2).1 (medianAdjacent ltI d (a+L / 4*3) (medianAdjacent ltI d (a+L / 4*2) (medianAdjacent ltI d (a+L / 4*1) 0).2).2).1 (medianAdjacent ltI d (a+L / 4*3) (medianAdjacent ltI d (a+L / 4*2) (medianAdjacent ltI d (a+L / 4*1) 0).2).2).2 else median ltI d (a+L / 4*1) (a+L / 4*2) (a+L / 4*3) 0 else(a+L / 4*2,0))=r at hQ
 refine⟨by decide,by decide,by decide,λx h'=>x=((r.1:Nat):Int)/\Ct h h' cb r.2,?_,λh8=>⟨λh50=>?_,λh50=>?_⟩,λh8=>?_⟩
 ·rintro x h' ⟨rfl,C'⟩
  have hq:=hQ h' C'.k
  have x':=C'.c
  refine⟨(r.2:Int),by unfold Hp.at;rw[x'];rfl,λh0=>?_,λh0=>⟨λh12=>?_,λh12=>?_⟩⟩
  ·rw[if_pos (show r.2=0 by omega)] at hq;exact hq
  ·rw[if_neg (show ¬ r.2=0 by omega),if_pos (show r.2=12 by omega)] at hq;exact hq
  ·rw[if_neg (show ¬ r.2=0 by omega),if_neg (show ¬ r.2=12 by omega)] at hq;exact hq
 ·rw[if_pos (by omega),if_pos (by omega)] at hr
  have m1:=medianAdj_le d (a+L / 4*1) 0
  refine medianAdj_s B C (by omega) (by omega) hn (by omega) λg1 C1=>⟨_,rfl,?_⟩
  generalize medianAdjacent ltI d (a+L / 4*1) 0=r1 at m1 hr C1 ⊢
  have m2:=medianAdj_le d (a+L / 4*2) r1.2
  refine medianAdj_s B C1 (by omega) (by omega) hn (by omega) λg2 C2=>⟨_,rfl,?_⟩
  generalize medianAdjacent ltI d (a+L / 4*2) r1.2=r2 at m2 hr C2 ⊢
  have m3:=medianAdj_le d (a+L / 4*3) r2.2
  refine medianAdj_s B C2 (by omega) (by omega) hn (by omega) λg3 C3=>⟨_,rfl,?_⟩
  generalize medianAdjacent ltI d (a+L / 4*3) r2.2=r3 at m3 hr C3 ⊢
  refine median_s B C3 (by omega) (by omega) (by omega) (by omega) λg4 C4=>⟨_,rfl,by rw[hr],by rw[hr] at C4;exact C4⟩
 ·rw[if_pos (by omega),if_neg (by omega)] at hr
  exact median_s B C (by omega) (by omega) (by omega) (by omega) λg4 C4=>⟨_,rfl,by rw[hr],by rw[hr] at C4;exact C4⟩
 ·rw[if_neg (by omega)] at hr
  subst hr
  exact⟨rfl,C⟩
end
end Go.Eng.YtblghgacokoklaaDoor
end
section
namespace Go.Eng.YtblghgacokoklaaDoor
section
open Go.Sort
def tabL:List UInt8:=[0,1,2,2,3,3,3,3,4,4,4,4,4,4,4,4,5,5,5,5,5,5,5,5,5,5,5,5,5,5,5,5]++List.replicate 32 6++List.replicate 64 7++List.replicate 128 8
theorem tab8_size:bytes8.size=256:=by decide +kernel
theorem tab8_list:bytes8.data.toList=tabL:=by decide +kernel
theorem tabL_at:∀ k,k<256->(tabL.getD k 0).toNat=bitsLen k:=by decide +kernel
theorem tab8_at{k:Nat}(h:k<256):bt bytes8 (k:Int)=(bitsLen k:Int):=by
 unfold bt
 have hs:((k:Int)).toNat<bytes8.size:=by rw[tab8_size];omega
 rw[dif_pos hs]
 have e:bytes8[((k:Int)).toNat]'hs=tabL.getD k 0:=by
  show bytes8.data[((k:Int)).toNat]'hs=_
  rw[<- Array.getElem_toList (h:=hs),List.getD_eq_getElem?_getD,<- tab8_list]
  simp only[Int.toNat_natCast]
  rw[getElem?_eq_getElem (by rw[Array.length_toList];rw[Int.toNat_natCast] at hs;exact hs)]
  rfl
 rw[e]
 exact congrArg (λn:Nat=>(n:Int)) (tabL_at k h)
theorem bitsLen_shift{n s:Nat}(h:2 ^ s<=n):bitsLen n=s+bitsLen (n / 2 ^ s):=by
 have hp:0<2 ^ s:=Nat.two_pow_pos s
 have h1:n / 2 ^ s≠0:=by
  have:=Nat.div_le_div_right (c:=2 ^ s) h
  rw[Nat.div_self hp] at this;omega
 have h0:n≠0:=by omega
 unfold bitsLen
 rw[if_neg h0,if_neg h1]
 have e:=(Nat.log2_eq_iff h1 (k:=(n / 2 ^ s).log2)).1 rfl
 have:n.log2=s+(n / 2 ^ s).log2:=by
  refine(Nat.log2_eq_iff h0).2 ⟨?_,?_⟩
  ·rw[Nat.pow_add]
   have:=Nat.mul_le_mul_left (2 ^ s) e.1
   exact Nat.le_trans this (Nat.mul_div_le n (2 ^ s))
  ·rw[Nat.add_assoc,Nat.pow_add]
   have h2:=Nat.lt_div_mul_add (a:=n) (b:=2 ^ s) hp
   have h3:n / 2 ^ s+1<=2 ^ ((n / 2 ^ s).log2+1):=e.2
   have h4:=Nat.mul_le_mul_left (2 ^ s) h3
   rw[Nat.mul_add,Nat.mul_one,Nat.mul_comm] at h4
   omega
 omega
theorem shrN{k:IntKind}(a j:Nat)(hk:j<=k.bits):shrI k (a:Int) (j:Int)=((a / 2 ^ j:Nat):Int):=by
 unfold shrI
 have h1:min (j:Int).toNat k.bits=j:=by omega
 have h2:(2:Int) ^ j=((2 ^ j:Nat):Int):=by rw[Int.natCast_pow];rfl
 rw[h1,h2,Int.fdiv_eq_ediv_of_nonneg _ (Int.natCast_nonneg _)]
 exact(Int.natCast_ediv a (2 ^ j)).symm
theorem wrap8{x:Int}(h0:0<=x)(h1:x<256):wrap .u8 x=x:=by rw[IntKind.wrap_u8];omega
theorem len_b{h:Hp}{n s:Nat}{e:Int}{Q:Value->Hp->Prop}(he:e=(s:Int))(hs:s<=100)(hn:n<256)(hQ:Q (.int .i64 ((s+bitsLen n:Nat):Int)) h) :
  ((0:Int)<=(wrap .u8 (n:Int))/\(wrap .u8 (n:Int))<(bytes8.size:Int))/\Q (.int .i64 (wrap .i64 (e+wrap .i64 (bt bytes8 (wrap .u8 (n:Int)))))) h:=by
 have hsz:(bytes8.size:Int)=256:=by rw[tab8_size];rfl
 have hb:bitsLen n<=8:=by
  have:∀ k,k<256->bitsLen k<=8:=by decide +kernel
  exact this n hn
 rw[wrap8 (by omega) (by omega),tab8_at hn,hsz,he,wr64 (x:=(bitsLen n:Int)) (by omega) (by omega),wP (by omega)]
 exact⟨by omega,hQ⟩
theorem len64_s{h:Hp}{n:Nat}{Q:Value->Hp->Prop}(h1:n<18446744073709551616)(hQ:Q (.int .i64 ((bitsLen n:Nat):Int)) h):F148.T (n:Int) h Q:=by
 have s32:shrI .u64 (n:Int) 32=((n / 2 ^ 32:Nat):Int):=shrN (k:=.u64) n 32 (by decide)
 have s16:∀ m:Nat,shrI .u64 (m:Int) 16=((m / 2 ^ 16:Nat):Int):=λm=>shrN (k:=.u64) m 16 (by decide)
 have s8:∀ m:Nat,shrI .u64 (m:Int) 8=((m / 2 ^ 8:Nat):Int):=λm=>shrN (k:=.u64) m 8 (by decide)
 have w1:wrap .i64 (32+16)=((48:Nat):Int):=by rw[wr64 (by omega) (by omega)];rfl
 have w2:wrap .i64 (32+8)=((40:Nat):Int):=by rw[wr64 (by omega) (by omega)];rfl
 have w3:wrap .i64 (16+8)=((24:Nat):Int):=by rw[wr64 (by omega) (by omega)];rfl
 have w4:wrap .i64 (((48:Nat):Int)+8)=((56:Nat):Int):=by rw[wr64 (by omega) (by omega)];rfl
 have w5:wrap .i64 (0+8)=((8:Nat):Int):=by rw[wr64 (by omega) (by omega)];rfl
 have w6:wrap .i64 (0+16)=((16:Nat):Int):=by rw[wr64 (by omega) (by omega)];rfl
 have w7:wrap .i64 (((16:Nat):Int)+8)=((24:Nat):Int):=by rw[wr64 (by omega) (by omega)];rfl
 have w8:wrap .i64 (0+32)=((32:Nat):Int):=by rw[wr64 (by omega) (by omega)];rfl
 unfold F148.T
 refine⟨λc1=>⟨by decide,?_⟩,λc1=>?_⟩
 ·rw[bitsLen_shift (s:=32) (by omega)] at hQ
  rw[s32]
  generalize hm:n / 2 ^ 32=m at hQ ⊢
  have hm2:m<4294967296:=by omega
  refine⟨λc2=>⟨by decide,?_⟩,λc2=>?_⟩
  ·rw[bitsLen_shift (n:=m) (s:=16) (by omega)] at hQ
   rw[s16]
   generalize hk:m / 2 ^ 16=k at hQ ⊢
   refine⟨λc3=>⟨by decide,?_⟩,λc3=>?_⟩
   ·rw[bitsLen_shift (n:=k) (s:=8) (by omega)] at hQ
    rw[s8]
    exact len_b (s:=56) (by rw[w1,w4]) (by decide) (by omega) (by rw[<- Nat.add_assoc,<- Nat.add_assoc] at hQ;exact hQ)
   ·exact len_b (s:=48) (by rw[w1]) (by decide) (by omega) (by rw[<- Nat.add_assoc] at hQ;exact hQ)
  ·refine⟨λc3=>⟨by decide,?_⟩,λc3=>?_⟩
   ·rw[bitsLen_shift (n:=m) (s:=8) (by omega)] at hQ
    rw[s8]
    exact len_b (s:=40) (by rw[w2]) (by decide) (by omega) (by rw[<- Nat.add_assoc] at hQ;exact hQ)
   ·exact len_b (s:=32) rfl (by decide) (by omega) hQ
 ·refine⟨λc2=>⟨by decide,?_⟩,λc2=>?_⟩
  ·rw[bitsLen_shift (n:=n) (s:=16) (by omega)] at hQ
   rw[s16]
   generalize hk:n / 2 ^ 16=k at hQ ⊢
   refine⟨λc3=>⟨by decide,?_⟩,λc3=>?_⟩
   ·rw[bitsLen_shift (n:=k) (s:=8) (by omega)] at hQ
    rw[s8]
    exact len_b (s:=24) (by rw[w6,w7]) (by decide) (by omega) (by rw[<- Nat.add_assoc] at hQ;exact hQ)
   ·exact len_b (s:=16) rfl (by decide) (by omega) hQ
  ·refine⟨λc3=>⟨by decide,?_⟩,λc3=>?_⟩
   ·rw[bitsLen_shift (n:=n) (s:=8) (by omega)] at hQ
    rw[s8]
    exact len_b (s:=8) rfl (by decide) (by omega) hQ
   ·exact len_b (s:=0) rfl (by decide) (by omega) (by rw[Nat.zero_add];exact hQ)
theorem len_s{h:Hp}{n:Nat}{Q:Value->Hp->Prop}(h1:n<18446744073709551616)(hQ:Q (.int .i64 ((bitsLen n:Nat):Int)) h):F131.T (n:Int) h Q:=by
 unfold F131.T F131.G
 exact len64_s h1 ⟨_,rfl,hQ⟩
theorem bitsLen_le{n k:Nat}(h:n<2 ^ k):bitsLen n<=k:=by
 unfold bitsLen
 split
 ·exact Nat.zero_le _
 ·next h0=>exact(Nat.log2_lt h0).2 h
theorem pow_s{h:Hp}{n:Nat}{Q:Value->Hp->Prop}(h1:n<2 ^ 40)(hQ:Q (.int .u64 ((1 <<< bitsLen n:Nat):Int)) h):F151.T (n:Int) h Q:=by
 unfold F151.T F151.G
 have hn:n<18446744073709551616:=Nat.lt_trans h1 (by decide)
 rw[wrap_u64 (by omega) (by omega)]
 refine len_s hn ⟨_,rfl,by omega,?_⟩
 have hb:=bitsLen_le h1
 have e:shlI .u64 1 ((bitsLen n:Nat):Int)=((1 <<< bitsLen n:Nat):Int):=by
  unfold shlI
  have:min (((bitsLen n:Nat):Int)).toNat (IntKind.bits .u64)=bitsLen n:=by show min _ 64=_;omega
  rw[this,Int.one_mul,Nat.one_shiftLeft]
  have h2:(2:Int) ^ (bitsLen n)=((2 ^ (bitsLen n):Nat):Int):=by rw[Int.natCast_pow];rfl
  have h3:2 ^ (bitsLen n)<=2 ^ 40:=Nat.pow_le_pow_right (by decide) hb
  rw[h2]
  generalize 2 ^ (bitsLen n)=z at h3 ⊢
  exact wrap_u64 (by omega) (by omega)
 rw[e];exact hQ
theorem ofU(u:UInt64):BitVec.ofInt 64 (u.toNat:Int)=u.toBitVec:=by
 apply BitVec.eq_of_toNat_eq
 rw[BitVec.ofInt_natCast,BitVec.toNat_ofNat]
 exact Nat.mod_eq_of_lt u.toNat_lt
theorem xorU(u v:UInt64):bitsI .xor .u64 (u.toNat:Int) (v.toNat:Int)=((u ^^^ v).toNat:Int):=by
 have:=(u ^^^ v).toNat_lt
 show wrap .u64 (((BitVec.ofInt 64 (u.toNat:Int) ^^^ BitVec.ofInt 64 (v.toNat:Int)).toNat:Nat):Int)=_
 rw[ofU,ofU]
 have e:(u.toBitVec ^^^ v.toBitVec).toNat=(u ^^^ v).toNat:=rfl
 rw[e,wrap_u64 (by omega) (by omega)]
theorem andU(u:UInt64){m:Nat}(hm:m<18446744073709551616):bitsI .and .u64 (u.toNat:Int) (m:Int)=((u.toNat &&& m:Nat):Int):=by
 have h1:u.toNat &&& m<=m:=Nat.and_le_right
 show wrap .u64 (((BitVec.ofInt 64 (u.toNat:Int) &&& BitVec.ofInt 64 (m:Int)).toNat:Nat):Int)=_
 have e:(BitVec.ofInt 64 (u.toNat:Int) &&& BitVec.ofInt 64 (m:Int)).toNat=u.toNat &&& m:=by
  rw[ofU,BitVec.ofInt_natCast,BitVec.toNat_and,BitVec.toNat_ofNat,Nat.mod_eq_of_lt hm];rfl
 rw[e,wrap_u64 (by omega) (by omega)]
theorem wu(n:Nat):wrap .u64 (n:Int)=((n % 2 ^ 64:Nat):Int):=by
 simp[IntKind.wrap,IntKind.signed,IntKind.bits]
theorem shlU(u:UInt64)(k:UInt64)(j:Nat)(hk:k.toNat=j)(hj:j<64):shlI .u64 (u.toNat:Int) (j:Int)=((u <<< k).toNat:Int):=by
 unfold shlI
 have h1:min ((j:Int)).toNat (IntKind.bits .u64)=j:=by show min _ 64=_;omega
 have h2:(2:Int) ^ j=((2 ^ j:Nat):Int):=by rw[Int.natCast_pow];rfl
 have h3:(u.toNat:Int)*((2 ^ j:Nat):Int)=((u.toNat*2 ^ j:Nat):Int):=(Int.natCast_mul _ _).symm
 rw[h1,h2,h3,UInt64.toNat_shiftLeft,hk,Nat.mod_eq_of_lt hj,Nat.shiftLeft_eq]
 exact wu _
theorem shrU(u:UInt64)(k:UInt64)(j:Nat)(hk:k.toNat=j)(hj:j<64):shrI .u64 (u.toNat:Int) (j:Int)=((u >>> k).toNat:Int):=by
 rw[shrN (k:=.u64) _ _ (by show j<=64;omega),UInt64.toNat_shiftRight,hk,Nat.mod_eq_of_lt hj,Nat.shiftRight_eq_div_pow]
theorem xnext_s{h:Hp}{b:Nat}{u:UInt64}{Q:Value->Hp->Prop}(hb:h b=some (.cells ⟨[.int .u64 (u.toNat:Int)]⟩ 214 (0,0)))(hQ:∀ h',h' b=some (.cells ⟨[.int .u64 ((xorNext u).toNat:Int)]⟩ 214 (0,0))->(∀ k,k≠b->h' k=h k)->Q (.int .u64 ((xorNext u).toNat:Int)) h'):F152.T (some ⟨b,0,none⟩) h Q:=by
 have at_:∀ {g:Hp} {x:Int},g b=some (.cells ⟨[.int .u64 x]⟩ 214 (0,0))->g.at b 0=some (.int .u64 x):=λhg=>by unfold Hp.at;rw[hg];rfl
 have can:∀ {g:Hp} {x:Int},g b=some (.cells ⟨[.int .u64 x]⟩ 214 (0,0))->g.canW b 0 1:=λhg=>⟨_,_,_,hg,Nat.le_refl _,λj _ _=>by simp⟩
 have st:∀ {g:Hp} {x:Int} (y:Int),g b=some (.cells ⟨[.int .u64 x]⟩ 214 (0,0))->(g.wr b 0 [.int .u64 y]) b=some (.cells ⟨[.int .u64 y]⟩ 214 (0,0)):=λy hg=>by rw[wr_at hg];rfl
 have ot:∀ {g:Hp} {vs:List Value} {k:Nat},k≠b->(g.wr b 0 vs) k=g k:=λhk=>by unfold Hp.wr;rw[if_neg hk]
 have e1:bitsI .xor .u64 (u.toNat:Int) (shlI .u64 (u.toNat:Int) 13)=((u ^^^ (u <<< 13)).toNat:Int):=by
  have:=shlU u 13 13 rfl (by decide)
  rw[show(13:Int)=((13:Nat):Int) from rfl,this,xorU]
 generalize hu1:u ^^^ (u <<< 13)=u1 at e1
 have e2:bitsI .xor .u64 (u1.toNat:Int) (shrI .u64 (u1.toNat:Int) 7)=((u1 ^^^ (u1 >>> 7)).toNat:Int):=by
  have:=shrU u1 7 7 rfl (by decide)
  rw[show(7:Int)=((7:Nat):Int) from rfl,this,xorU]
 generalize hu2:u1 ^^^ (u1 >>> 7)=u2 at e2
 have e3:bitsI .xor .u64 (u2.toNat:Int) (shlI .u64 (u2.toNat:Int) 17)=((u2 ^^^ (u2 <<< 17)).toNat:Int):=by
  have:=shlU u2 17 17 rfl (by decide)
  rw[show(17:Int)=((17:Nat):Int) from rfl,this,xorU]
 have ex:xorNext u=u2 ^^^ (u2 <<< 17):=by unfold xorNext;dsimp only;rw[hu1,hu2]
 rw[<- ex] at e3
 unfold F152.T
 refine⟨b,0,rfl,_,at_ hb,b,0,rfl,_,at_ hb,by decide,b,0,rfl,?_⟩
 rw[e1]
 refine⟨can hb,b,0,rfl,_,at_ (st _ hb),b,0,rfl,_,at_ (st _ hb),by decide,b,0,rfl,?_⟩
 rw[e2]
 refine⟨can (st _ hb),b,0,rfl,_,at_ (st _ (st _ hb)),b,0,rfl,_,at_ (st _ (st _ hb)),by decide,b,0,rfl,?_⟩
 rw[e3]
 refine⟨can (st _ (st _ hb)),b,0,rfl,_,at_ (st _ (st _ (st _ hb))),?_⟩
 exact hQ _ (st _ (st _ (st _ hb))) λk hk=>by rw[ot hk,ot hk,ot hk]
structure Rn(h h':Hp)(l:Sl)(b:Nat)(u:UInt64)(d:Array Int):Prop where
 s:Dx h h' l d
 nb:h b=none
 c:h' b=some (.cells ⟨[.int .u64 (u.toNat:Int)]⟩ 214 (0,0))
theorem rn_buf{h:Hp}{b:Nat}{r:Int}(hb:h b=some (.cells ⟨[.int .u64 r]⟩ 214 (0,0))):Buf h (rb b) 1 214 [.int .u64 r]:=
 ⟨rfl,Nat.le_refl _,.inr ⟨b,_,(0,0),rfl,hb,Nat.le_refl _,λj _=>by simp,rfl⟩⟩
theorem Rn.sw{h g g':Hp}{l:Sl}{b:Nat}{u:UInt64}{d d':Array Int}(R:Rn h g l b u d)(S:Dx g g' l d'):Rn h g' l b u d':=
 ⟨R.s.from S,R.nb,S.up.keep b _ (λo ho=>buf_off (rn_buf R.c) R.s.u (by decide) b 0 o rfl ho) R.c⟩
theorem Rn.draw{h g g':Hp}{l:Sl}{b:Nat}{u u':UInt64}{d:Array Int}(R:Rn h g l b u d)(h1:g' b=some (.cells ⟨[.int .u64 (u'.toNat:Int)]⟩ 214 (0,0)))(h2:∀ k,k≠b->g' k=g k):Rn h g' l b u' d:=by
 have hU:Upd g g' (rb b) (rb b):=⟨λk x hk e=>by
  have hkb:k≠b:=λq=>hk 0 (by rw[q];rfl)
  rw[h2 k hkb];exact e,.inl rfl,λk e=>by
  by_cases hkb:k=b
  ·rw[hkb,h1] at e;cases e
  ·rw[h2 k hkb] at e;exact e⟩
 refine⟨⟨R.s.u.upd hU (buf_off R.s.u (rn_buf R.c) (by decide)),⟨λk x hk e=>?_,.inl rfl,λk e=>R.s.up.dom k (hU.dom k e)⟩⟩,R.nb,h1⟩
 have hkb:k≠b:=λq=>by rw[q,R.nb] at e;cases e
 rw[h2 k hkb]
 exact R.s.up.keep k x hk e
variable{h:Hp}{l:Sl}{d:Array Int}{a b p:Nat}{Q:Value->Hp->Prop}
def stK(a L:Nat)(d:Array Int):Nat->UInt64×Array Int
 |0=>(UInt64.ofNat L,d)
 |k+1=>breakStep a L (1 <<< bitsLen L) (stK a L d k) (a+(L / 4)*2-1+k)
theorem break_s(B:Buf h l 1 22 (uvs d.toList))(hab:a<=b)(hb:b<=l.n)(hn:l.n<=100000000000)(hQ:∀ h',Dx h h' l (breakPatterns d a b)->Q (.tuple ⟨[]⟩) h'):F140.T l (a:Int) (b:Int) h Q:=by
 unfold F140.T F140.G
 rw[wM hab (by omega)]
 unfold breakPatterns at hQ
 dsimp only at hQ
 generalize hL:b-a=L at hQ ⊢
 refine⟨λh8=>?_,λh8=>?_⟩
 ·rw[if_pos (by omega)] at hQ
  have h3:∀ h',Dx h h' l (stK a L d 3).2->Q (.tuple ⟨[]⟩) h':=hQ
  clear hQ
  have hd:Int.tdiv (L:Int) 4=((L / 4:Nat):Int):=by rw[Int.tdiv_eq_ediv_of_nonneg (by omega)];omega
  have w2:wrap .i64 (((L / 4:Nat):Int)*2)=((L / 4*2:Nat):Int):=by rw[wr64 (by omega) (by omega)];omega
  rw[hd,wr64 (x:=((L / 4:Nat):Int)) (by omega) (by omega),w2,wP (by omega),wS (by omega) (by omega),wA (by omega)]
  intro xb hxb
  have x0:=new_self h xb (.cells ⟨[.int .u64 0]⟩ 214 (0,0))
  have R0:Rn h (h.new xb (.cells ⟨[.int .u64 0]⟩ 214 (0,0))) l xb 0 d:=⟨⟨B.keep (Keep.new hxb _),Upd.of_keep (Keep.new hxb _) l⟩,hxb,x0⟩
  refine⟨⟨_,_,_,x0,Nat.le_refl _,λj _ _=>by simp⟩,?_⟩
  have eL:wrap .u64 (L:Int)=((UInt64.ofNat L).toNat:Int):=by
   rw[wrap_u64 (by omega) (by omega),UInt64.toNat_ofNat',Nat.mod_eq_of_lt (by show L<18446744073709551616;omega)]
  rw[eL]
  have R1:Rn h ((h.new xb (.cells ⟨[.int .u64 0]⟩ 214 (0,0))).wr xb 0 [.int .u64 ((UInt64.ofNat L).toNat:Int)]) l xb (UInt64.ofNat L) d:=R0.draw (by rw[wr_at x0];rfl) λk hk=>by unfold Hp.wr;rw[if_neg hk]
  generalize ((h.new xb (.cells ⟨[.int .u64 0]⟩ 214 (0,0))).wr xb 0 [.int .u64 ((UInt64.ofNat L).toNat:Int)])=g1 at R1 ⊢
  refine pow_s (by show L<1099511627776;omega) ⟨_,rfl,by decide,?_⟩
  have hmod:1 <<< bitsLen L<=1099511627776:=by
   rw[Nat.one_shiftLeft]
   exact Nat.le_trans (Nat.pow_le_pow_right (by decide) (bitsLen_le (k:=37) (by show L<137438953472;omega))) (by decide)
  have hmod1:1<=1 <<< bitsLen L:=by rw[Nat.one_shiftLeft];exact Nat.one_le_two_pow
  have hmod2:1 <<< bitsLen L<=2*L:=by
   rw[Nat.one_shiftLeft]
   unfold bitsLen
   rw[if_neg (by omega),Nat.pow_succ]
   have:=Nat.log2_self_le (n:=L) (by omega)
   omega
  refine⟨λn g=>∃ k,n=((a+L / 4*2-1+k:Nat):Int)/\k<=3/\Rn h g l xb (stK a L d k).1 (stK a L d k).2,λn _=>a+L / 4*2+2-n.toNat,⟨0,rfl,by decide,R1⟩,?_⟩
  rintro n g ⟨k,rfl,hk,R⟩
  refine⟨by decide,λhle=>?_,λhgt=>?_⟩
  ·refine Go.Eng.YtblghgacokoklaaDoor.xnext_s R.c λg2 hg hot=>⟨_,rfl,?_⟩
   have R2:=R.draw hg hot
   clear hg hot
   have hw:wrap .u64 (((1 <<< bitsLen L:Nat):Int)-1)=((1 <<< bitsLen L-1:Nat):Int):=by rw[wrap_u64 (by omega) (by omega)];omega
   dsimp only
   rw[hw,andU (xorNext (stK a L d k).1) (m:=1 <<< bitsLen L-1) (by omega)]
   have hq:(xorNext (stK a L d k).1).toNat &&& (1 <<< bitsLen L-1)<=1 <<< bitsLen L-1:=Nat.and_le_right
   have es:stK a L d (k+1)=breakStep a L (1 <<< bitsLen L) (stK a L d k) (a+(L / 4)*2-1+k):=rfl
   unfold breakStep at es
   dsimp only at es
   generalize (xorNext (stK a L d k).1).toNat &&& (1 <<< bitsLen L-1)=q at hq es ⊢
   rw[wr64 (x:=(q:Int)) (by omega) (by omega)]
   have S2:=Dx.refl R2.s.u
   refine⟨λhge=>?_,λhlt=>?_⟩
   ·rw[if_pos (by omega)] at es
    rw[wM (by omega) (by omega),wP (by omega),wA (by omega)]
    refine S2.swp (i:=a+(q-L)) (j:=a+L / 4*2-1+k) (by omega) (by omega) λg3 S3=>⟨⟨k+1,by rw[Nat.add_assoc],by omega,?_⟩,by omega⟩
    rw[es];exact R2.sw S3
   ·rw[if_neg (by omega)] at es
    rw[wP (by omega),wA (by omega)]
    refine S2.swp (i:=a+q) (j:=a+L / 4*2-1+k) (by omega) (by omega) λg3 S3=>⟨⟨k+1,by rw[Nat.add_assoc],by omega,?_⟩,by omega⟩
    rw[es];exact R2.sw S3
  ·have:k=3:=by omega
   subst this
   exact h3 g R.s
 ·rw[if_neg (by omega)] at hQ
  exact hQ h (Dx.refl B)
end
end Go.Eng.YtblghgacokoklaaDoor
end
section
namespace Go.Eng.YtblghgacokoklaaDoor
section
open Go.Sort
theorem choose_le(d:Array Int){a b:Nat}(hab:a<b):a<=(choosePivot ltI d a b).1/\(choosePivot ltI d a b).1<b:=by
 unfold choosePivot
 dsimp only
 generalize hL:b-a=L
 split
 ·split
  ·have adj:∀ i s,(medianAdjacent ltI d i s).1=i-1\/(medianAdjacent ltI d i s).1=i\/(medianAdjacent ltI d i s).1=i+1:=λi s=>(median_le d (i-1) i (i+1) s).2
   have m1:=adj (a+L / 4*1) 0
   generalize medianAdjacent ltI d (a+L / 4*1) 0=r1 at m1 ⊢
   have m2:=adj (a+L / 4*2) r1.2
   generalize medianAdjacent ltI d (a+L / 4*2) r1.2=r2 at m2 ⊢
   have m3:=adj (a+L / 4*3) r2.2
   generalize medianAdjacent ltI d (a+L / 4*3) r2.2=r3 at m3 ⊢
   have m4:=(median_le d r1.1 r2.1 r3.1 r3.2).2
   generalize (median ltI d r1.1 r2.1 r3.1 r3.2).1=x at m4 ⊢
   omega
  ·have m4:=(median_le d (a+L / 4*1) (a+L / 4*2) (a+L / 4*3) 0).2
   generalize (median ltI d (a+L / 4*1) (a+L / 4*2) (a+L / 4*3) 0).1=x at m4 ⊢
   omega
 ·dsimp only;omega
variable{h:Hp}{l:Sl}{d D:Array Int}{a b lim p M0 nf:Nat}{Q:Value->Hp->Prop}{T:Sl->Int->Int->Int->PT}{I:Int->Int->Int->Bool->Bool->Hp->Prop}{m:Int->Int->Int->Bool->Bool->Hp->Nat}
def PdqOk(l:Sl)(T:Sl->Int->Int->Int->PT)(n:Nat):Prop:=∀ (h:Hp) (d:Array Int) (a b lim:Nat) (Q:Value->Hp->Prop),b-a<n->Buf h l 1 22 (uvs d.toList)->a<=b->b<=l.n->lim<=1000->(∀ h',Dx h h' l (pdq ltI d a b lim true true)->Q (.tuple ⟨[]⟩) h')->T l (a:Int) (b:Int) (lim:Int) h Q
def pdqTail(d:Array Int)(a b p lim:Nat)(wb wp:Bool):Array Int:=
 if a > 0 && !ltI d[a-1]! d[p]! then
  match partitionEqual ltI d a b p with
  |(mid,d4)=>if _h:a<mid/\mid<=b then pdq ltI d4 mid b lim wb wp else d4
 else
  match partition ltI d a b p with
  |(mid,alreadyPartitioned,d4)=>
   if _h:a<=mid/\mid<b then
    if mid-a<b-mid then
     pdq ltI (pdq ltI d4 a mid lim true true) (mid+1) b lim (decide (mid-a ≥ (b-a) / 8)) alreadyPartitioned
    else
     pdq ltI (pdq ltI d4 (mid+1) b lim true true) a mid lim (decide (b-mid ≥ (b-a) / 8)) alreadyPartitioned
   else d4
theorem mid_s{wb wp:Bool}{g:Hp}(hT:PdqOk l T nf)(hI:∀ a b lim wb wp g d',a<=b->b<=l.n->b-a<=nf->lim<=1000->Dx h g l d'->pdq ltI d' a b lim wb wp=D->I ((a:Nat):Int) ((b:Nat):Int) ((lim:Nat):Int) wb wp g)(hm:∀ (a' b' lim':Nat) wb' wp' g,b'-a'<b-a->m (a':Int) (b':Int) (lim':Int) wb' wp' g<M0)
  (S:Dx h g l d) (ha:a<=p) (hp:p<b) (hb:b<=l.n) (hn:l.n<=100000000000) (hnf:b-a<=nf) (hl:lim<=1000) (e:pdqTail d a b p lim wb wp=D) :
  ∃ J2:Int->Hp->Prop,(∀ n10:Int,∀ h7:Hp,J2 n10 h7->F146.T l n10 (b:Int) (p:Int) h7 λr3 h8=>∃ n11:Int,∃ b2:Bool,parB b2 (r3=.tuple ⟨[.int .i64 n11,.bool true]⟩/\(8:Int)≠0/\par ((wrap .i64 (n11-n10))<(wrap .i64 ((b:Int)-n11))) (par ((wrap .i64 (Int.tdiv (wrap .i64 ((b:Int)-(a:Int))) 8))<=(wrap .i64 (n11-n10))) (T l n10 n11 (lim:Int) h8 λr4 h9=>I (wrap .i64 (n11+1)) (b:Int) (lim:Int) true true h9/\m (wrap .i64 (n11+1)) (b:Int) (lim:Int) true true h9<M0) (T l n10 n11 (lim:Int) h8 λr5 h10=>I (wrap .i64 (n11+1)) (b:Int) (lim:Int) false true h10/\m (wrap .i64 (n11+1)) (b:Int) (lim:Int) false true h10<M0)) (par ((wrap .i64 (Int.tdiv (wrap .i64 ((b:Int)-(a:Int))) 8))<=(wrap .i64 ((b:Int)-n11))) (T l (wrap .i64 (n11+1)) (b:Int) (lim:Int) h8 λr6 h11=>I n10 n11 (lim:Int) true true h11/\m n10 n11 (lim:Int) true true h11<M0) (T l (wrap .i64 (n11+1)) (b:Int) (lim:Int) h8 λr7 h12=>I n10 n11 (lim:Int) false true h12/\m n10 n11 (lim:Int) false true h12<M0))) (r3=.tuple ⟨[.int .i64 n11,.bool false]⟩/\(8:Int)≠0/\par ((wrap .i64 (n11-n10))<(wrap .i64 ((b:Int)-n11))) (par ((wrap .i64 (Int.tdiv (wrap .i64 ((b:Int)-(a:Int))) 8))<=(wrap .i64 (n11-n10))) (T l n10 n11 (lim:Int) h8 λr8 h13=>I (wrap .i64 (n11+1)) (b:Int) (lim:Int) true false h13/\m (wrap .i64 (n11+1)) (b:Int) (lim:Int) true false h13<M0) (T l n10 n11 (lim:Int) h8 λr9 h14=>I (wrap .i64 (n11+1)) (b:Int) (lim:Int) false false h14/\m (wrap .i64 (n11+1)) (b:Int) (lim:Int) false false h14<M0)) (par ((wrap .i64 (Int.tdiv (wrap .i64 ((b:Int)-(a:Int))) 8))<=(wrap .i64 ((b:Int)-n11))) (T l (wrap .i64 (n11+1)) (b:Int) (lim:Int) h8 λr10 h15=>I n10 n11 (lim:Int) true false h15/\m n10 n11 (lim:Int) true false h15<M0) (T l (wrap .i64 (n11+1)) (b:Int) (lim:Int) h8 λr11 h16=>I n10 n11 (lim:Int) false false h16/\m n10 n11 (lim:Int) false false h16<M0)))) /\
  (par ((0:Int)<(a:Int)) (ix l.a (wrap .i64 ((a:Int)-1)) l.n λb3 o=>ldI .u64 g b3 (o+((wrap .i64 ((a:Int)-1))).toNat) λn12=>ix l.a (p:Int) l.n λb4 o1=>ldI .u64 g b4 (o1+((p:Nat):Int).toNat) λn13=>F144.T n12 n13 g λr12 h17=>retB r12 (J2 (a:Int) h17) (F145.T l (a:Int) (b:Int) (p:Int) h17 λr13 h18=>retI .i64 r13 λn14=>I n14 (b:Int) (lim:Int) wb wp h18/\m n14 (b:Int) (lim:Int) wb wp h18<M0)) (J2 (a:Int) g)):=by
 unfold pdqTail at e
 have hsz:=S.sz
 refine⟨λn h7=>n=(a:Int)/\h7=g/\(a > 0 && !ltI d[a-1]! d[p]!)=false,?_,λh0=>?_,λh0=>⟨rfl,rfl,by simp;omega⟩⟩
 ·rintro n h7 ⟨rfl,rfl,hc⟩
  rw[if_neg (by rw[hc];decide)] at e
  obtain⟨r1,r2,_⟩:=(partition_holds ltI) swo_ltInt d a b p ha hp (by omega)
  refine part_s S.u ha hp hb hn λh8 S8=>?_
  generalize partition ltI d a b p=r at r1 r2 e S8
  obtain⟨mid,al,d4⟩:=r
  dsimp only at r1 r2 e S8 ⊢
  rw[dif_pos ⟨r1,r2⟩] at e
  have SS:=S.from S8
  have w8:wrap .i64 (Int.tdiv ((b-a:Nat):Int) 8)=(((b-a) / 8:Nat):Int):=by
   rw[Int.tdiv_eq_ediv_of_nonneg (by omega),wr64 (by omega) (by omega)];omega
  refine⟨(mid:Int),al,?_⟩
  rw[wM (i:=mid) (j:=a) (by omega) (by omega),wM (i:=b) (j:=mid) (by omega) (by omega),wM (i:=b) (j:=a) (by omega) (by omega),w8,wA (by omega)]
  have left:∀ wb',(decide (mid-a ≥ (b-a) / 8))=wb'->mid-a<b-mid->T l (a:Int) (mid:Int) (lim:Int) h8 λr4 h9=>I ((mid+1:Nat):Int) (b:Int) (lim:Int) wb' al h9/\m ((mid+1:Nat):Int) (b:Int) (lim:Int) wb' al h9<M0:=λwb' hw hlt=>by
   rw[if_pos hlt,hw] at e
   exact hT _ _ _ _ _ _ (by omega) SS.u r1 (by omega) hl λh9 S9=>⟨hI _ _ _ _ _ _ _ (by omega) hb (by omega) hl (SS.from S9) e,hm _ _ _ _ _ _ (by omega)⟩
  have right:∀ wb',(decide (b-mid ≥ (b-a) / 8))=wb'->¬ mid-a<b-mid->T l ((mid+1:Nat):Int) (b:Int) (lim:Int) h8 λr4 h9=>I (a:Int) (mid:Int) (lim:Int) wb' al h9/\m (a:Int) (mid:Int) (lim:Int) wb' al h9<M0:=λwb' hw hge=>by
   rw[if_neg hge,hw] at e
   exact hT _ _ _ _ _ _ (by omega) SS.u (by omega) hb hl λh9 S9=>⟨hI _ _ _ _ _ _ _ r1 (by omega) (by omega) hl (SS.from S9) e,hm _ _ _ _ _ _ (by omega)⟩
  cases al
  all_goals
   first
    |refine⟨λhh=>(by cases hh),λ_=>⟨rfl,by decide,λhlt=>⟨λh8=>?_,λh8=>?_⟩,λhge=>⟨λh8=>?_,λh8=>?_⟩⟩⟩
    |refine⟨λ_=>⟨rfl,by decide,λhlt=>⟨λh8=>?_,λh8=>?_⟩,λhge=>⟨λh8=>?_,λh8=>?_⟩⟩,λhh=>(by cases hh)⟩
   ·exact left true (decide_eq_true (by omega)) (by omega)
   ·exact left false (decide_eq_false (by omega)) (by omega)
   ·exact right true (decide_eq_true (by omega)) (by omega)
   ·exact right false (decide_eq_false (by omega)) (by omega)
 ·rw[wS (by omega) (by omega)]
  refine S.less (i:=a-1) (j:=p) (by omega) (by omega) (λhl=>⟨rfl,rfl,by rw[hl];simp⟩) (λhl'=>?_)
  rw[if_pos (by rw[hl'];simp;omega)] at e
  have hr:a<(partitionEqual ltI d a b p).1/\(partitionEqual ltI d a b p).1<=b:=by
   have:=partEqLoop_spec ltI a b _ (a+1) (b-1) (Go.Sort.swp d a p) (Nat.le_refl _) (Nat.lt_succ_self a) (by omega) (by omega) (by rw[size_swp];omega) (λt h1 h2=>by omega) (λt h1 h2=>by omega)
   exact⟨this.1,this.2.1⟩
  refine partEq_s S.u ha hp hb hn λh8 S8=>?_
  generalize partitionEqual ltI d a b p=r at hr e S8
  obtain⟨mid,d4⟩:=r
  dsimp only at hr e S8 ⊢
  rw[dif_pos hr] at e
  exact⟨_,rfl,hI _ _ _ _ _ _ _ hr.2 hb (by omega) hl (S.from S8) e,hm _ _ _ _ _ _ (by omega)⟩
def hc:Hint->Int
 |.increasing=>1
 |.decreasing=>2
 |.unknown=>0
def pdqC(d:Array Int)(a b p lim:Nat)(hint:Hint)(wb wp:Bool):Array Int:=
 let pi:=if wb && wp && hint=.increasing then partialInsertionSort ltI d a b else(d,false)
 if pi.2 then pi.1 else pdqTail pi.1 a b p lim wb wp
def pdqB(d1:Array Int)(a b lim:Nat)(wb wp:Bool):Array Int:=
 let c:=choosePivot ltI d1 a b
 pdqC (if c.2=.decreasing then reverseRange d1 a b else d1) a b (if c.2=.decreasing then(b-1)-(c.1-a) else c.1) lim (if c.2=.decreasing then Hint.increasing else c.2) wb wp
theorem pdq_step{wb wp:Bool}(h12:¬ b-a<=12)(h0:¬ lim=0):pdq ltI d a b lim wb wp=pdqB (if !wb then breakPatterns d a b else d) a b (if !wb then lim-1 else lim) wb wp:=by
 rw[pdq,if_neg h12,if_neg h0];rfl
theorem round_s{wb wp:Bool}{g:Hp}{MID:Int->Hp->Prop}{CK:Int->Hp->(Hp->Prop)->Prop}
  (S:Dx h g l d) (hab:a<b) (hb:b<=l.n) (hn:l.n<=100000000000) (e:pdqB d a b lim wb wp=D)
  (hmid:∀ (p:Nat) g d3,a<=p->p<b->Dx h g l d3->pdqTail d3 a b p lim wb wp=D->MID (p:Int) g)
  (hck:∀ (p:Nat) (hint:Hint) g d2 (J1:Hp->Prop),Dx h g l d2->pdqC d2 a b p lim hint wb wp=D->(∀ g' d3,Dx h g' l d3->pdqTail d3 a b p lim wb wp=D->J1 g')->CK (hc hint) g J1) :
  F141.T l (a:Int) (b:Int) g λr2 h4=>∃ n6 n7:Int,r2=.tuple ⟨[.int .i64 n6,.int .i64 n7]⟩/\∃ J:Int->Int->Hp->Prop,(∀ n8 n9:Int,∀ h5:Hp,J n8 n9 h5->∃ J1:Hp->Prop,(∀ h6:Hp,J1 h6->MID n8 h6)/\(CK n9 h5 J1))/\(par (n7=2) (F142.T l (a:Int) (b:Int) h4 λr15 h20=>J (wrap .i64 ((wrap .i64 ((b:Int)-1))-(wrap .i64 (n6-(a:Int))))) 1 h20) (J n6 n7 h4)):=by
 unfold pdqB at e
 dsimp only at e
 obtain⟨c1,c2⟩:=choose_le d hab
 refine choose_s S.u hab hb hn λg1 K1=>⟨_,_,rfl,?_⟩
 have S1:Dx h g1 l d:=⟨S.u.keep K1,S.up.trans (Upd.of_keep K1 l)⟩
 generalize choosePivot ltI d a b=c at e c1 c2 ⊢
 obtain⟨pv,hint⟩:=c
 dsimp only at e c1 c2 ⊢
 refine⟨λn n' g=>∃ (p:Nat) (hint:Hint) (d2:Array Int),n=(p:Int)/\n'=hc hint/\a<=p/\p<b/\Dx h g l d2/\pdqC d2 a b p lim hint wb wp=D,?_,λh2=>?_,λh2=>?_⟩
 ·rintro n n' g2 ⟨p,hint,d2,rfl,rfl,p0,p1,S2,e2⟩
  exact⟨λg'=>∃ d3,Dx h g' l d3/\pdqTail d3 a b p lim wb wp=D,λg' ⟨d3,S3,e3⟩=>hmid p g' d3 p0 p1 S3 e3,hck p hint g2 d2 _ S2 e2 λg' d3 S3 e3=>⟨d3,S3,e3⟩⟩
 ·have hd:hint=.decreasing:=by cases hint<;>first|rfl|exact absurd h2 (by decide)
  subst hd
  rw[if_pos rfl,if_pos rfl,if_pos rfl] at e
  refine reverse_s S1.u hb (by omega) (by omega) hn λg2 S2=>?_
  rw[wS (by omega) (by omega),wM c1 (by omega),wM (by omega) (by omega)]
  exact⟨_,.increasing,_,rfl,rfl,by omega,by omega,S1.from S2,e⟩
 ·have hd:¬ hint=.decreasing:=by rintro rfl;exact h2 rfl
  rw[if_neg hd,if_neg hd,if_neg hd] at e
  exact⟨_,hint,_,rfl,by cases hint<;>rfl,c1,c2,S1,e⟩
def PI(h:Hp)(l:Sl)(D:Array Int)(nf:Nat):Int->Int->Int->Bool->Bool->Hp->Prop:=λn n1 n2 wb wp g=>∃ (a b lim:Nat) (d':Array Int),n=(a:Int)/\n1=(b:Int)/\n2=(lim:Int)/\a<=b/\b<=l.n/\b-a<=nf/\lim<=1000/\Dx h g l d'/\pdq ltI d' a b lim wb wp=D
def PM:Int->Int->Int->Bool->Bool->Hp->Nat:=λn n1 _ _ _ _=>(n1-n).toNat
theorem no_check{wb wp:Bool}{hint:Hint}(hw:(wb && wp && decide (hint=.increasing))=false)(e:pdqC d a b p lim hint wb wp=D):pdqTail d a b p lim wb wp=D:=by
 unfold pdqC at e
 have h:(if (wb && wp && decide (hint=.increasing))=true then partialInsertionSort ltI d a b else(d,false))=(d,false):=if_neg (by rw[hw];decide)
 rw[h] at e
 exact e
theorem yes_check(e:pdqC d a b p lim .increasing true true=D):(if (partialInsertionSort ltI d a b).2=true then(partialInsertionSort ltI d a b).1 else pdqTail (partialInsertionSort ltI d a b).1 a b p lim true true)=D:=e
theorem pdq_ok(hn:l.n<=100000000000):∀ nf,PdqOk l (F130.TN nf) nf
 |0=>λh d a b lim Q hlt=>absurd hlt (by omega)
 |nf+1=>by
  have hT:=pdq_ok hn nf
  intro h d a b lim Q hlt B hab hb hl hQ
  show F130.G (F130.TN nf) l (a:Int) (b:Int) (lim:Int) h Q
  generalize F130.TN nf=T at hT
  unfold F130.G F130.B
  generalize hD:pdq ltI d a b lim true true=D at hQ
  refine⟨PI h l D nf,PM,⟨a,b,lim,d,rfl,rfl,rfl,hab,hb,by omega,hl,Dx.refl B,hD⟩,?_⟩
  have hI:∀ (a b lim:Nat) wb wp g d',a<=b->b<=l.n->b-a<=nf->lim<=1000->Dx h g l d'->pdq ltI d' a b lim wb wp=D->PI h l D nf (a:Int) (b:Int) (lim:Int) wb wp g:=λa b lim wb wp g d' h1 h2 h3 h4 S e=>⟨a,b,lim,d',rfl,rfl,rfl,h1,h2,h3,h4,S,e⟩
  clear hab hb hl hlt hD B
  intro n3 n4 n5
  refine⟨⟨?_,?_⟩,⟨?_,?_⟩⟩
  all_goals
   rintro g ⟨a,b,lim,d1,rfl,rfl,rfl,hab,hb,hnf,hl,S,e⟩
   rw[wM hab (by omega)]
   refine⟨λh12=>?_,λh12=>⟨λh0=>?_,λh0=>?_⟩⟩
   ·rw[pdq,if_pos (by omega)] at e
    subst e
    exact insertion_s S.u hb (by omega) hn λh' S'=>hQ h' (S.from S')
   ·rw[pdq,if_neg (by omega),if_pos (by omega)] at e
    subst e
    exact heap_s S.u hab hb hn λh' S'=>hQ h' (S.from S')
   rw[pdq_step (by omega) (by omega)] at e
   have hm:∀ (M0:Nat),M0=b-a->∀ (a' b' lim':Nat) wb' wp' g,b'-a'<b-a->PM (a':Int) (b':Int) (lim':Int) wb' wp' g<M0:=λM0 h0 a' b' lim' wb' wp' g h1=>by unfold PM;omega
   have pm:∀ (lim:Int) wb wp g,PM (a:Int) (b:Int) lim wb wp g=b-a:=λ_ _ _ _=>by unfold PM;omega
  ·rw[if_neg (by decide),if_neg (by decide)] at e
   rw[pm]
   refine round_s S (by omega) hb hn e (λp g d3 p0 p1 S3 e3=>?_) (λp hint g d2 J1 S2 e2 hJ=>?_)
   ·have:=mid_s hT hI (hm _ rfl) S3 p0 p1 hb hn hnf hl e3
    rw[wM hab (by omega)] at this
    exact this
   ·refine⟨λh1=>?_,λh1=>?_⟩
    ·have hh:hint=.increasing:=by cases hint<;>first|rfl|exact absurd h1 (by decide)
     subst hh
     have e2:=yes_check e2
     refine partial_s S2.u (by omega) hb hn λg3 S3=>⟨_,rfl,λht=>?_,λhf=>?_⟩
     ·rw[if_pos ht] at e2
      subst e2
      exact hQ g3 (S2.from S3)
     ·rw[if_neg (by rw[hf];decide)] at e2
      exact hJ g3 _ (S2.from S3) e2
    ·have hh:¬ hint=.increasing:=by rintro rfl;exact h1 rfl
     exact hJ g _ S2 (no_check (by simp[hh]) e2)
  ·rw[if_neg (by decide),if_neg (by decide)] at e
   rw[pm]
   refine round_s S (by omega) hb hn e (λp g d3 p0 p1 S3 e3=>?_) (λp hint g d2 J1 S2 e2 hJ=>hJ g _ S2 (no_check rfl e2))
   have:=mid_s hT hI (hm _ rfl) S3 p0 p1 hb hn hnf hl e3
   rw[wM hab (by omega)] at this
   exact this
  ·rw[if_pos (by decide),if_pos (by decide)] at e
   rw[pm,wS (j:=lim) (by omega) (by omega)]
   refine break_s S.u hab hb hn λg2 S2=>?_
   refine round_s (S.from S2) (by omega) hb hn e (λp g d3 p0 p1 S3 e3=>?_) (λp hint g d2 J1 S2 e2 hJ=>hJ g _ S2 (no_check rfl e2))
   have:=mid_s hT hI (hm _ rfl) S3 p0 p1 hb hn hnf (by omega) e3
   rw[wM hab (by omega)] at this
   exact this
  ·rw[if_pos (by decide),if_pos (by decide)] at e
   rw[pm,wS (j:=lim) (by omega) (by omega)]
   refine break_s S.u hab hb hn λg2 S2=>?_
   refine round_s (S.from S2) (by omega) hb hn e (λp g d3 p0 p1 S3 e3=>?_) (λp hint g d2 J1 S2 e2 hJ=>hJ g _ S2 (no_check rfl e2))
   have:=mid_s hT hI (hm _ rfl) S3 p0 p1 hb hn hnf (by omega) e3
   rw[wM hab (by omega)] at this
   exact this
theorem sort_s{vs:List Int}(B:Buf h l 1 22 (uvs vs))(hn:l.n<=100000000000)(hQ:∀ h',Buf h' l 1 22 (uvs (vs.mergeSort λx y=>decide (x<=y)))->Upd h h' l l->Q (.tuple ⟨[]⟩) h'):F112.T l h Q:=by
 unfold F112.T F112.G
 have hl:vs.length=l.n:=by have:=B.len;rw[uvs_len] at this;omega
 rw[wrap_u64 (by omega) (by omega)]
 refine len_s (by omega) ⟨_,rfl,?_⟩
 have hb:=bitsLen_le (n:=l.n) (k:=37) (by show l.n<137438953472;omega)
 refine⟨l.n+1,pdq_ok hn (l.n+1) h vs.toArray 0 l.n (bitsLen l.n) _ (by omega) (by rw[List.toList_toArray];exact B) (Nat.zero_le _) (Nat.le_refl _) (by omega) λh' S=>?_⟩
 have e:pdq ltI vs.toArray 0 l.n (bitsLen l.n) true true=Go.Sort.sort ltI vs.toArray:=by unfold Go.Sort.sort;rw[List.size_toArray,hl]
 rw[e] at S
 have u:=S.u
 rw[sortInt vs] at u
 exact hQ h' u S.up
end
end Go.Eng.YtblghgacokoklaaDoor
end
section
namespace Go.Eng.YtblghgacokoklaaDoor
theorem VerR.one{h h':Hp}{b vb:Nat}{es:Array MapEntry}{c:Nat}{lv:Lv}(V:VerR h vb lv)(O:One b h h')(hb:h b=some (.map es c)):VerR h' vb lv:=by
 obtain⟨ls,xs,h1,h2,h3,h4⟩:=V
 exact⟨ls,xs,O.keep _ _ (by rintro rfl;rw[hb] at h1;cases h1) h1,O.row hb h2,λx hx=>O.row hb (h3 x hx),h4⟩
theorem Ver.base{g h h':Hp}{vb:Nat}{ls:Sl}{xs:List (Sl×List Tab)}(K:Keep g h)(V:Ver h h' vb ls xs):Ver g h' vb ls xs:=
 ⟨⟨K.trans V.L.k,V.L.nl.mono K.dom,V.L.l,V.L.t,λx hx=>(V.L.n x hx).mono K.dom,V.L.d⟩,K.dom _ V.nv,V.v⟩
structure SetA(g h:Hp)(sb vb pm cm:Nat)(ps ls:Sl)(xs:List (Sl×List Tab))(ptrs:List ByteArray):Prop where
 V:Ver g h vb ls xs
 ns:g sb=none
 s:h sb=some (.cells ⟨[.pointer (some ⟨vb,0,none⟩),.map (some pm),.slice ps.a ps.n ps.c,.map (some cm)]⟩ 117 (0,0))
 np:NewN g ps
 p:Buf h ps 1 9 (ptrV ptrs)
 m:∃ c,h pm=some (.map #[] c)
 nc:g cm=none
 c:∃ es c,h cm=some (.map es c)/\U64s es
 ne:pm≠cm
def DA(sb cm:Nat)(ps:Sl)(k:Nat):Prop:=k=sb\/k=cm\/ps.a=some ⟨k,0,none⟩
structure Chg(D:Nat->Prop)(h h':Hp):Prop where
 keep:∀ k x,¬ D k->h k=some x->h' k=some x
 dom:∀ k,h' k=none->h k=none
theorem Chg.trans{D:Nat->Prop}{a b c:Hp}(x:Chg D a b)(y:Chg D b c):Chg D a c:=⟨λk o n e=>y.keep k o n (x.keep k o n e),λk e=>x.dom k (y.dom k e)⟩
theorem Chg.of_keep{D:Nat->Prop}{a b:Hp}(k:Keep a b):Chg D a b:=⟨λi x _ e=>k i x e,k.dom⟩
theorem Chg.one{D:Nat->Prop}{b:Nat}{h h':Hp}(O:One b h h')(hb:D b):Chg D h h':=⟨λk x n e=>O.keep k x (by rintro rfl;exact n hb) e,O.dom⟩
theorem Chg.upd{D:Nat->Prop}{h h':Hp}{s s':Sl}(U:Upd h h' s s')(hb:∀ k o,s.a=some ⟨k,o,none⟩->D k):Chg D h h':=⟨λk x n e=>U.keep k x (λo hs=>n (hb k o hs)) e,U.dom⟩
section
variable{g h h':Hp}{sb vb pm cm:Nat}{ps ls:Sl}{xs:List (Sl×List Tab)}{ptrs:List ByteArray}
theorem SetA.keep(S:SetA g h sb vb pm cm ps ls xs ptrs)(K:Keep h h'):SetA g h' sb vb pm cm ps ls xs ptrs:=by
 obtain⟨c,hc⟩:=S.m
 obtain⟨es,c2,h2,h3⟩:=S.c
 exact⟨S.V.keep K,S.ns,K _ _ S.s,S.np,S.p.keep K,⟨c,K _ _ hc⟩,S.nc,⟨es,c2,K _ _ h2,h3⟩,S.ne⟩
theorem gone_spec{vb2:Nat}{lv2:Lv}{Q:Value->Hp->Prop}(S:SetA g h sb vb pm cm ps ls xs ptrs)(V2:VerR h vb2 lv2)(hs:totL (xs.map (·.2))<=5000000)(h5:xs.length<=5)(hs2:totL lv2<=5000000)(h52:lv2.length<=5)
  (hQ:∀ h' (l:Sl),One cm h h'->(∃ es c,h' cm=some (.map es c)/\U64s es)->Q (.slice l.a l.n l.c) h'):F73.T (some ⟨sb,0,none⟩) (some ⟨vb2,0,none⟩) h Q:=by
 obtain⟨es,c,hc,hu⟩:=S.c
 obtain⟨c1,hm⟩:=S.m
 refine⟨sb,0,rfl,some cm,at_of S.s 3,es,c,hc,sb,0,rfl,?_⟩
 show ∃ p2,(h.new cm (.map #[] c)).at sb 0=_/\_
 have O1:One cm h (h.new cm (.map #[] c)):=One.new _ (by rw[hc];simp)
 have hsc:sb≠cm:=ne_kd S.s hc (by simp[kd])
 have hs1:=O1.keep _ _ hsc S.s
 refine⟨some ⟨vb,0,none⟩,at_of hs1 0,sb,0,rfl,some cm,at_of hs1 3,?_⟩
 have hc1:=new_at h cm (.map #[] c)
 refine counted_spec (S.V.r.one O1 hc) (Mp.new h cm c) (λk=>⟨Int.le_refl _,by omega⟩) hs (by rw[length_map];exact h5) λh2 M2 O2=>?_
 have O12:=O1.trans O2
 have hs2':=O12.keep _ _ hsc S.s
 have hm2:=O12.keep _ _ S.ne hm
 refine⟨sb,0,rfl,some pm,at_of hs2' 1,#[],c1,hm2,λb4 hb4=>?_⟩
 have K3:=Keep.new hb4 (.mapIter (some pm) c1 #[] c1)
 have hi:=new_at h2 b4 (.mapIter (some pm) c1 #[] c1)
 have V3:=(V2.one O12 hc).keep K3
 have M3:=Mp.keep K3 M2
 have hs3:=K3 _ _ hs2'
 have hm3:=K3 _ _ hm2
 have O3:One cm h (h2.new b4 (.mapIter (some pm) c1 #[] c1)):=O12.trans ⟨λk x _ e=>K3 k x e,K3.dom⟩
 generalize h2.new b4 (.mapIter (some pm) c1 #[] c1)=h3 at hi V3 M3 hs3 hm3 O3 ⊢
 clear K3 hs2' hm2 M2
 refine⟨λhh=>hh=h3,λ_=>0,rfl,?_⟩
 intro hh e
 have e':=e.symm
 subst e'
 refine⟨b4,some pm,c1,#[],c1,#[],c1,rfl,hi,hm3,rfl,λe he=>by simp at he,λ_=>?_⟩
 obtain⟨ls2,xs2,v1,v2,v3,rfl⟩:=V3
 have hn2:ls2.n=xs2.length:=by have:=v2.1;rw[slV_length,length_map] at this;omega
 rw[length_map] at h52
 refine⟨vb2,0,rfl,ls2,at_of v1 0,λl1 n1 h4=>∃ P R vs,xs2=P++R/\n1=(P.length:Int)/\Buf h4 l1 1 22 (uvs vs)/\NewN h3 l1/\Keep h3 h4/\vs.length<=totL (P.map (·.2)),λ_ n1 _=>xs2.length-n1.toNat,⟨[],xs2,[],rfl,rfl,Buf.nil _ _ _,.inl rfl,Keep.refl _,Nat.zero_le _⟩,?_⟩
 rintro l1 n1 h4 ⟨P,R,vs,rfl,rfl,B4,N4,K4,hv4⟩
 rw[length_append] at hn2 h52
 have htot:totL (P.map (·.2))+totL (R.map (·.2))<=5000000:=by
  unfold totL at hs2 ⊢
  rw[map_append,map_append,List.sum_append] at hs2
  exact hs2
 refine⟨λhlt=>?_,λhge=>?_⟩
 ·rcases R with _|⟨x,R⟩
  ·exact absurd hlt (by simp at hn2;omega)
  rw[length_cons] at hn2 h52
  obtain⟨_,b1,o1,ha1,hat1⟩:=rows_rd (K4.row v2) (i:=P.length) (x:=x) (by simp)
  have htx:=v3 x (by simp)
  have hxn:x.1.n=x.2.length:=by have:=htx.1;rw[tabV_len] at this;omega
  have hxt:totL ((x::R).map (·.2))=x.2.length+totL (R.map (·.2)):=by simp[totL]
  refine⟨b1,o1,ha1,⟨by omega,hlt⟩,x.1,by rw[Int.toNat_natCast];exact hat1,λl3 n2 h5=>∃ A B vs,x.2=A++B/\n2=(A.length:Int)/\Buf h5 l3 1 22 (uvs vs)/\NewN h3 l3/\Keep h3 h5/\vs.length<=totL (P.map (·.2))+A.length,λ_ n2 _=>x.2.length-n2.toNat,⟨[],x.2,vs,rfl,rfl,B4,N4,K4,by simpa using hv4⟩,?_⟩
  rintro l3 n2 h5 ⟨A,B,vs5,eAB,rfl,B5,N5,K5,hv5⟩
  refine⟨λhlt1=>?_,λhge1=>?_⟩
  ·rcases B with _|⟨t,B⟩
   ·exact absurd hlt1 (by rw[hxn,eAB];simp)
   rw[eAB] at htx
   have eL:x.2.length=A.length+(B.length+1):=by rw[eAB,length_append,length_cons]
   refine tab_rd (K5.row htx) rfl λb2 o2=>?_
   refine⟨sb,0,rfl,some cm,at_of (K5 _ _ hs3) 3,?_⟩
   refine Mp.get (Mp.keep K5 M3) t.num λes4 c4=>⟨λ_=>?_,λ_=>?_⟩
   ·have h5n:l3.n=vs5.length:=by have:=B5.len;rw[uvs_len] at this;omega
    refine append_buf B5 rfl rfl (by omega) λl4 h6 B6 hl6 U6=>?_
    obtain⟨K6,N6⟩:=N5.upd K5 U6
    rw[next_i (n:=5100000) (by omega) (by omega)]
    refine⟨⟨A++[t],B,vs5++[t.num],by rw[eAB];simp,by simp,by unfold uvs at B6 ⊢;rw[map_append];exact B6,N6,K6,by simp only[length_append,length_singleton];omega⟩,by(try dsimp only);rw[eL];omega⟩
   ·rw[next_i (n:=5100000) (by omega) (by omega)]
    refine⟨⟨A++[t],B,vs5,by rw[eAB];simp,by simp,B5,N5,K5,by simp only[length_append,length_singleton];omega⟩,by(try dsimp only);rw[eL];omega⟩
  ·have hB:B=[]:=eq_nil_of_length_eq_zero (by have:=congrArg List.length eAB;rw[length_append] at this;omega)
   subst hB
   rw[append_nil] at eAB
   rw[next_i (n:=100) (by omega) (by omega)]
   refine⟨⟨P++[x],R,vs5,by simp,by simp,B5,N5,K5,?_⟩,by(try dsimp only);rw[length_append,length_cons];omega⟩
   have:totL ((P++[x]).map (·.2))=totL (P.map (·.2))+x.2.length:=by simp[totL]
   rw[this,eAB];exact hv5
 ·have h4n:l1.n=vs.length:=by have:=B4.len;rw[uvs_len] at this;omega
  refine sort_s B4 (by omega) λh7 _ U7=>?_
  obtain⟨K7,N7⟩:=N4.upd K4 U7
  obtain⟨es7,c7,e7,u7,_⟩:=Mp.keep K7 M3
  exact hQ h7 l1 (O3.trans ⟨λk x _ e=>K7 k x e,K7.dom⟩) ⟨es7,c7,e7,u7⟩
end
end Go.Eng.YtblghgacokoklaaDoor
end
section
namespace Go.Eng.YtblghgacokoklaaDoor
theorem ptrV_length(l:List ByteArray):(ptrV l).length=l.length:=length_map _
theorem ptr_one(l:List ByteArray):∀ v∈ptrV l,Value.oneCell' v=true:=λv hv=>by
 unfold ptrV at hv
 obtain⟨s,_,rfl⟩:=List.mem_map.1 hv
 rfl
theorem apply_spec{g h:Hp}{sb vb pm cm:Nat}{ps ls l l1 l2:Sl}{xs:List (Sl×List Tab)}{ptrs:List ByteArray}{e:Edit}{a b c:Int}{Q:Value->Hp->Prop}
  (S:SetA g h sb vb pm cm ps ls xs ptrs) (E:EdAt g e l l1 l2) (hp:ptrs.length=xs.length) (h1:1<=xs.length) (h5:xs.length<=5) (hs:totL (xs.map (·.2))+e.inn.length<=4000000) (ho:e.out.length<=4000000)
  (hQ:∀ h' c (r:Sl) vb' ls' xs' ptrs',Chg (DA sb cm ps) h h'->SetA g h' sb vb' pm cm ps ls' xs' ptrs'->Res (xs.map (·.2)) e c (xs'.map (·.2))->(c=0->ptrs'=e.ptr)->(c≠0->xs'=xs/\ptrs'=ptrs)->Q (.tuple ⟨[.slice r.a r.n r.c,.int .i64 c]⟩) h'):F31.T (some ⟨sb,0,none⟩) a b c l l1 l2 h Q:=by
 have Eh:=E.keep S.V.L.k
 have hl2:l2.n=e.ptr.length:=by have:=E.ptr.1;rw[ptrV_length] at this;omega
 have hln:=S.V.L.len
 refine⟨sb,0,rfl,some ⟨vb,0,none⟩,at_of S.s 0,vb,0,rfl,ls,at_of S.V.v 0,λhlen=>?_,λhlen=>?_⟩
 ·have hpl:e.ptr.length=(xs.map (·.2)).length:=by rw[length_map];omega
  refine⟨sb,0,rfl,some ⟨vb,0,none⟩,at_of S.s 0,?_⟩
  refine copied_ver S.V.r (by rw[length_map];exact h5) (by omega) λh1 vb1 ls1 xs1 V1 e1=>⟨some ⟨vb1,0,none⟩,rfl,?_⟩
  have hx1l:xs1.length=xs.length:=by have:=congrArg List.length e1;simpa using this
  refine out_spec V1 Eh.out (by rw[e1];omega) (by omega) λh2 xs2 V2 C2 e2=>⟨_,rfl,λhc=>?_,λhc=>?_⟩
  ·rw[e1] at hc e2
   have so:=outM_sum e.out (xs.map (·.2))
   have hx2l:xs2.length=xs.length:=by have:=congrArg List.length e2;rw[length_map,so.2.1,length_map] at this;exact this
   refine in_spec V2 Eh.inn (by rw[e2];omega) (by omega) (by omega) λh3 c3 xs3 V3 C3 r3=>⟨c3,rfl,λhc3=>?_,λhc3=>?_⟩
   ·subst hc3
    have S3:=S.keep V3.L.k
    have V3g:=V3.base S.V.L.k
    have hR:Res (xs.map (·.2)) e 0 (xs3.map (·.2)):=by
     unfold Res
     rw[if_pos hpl,if_pos hc]
     unfold InR at r3
     rw[e2] at r3
     exact r3
    refine⟨sb,0,rfl,some ⟨vb,0,none⟩,at_of S3.s 0,sb,0,rfl,canW_new S3.s (by simp),sb,0,rfl,?_⟩
    have C4:Ck [119] h3 (h3.wr sb 0 [.pointer (some ⟨vb1,0,none⟩)]):=Ck.wr S3.s
    have K4:Keep g (h3.wr sb 0 [.pointer (some ⟨vb1,0,none⟩)]):=V3g.L.k.wr S.ns _ _
    have s4:=wr_at (o:=0) (vs:=[.pointer (some ⟨vb1,0,none⟩)]) S3.s
    have Cg4:Chg (DA sb cm ps) h (h3.wr sb 0 [.pointer (some ⟨vb1,0,none⟩)]):=by
     refine(Chg.of_keep V3.L.k).trans ⟨λk x n ek=>?_,C4.dom⟩
     unfold Hp.wr
     rw[if_neg (λhk=>n (.inl hk))];exact ek
    have V4:=V3g.ck C4 K4 (by decide) (by decide) (by decide)
    have Vo4:=S3.V.ck C4 K4 (by decide) (by decide) (by decide)
    have p4:=C4.buf (by decide) S3.p
    obtain⟨cp,hcp⟩:=S3.m
    have m4:=C4.keep _ _ hcp (by simp[kd])
    obtain⟨es,ce,hce,hue⟩:=S3.c
    have c4:=C4.keep _ _ hce (by simp[kd])
    clear C4
    generalize h3.wr sb 0 [.pointer (some ⟨vb1,0,none⟩)]=h4 at K4 s4 Cg4 V4 Vo4 p4 m4 c4 ⊢
    have hpn:ps.n=ptrs.length:=by have:=p4.len;rw[ptrV_length] at this;omega
    have hmin:Nat.min l2.n ps.n=l2.n:=Nat.min_eq_left (by omega)
    refine⟨ps,at_of s4 2,ptrV e.ptr,?_⟩
    rw[hmin,Nat.mul_one]
    obtain⟨bp,hbp⟩:=buf_b p4 (by rw[ptrV_length];omega)
    obtain⟨w5,U5,B5⟩:=bufWr' (A:=[]) (U:=ptrV ptrs) (V:=ptrV e.ptr) (B:=[]) (by rw[List.nil_append,append_nil];exact p4) (by rw[ptrV_length,ptrV_length];omega) hbp
    simp only[List.nil_append,append_nil,length_nil] at w5 U5 B5
    rw[<- hbp] at w5 U5 B5
    refine⟨K4.row E.ptr,ptr_one _,w5,?_⟩
    have C5:Ck [11] h4 (h4.wrA ps.a (ptrV e.ptr)):=Ck.of_upd p4 U5
    have K5:=(S.np.upd K4 U5).1
    have S5:SetA g (h4.wrA ps.a (ptrV e.ptr)) sb vb1 pm cm ps ls1 xs3 e.ptr:=⟨V4.ck C5 K5 (by decide) (by decide) (by decide),S.ns,C5.keep _ _ s4 (show 119∉[11] by decide),S.np,B5,⟨cp,C5.keep _ _ m4 (show 0∉[11] by decide)⟩,S.nc,⟨es,ce,C5.keep _ _ c4 (show 0∉[11] by decide),hue⟩,S.ne⟩
    have Vo5:=Vo4.ck C5 K5 (by decide) (by decide) (by decide)
    have Cg5:Chg (DA sb cm ps) h (h4.wrA ps.a (ptrV e.ptr)):=Cg4.trans (Chg.upd U5 λk o hk=>.inr (.inr (by rw[hbp] at hk ⊢;simp only[Option.some.injEq,Addr.mk.injEq,and_true] at hk;rw[hk.1])))
    obtain⟨_,l2',hS,hT2,hl2',_⟩:=hR.ok
    have t3:totL (xs3.map (·.2))<=5000000:=by rw[hS.totL];omega
    have n3:xs3.length=xs.length:=by have:=hS.1;rw[length_map,hl2',length_map] at this;exact this
    refine gone_spec S5 Vo5.r t3 (by omega) (by omega) (by rw[length_map];exact h5) λh6 r O6 c6=>⟨r,rfl,?_⟩
    obtain⟨es5,ce5,hce5,_⟩:=S5.c
    have K6:=K5.one O6 S.nc
    have S6:SetA g h6 sb vb1 pm cm ps ls1 xs3 e.ptr:=by
     obtain⟨cp5,hcp5⟩:=S5.m
     have C6:=O6.ck hce5
     exact⟨S5.V.ck C6 K6 (by simp[kd]) (by simp[kd]) (by simp[kd]),S.ns,O6.keep _ _ (ne_kd S5.s hce5 (by simp[kd])) S5.s,S.np,C6.buf (by simp[kd]) S5.p,⟨cp5,O6.keep _ _ S.ne hcp5⟩,S.nc,c6,S.ne⟩
    exact hQ h6 0 r vb1 ls1 xs3 e.ptr (Cg5.trans (Chg.one O6 (.inr (.inl rfl)))) S6 hR (λ_=>rfl) (λh0=>absurd rfl h0)
   ·refine hQ h3 c3 ⟨none,0,0⟩ vb ls xs ptrs (Chg.of_keep V3.L.k) (S.keep V3.L.k) ?_ (λh0=>absurd h0 hc3) (λ_=>⟨rfl,rfl⟩)
    unfold Res
    rw[if_pos hpl,if_pos hc]
    unfold InR at r3
    rw[e2] at r3
    split
    ·next h0=>
     rw[if_pos h0] at r3
     exact r3.imp id λk=>absurd k.1 hc3
    ·next h0=>rw[if_neg h0] at r3;exact r3
  ·rw[e1] at hc
   rw[e1]
   refine hQ h2 _ ⟨none,0,0⟩ vb ls xs ptrs (Chg.of_keep V2.L.k) (S.keep V2.L.k) ?_ (λh0=>absurd h0 hc) (λ_=>⟨rfl,rfl⟩)
   unfold Res
   rw[if_pos hpl,if_neg hc]
 ·refine hQ h 133 ⟨none,0,0⟩ vb ls xs ptrs (Chg.of_keep (Keep.refl h)) S ?_ (λh0=>absurd h0 (by decide)) (λ_=>⟨rfl,rfl⟩)
  unfold Res
  rw[if_neg (by rw[length_map];omega)]
theorem new_spec0{h:Hp}{n:Int}{k:Nat}{Q:Value->Hp->Prop}(hk:n=(k:Int))(k1:1<=k)(k5:k<=5)
  (hQ:∀ h' sb vb pm cm ps ls xs,SetA h h' sb vb pm cm ps ls xs (List.replicate k ⟨#[]⟩)->h pm=none->xs.map (·.2)=List.replicate k []->Q (.pointer (some ⟨sb,0,none⟩)) h'):F29.T n h Q:=by
 subst hk
 have hm:iMin (iMax (k:Int) 1) 5=(k:Int):=by
  unfold iMin iMax
  by_cases h1:(k:Int)<1
  ·omega
  ·rw[if_neg h1]
   by_cases h5:5<(k:Int)
   ·omega
   ·rw[if_neg h5]
 unfold F29.T
 rw[hm]
 simp only[Int.toNat_natCast]
 refine⟨⟨by omega,by omega,by omega⟩,⟨by omega,by omega,by omega⟩,⟨by omega,by omega,by omega⟩,λb hb=>⟨⟨by omega,by omega,by omega⟩,λb1 hb1=>⟨⟨by omega,by omega,by omega⟩,λb2 hb2=>⟨⟨by omega,by omega,by omega⟩,⟨by omega,by omega,by omega⟩,λb3 hb3 b4 hb4 b5 hb5=>?_⟩⟩⟩⟩
 have K0:=Keep.new hb (.cells (Builtin.zeroCells (List.toArray [.slice none 0 0]) k) 124 (0,0))
 have B0:=buf_make h b k 124 [.slice none 0 0] (by decide)
 rw[zerosV_one] at B0
 generalize h.new b (.cells (Builtin.zeroCells (List.toArray [.slice none 0 0]) k) 124 (0,0))=g0 at *
 have K1:=Keep.new hb1 (.cells ⟨[.slice (some ⟨b,0,none⟩) k k]⟩ 113 (0,0))
 have x1:=new_at g0 b1 (.cells ⟨[.slice (some ⟨b,0,none⟩) k k]⟩ 113 (0,0))
 generalize g0.new b1 (.cells ⟨[.slice (some ⟨b,0,none⟩) k k]⟩ 113 (0,0))=g1 at *
 have K2:=Keep.new hb2 (.map #[] 0)
 have x2:=new_at g1 b2 (.map #[] 0)
 generalize g1.new b2 (.map #[] 0)=g2 at *
 have K3:=Keep.new hb3 (.cells (Builtin.zeroCells (List.toArray [.string ⟨#[]⟩]) k) 9 (0,0))
 have B3:=buf_make g2 b3 k 9 [.string ⟨#[]⟩] (by decide)
 rw[zerosV_one] at B3
 generalize g2.new b3 (.cells (Builtin.zeroCells (List.toArray [.string ⟨#[]⟩]) k) 9 (0,0))=g3 at *
 have K4:=Keep.new hb4 (.map #[] 0)
 have x4:=new_at g3 b4 (.map #[] 0)
 generalize g3.new b4 (.map #[] 0)=g4 at *
 have K5:=Keep.new hb5 (.cells ⟨[.pointer (some ⟨b1,0,none⟩),.map (some b2),.slice (some ⟨b3,0,none⟩) k k,.map (some b4)]⟩ 117 (0,0))
 have x5:=new_at g4 b5 (.cells ⟨[.pointer (some ⟨b1,0,none⟩),.map (some b2),.slice (some ⟨b3,0,none⟩) k k,.map (some b4)]⟩ 117 (0,0))
 generalize g4.new b5 (.cells ⟨[.pointer (some ⟨b1,0,none⟩),.map (some b2),.slice (some ⟨b3,0,none⟩) k k,.map (some b4)]⟩ 117 (0,0))=g5 at *
 have K15:=((K2.trans K3).trans K4).trans K5
 have Kall:=(K0.trans K1).trans K15
 have d1:=K0.dom
 have d2:=(K0.trans K1).dom
 have d3:=((K0.trans K1).trans K2).dom
 have d4:=(((K0.trans K1).trans K2).trans K3).dom
 have d5:=((((K0.trans K1).trans K2).trans K3).trans K4).dom
 have hmem:∀ x∈List.replicate k ((⟨none,0,0⟩:Sl),([]:List Tab)),x=((⟨none,0,0⟩:Sl),([]:List Tab)):=λx hx=>(List.mem_replicate.1 hx).2
 refine hQ g5 b5 b1 b2 b4 ⟨some ⟨b3,0,none⟩,k,k⟩ ⟨some ⟨b,0,none⟩,k,k⟩ (List.replicate k (⟨none,0,0⟩,[])) ⟨⟨⟨Kall,.inr ⟨b,rfl,hb⟩,?_,λx hx=>by rw[hmem x hx];exact Buf.nil _ _ _,λx hx=>by rw[hmem x hx];exact .inl rfl,λi j x y hx _ _=>by rw[hmem x (mem_of_getElem? hx)];exact off_nil (.inl rfl)⟩,d1 _ hb1,K15 _ _ x1⟩,d5 _ hb5,x5,.inr ⟨b3,rfl,d3 _ hb3⟩,?_,⟨0,((K3.trans K4).trans K5) _ _ x2⟩,d4 _ hb4,⟨#[],0,K5 _ _ x4,λe he=>by simp at he⟩,?_⟩ (d2 _ hb2) (by simp)
 ·have:slV ((List.replicate k ((⟨none,0,0⟩:Sl),([]:List Tab))).map (·.1))=List.replicate k (.slice none 0 0):=by simp[slV]
  rw[this]
  exact(B0.keep K1).keep K15
 ·have:ptrV (List.replicate k (⟨#[]⟩:ByteArray))=List.replicate k (.string ⟨#[]⟩):=by simp[ptrV]
  rw[this]
  exact B3.keep (K4.trans K5)
 ·exact ne_of (K3 _ _ x2) hb4
theorem new_spec{h:Hp}{n:Int}{k:Nat}{Q:Value->Hp->Prop}(hk:n=(k:Int))(k1:1<=k)(k5:k<=5)
  (hQ:∀ h' sb vb pm cm ps ls xs,SetA h h' sb vb pm cm ps ls xs (List.replicate k ⟨#[]⟩)->xs.map (·.2)=List.replicate k []->Q (.pointer (some ⟨sb,0,none⟩)) h'):F29.T n h Q:=
 new_spec0 hk k1 k5 λh' sb vb pm cm ps ls xs S _ e=>hQ h' sb vb pm cm ps ls xs S e
end Go.Eng.YtblghgacokoklaaDoor
end
section
namespace Go.Eng.YtblghgacokoklaaDoor
theorem row_one{h:Hp}{s:Sl}{t:Nat}{vs:List Value}(B:Buf h s 1 t vs):h.row s.a s.n vs:=by have:=B.row;rwa [Nat.mul_one] at this
section
variable{g h:Hp}{sb vb pm cm:Nat}{ps ls:Sl}{xs:List (Sl×List Tab)}{ptrs:List ByteArray}{Q:Value->Hp->Prop}
theorem current_spec(S:SetA g h sb vb pm cm ps ls xs ptrs)(hQ:Q (.pointer (some ⟨vb,0,none⟩)) h):F74.T (some ⟨sb,0,none⟩) h Q:=⟨sb,0,rfl,some ⟨vb,0,none⟩,at_of S.s 0,hQ⟩
theorem levels_spec(V:Ver g h vb ls xs)(hQ:Q (.int .i64 (xs.length:Int)) h):F75.T (some ⟨vb,0,none⟩) h Q:=⟨vb,0,rfl,ls,at_of V.v 0,by rw[V.L.len];exact hQ⟩
theorem tables_spec(V:Ver g h vb ls xs){i:Nat}{x:Sl×List Tab}(hx:xs[i]?=some x)(hs:x.2.length<=5000000)(hQ:∀ h' r,Keep h h'->Buf h' r 6 106 (tabV x.2)->Q (.slice r.a r.n r.c) h'):F76.T (some ⟨vb,0,none⟩) (i:Int) h Q:=by
 unfold F76.T F76.G
 have hi:i<xs.length:=(List.getElem?_eq_some_iff.1 hx).1
 have hl:=V.L.len
 refine has_spec V.v (λc0 c1=>⟨true,rfl,λ_=>?_,λh0=>(by cases h0)⟩) (λhc=>absurd hc (by omega))
 obtain⟨b,ha,hat⟩:=V.L.rd hx
 have T:=V.L.t x (mem_of_getElem? hx)
 refine⟨vb,0,rfl,ls,at_of V.v 0,b,0,ha,⟨c0,c1⟩,x.1,by rw[Nat.zero_add,Int.toNat_natCast];exact hat,tabV x.2,Buf.row T,tab_one _,?_⟩
 refine append_buf (Buf.nil h 6 106) rfl (by rw[tabV_len,T.n]) (by have:=T.n;dsimp only;omega) λr h2 B2 _ U2=>hQ h2 r (U2.keepNil rfl) (by simpa using B2)
end
def plc(i:Int)(t:Tab):Placed:=⟨i,t.num,t.weight,t.bytes,t.entries,t.least,t.greatest⟩
def wholeM:Nat->Lv->List Placed
 |_,[]=>[]
 |i,l::lv=>l.map (plc i)++wholeM (i+1) lv
theorem wholeM_app:∀ (i:Nat) (A:Lv) (l:List Tab),wholeM i (A++[l])=wholeM i A++l.map (plc ((i+A.length:Nat):Int))
 |i,[],l=>by simp[wholeM]
 |i,a::A,l=>by
  rw[List.cons_append,wholeM,wholeM,wholeM_app (i+1) A l,List.append_assoc,length_cons,show i+1+A.length=i+(A.length+1) by omega]
theorem wholeM_len:∀ (i:Nat) (A:Lv),(wholeM i A).length=totL A
 |i,[]=>rfl
 |i,a::A=>by rw[wholeM,length_append,length_map,wholeM_len (i+1) A];simp[totL]
theorem inV_app(A B:List Placed):inV (A++B)=inV A++inV B:=by unfold inV;simp
end Go.Eng.YtblghgacokoklaaDoor
end
section
namespace Go.Eng.YtblghgacokoklaaDoor
theorem clone_spec{h:Hp}{l:Sl}{v:List ByteArray}{Q:Value->Hp->Prop}(B:Buf h l 1 9 (ptrV v))(hs:v.length<=1000000000)(hQ:∀ h' r,Keep h h'->Buf h' r 1 9 (ptrV v)->NewN h r->Q (.slice r.a r.n r.c) h'):F77.T l h Q:=by
 have hn:l.n=v.length:=by have:=B.len;rw[ptrV_length] at this;omega
 refine⟨λh0=>?_,λh0 b hb=>?_⟩
 ·have:v=[]:=eq_nil_of_length_eq_zero (by
   rcases B.own with⟨_,hc⟩|⟨b,c,f,ha,_⟩
   ·have:=B.cap;omega
   ·rw[h0] at ha;cases ha)
  subst this
  exact hQ h ⟨none,0,0⟩ (Keep.refl h) (Buf.nil _ _ _) (.inl rfl)
 ·have K:=Keep.new hb (.cells ⟨[]⟩ 9 (0,0))
  have B1:Buf (h.new b (.cells ⟨[]⟩ 9 (0,0))) ⟨some ⟨b,0,none⟩,0,0⟩ 1 9 []:=⟨rfl,Nat.le_refl _,.inr ⟨b,⟨[]⟩,(0,0),rfl,new_at _ _ _,by simp,λj _=>by simp,rfl⟩⟩
  refine⟨ptrV v,K.row B.row,ptr_one _,append_buf B1 rfl (by rw[ptrV_length];omega) (by dsimp only;omega) λr h2 B2 _ U2=>?_⟩
  obtain⟨K2,N2⟩:=NewN.upd K (s:=⟨some ⟨b,0,none⟩,0,0⟩) (.inr ⟨b,rfl,hb⟩) U2
  exact hQ h2 r K2 (by simpa using B2) N2
section
variable{g h:Hp}{sb vb pm cm:Nat}{ps ls:Sl}{xs:List (Sl×List Tab)}{ptrs:List ByteArray}{Q:Value->Hp->Prop}
theorem pointers_spec(S:SetA g h sb vb pm cm ps ls xs ptrs)(hs:ptrs.length<=1000000000)(hQ:∀ h' r,Keep h h'->Buf h' r 1 9 (ptrV ptrs)->NewN h r->Q (.slice r.a r.n r.c) h'):F34.T (some ⟨sb,0,none⟩) h Q:=
 ⟨sb,0,rfl,ps,at_of S.s 2,clone_spec S.p hs λh' r K B N=>⟨r,rfl,hQ h' r K B N⟩⟩
end
theorem whole_spec{g h:Hp}{sb vb pm cm:Nat}{ps ls:Sl}{xs:List (Sl×List Tab)}{ptrs:List ByteArray}{n n1 n2 n3:Int}{Q:Value->Hp->Prop}(S:SetA g h sb vb pm cm ps ls xs ptrs)(hp:ptrs.length<=1000000000)(h5:xs.length<=5)(hs:totL (xs.map (·.2))<=5000000)
  (hQ:∀ h' l4 l5 l6,Keep h h'->EdAt h' ⟨n,n1,n2,[],wholeM 0 (xs.map (·.2)),ptrs⟩ l4 l5 l6->l4.n<=l4.c->l5.n<=l5.c->Q (.agg ⟨[.int .u64 n,.int .u64 n1,.int .u64 n2,.slice l4.a l4.n l4.c,.slice l5.a l5.n l5.c,.slice l6.a l6.n l6.c]⟩) h'):F32.T (some ⟨sb,0,none⟩) n n1 n2 n3 h Q:=by
 unfold F32.T F32.G
 refine pointers_spec S hp λh1 l K1 B1 N1=>⟨l,rfl,λb hb=>?_⟩
 have hbh:h b=none:=K1.dom b hb
 rw[new_wr]
 have eS:(setL ((⟨[Value.int .u64 0,.int .u64 0,.int .u64 0,.slice none 0 0,.slice none 0 0,.slice none 0 0]⟩:Array Value).toList) 0 [.int .u64 n,.int .u64 n1,.int .u64 n2,.slice none 0 0,.slice none 0 0,.slice l.a l.n l.c]).toArray=⟨[.int .u64 n,.int .u64 n1,.int .u64 n2,.slice none 0 0,.slice none 0 0,.slice l.a l.n l.c]⟩:=rfl
 rw[eS]
 refine⟨canW_new (new_at _ _ _) (Nat.le_refl _),?_⟩
 have K2:=Keep.new hb (.cells ⟨[.int .u64 n,.int .u64 n1,.int .u64 n2,.slice none 0 0,.slice none 0 0,.slice l.a l.n l.c]⟩ 65 (0,0))
 have x2:=new_at h1 b (.cells ⟨[.int .u64 n,.int .u64 n1,.int .u64 n2,.slice none 0 0,.slice none 0 0,.slice l.a l.n l.c]⟩ 65 (0,0))
 have B2:=B1.keep K2
 have K12:=K1.trans K2
 generalize h1.new b (.cells ⟨[.int .u64 n,.int .u64 n1,.int .u64 n2,.slice none 0 0,.slice none 0 0,.slice l.a l.n l.c]⟩ 65 (0,0))=h2 at x2 K12 B2 ⊢
 have S2:=S.keep K12
 refine current_spec S2 ⟨some ⟨vb,0,none⟩,rfl,levels_spec S2.V ⟨_,rfl,?_⟩⟩
 refine⟨λn5 h4=>∃ P R lin,xs=P++R/\n5=(P.length:Int)/\h4 b=some (.cells ⟨[.int .u64 n,.int .u64 n1,.int .u64 n2,.slice none 0 0,.slice lin.a lin.n lin.c,.slice l.a l.n l.c]⟩ 65 (0,0))/\Buf h4 lin 7 108 (inV (wholeM 0 (P.map (·.2))))/\NewN h lin/\Keep h h4/\Buf h4 l 1 9 (ptrV ptrs),λn5 _=>xs.length-n5.toNat,⟨[],xs,⟨none,0,0⟩,rfl,rfl,x2,Buf.nil _ _ _,.inl rfl,K12,B2⟩,?_⟩
 rintro n5 h4 ⟨P,R,lin,eP,rfl,x4,L4,N4,K4,B4⟩
 have hlx:=congrArg List.length eP
 rw[length_append] at hlx
 refine⟨λhlt=>?_,λhge=>?_⟩
 ·rcases R with _|⟨x,R⟩
  ·exact absurd hlt (by simp at hlx;omega)
  rw[length_cons] at hlx
  have hx:xs[P.length]?=some x:=by rw[eP];simp
  have ht2:totL (P.map (·.2))+x.2.length<=5000000:=by
   rw[eP] at hs
   unfold totL at hs ⊢
   rw[map_append,map_cons,map_append,map_cons,List.sum_append,List.sum_cons] at hs
   omega
  refine tables_spec ((S.keep K4).V) hx (by omega) λh5 r K5 T5=>⟨r,rfl,?_⟩
  refine⟨λn6 h6=>∃ A B lin,x.2=A++B/\n6=(A.length:Int)/\h6 b=some (.cells ⟨[.int .u64 n,.int .u64 n1,.int .u64 n2,.slice none 0 0,.slice lin.a lin.n lin.c,.slice l.a l.n l.c]⟩ 65 (0,0))/\Buf h6 lin 7 108 (inV (wholeM 0 (P.map (·.2))++A.map (plc (P.length:Int))))/\NewN h lin/\Keep h h6/\Buf h6 l 1 9 (ptrV ptrs)/\Buf h6 r 6 106 (tabV x.2),λn6 _=>x.2.length-n6.toNat,⟨[],x.2,lin,rfl,rfl,K5 _ _ x4,by rw[List.map_nil,append_nil];exact L4.keep K5,N4,K4.trans K5,B4.keep K5,T5⟩,?_⟩
  rintro n6 h6 ⟨A,B,lin6,eAB,rfl,x6,L6,N6,K6,B6,T6⟩
  have hlA:=congrArg List.length eAB
  rw[length_append] at hlA
  have hrn:r.n=x.2.length:=by have:=T6.len;rw[tabV_len] at this;omega
  refine⟨λhlt6=>?_,λhge6=>?_⟩
  ·rcases B with _|⟨t,B⟩
   ·exact absurd hlt6 (by simp at hlA;omega)
   rw[length_cons] at hlA
   have r6:=T6.row
   rw[eAB] at r6
   refine tab_rd r6 rfl λb1 o=>⟨lin6,at_of x6 4,?_⟩
   have hl6:lin6.n=totL (P.map (·.2))+A.length:=by have:=L6.len;rw[inV_len,length_append,wholeM_len,length_map] at this;omega
   refine append_buf L6 rfl rfl (by omega) λl3 h7 B7 hl7 U7=>?_
   have C7:Ck [110] h6 h7:=Ck.of_upd L6 U7
   obtain⟨K7,N7⟩:=N6.upd K6 U7
   have x7:=C7.keep _ _ x6 (show 67∉[110] by decide)
   refine⟨canW_new x7 (by simp),?_⟩
   have C8:Ck [67] h7 (h7.wr b 4 [.slice l3.a l3.n l3.c]):=Ck.wr x7
   rw[next_i (n:=5100000) (by omega) (by omega)]
   refine⟨⟨A++[t],B,l3,by rw[eAB];simp,by simp,wr_at x7,?_,N7,K7.wr hbh _ _,C8.buf (by decide) (C7.buf (by decide) B6),C8.buf (by decide) (C7.buf (by decide) T6)⟩,by(try dsimp only);(try simp only[length_append,length_singleton]);omega⟩
   rw[map_append,<- List.append_assoc,inV_app]
   exact C8.buf (by decide) B7
  ·have hB:B=[]:=eq_nil_of_length_eq_zero (by omega)
   subst hB
   rw[append_nil] at eAB
   rw[next_i (n:=100) (by omega) (by omega)]
   refine⟨⟨P++[x],R,lin6,by rw[eP];simp,by simp,x6,?_,N6,K6,B6⟩,by(try dsimp only);(try simp only[length_append,length_singleton]);omega⟩
   rw[map_append,map_cons,List.map_nil,wholeM_app,length_map,Nat.zero_add,eAB]
   exact L6
 ·have hR:R=[]:=eq_nil_of_length_eq_zero (by omega)
  subst hR
  rw[append_nil] at eP
  subst eP
  refine⟨n,at_of x4 0,n1,at_of x4 1,n2,at_of x4 2,⟨none,0,0⟩,at_of x4 3,lin,at_of x4 4,l,at_of x4 5,hQ h4 _ _ _ K4 ⟨⟨rfl,.inl rfl⟩,L4.row,row_one B4⟩ (Nat.zero_le _) L4.cap⟩
end Go.Eng.YtblghgacokoklaaDoor
end
section
namespace Go.Eng.YtblghgacokoklaaDoor
theorem tables_eq{h:Hp}{l m:Sl}{ts:List Tab}{Q:Value->Hp->Prop}(hl:h.row l.a (l.n*6) (tabV ts))(hm:h.row m.a (m.n*6) (tabV ts))(hs:ts.length<=5000000)(hQ:Q (.bool true) h):F79.T l m h Q:=by
 have e1:l.n=ts.length:=by have:=hl.1;rw[tabV_len] at this;omega
 have e2:m.n=ts.length:=by have:=hm.1;rw[tabV_len] at this;omega
 refine⟨λ_=>?_,λh0=>absurd (by omega) h0⟩
 refine⟨λn g=>g=h/\∃ P R,ts=P++R/\n=(P.length:Int),λn _=>ts.length-n.toNat,⟨rfl,[],ts,rfl,rfl⟩,?_⟩
 rintro n g ⟨rfl,P,R,rfl,rfl⟩
 rw[length_append] at e1 e2 hs
 refine⟨λhlt=>?_,λ_=>hQ⟩
 rcases R with _|⟨t,R⟩
 ·exact absurd hlt (by simp at e1;omega)
 rw[length_cons] at e1 e2 hs
 refine tab_rd hl rfl λb o=>tab_rd hm rfl λb1 o1=>⟨λ_=>?_,λh0=>absurd rfl h0⟩
 rw[next_i (n:=5100000) (by omega) (by omega)]
 exact⟨⟨rfl,P++[t],R,by simp,by simp⟩,by(try dsimp only);(try simp only[length_append,length_singleton,length_cons]);omega⟩
end Go.Eng.YtblghgacokoklaaDoor
end
section
open Go.Proofs
namespace Go.Eng.YtblghgacokoklaaDoor
@[reducible] def F33.G(T74 T75:Option Addr->PT)(T76:Option Addr->Int->PT)(p:Option Addr):PT:=λh Q=>
 ∃ (I:Sl->Int->Hp->Prop) (m:Sl->Int->Hp->Nat),I ⟨none,0,0⟩ 0 h/\(∀ l:Sl,∀ n:Int,∀ h1:Hp,I l n h1->T74 p h1 λr h2=>retP r λp1=>T75 p1 h2 λr1 h3=>retI .i64 r1 λn1=>par (n<n1) (T74 p h3 λr2 h4=>retP r2 λp2=>T76 p2 n h4 λr3 h5=>retS r3 λl1=>appendD l 124 1 24 [.slice none 0 0] 1 [.slice l1.a l1.n l1.c] h5 λl2 h6=>I l2 (wrap .i64 (n+1)) h6/\m l2 (wrap .i64 (n+1)) h6<m l n h1) (Q (.slice l.a l.n l.c) h3))
def F33.T:=F33.G F74.T F75.T F76.T
theorem F33.gen(V T74 T75 T76 p):denF Tryd.prog [17] [(74,F74.W T74),(75,F75.W T75),(76,F76.W T76)] V [(58,.loop [(3,.sl),(4,.int .i64)] [])] Tryd.f33 [.v (.pointer p)]=F33.G T74 T75 T76 p:=by kernel_rfl
def F33.W(T33:Option Addr->PT)(args:List Value):PT:=match args with
 |[.pointer p]=>T33 p
 |_=>λ_ _=>False
def F33.V:List Value->PT:=F33.W F33.T
theorem F33.ok:FOk Tryd.prog 33 F33.V:=by
 refine⟨⟨_,Tryd.func33,rfl,rfl⟩,λ_=>?_⟩;unfold F33.V F33.W;split;exact denF_okE (GOk.cons F74.ok (GOk.cons F75.ok (GOk.cons F76.ok (GOk.nil)))) noV_ok Tryd.func33 (F33.gen noV F74.T F75.T F76.T _);exact λ_ _ h=>h.elim
@[reducible] def F35.G(T29:Int->PT)(T31:Option Addr->Int->Int->Int->Sl->Sl->Sl->PT)(T69 T78:Sl->PT)(l:Sl)(n:Int):PT:=λh Q=>
 T78 l h λr h1=>∃ l1:Sl,∃ n1 n2:Int,r=.tuple ⟨[.slice l1.a l1.n l1.c,.int .i64 n1,.int .i64 n2]⟩/\T69 l1 h1 λr1 h2=>∃ l2:Sl,∃ n3:Int,r1=.tuple ⟨[.slice l2.a l2.n l2.c,.int .i64 n3]⟩/\∃ J:Int->Hp->Prop,(∀ n4:Int,∀ h3:Hp,J n4 h3->par (n4=0) (T29 n h3 λr2 h4=>retP r2 λp=>∃ (I:Int->Int->Int->Int->Int->Int->Int->Int->Int->Hp->Prop) (m:Int->Int->Int->Int->Int->Int->Int->Int->Int->Hp->Nat),I 0 0 0 0 0 0 0 0 0 h4/\(∀ n5 n6:Int,∀ n7 n8:Int,∀ n9 n10:Int,∀ n11 n12 n13:Int,∀ h5:Hp,I n5 n6 n7 n8 n9 n10 n11 n12 n13 h5->par (n5<(l2.n:Int)) (ix l2.a n5 l2.n λb o=>ldI .u64 h5 b (o+n5.toNat*6) λn14=>ldI .u64 h5 b ((o+n5.toNat*6)+1) λn15=>ldI .u64 h5 b ((o+n5.toNat*6)+2) λn16=>ldS h5 b ((o+n5.toNat*6)+3) λl3=>ldS h5 b ((o+n5.toNat*6)+4) λl4=>ldS h5 b ((o+n5.toNat*6)+5) λl5=>T31 p n14 n15 n16 l3 l4 l5 h5 λr3 h6=>∃ l6:Sl,∃ n17:Int,r3=.tuple ⟨[.slice l6.a l6.n l6.c,.int .i64 n17]⟩/\par (n17=0) (I (wrap .i64 (n5+1)) n14 n15 n16 0 n10 n11 n12 n13 h6/\m (wrap .i64 (n5+1)) n14 n15 n16 0 n10 n11 n12 n13 h6<m n5 n6 n7 n8 n9 n10 n11 n12 n13 h5) (Q (.tuple ⟨[.pointer none,.agg ⟨[.int .u64 0,.int .u64 0,.int .u64 0,.int .u64 0]⟩,.int .i64 n17]⟩) h6)) (Q (.tuple ⟨[.pointer p,.agg ⟨[.int .u64 n6,.int .u64 n7,.int .u64 n8,.int .u64 n9]⟩,.int .i64 0]⟩) h5))) (Q (.tuple ⟨[.pointer none,.agg ⟨[.int .u64 0,.int .u64 0,.int .u64 0,.int .u64 0]⟩,.int .i64 n4]⟩) h3))/\(par (n3=0) (par ((l2.n:Int)=0) (J 140 h2) (J n3 h2)) (J n3 h2))
def F35.T:=F35.G F29.T F31.T F69.T F78.T
theorem F35.gen(V T29 T31 T69 T78 l n):denF Tryd.prog [5,13,15] [(29,F29.W T29),(31,F31.W T31),(69,F69.W T69),(78,F78.W T78)] V [(15,.join [(11,.int .i64)] []),(1022,.order [0,1,2,3,4]),(2042,.loop [(44,.int .i64)] [(13,[.int .u64,.int .u64,.int .u64,.int .u64]),(5,[.int .u64,.int .u64,.int .u64,.int .u64])])] Tryd.f35 [.v (.slice l.a l.n l.c),.v (.int .i64 n)]=F35.G T29 T31 T69 T78 l n:=by kernel_rfl
def F35.W(T35:Sl->Int->PT)(args:List Value):PT:=match args with
 |[.slice l_a l_n l_c,.int .i64 n]=>T35 ⟨l_a,l_n,l_c⟩ n
 |_=>λ_ _=>False
def F35.V:List Value->PT:=F35.W F35.T
theorem F35.ok:FOk Tryd.prog 35 F35.V:=by
 refine⟨⟨_,Tryd.func35,rfl,rfl⟩,λ_=>?_⟩;unfold F35.V F35.W;split;exact denF_okE (GOk.cons F29.ok (GOk.cons F31.ok (GOk.cons F69.ok (GOk.cons F78.ok (GOk.nil))))) noV_ok Tryd.func35 (F35.gen noV F29.T F31.T F69.T F78.T ⟨_,_,_⟩ _);exact λ_ _ h=>h.elim
@[reducible] def F36.G(T79:Sl->Sl->PT)(l l1:Sl):PT:=λh Q=>
 par ((l.n:Int)=(l1.n:Int)) (∃ (I:Int->Hp->Prop) (m:Int->Hp->Nat),I 0 h/\(∀ n:Int,∀ h1:Hp,I n h1->par (n<(l.n:Int)) (ix l.a n l.n λb o=>ldS h1 b (o+n.toNat) λl2=>ix l1.a n l1.n λb1 o1=>ldS h1 b1 (o1+n.toNat) λl3=>T79 l2 l3 h1 λr h2=>retB r (I (wrap .i64 (n+1)) h2/\m (wrap .i64 (n+1)) h2<m n h1) (Q (.bool false) h2)) (Q (.bool true) h1))) (Q (.bool false) h)
def F36.T:=F36.G F79.T
theorem F36.gen(V T79 l l1):denF Tryd.prog [] [(79,F79.W T79)] V [(58,.loop [(5,.int .i64)] []),(1864,.order [0,1,2,3,4,5,6,7,8,9])] Tryd.f36 [.v (.slice l.a l.n l.c),.v (.slice l1.a l1.n l1.c)]=F36.G T79 l l1:=by kernel_rfl
def F36.W(T36:Sl->Sl->PT)(args:List Value):PT:=match args with
 |[.slice l_a l_n l_c,.slice l1_a l1_n l1_c]=>T36 ⟨l_a,l_n,l_c⟩ ⟨l1_a,l1_n,l1_c⟩
 |_=>λ_ _=>False
def F36.V:List Value->PT:=F36.W F36.T
theorem F36.ok:FOk Tryd.prog 36 F36.V:=by
 refine⟨⟨_,Tryd.func36,rfl,rfl⟩,λ_=>?_⟩;unfold F36.V F36.W;split;exact denF_okE (GOk.cons F79.ok (GOk.nil)) noV_ok Tryd.func36 (F36.gen noV F79.T ⟨_,_,_⟩ ⟨_,_,_⟩);exact λ_ _ h=>h.elim
@[reducible] def F5.G(T17:Sl->PT)(T23:Int->Sl->PT)(T27:PT)(T28:Int->Int->PT)(T29:Int->PT)(T30:Sl->PT)(T31:Option Addr->Int->Int->Int->Sl->Sl->Sl->PT)(T32:Option Addr->Int->Int->Int->Int->PT)(T33 T34:Option Addr->PT)(T35:Sl->Int->PT)(T36 T37:Sl->Sl->PT)(n:Int)(l l1:Sl)(n1 n2 n3 n4 n5:Int):PT:=λh Q=>
 T27 h λr h1=>retB r (T17 l h1 λr1 h2=>retB r1 (T17 l1 h2 λr2 h3=>retB r2 (T28 n 3 h3 λr3 h4=>retI .i64 r3 λn6=>T29 (wrap .i64 (3+n6)) h4 λr4 h5=>retP r4 λp=>okPtr h5 p none/\par ((p:Option Addr)=none) (Q (.bool false) h5) (T30 l h5 λr5 h6=>retS r5 λl2=>T30 l1 h6 λr6 h7=>retS r6 λl3=>∃ (I:Int->Hp->Prop) (m:Int->Hp->Nat),I 0 h7/\(∀ n7:Int,∀ h8:Hp,I n7 h8->par (n7<(l2.n:Int)) (ix l2.a n7 l2.n λb o=>ldI .u64 h8 b (o+n7.toNat*6) λn8=>ldI .u64 h8 b ((o+n7.toNat*6)+1) λn9=>ldI .u64 h8 b ((o+n7.toNat*6)+2) λn10=>ldS h8 b ((o+n7.toNat*6)+3) λl4=>ldS h8 b ((o+n7.toNat*6)+4) λl5=>ldS h8 b ((o+n7.toNat*6)+5) λl6=>T31 p n8 n9 n10 l4 l5 l6 h8 λr7 h9=>∃ l7:Sl,∃ n11:Int,r7=.tuple ⟨[.slice l7.a l7.n l7.c,.int .i64 n11]⟩/\I (wrap .i64 (n7+1)) h9/\m (wrap .i64 (n7+1)) h9<m n7 h8) (T32 p n1 n2 n3 n4 h8 λr8 h10=>∃ n12 n13 n14:Int,∃ l8 l9 l10:Sl,r8=.agg ⟨[.int .u64 n12,.int .u64 n13,.int .u64 n14,.slice l8.a l8.n l8.c,.slice l9.a l9.n l9.c,.slice l10.a l10.n l10.c]⟩/\nw h10 (.cells ⟨[.int .u64 n12,.int .u64 n13,.int .u64 n14,.slice l8.a l8.n l8.c,.slice l9.a l9.n l9.c,.slice l10.a l10.n l10.c]⟩ 65 (0,0)) λb1 h11=>T23 0 ⟨(some ⟨b1,0,none⟩),1,1⟩ h11 λr9 h12=>retS r9 λl11=>nw h12 (.cells ⟨[.int .i64 (l11.n:Int)]⟩ 3 (0,0)) λb2 h13=>T33 p h13 λr10 h14=>retS r10 λl12=>nw h14 (.cells ⟨[.slice l12.a l12.n l12.c]⟩ 38 (0,0)) λb3 h15=>T34 p h15 λr11 h16=>retS r11 λl13=>nw h16 (.cells ⟨[.slice l13.a l13.n l13.c]⟩ 63 (0,0)) λb4 h17=>nw h17 (.cells ⟨[.int .u64 n1,.int .u64 n2,.int .u64 n3,.int .u64 0]⟩ 72 (0,0)) λb5 h18=>∃ J:Sl->Sl->Sl->Sl->Sl->Hp->Prop,(∀ l14 l15:Sl,∀ l16 l17 l18:Sl,∀ h19:Hp,J l14 l15 l16 l17 l18 h19->∃ (I1:Int->Int->Hp->Prop) (m1:Int->Int->Hp->Nat),I1 (l14.n:Int) 0 h19/\(∀ n15 n16:Int,∀ h20:Hp,I1 n15 n16 h20->par (n16<3) (∃ J1:Int->Hp->Prop,(∀ n17:Int,∀ h21:Hp,J1 n17 h21->Sl.okCut l14 0 n15 (l14.c:Int)/\T35 (Sl.cut l14 1 0 n15 (l14.c:Int)) (wrap .i64 (3+n6)) h21 λr12 h22=>∃ p1:Option Addr,∃ n18 n19:Int,∃ n20 n21 n22:Int,r12=.tuple ⟨[.pointer p1,.agg ⟨[.int .u64 n18,.int .u64 n19,.int .u64 n20,.int .u64 n21]⟩,.int .i64 n22]⟩/\par (n17<0) (okPtr h22 p1 none/\par ((p1:Option Addr)=none) (par (n22=140) (par (([.int .u64 n18,.int .u64 n19,.int .u64 n20,.int .u64 n21]:List Value)=[.int .u64 0,.int .u64 0,.int .u64 0,.int .u64 0]) (par (n16=0) (T28 n5 (wrap .i64 ((l14.n:Int)+1)) h22 λr13 h23=>retI .i64 r13 λn23=>I1 n23 (wrap .i64 (n16+1)) h23/\m1 n23 (wrap .i64 (n16+1)) h23<m1 n15 n16 h20) (T28 n5 (l15.n:Int) h22 λr14 h24=>retI .i64 r14 λn24=>ix l15.a n24 l15.n λb6 o1=>ldI .i64 h24 b6 (o1+n24.toNat) λn25=>I1 (wrap .i64 (n25-1)) (wrap .i64 (n16+1)) h24/\m1 (wrap .i64 (n25-1)) (wrap .i64 (n16+1)) h24<m1 n15 n16 h20)) (Q (.bool false) h22)) (Q (.bool false) h22)) (Q (.bool false) h22)) (okPtr h22 p1 none/\par ((p1:Option Addr)=none) (Q (.bool false) h22) (par (n22=0) (ix l18.a n17 l18.n λb7 o2=>ldI .u64 h22 b7 (o2+n17.toNat*4) λn26=>ldI .u64 h22 b7 ((o2+n17.toNat*4)+1) λn27=>ldI .u64 h22 b7 ((o2+n17.toNat*4)+2) λn28=>ldI .u64 h22 b7 ((o2+n17.toNat*4)+3) λn29=>par (([.int .u64 n18,.int .u64 n19,.int .u64 n20,.int .u64 n21]:List Value)=[.int .u64 n26,.int .u64 n27,.int .u64 n28,.int .u64 n29]) (ix l16.a n17 l16.n λb8 o3=>ldS h22 b8 (o3+n17.toNat) λl19=>T33 p1 h22 λr15 h25=>retS r15 λl20=>h25.at b8 (o3+n17.toNat)=some (.slice l19.a l19.n l19.c)/\T36 l20 l19 h25 λr16 h26=>retB r16 (ix l17.a n17 l17.n λb9 o4=>ldS h26 b9 (o4+n17.toNat) λl21=>T34 p1 h26 λr17 h27=>retS r17 λl22=>h27.at b9 (o4+n17.toNat)=some (.slice l21.a l21.n l21.c)/\T37 l22 l21 h27 λr18 h28=>retB r18 (par (n16=0) (T28 n5 (wrap .i64 ((l14.n:Int)+1)) h28 λr19 h29=>retI .i64 r19 λn30=>I1 n30 (wrap .i64 (n16+1)) h29/\m1 n30 (wrap .i64 (n16+1)) h29<m1 n15 n16 h20) (T28 n5 (l15.n:Int) h28 λr20 h30=>retI .i64 r20 λn31=>ix l15.a n31 l15.n λb10 o5=>ldI .i64 h30 b10 (o5+n31.toNat) λn32=>I1 (wrap .i64 (n32-1)) (wrap .i64 (n16+1)) h30/\m1 (wrap .i64 (n32-1)) (wrap .i64 (n16+1)) h30<m1 n15 n16 h20)) (Q (.bool false) h28)) (Q (.bool false) h26)) (Q (.bool false) h22)) (Q (.bool false) h22))))/\(∃ (I2:Int->Hp->Prop) (m2:Int->Hp->Nat),I2 (-1) h20/\(∀ n33:Int,∀ h31:Hp,I2 n33 h31->par ((wrap .i64 (n33+1))<(l15.n:Int)) (ix l15.a (wrap .i64 (n33+1)) l15.n λb11 o6=>ldI .i64 h31 b11 (o6+((wrap .i64 (n33+1))).toNat) λn34=>par (n34<=n15) (I2 (wrap .i64 (n33+1)) h31/\m2 (wrap .i64 (n33+1)) h31<m2 n33 h31) (J1 n33 h31)) (J1 n33 h31)))) (Q (.bool true) h20)))/\(∃ (I3:Sl->Sl->Sl->Sl->Sl->Int->Hp->Prop) (m3:Sl->Sl->Sl->Sl->Sl->Int->Hp->Nat),I3 l11 ⟨(some ⟨b2,0,none⟩),1,1⟩ ⟨(some ⟨b3,0,none⟩),1,1⟩ ⟨(some ⟨b4,0,none⟩),1,1⟩ ⟨(some ⟨b5,0,none⟩),1,1⟩ 0 h18/\(∀ l23 l24:Sl,∀ l25 l26 l27:Sl,∀ n35:Int,∀ h32:Hp,I3 l23 l24 l25 l26 l27 n35 h32->par (n35<(l3.n:Int)) (par (n35<12) (ix l3.a n35 l3.n λb12 o7=>ldI .u64 h32 b12 (o7+n35.toNat*6) λn36=>ldI .u64 h32 b12 ((o7+n35.toNat*6)+1) λn37=>ldI .u64 h32 b12 ((o7+n35.toNat*6)+2) λn38=>ldS h32 b12 ((o7+n35.toNat*6)+3) λl28=>ldS h32 b12 ((o7+n35.toNat*6)+4) λl29=>ldS h32 b12 ((o7+n35.toNat*6)+5) λl30=>T31 p n36 n37 n38 l28 l29 l30 h32 λr21 h33=>∃ l31:Sl,∃ n39:Int,r21=.tuple ⟨[.slice l31.a l31.n l31.c,.int .i64 n39]⟩/\par (n39=0) (ix l3.a n35 l3.n λb13 o8=>ldI .u64 h33 b13 (o8+n35.toNat*6) λn40=>ldI .u64 h33 b13 ((o8+n35.toNat*6)+1) λn41=>ldI .u64 h33 b13 ((o8+n35.toNat*6)+2) λn42=>ldS h33 b13 ((o8+n35.toNat*6)+3) λl32=>ldS h33 b13 ((o8+n35.toNat*6)+4) λl33=>ldS h33 b13 ((o8+n35.toNat*6)+5) λl34=>nw h33 (.cells ⟨[.int .u64 n40,.int .u64 n41,.int .u64 n42,.slice l32.a l32.n l32.c,.slice l33.a l33.n l33.c,.slice l34.a l34.n l34.c]⟩ 65 (0,0)) λb14 h34=>T23 (l23.n:Int) ⟨(some ⟨b14,0,none⟩),1,1⟩ h34 λr22 h35=>retS r22 λl35=>∃ vs,h35.row l35.a (l35.n*1) vs/\(∀ v∈vs,Value.oneCell' v=true)/\appendD l23 5 1 1 [.int .u8 0] l35.n vs h35 λl36 h36=>appendD l24 3 1 8 [.int .i64 0] 1 [.int .i64 (l36.n:Int)] h36 λl37 h37=>T33 p h37 λr23 h38=>retS r23 λl38=>appendD l25 38 1 24 [.slice none 0 0] 1 [.slice l38.a l38.n l38.c] h38 λl39 h39=>T34 p h39 λr24 h40=>retS r24 λl40=>appendD l26 63 1 24 [.slice none 0 0] 1 [.slice l40.a l40.n l40.c] h40 λl41 h41=>ix l3.a n35 l3.n λb15 o9=>ldI .u64 h41 b15 (o9+n35.toNat*6) λn43=>ix l3.a n35 l3.n λb16 o10=>ldI .u64 h41 b16 ((o10+n35.toNat*6)+1) λn44=>ix l3.a n35 l3.n λb17 o11=>ldI .u64 h41 b17 ((o11+n35.toNat*6)+2) λn45=>appendD l27 72 4 32 [.int .u64 0,.int .u64 0,.int .u64 0,.int .u64 0] 1 [.int .u64 n43,.int .u64 n44,.int .u64 n45,.int .u64 0] h41 λl42 h42=>I3 l36 l37 l39 l41 l42 (wrap .i64 (n35+1)) h42/\m3 l36 l37 l39 l41 l42 (wrap .i64 (n35+1)) h42<m3 l23 l24 l25 l26 l27 n35 h32) (I3 l23 l24 l25 l26 l27 (wrap .i64 (n35+1)) h33/\m3 l23 l24 l25 l26 l27 (wrap .i64 (n35+1)) h33<m3 l23 l24 l25 l26 l27 n35 h32)) (J l23 l24 l25 l26 l27 h32)) (J l23 l24 l25 l26 l27 h32))))))) (Q (.bool true) h3)) (Q (.bool true) h2)) (Q (.bool false) h1)
def F5.T:=F5.G F17.T F23.T F27.T F28.T F29.T F30.T F31.T F32.T F33.T F34.T F35.T F36.T F37.T
theorem F5.gen(V T17 T23 T27 T28 T29 T30 T31 T32 T33 T34 T35 T36 T37 n l l1 n1 n2 n3 n4 n5):denF Tryd.prog [8,25,116,121,126,145] [(17,F17.W T17),(23,F23.W T23),(27,F27.W T27),(28,F28.W T28),(29,F29.W T29),(30,F30.W T30),(31,F31.W T31),(32,F32.W T32),(33,F33.W T33),(34,F34.W T34),(35,F35.W T35),(36,F36.W T36),(37,F37.W T37)] V [(2042,.loop [(12,.int .i64)] []),(16383,.join [(13,.sl),(14,.sl),(15,.sl),(16,.sl),(17,.sl)] []),(131066,.loop [(13,.sl),(14,.sl),(15,.sl),(16,.sl),(17,.sl),(18,.int .i64)] []),(524282,.loop [(21,.int .i64),(22,.int .i64)] []),(16777033,.join [(23,.int .i64)] []),(67108132,.loop [(23,.int .i64)] []),(134211903,.order [0,1,2,3,4,5,6,7,8,9,10,11,12,13,14,15,16,17,18,19]),(1073730166,.order [0,1,2,3,4,5,6,7,8,9,10,11,12,13,14,15,17,18,19,20,16,21,22,23,24,25,27,28,29,30,26,31,32,33])] Tryd.f5 [.v (.int .i64 n),.v (.slice l.a l.n l.c),.v (.slice l1.a l1.n l1.c),.v (.agg ⟨[.int .u64 n1,.int .u64 n2,.int .u64 n3,.int .u64 n4]⟩),.v (.int .i64 n5)]=F5.G T17 T23 T27 T28 T29 T30 T31 T32 T33 T34 T35 T36 T37 n l l1 n1 n2 n3 n4 n5:=by kernel_rfl
def F5.W(T5:Int->Sl->Sl->Int->Int->Int->Int->Int->PT)(args:List Value):PT:=match args with
 |[.int .i64 n,.slice l_a l_n l_c,.slice l1_a l1_n l1_c,.agg ⟨[.int .u64 n1,.int .u64 n2,.int .u64 n3,.int .u64 n4]⟩,.int .i64 n5]=>T5 n ⟨l_a,l_n,l_c⟩ ⟨l1_a,l1_n,l1_c⟩ n1 n2 n3 n4 n5
 |_=>λ_ _=>False
def F5.V:List Value->PT:=F5.W F5.T
theorem F5.ok:FOk Tryd.prog 5 F5.V:=by
 refine⟨⟨_,Tryd.func5,rfl,rfl⟩,λ_=>?_⟩;unfold F5.V F5.W;split;exact denF_okE (GOk.cons F17.ok (GOk.cons F23.ok (GOk.cons F27.ok (GOk.cons F28.ok (GOk.cons F29.ok (GOk.cons F30.ok (GOk.cons F31.ok (GOk.cons F32.ok (GOk.cons F33.ok (GOk.cons F34.ok (GOk.cons F35.ok (GOk.cons F36.ok (GOk.cons F37.ok (GOk.nil)))))))))))))) noV_ok Tryd.func5 (F5.gen noV F17.T F23.T F27.T F28.T F29.T F30.T F31.T F32.T F33.T F34.T F35.T F36.T F37.T _ ⟨_,_,_⟩ ⟨_,_,_⟩ _ _ _ _ _);exact λ_ _ h=>h.elim
end Go.Eng.YtblghgacokoklaaDoor
end
section
namespace Go.Eng.YtblghgacokoklaaDoor
section
variable{g h:Hp}{sb vb pm cm:Nat}{ps ls:Sl}{xs:List (Sl×List Tab)}{ptrs:List ByteArray}{Q:Value->Hp->Prop}
theorem tables_new(V:Ver g h vb ls xs){i:Nat}{x:Sl×List Tab}(hx:xs[i]?=some x)(hs:x.2.length<=5000000)(hQ:∀ h' r,Keep h h'->Buf h' r 6 106 (tabV x.2)->NewN h r->Q (.slice r.a r.n r.c) h'):F76.T (some ⟨vb,0,none⟩) (i:Int) h Q:=by
 unfold F76.T F76.G
 have hi:i<xs.length:=(List.getElem?_eq_some_iff.1 hx).1
 have hl:=V.L.len
 refine has_spec V.v (λc0 c1=>⟨true,rfl,λ_=>?_,λh0=>(by cases h0)⟩) (λhc=>absurd hc (by omega))
 obtain⟨b,ha,hat⟩:=V.L.rd hx
 have T:=V.L.t x (mem_of_getElem? hx)
 refine⟨vb,0,rfl,ls,at_of V.v 0,b,0,ha,⟨c0,c1⟩,x.1,by rw[Nat.zero_add,Int.toNat_natCast];exact hat,tabV x.2,Buf.row T,tab_one _,?_⟩
 refine append_buf (Buf.nil h 6 106) rfl (by rw[tabV_len,T.n]) (by have:=T.n;dsimp only;omega) λr h2 B2 _ U2=>hQ h2 r (U2.keepNil rfl) (by simpa using B2) (NewN.upd (Keep.refl h) (NewN.nil h) U2).2
structure TabsN(g h:Hp)(r:Sl)(lv:Lv):Prop where
 new:NewN g r
 ex:∃ ss:List Sl,ss.length=lv.length/\Buf h r 1 124 (slV ss)/\∀ (j:Nat) x y,ss[j]?=some x->lv[j]?=some y->Buf h x 6 106 (tabV y)/\NewN g x
theorem tables_all(S:SetA g h sb vb pm cm ps ls xs ptrs)(h5:xs.length<=5)(hs:totL (xs.map (·.2))<=5000000)(hQ:∀ h' r,Keep h h'->TabsN h h' r (xs.map (·.2))->Q (.slice r.a r.n r.c) h'):F33.T (some ⟨sb,0,none⟩) h Q:=by
 unfold F33.T F33.G
 refine⟨λl n h1=>∃ (i:Nat) (ss:List Sl),n=(i:Int)/\i<=xs.length/\ss.length=i/\Buf h1 l 1 124 (slV ss)/\NewN h l/\Keep h h1/\∀ (j:Nat) x y,ss[j]?=some x->(xs.map (·.2))[j]?=some y->Buf h1 x 6 106 (tabV y)/\NewN h x,λ_ n _=>xs.length-n.toNat,⟨0,[],rfl,Nat.zero_le _,rfl,Buf.nil h 1 124,.inl rfl,Keep.refl h,λj x y e=>(by simp at e)⟩,?_⟩
 rintro l n h1 ⟨i,ss,rfl,hi,hss,B,N,K,each⟩
 have hln:l.n=ss.length:=by have:=B.len;rw[slV_length] at this;omega
 have S1:=S.keep K
 refine current_spec S1 ⟨_,rfl,levels_spec S1.V ⟨_,rfl,λhlt=>?_,λhge=>?_⟩⟩
 ·obtain⟨x,hx⟩:∃ x,xs[i]?=some x:=⟨_,getElem?_eq_getElem (by omega)⟩
  have hxl:x.2.length<=5000000:=Nat.le_trans (totL_mem (mem_map_of_mem (mem_of_getElem? hx))) hs
  refine current_spec S1 ⟨_,rfl,tables_new S1.V hx hxl λh2 r K2 T2 N2=>⟨r,rfl,?_⟩⟩
  refine append_buf (B.keep K2) rfl rfl (by omega) λs' h3 B3 hn3 U3=>?_
  obtain⟨K3,N3⟩:=NewN.upd (K.trans K2) N U3
  rw[next_i (n:=100) (by omega) (by omega)]
  refine⟨⟨i+1,ss++[r],rfl,by omega,by simp[hss],by simpa[slV] using B3,N3,K3,λj x' y e1 e2=>?_⟩,by dsimp only;omega⟩
  have up:∀ {s:Sl} {vs:List Value},Buf h2 s 6 106 vs->Buf h3 s 6 106 vs:=λC=>C.upd U3 (buf_off C (B.keep K2) (by decide))
  rw[List.getElem?_append] at e1
  split at e1
  ·obtain⟨c1,c2⟩:=each j x' y e1 e2
   exact⟨up (c1.keep K2),c2⟩
  ·have hj:j=i:=by
    rcases Nat.lt_or_ge (j-ss.length) 1 with h0|h0
    ·omega
    ·rw[List.getElem?_eq_none (by simpa using h0)] at e1;cases e1
   subst hj
   rw[hss,Nat.sub_self] at e1
   cases e1
   rw[getElem?_map,hx] at e2
   cases e2
   exact⟨up T2,N2.mono K.dom⟩
 ·have hil:i=xs.length:=by omega
  exact hQ h1 l K ⟨N,ss,by rw[hss,hil,length_map],B,each⟩
end
theorem levels_same{h:Hp}{l l1:Sl}{ss tt:List Sl}{lv:Lv}{Q:Value->Hp->Prop}(hl:h.row l.a l.n (slV ss))(hm:h.row l1.a l1.n (slV tt))(n1:ss.length=lv.length)(n2:tt.length=lv.length)
  (a:∀ (i:Nat) x y,ss[i]?=some x->lv[i]?=some y->h.row x.a (x.n*6) (tabV y)) (b:∀ (i:Nat) x y,tt[i]?=some x->lv[i]?=some y->h.row x.a (x.n*6) (tabV y)) (h5:lv.length<=5) (hs:totL lv<=5000000) (hQ:Q (.bool true) h):F36.T l l1 h Q:=by
 unfold F36.T F36.G
 have hl1:l.n=ss.length:=by have:=hl.1;rw[slV_length] at this;exact this.symm
 have hl2:l1.n=tt.length:=by have:=hm.1;rw[slV_length] at this;exact this.symm
 refine⟨λ_=>?_,λh0=>absurd (by omega) h0⟩
 refine⟨λn g=>g=h/\∃ i:Nat,n=(i:Int)/\i<=lv.length,λn _=>lv.length-n.toNat,⟨rfl,0,rfl,Nat.zero_le _⟩,?_⟩
 rintro n g ⟨rfl,i,rfl,hi⟩
 refine⟨λhlt=>?_,λ_=>hQ⟩
 obtain⟨b0,o0,ha,hat⟩:=row_get hl (i:=i) (by omega)
 obtain⟨b1,o1,hb,hbt⟩:=row_get hm (i:=i) (by omega)
 have c1:ss[i]?=some ss[i]:=getElem?_eq_getElem (by omega)
 have c2:tt[i]?=some tt[i]:=getElem?_eq_getElem (by omega)
 have c3:lv[i]?=some lv[i]:=getElem?_eq_getElem (by omega)
 refine⟨b0,o0,ha,⟨by omega,hlt⟩,ss[i],by rw[Int.toNat_natCast,hat i (by omega)];exact slV_get (by omega),b1,o1,hb,⟨by omega,by omega⟩,tt[i],by rw[Int.toNat_natCast,hbt i (by omega)];exact slV_get (by omega),?_⟩
 refine tables_eq (a i _ _ c1 c3) (b i _ _ c2 c3) (Nat.le_trans (totL_mem (List.getElem_mem _)) hs) ⟨true,rfl,λ_=>?_,λh0=>(by cases h0)⟩
 rw[next_i (n:=100) (by omega) (by omega)]
 exact⟨⟨rfl,i+1,rfl,by omega⟩,by dsimp only;omega⟩
end Go.Eng.YtblghgacokoklaaDoor
end
section
namespace Go.Eng.YtblghgacokoklaaDoor
structure LvOk(P:Tab->Prop)(lv:Lv):Prop where
 nd:(nums lv).Nodup
 hu:Hulls lv
 so:∀ i l,1<=i->lv[i]?=some l->Fine l l
 p:∀ l∈lv,∀ t∈l,P t
theorem nums_rep(k:Nat):nums (List.replicate k [])=[]:=by unfold nums;simp
theorem nums_cons(l:List Tab)(A:Lv):nums (l::A)=l.map Tab.num++nums A:=by unfold nums;simp
theorem nums_set:∀ {lv:Lv} {k:Nat} {ts:List Tab},lv[k]?=some ts->∃ A B,lv=A++ts::B/\A.length=k/\∀ us,lv.set k us=A++us::B
 |[],k,ts,h=>by simp at h
 |l::lv,0,ts,h=>by
  simp only[List.getElem?_cons_zero,Option.some.injEq] at h
  subst h
  exact⟨[],lv,rfl,rfl,λus=>rfl⟩
 |l::lv,k+1,ts,h=>by
  simp only[List.getElem?_cons_succ] at h
  obtain⟨A,B,rfl,rfl,hs⟩:=nums_set h
  exact⟨l::A,B,rfl,rfl,λus=>by rw[List.set_cons_succ,hs];rfl⟩
theorem cutN_subl{n:Int}:∀ {ts us:List Tab},cutN n ts=some us->us.Sublist ts
 |[],us,h=>by cases h
 |t::ts,us,h=>by
  simp only[cutN] at h
  by_cases ht:t.num=n
  ·rw[if_pos ht] at h;cases h;exact List.sublist_cons_self _ _
  ·rw[if_neg ht] at h
   cases hc:cutN n ts with
   |none=>rw[hc] at h;cases h
   |some vs=>rw[hc] at h;cases h;exact(cutN_subl hc).cons_cons t
theorem outM_ok{P:Tab->Prop}:∀ (ps:List Place) (lv:Lv),(nums lv).Nodup->(∀ l∈lv,∀ t∈l,P t)->(nums (outM ps lv).2).Nodup/\∀ l∈(outM ps lv).2,∀ t∈l,P t
 |[],lv,nd,hp=>⟨nd,hp⟩
 |p::ps,lv,nd,hp=>by
  unfold outM
  split
  ·exact⟨nd,hp⟩
  ·split
   ·exact⟨nd,hp⟩
   ·next ts h=>
    split
    ·exact⟨nd,hp⟩
    ·next us hc=>
     obtain⟨A,B,rfl,hA,hs⟩:=nums_set h
     have sl:=cutN_subl hc
     refine outM_ok ps _ ?_ ?_
     ·rw[hs]
      rw[nums_app,nums_cons] at nd ⊢
      exact nd.sublist ((List.Sublist.refl _).append ((sl.map _).append (List.Sublist.refl _)))
     ·rw[hs]
      intro l hl t ht
      rcases mem_append.1 hl with hl|hl
      ·exact hp l (List.mem_append_left _ hl) t ht
      ·rcases mem_cons.1 hl with rfl|hl
       ·exact hp ts (by simp) t (sl.subset ht)
       ·exact hp l (by simp[hl]) t ht
theorem inM_ok{P:Tab->Prop}:∀ (ps:List Placed) (lv:Lv),(∀ p∈ps,P p.tab)->(nums lv).Nodup->(∀ l∈lv,∀ t∈l,P t)->(nums (inM ps lv).2).Nodup/\∀ l∈(inM ps lv).2,∀ t∈l,P t
 |[],lv,_,nd,hp=>⟨nd,hp⟩
 |p::ps,lv,hq,nd,hp=>by
  unfold inM
  split
  ·exact⟨nd,hp⟩
  ·split
   ·exact⟨nd,hp⟩
   ·next ts h=>
    split
    ·exact⟨nd,hp⟩
    ·next hnum=>
     split
     ·exact⟨nd,hp⟩
     ·obtain⟨A,B,rfl,hA,hs⟩:=nums_set h
      refine inM_ok ps _ (λq h=>hq q (List.mem_cons_of_mem _ h)) ?_ ?_
      ·rw[hs]
       rw[nums_app,nums_cons] at nd hnum ⊢
       rw[map_append]
       have e:nums A++(ts.map Tab.num++[p.tab].map Tab.num++nums B)=(nums A++ts.map Tab.num)++p.num::nums B:=by simp[Placed.tab]
       rw[e]
       refine(List.perm_middle.nodup_iff).2 (List.nodup_cons.2 ⟨λhm=>hnum (by simpa using hm),?_⟩)
       rw[List.append_assoc];exact nd
      ·rw[hs]
       intro l hl t ht
       rcases mem_append.1 hl with hl|hl
       ·exact hp l (List.mem_append_left _ hl) t ht
       ·rcases mem_cons.1 hl with rfl|hl
        ·rcases mem_append.1 ht with ht|ht
         ·exact hp ts (by simp) t ht
         ·rw[List.mem_singleton.1 ht];exact hq p mem_cons_self
        ·exact hp l (by simp[hl]) t ht
theorem perm_flat:∀ {a b:Lv},a.length=b.length->(∀ (i:Nat) (x y:List Tab),a[i]?=some x->b[i]?=some y->x.Perm y)->a.flatten.Perm b.flatten
 |[],[],_,_=>List.Perm.refl _
 |[],y::b,h,_=>by simp at h
 |x::a,[],h,_=>by simp at h
 |x::a,y::b,h,k=>by
  rw[List.flatten_cons,List.flatten_cons]
  exact(k 0 x y rfl rfl).append (perm_flat (by simpa using h) λi x' y' h1 h2=>k (i+1) x' y' h1 h2)
theorem Sorted.perm{lv lw:Lv}(S:Sorted lv lw):lw.flatten.Perm lv.flatten:=by
 refine perm_flat S.1 λi x y h1 h2=>?_
 rcases Nat.eq_zero_or_pos i with rfl|hi
 ·rw[S.2.1,h2] at h1
  cases h1;exact List.Perm.refl _
 ·exact(S.2.2 i y x hi h2 h1).1
theorem LvOk.step{P:Tab->Prop}{lv lw:Lv}{e:Edit}(K:LvOk P lv)(hq:∀ p∈e.inn,P p.tab)(R:Res lv e 0 lw):LvOk P lw:=by
 unfold Res at R
 split at R
 ·split at R
  ·split at R
   ·rcases R with⟨h,_⟩|⟨_,S⟩
    ·exact absurd h (by decide)
    ·obtain⟨a1,a2⟩:=outM_ok (P:=P) e.out lv K.nd K.p
     obtain⟨b1,b2⟩:=inM_ok (P:=P) e.inn _ hq a1 a2
     have H2:=(inM_sum e.inn (outM e.out lv).2).2.2 ((outM_sum e.out lv).2.2 K.hu)
     generalize (inM e.inn (outM e.out lv).2).2=l2 at S b1 b2 H2
     have pf:=S.perm
     refine⟨?_,S.hulls H2,λi l hi hl=>?_,λl hl t ht=>?_⟩
     ·unfold nums at b1 ⊢
      exact((pf.map _).nodup_iff).2 b1
     ·have hl2:i<l2.length:=by rw[<- S.1];exact(List.getElem?_eq_some_iff.1 hl).1
      obtain⟨p,q,r⟩:=S.2.2 i _ l hi (getElem?_eq_getElem hl2) hl
      exact⟨List.Perm.refl _,q,r⟩
     ·have hm:t∈l2.flatten:=pf.mem_iff.1 (List.mem_flatten.2 ⟨l,hl,ht⟩)
      obtain⟨l',hl',ht'⟩:=List.mem_flatten.1 hm
      exact b2 l' hl' t ht'
   ·next h3=>exact absurd R.symm h3
  ·next h2=>exact absurd R.symm h2
 ·exact absurd R (by decide)
theorem LvOk.new(P:Tab->Prop)(k:Nat):LvOk P (List.replicate k []):=by
 have hm:∀ l∈List.replicate k ([]:List Tab),l=[]:=λl hl=>(List.mem_replicate.1 hl).2
 refine⟨by rw[nums_rep];exact List.nodup_nil,λl hl t ht=>(by rw[hm l hl] at ht;cases ht),λi l hi hl=>?_,λl hl t ht=>(by rw[hm l hl] at ht;cases ht)⟩
 rw[hm l (mem_of_getElem? hl)]
 exact⟨List.Perm.refl _,List.Pairwise.nil,λi x y h=>by simp at h⟩
theorem in_level:∀ (l1:List Tab) (A:Lv) (l0:List Tab) (k:Nat) (ps:List Placed),(nums (A++[l0++l1])).Nodup->(∀ t∈l1,¬ Bl t.greatest t.least)->inM (l1.map (plc (A.length:Int))++ps) (A++l0::List.replicate k [])=inM ps (A++(l0++l1)::List.replicate k [])
 |[],A,l0,k,ps,_,_=>by simp
 |t::l1,A,l0,k,ps,nd,hu=>by
  rw[map_cons,List.cons_append]
  have e1:(A++l0::List.replicate k [])[(plc (A.length:Int) t).lv.toNat]?=some l0:=by
   show(A++l0::List.replicate k [])[((A.length:Int)).toNat]?=_
   rw[Int.toNat_natCast];simp
  have e2:¬ (plc (A.length:Int) t).lv<0:=by show ¬ (A.length:Int)<0;omega
  have e3:¬ (plc (A.length:Int) t).num∈nums (A++l0::List.replicate k []):=by
   show ¬ t.num∈_
   rw[nums_app,nums_cons,nums_rep,append_nil]
   rw[nums_app,nums_one,map_append,map_cons,<- List.append_assoc] at nd
   have:=(List.nodup_append.1 nd).2.2
   intro hm
   exact this t.num hm t.num mem_cons_self rfl
  have e4:¬ blB (plc (A.length:Int) t).greatest (plc (A.length:Int) t).least=true:=λh=>hu t mem_cons_self (blB_t.1 h)
  have e5:(A++l0::List.replicate k []).set (plc (A.length:Int) t).lv.toNat (l0++[(plc (A.length:Int) t).tab])=A++(l0++[t])::List.replicate k []:=by
   show(A++l0::List.replicate k []).set ((A.length:Int)).toNat (l0++[t])=_
   rw[Int.toNat_natCast];simp
  rw[inM,if_neg e2,e1]
  dsimp only
  rw[if_neg e3,if_neg e4,e5,in_level l1 A (l0++[t]) k ps (by rw[List.append_assoc];exact nd) λx hx=>hu x (List.mem_cons_of_mem _ hx),List.append_assoc]
  rfl
theorem in_whole:∀ (R A:Lv),(nums (A++R)).Nodup->Hulls R->inM (wholeM A.length R) (A++List.replicate R.length [])=(0,A++R)
 |[],A,_,_=>by simp[wholeM,inM]
 |l::R,A,nd,hu=>by
  have nd1:(nums (A++[[]++l])).Nodup:=by
   have:A++l::R=(A++[l])++R:=by simp
   rw[this,nums_app] at nd
   exact(List.nodup_append.1 nd).1
  rw[wholeM,length_cons,List.replicate_succ,in_level l A [] R.length _ nd1 λt ht=>hu l mem_cons_self t ht,List.nil_append]
  have ih:=in_whole R (A++[l]) (by simpa using nd) λm hm=>hu m (List.mem_cons_of_mem _ hm)
  rw[length_append,length_singleton] at ih
  have e:A++l::List.replicate R.length []=(A++[l])++List.replicate R.length []:=by simp
  rw[e,ih]
  simp
theorem whole_res{P:Tab->Prop}{lv lw:Lv}{a b c:Int}{ptrs:List ByteArray}{d:Int}(K:LvOk P lv)(hp:ptrs.length=lv.length)(R:Res (List.replicate lv.length []) ⟨a,b,c,[],wholeM 0 lv,ptrs⟩ d lw):d=0/\lw=lv:=by
 have e:=in_whole lv [] (by rw[List.nil_append];exact K.nd) K.hu
 rw[List.nil_append,List.nil_append,length_nil] at e
 unfold Res at R
 rw[if_pos (by rw[List.length_replicate];exact hp)] at R
 have eo:outM ([]:List Place) (List.replicate lv.length ([]:List Tab))=(0,List.replicate lv.length []):=rfl
 dsimp only at R
 rw[eo,if_pos rfl] at R
 dsimp only at R
 rw[e,if_pos rfl] at R
 dsimp only at R
 have SS:Sorted lv lv:=⟨rfl,rfl,λi ts us hi h1 h2=>by rw[h1] at h2;cases h2;exact K.so i ts hi h1⟩
 rcases R with⟨_,i,ts,hi,hts,hb⟩|⟨hd,S⟩
 ·exact absurd hb (good_bad (K.hu _ (mem_of_getElem? hts)) (K.so i ts hi hts))
 ·exact⟨hd,S.one K.hu SS⟩
end Go.Eng.YtblghgacokoklaaDoor
end
section
namespace Go.Eng.YtblghgacokoklaaDoor
theorem ed_cells{h:Hp}{l:Sl}{L:List EdS}(hr:h.row l.a (l.n*6) (edV L)){i:Nat}(hi:i<L.length):∃ b o,l.a=some ⟨b,o,none⟩/\((0:Int)<=(i:Int)/\(i:Int)<(l.n:Int))/\h.at b (o+(i:Int).toNat*6)=some (.int .u64 L[i].e.log)/\h.at b ((o+(i:Int).toNat*6)+1)=some (.int .u64 L[i].e.next)/\h.at b ((o+(i:Int).toNat*6)+2)=some (.int .u64 L[i].e.seq)/\h.at b ((o+(i:Int).toNat*6)+3)=some (.slice L[i].a.a L[i].a.n L[i].a.c)/\h.at b ((o+(i:Int).toNat*6)+4)=some (.slice L[i].b.a L[i].b.n L[i].b.c)/\h.at b ((o+(i:Int).toNat*6)+5)=some (.slice L[i].c.a L[i].c.n L[i].c.c):=by
 have hn:l.n=L.length:=by have h1:=hr.1;rw[edV_len] at h1;omega
 obtain⟨b,o,ha,hat⟩:=row_get hr (i:=i*6) (by omega)
 have c:∀ j,j<6->h.at b ((o+(i:Int).toNat*6)+j)=(EdS.cells L[i])[j]?:=λj hj=>by
  rw[Int.toNat_natCast,Nat.add_assoc,hat _ (by omega)]
  exact flat_get EdS.cells 6 (λ_=>rfl) L i j hi hj
 exact⟨b,o,ha,⟨by omega,by omega⟩,c 0 (by decide),c 1 (by decide),c 2 (by decide),c 3 (by decide),c 4 (by decide),c 5 (by decide)⟩
theorem SetA.base{g h h':Hp}{sb vb pm cm:Nat}{ps ls:Sl}{xs:List (Sl×List Tab)}{ptrs:List ByteArray}(K:Keep g h)(S:SetA h h' sb vb pm cm ps ls xs ptrs):SetA g h' sb vb pm cm ps ls xs ptrs:=
 ⟨S.V.base K,K.dom _ S.ns,S.s,S.np.mono K.dom,S.p,S.m,K.dom _ S.nc,S.c,S.ne⟩
theorem Res.lens{lv lw:Lv}{e:Edit}(R:Res lv e 0 lw):e.ptr.length=lv.length/\lw.length=lv.length:=by
 obtain⟨h1,l2,hS,_,hl,_⟩:=R.ok
 exact⟨h1,by rw[hS.1,hl]⟩
theorem read_s{h:Hp}{l:Sl}{bs:List Int}{k:Nat}{Q:Value->Hp->Prop}{recs:List (List Int)}{E:List Edit}{st:Nat->Lv}(T:TabC h)(hr:h.row l.a l.n (bv bs))(hc:l.n<=l.c)(hok:okB8 bs)(hs:bs.length<=500000000000)(k1:1<=k)(k5:k<=5)
  (hrec:readL (bs.length+1) 0 bs=recs) (hm:∀ r∈recs,r.length<262144/\∀ c∈r,0<=c/\c<256) (hn:recs.length<=500000) (hget:getR recs [] zE []=some E) (hE:∀ e∈E,e.out.length<=4000000)
  (s0:st 0=List.replicate k []) (step:∀ (i:Nat) (hi:i<E.length) (d:Int) (lw:Lv),Res (st i) E[i] d lw->d=0/\lw=st (i+1)) (tot:∀ (i:Nat) (hi:i<E.length),totL (st i)+E[i].inn.length<=4000000)
  (hN:E=[]->∀ h',Keep h h'->Q (.tuple ⟨[.pointer none,.agg ⟨[.int .u64 0,.int .u64 0,.int .u64 0,.int .u64 0]⟩,.int .i64 140]⟩) h')
  (hS:∀ e,E.getLast?=some e->∀ (h':Hp) (sb vb pm cm:Nat) (ps ls:Sl) (xs:List (Sl×List Tab)),SetA h h' sb vb pm cm ps ls xs e.ptr->xs.map (·.2)=st E.length->xs.length=k->e.ptr.length=k->Q (.tuple ⟨[.pointer (some ⟨sb,0,none⟩),.agg ⟨[.int .u64 e.log,.int .u64 e.next,.int .u64 e.seq,.int .u64 0]⟩,.int .i64 0]⟩) h'):F35.T l (k:Int) h Q:=by
 unfold F35.T F35.G
 refine log_read T hr hc hok hs λl1 ss n1 n2 h1 B1 R1 K1 N1=>⟨l1,n1,n2,rfl,?_⟩
 rw[hrec] at R1
 have r1:=B1.row
 rw[Nat.mul_one] at r1
 refine get_spec (recs_of r1 B1.cap R1 hm hn) (λh2 K2 e=>by rw[hget] at e;cases e) λh2 l2 L K2 e BL hL N2 hLl=>⟨l2,0,rfl,?_⟩
 rw[hget] at e
 obtain rfl:E=L.map EdS.e:=Option.some.inj e
 have hl2:=ed_n BL
 refine⟨λn4 h3=>h3=h2/\(L=[]->n4=140)/\(L≠[]->n4=0),?_,λ_=>⟨λh0=>⟨rfl,λ_=>rfl,λne=>absurd (eq_nil_of_length_eq_zero (by omega)) ne⟩,λh0=>⟨rfl,λe0=>absurd (by rw[hl2,e0];rfl) h0,λ_=>rfl⟩⟩,λh0=>absurd rfl h0⟩
 rintro n4 h3 ⟨rfl,q1,q2⟩
 refine⟨λh0=>?_,λh0=>?_⟩
 ·have hne:L≠[]:=λe0=>by have:=q1 e0;omega
  refine new_spec rfl k1 k5 λh4 sb vb pm cm ps ls xs S e4=>⟨_,rfl,?_⟩
  refine⟨λn5 n6 n7 n8 n9 _ _ _ _ h5=>∃ (i vb:Nat) (ls:Sl) (xs:List (Sl×List Tab)) (ptrs:List ByteArray),n5=(i:Int)/\i<=L.length/\SetA h3 h5 sb vb pm cm ps ls xs ptrs/\ptrs.length=k/\xs.length=k/\xs.map (·.2)=st i/\∀ e,((L.map EdS.e).take i).getLast?=some e->ptrs=e.ptr/\n6=e.log/\n7=e.next/\n8=e.seq/\n9=0,λn5 _ _ _ _ _ _ _ _ _=>L.length-n5.toNat,⟨0,vb,ls,xs,_,rfl,Nat.zero_le _,S,by simp,by have:=congrArg List.length e4;simpa using this,by rw[e4,s0],λe he=>(by simp at he)⟩,?_⟩
  rintro n5 n6 n7 n8 n9 n10 n11 n12 n13 h5 ⟨i,vb5,ls5,xs5,ptrs5,rfl,hi,S5,hp5,hx5,e5,hlast⟩
  refine⟨λhlt=>?_,λhge=>?_⟩
  ·have ia:i<L.length:=by omega
   have ib:i<(L.map EdS.e).length:=by rw[length_map];exact ia
   have hx:=List.getElem_mem ia
   have eL:(L.map EdS.e)[i]=L[i].e:=by simp
   obtain⟨b,o,ha,hin,c0,c1,c2,c3,c4,c5⟩:=ed_cells (S5.V.L.k.row BL.row) ia
   refine⟨b,o,ha,hin,_,c0,_,c1,_,c2,_,c3,_,c4,_,c5,?_⟩
   have ht:=tot i ib
   rw[eL,<- e5] at ht
   have ho:=hE L[i].e (mem_map_of_mem hx)
   refine apply_spec S5 (hL _ hx).at (by omega) (by omega) (by omega) ht ho λh6 c r vb6 ls6 xs6 ptrs6 C6 S6 R6 g1 g2=>⟨r,c,rfl,?_⟩
   rw[e5,<- eL] at R6
   obtain⟨hc0,hst⟩:=step i ib c _ R6
   subst hc0
   obtain⟨hpl,hwl⟩:=R6.lens
   have hsl:(st i).length=k:=by rw[<- e5,length_map];exact hx5
   have hx6:xs6.length=k:=by rw[length_map] at hwl;omega
   have hp6:=g1 rfl
   refine⟨λ_=>?_,λh0=>absurd rfl h0⟩
   rw[next_i (n:=1000000000000) (by omega) (by omega)]
   refine⟨⟨i+1,vb6,ls6,xs6,ptrs6,rfl,ia,S6,by rw[hp6,<- eL,hpl];exact hsl,hx6,hst,λe he=>?_⟩,by dsimp only;omega⟩
   rw[List.take_succ_eq_append_getElem ib,List.getLast?_append,List.getLast?_singleton] at he
   have:e=L[i].e:=by
    rw[<- eL];simpa using he.symm
   subst this
   exact⟨hp6,rfl,rfl,rfl,rfl⟩
  ·have hil:i=L.length:=by omega
   subst hil
   rw[List.take_of_length_le (by rw[length_map];exact Nat.le_refl _)] at hlast
   obtain⟨e,he⟩:∃ e,(L.map EdS.e).getLast?=some e:=by
    cases hg:(L.map EdS.e).getLast? with
    |none=>rw[List.getLast?_eq_none_iff,List.map_eq_nil_iff] at hg;exact absurd hg hne
    |some e=>exact⟨e,rfl⟩
   obtain⟨rfl,rfl,rfl,rfl,rfl⟩:=hlast e he
   exact hS e he h5 sb vb5 pm cm ps ls5 xs5 (S5.base (K1.trans K2)) (by rw[e5,length_map]) hx5 hp5
 ·have hL0:L=[]:=by
   apply Classical.byContradiction
   exact λne=>h0 (q2 ne)
  rw[q1 hL0]
  exact hN (by rw[hL0];rfl) h3 (K1.trans K2)
end Go.Eng.YtblghgacokoklaaDoor
end
section
namespace Go.Eng
def hun(a b:Hp):Hp:=λk=>match a k with|some x=>some x|none=>b k
def Dj(a b:Hp):Prop:=∀ k,a k=none\/b k=none
def Fr(T:PT):PT:=λh Q=>∃ h1 f Q1,Dj h1 f/\h=hun h1 f/\T h1 Q1/\∀ v h1',Dj h1' f->Q1 v h1'->Q v (hun h1' f)
abbrev Lb:=Nat->Nat
def on(h:Hp)(z:Lb)(i:Nat):Hp:=λb=>if z b=i then h b else none
def off(h:Hp)(z:Lb)(i:Nat):Hp:=λb=>if z b=i then none else h b
def lab(h:Hp)(z:Lb)(i:Nat):Lb:=λb=>match h b with|none=>i|some _=>z b
def rl(z:Lb)(b i:Nat):Lb:=λk=>if k=b then i else z k
def emp:Hp:=λ_=>none
section
variable{h h':Hp}{z:Lb}{i j b:Nat}{x:Obj}
theorem on_i(e:z b=i):on h z i b=h b:=if_pos e
theorem on_n(e:z b≠i):on h z i b=none:=if_neg e
theorem off_i(e:z b=i):off h z i b=none:=if_pos e
theorem off_n(e:z b≠i):off h z i b=h b:=if_neg e
theorem on_s(e:on h z i b=some x):z b=i/\h b=some x:=by
 by_cases hz:z b=i
 ·rw[on_i hz] at e;exact⟨hz,e⟩
 ·rw[on_n hz] at e;cases e
theorem off_s(e:off h z i b=some x):z b≠i/\h b=some x:=by
 by_cases hz:z b=i
 ·rw[off_i hz] at e;cases e
 ·rw[off_n hz] at e;exact⟨hz,e⟩
theorem on_k:Keep (on h z i) h:=λ_ _ e=>(on_s e).2
theorem off_k:Keep (off h z i) h:=λ_ _ e=>(off_s e).2
theorem lab_n(e:h b=none):lab h z i b=i:=by unfold lab;rw[e]
theorem lab_s(e:h b=some x):lab h z i b=z b:=by unfold lab;rw[e]
theorem on_lab(K:Keep (off h z i) h')(hj:j≠i):on h' (lab h z i) j=on h z j:=by
 funext k
 cases e:h k with
 |none=>
  rw[on_n (by rw[lab_n e];exact Ne.symm hj)]
  by_cases hz:z k=j
  ·rw[on_i hz,e]
  ·rw[on_n hz]
 |some y=>
  by_cases hz:z k=j
  ·rw[on_i (by rw[lab_s e];exact hz),on_i hz,e]
   exact K k y (by rw[off_n (by rw[hz];exact hj)];exact e)
  ·rw[on_n (by rw[lab_s e];exact hz),on_n hz]
end
end Go.Eng
end
section
namespace Go.Eng
def NewB(g:Hp)(s:Sl):Prop:=s.a=none\/∃ b,s.a=some ⟨b,0,none⟩/\g b=none
theorem NewB.mono{g h:Hp}(d:∀ k,h k=none->g k=none){s:Sl}(N:NewB h s):NewB g s:=N.imp id λ⟨b,e,n⟩=>⟨b,e,d b n⟩
theorem NewB.off{g:Hp}{s r:Sl}{sz t:Nat}{vs:List Value}(N:NewB g s)(B:Buf g r sz t vs):Off r s/\Off s r:=by
 rcases B.own with⟨ha,_⟩|⟨b,c,f,ha,hb,_⟩
 ·exact⟨λk o o' e=>(by rw[ha] at e;cases e),λk o o' _ e=>(by rw[ha] at e;cases e)⟩
 ·rcases N with hn|⟨b',hb',hn⟩
  ·exact⟨λk o o' _ e=>(by rw[hn] at e;cases e),λk o o' e=>(by rw[hn] at e;cases e)⟩
  ·have:b≠b':=λe=>by rw[e,hn] at hb;cases hb
   refine⟨λk o o' e1 e2=>this ?_,λk o o' e1 e2=>this ?_⟩
   ·rw[ha] at e1;rw[hb'] at e2
    simp only[Option.some.injEq,Addr.mk.injEq] at e1 e2
    rw[e1.1,e2.1]
   ·rw[hb'] at e1;rw[ha] at e2
    simp only[Option.some.injEq,Addr.mk.injEq] at e1 e2
    rw[e1.1,e2.1]
theorem keepB{g h h':Hp}(K:Keep g h){s s':Sl}(N:NewB g s)(U:Upd h h' s s'):Keep g h':=λk x e=>U.keep k x (λo hs=>by
 rcases N with hn|⟨b,hb,hn⟩
 ·rw[hn] at hs;cases hs
 ·rw[hb] at hs
  simp only[Option.some.injEq,Addr.mk.injEq] at hs
  rw[<- hs.1,hn] at e;cases e) (K k x e)
theorem newB{g h h':Hp}(K:Keep g h){s s':Sl}(N:NewB g s)(U:Upd h h' s s'):NewB g s':=by
 rcases U.at_ with h0|⟨b,hb,hn⟩
 ·unfold NewB;rw[h0];exact N
 ·exact .inr ⟨b,hb,K.dom b hn⟩
structure Bf where
 s:Sl
 sz:Nat
 t:Nat
 vs:List Value
abbrev Key:=Nat×Nat×Nat
abbrev Mem:=Key->Option Bf
structure Mine(h0 h:Hp)(m:Mem):Prop where
 keep:Keep h0 h
 buf:∀ k x,m k=some x->Buf h x.s x.sz x.t x.vs
 new:∀ k x,m k=some x->NewB h0 x.s
 off:∀ k k' x x',k≠k'->m k=some x->m k'=some x'->Off x.s x'.s
def Mem.put(m:Mem)(k:Key)(x:Bf):Mem:=λj=>if j=k then some x else m j
theorem put_self(m:Mem)(k:Key)(x:Bf):(m.put k x) k=some x:=if_pos rfl
theorem put_ne(m:Mem){k j:Key}(x:Bf)(h:j≠k):(m.put k x) j=m j:=if_neg h
theorem Mine.start(h:Hp):Mine h h (λ_=>none):=⟨Keep.refl h,λ_ _ e=>(by cases e),λ_ _ e=>(by cases e),λ_ _ _ _ _ e=>(by cases e)⟩
theorem Mine.write{h0 h h':Hp}{m:Mem}{k:Key}{x:Bf}{s':Sl}{sz t:Nat}{vs:List Value}(O:Mine h0 h m)(hk:m k=some x)(U:Upd h h' x.s s')(B:Buf h' s' sz t vs):Mine h0 h' (m.put k ⟨s',sz,t,vs⟩):=by
 have N:=O.new k x hk
 have off1:∀ j y,j≠k->m j=some y->Off y.s s'/\Off s' y.s:=λj y hj e=>by
  have o1:=O.off j k y x hj e hk
  have o2:=O.off k j x y (Ne.symm hj) hk e
  rcases U.at_ with h0'|hn
  ·exact⟨λb p q e1 e2=>o1 b p q e1 (by rw[<- h0'];exact e2),λb p q e1 e2=>o2 b p q (by rw[<- h0'];exact e1) e2⟩
  ·exact NewB.off (.inr hn) (O.buf j y e)
 refine⟨keepB O.keep N U,λj y e=>?_,λj y e=>?_,λj j' y y' hne e e'=>?_⟩
 ·unfold Mem.put at e
  by_cases hj:j=k
  ·rw[if_pos hj] at e;cases e;exact B
  ·rw[if_neg hj] at e
   exact(O.buf j y e).upd U (O.off j k y x hj e hk)
 ·unfold Mem.put at e
  by_cases hj:j=k
  ·rw[if_pos hj] at e;cases e;exact newB O.keep N U
  ·rw[if_neg hj] at e;exact O.new j y e
 ·unfold Mem.put at e e'
  by_cases hj:j=k
  ·rw[if_pos hj] at e;cases e
   rw[if_neg (λc=>hne (by rw[hj,c]))] at e'
   exact(off1 j' y' (λc=>hne (by rw[hj,c])) e').2
  ·rw[if_neg hj] at e
   by_cases hj':j'=k
   ·rw[if_pos hj'] at e';cases e'
    exact(off1 j y hj e).1
   ·rw[if_neg hj'] at e'
    exact O.off j j' y y' hne e e'
theorem Mine.add{h0 h h':Hp}{m:Mem}{k:Key}{s:Sl}{sz t:Nat}{vs:List Value}(O:Mine h0 h m)(hk:m k=none)(K:Keep h h')(N:NewB h s)(B:Buf h' s sz t vs):Mine h0 h' (m.put k ⟨s,sz,t,vs⟩):=by
 refine⟨O.keep.trans K,λj y e=>?_,λj y e=>?_,λj j' y y' hne e e'=>?_⟩
 ·unfold Mem.put at e
  by_cases hj:j=k
  ·rw[if_pos hj] at e;cases e;exact B
  ·rw[if_neg hj] at e;exact(O.buf j y e).keep K
 ·unfold Mem.put at e
  by_cases hj:j=k
  ·rw[if_pos hj] at e;cases e;exact N.mono O.keep.dom
  ·rw[if_neg hj] at e;exact O.new j y e
 ·unfold Mem.put at e e'
  by_cases hj:j=k
  ·rw[if_pos hj] at e;cases e
   rw[if_neg (λc=>hne (by rw[hj,c]))] at e'
   exact(N.off (O.buf j' y' e')).2
  ·rw[if_neg hj] at e
   by_cases hj':j'=k
   ·rw[if_pos hj'] at e';cases e'
    exact(N.off (O.buf j y e)).1
   ·rw[if_neg hj'] at e'
    exact O.off j j' y y' hne e e'
theorem buf_new{h:Hp}{b t sz n:Nat}(vs:List Value)(hl:vs.length=n*sz):Buf (h.new b (.cells ⟨vs⟩ t (0,0))) ⟨some ⟨b,0,none⟩,n,n⟩ sz t vs:=
 ⟨hl,Nat.le_refl _,.inr ⟨b,_,(0,0),rfl,by unfold Hp.new;rw[if_pos rfl],by show n*sz<=vs.length;omega,λj _=>by simp,by show vs.take vs.length=vs;exact List.take_length⟩⟩
def markL(mk:Nat->List Value)(k:Nat):List Value:=(List.range k).flatMap mk
@[reducible] def layTailT(pb slot tw ti t sz bytes M:Nat)(z:List Value)(G:Int->Hp->(List Value->Hp->Prop)->Prop)(n0:Nat)(l1:Sl)(h2:Hp)(Q:Value->Hp->Prop):Prop:=
 ∃ (I:Sl->Int->Hp->Prop) (m:Sl->Int->Hp->Nat),I l1 0 h2/\(∀ l2:Sl,∀ n1:Int,∀ h3:Hp,I l2 n1 h3->par (n1<(M:Int)) (G n1 h3 λus h4=>appendD l2 t sz bytes z 1 us h4 λl3 h5=>I l3 (wrap .i64 (n1+1)) h5/\m l3 (wrap .i64 (n1+1)) h5<m l2 n1 h3) (dr (some ⟨pb,0,none⟩) λb1 o=>ldS h3 b1 (o+slot) λl4=>appendD l4 tw 1 24 [.slice none 0 0] 1 [.slice l2.a l2.n l2.c] h3 λl5 h6=>dr (some ⟨pb,0,none⟩) λb2 o1=>st h6 b2 (o1+slot) 1 [.slice l5.a l5.n l5.c] λh7=>dr (some ⟨pb,0,none⟩) λb3 o2=>ldS h7 b3 (o2+(slot+1)) λl6=>appendD l6 ti 1 8 [.int .i64 0] 1 [.int .i64 (n0:Int)] h7 λl7 h8=>dr (some ⟨pb,0,none⟩) λb4 o3=>st h8 b4 (o3+(slot+1)) 1 [.slice l7.a l7.n l7.c] λh9=>Sl.okCut l2 0 (n0:Int) (l2.n:Int)/\Q (.slice (Sl.cut l2 sz 0 (n0:Int) (l2.n:Int)).a (Sl.cut l2 sz 0 (n0:Int) (l2.n:Int)).n (Sl.cut l2 sz 0 (n0:Int) (l2.n:Int)).c) h9))
@[reducible] def layT(pb slot tw ti t sz bytes M:Nat)(z:List Value)(G:Int->Hp->(List Value->Hp->Prop)->Prop)(l:Sl)(h:Hp)(Q:Value->Hp->Prop):Prop:=
 nw h (.cells ⟨[]⟩ t (0,0)) λb h1=>∃ vs,h1.row l.a (l.n*sz) vs/\(∀ v∈vs,Value.oneCell' v=true)/\appendD ⟨(some ⟨b,0,none⟩),0,0⟩ t sz bytes z l.n vs h1 λl1 h2=>layTailT pb slot tw ti t sz bytes M z G l.n l1 h2 Q
@[reducible] def holdRT(pb slot:Nat)(BODY:Nat->Nat->Int->Int->Hp->(Hp->Prop)->Prop)(h:Hp)(Q:Value->Hp->Prop):Prop:=
 ∃ (I:Int->Hp->Prop) (m:Int->Hp->Nat),I 0 h/\(∀ n:Int,∀ h1:Hp,I n h1->dr (some ⟨pb,0,none⟩) λb o=>ldS h1 b (o+slot) λl=>par (n<(l.n:Int)) (dr (some ⟨pb,0,none⟩) λb1 o1=>ldS h1 b1 (o1+(slot+1)) λl1=>ix l1.a n l1.n λb2 o2=>ldI .i64 h1 b2 (o2+n.toNat) λn1=>∃ (I1:Int->Hp->Prop) (m1:Int->Hp->Nat),I1 n1 h1/\(∀ n2:Int,∀ h2:Hp,I1 n2 h2->dr (some ⟨pb,0,none⟩) λb3 o3=>ldS h2 b3 (o3+slot) λl2=>ix l2.a n l2.n λb4 o4=>ldS h2 b4 (o4+n.toNat) λl3=>par (n2<(l3.n:Int)) (dr (some ⟨pb,0,none⟩) λb5 o5=>ldS h2 b5 (o5+slot) λl4=>ix l4.a n l4.n λb6 o6=>ldS h2 b6 (o6+n.toNat) λl5=>ix l5.a n2 l5.n λb7 o7=>BODY b7 o7 n2 n1 h2 λh3=>I1 (wrap .i64 (n2+1)) h3/\m1 (wrap .i64 (n2+1)) h3<m1 n2 h2) (I (wrap .i64 (n+1)) h2/\m (wrap .i64 (n+1)) h2<m n h1))) (Q (.bool true) h1))
end Go.Eng
end
section
namespace Go.Eng
def Mem.del(m:Mem)(k:Key):Mem:=λj=>if j=k then none else m j
def kB:Key:=(0,0,0)
def bkF(pb R t:Nat)(cs:List Value):Bf:=⟨⟨some ⟨pb,0,none⟩,1,1⟩,R,t,cs⟩
def NoK(cs:List Value)(s:Nat):Prop:=∀ f,f<8->cs[s+f]?=some (.slice none 0 0)
@[reducible] def nilMarkT(pb s:Nat)(h:Hp)(Q:Value->Hp->Prop):Prop:=
 dr (some ⟨pb,0,none⟩) λb o=>ldS h b (o+(s+2)) λl=>dr (some ⟨pb,0,none⟩) λb1 o1=>ldS h b1 (o1+(s+3)) λl1=>dr (some ⟨pb,0,none⟩) λb2 o2=>ldS h b2 (o2+(s+5)) λl2=>dr (some ⟨pb,0,none⟩) λb3 o3=>ldS h b3 (o3+(s+6)) λl3=>par ((l.n:Int)=0) (Q (.tuple ⟨[]⟩) h) False
@[reducible] def nilGrowT(pb s:Nat)(h:Hp)(Q:Value->Hp->Prop):Prop:=
 ∃ (I:Int->Hp->Prop) (m:Int->Hp->Nat),I 0 h/\(∀ n:Int,∀ h1:Hp,I n h1->dr (some ⟨pb,0,none⟩) λb o=>ldS h1 b (o+(s+4)) λl=>par (n<(l.n:Int)) (False) (dr (some ⟨pb,0,none⟩) λb1 o1=>st h1 b1 (o1+(s+4)) 1 [.slice none 0 0] λh2=>dr (some ⟨pb,0,none⟩) λb2 o2=>st h2 b2 (o2+(s+7)) 1 [.slice none 0 0] λh3=>Q (.tuple ⟨[]⟩) h3))
@[reducible] def nilKeepT(pb s:Nat)(h:Hp)(Q:Value->Hp->Prop):Prop:=
 ∃ (I:Int->Hp->Prop) (m:Int->Hp->Nat),I 0 h/\(∀ n:Int,∀ h1:Hp,I n h1->dr (some ⟨pb,0,none⟩) λb o=>ldS h1 b (o+s) λl=>par (n<(l.n:Int)) (False) (∃ (I1:Int->Hp->Prop) (m1:Int->Hp->Nat),I1 0 h1/\(∀ n1:Int,∀ h2:Hp,I1 n1 h2->dr (some ⟨pb,0,none⟩) λb1 o1=>ldS h2 b1 (o1+(s+2)) λl1=>par (n1<(l1.n:Int)) (False) (Q (.bool true) h2))))
section
variable{g h:Hp}{m:Mem}{pb R t s:Nat}{cs:List Value}{Q:Value->Hp->Prop}
end
end Go.Eng
end
