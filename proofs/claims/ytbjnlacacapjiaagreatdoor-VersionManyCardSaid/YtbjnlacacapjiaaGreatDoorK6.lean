/-
  JOINED.
-/
import Derived.Test.YtbjnlacacapjiaaGreatDoorK5
import Derived.Test.YtbjnlacacapjiaaGreatDoorK2
set_option linter.unusedSimpArgs false
set_option linter.unusedVariables false
set_option maxRecDepth 100000
open Go.IntKind (wrap)
open List (length_append length_map length_cons eq_nil_of_length_eq_zero mem_of_getElem? getElem?_eq_getElem getElem?_map map_append length_singleton map_cons mem_map_of_mem mem_append_left getElem?_append_left getElem?_append_right length_take length_set getElem?_set_ne getElem?_set_self mem_cons mem_append mem_singleton append_nil)
section
namespace Go.Eng.YtbjnlacacapjiaaGreatDoor
open Go.Eng
theorem new_d{h:Hp}{n:Int}{k:Nat}{Q:Value->Hp->Prop}(hk:(k:Int)=iMin (iMax n 1) 5)
  (hQ:∀ h' sb vb al pi ps,SetD h h' sb al pi ps [(vb,List.replicate k [])] [0] (List.replicate k ⟨#[]⟩)->Q (.pointer (some ⟨sb,0,none⟩)) h'):F26.T n h Q:=by
 unfold F26.T
 have hkk:1<=k/\k<=5/\(n<1->k=1)/\(1<=n->n<=5->(k:Int)=n)/\(5<n->k=5):=by
  unfold iMin iMax at hk
  split at hk<;>split at hk<;>omega
 obtain⟨k1,k5,kA,kB,kC⟩:=hkk
 have hge:¬ n<1->(n=(k:Int)\/(5<n/\k=5)):=λh0=>by
  by_cases q:n<=5
  ·exact .inl (kB (by omega) q).symm
  ·exact .inr ⟨by omega,kC (by omega)⟩
 refine⟨λn1 h1=>(n1=(k:Int)\/(5<n1/\k=5))/\h1=h,?_,λh0=>⟨.inl (by have:=kA h0;omega),rfl⟩,λh0=>⟨hge h0,rfl⟩⟩
 rintro n1 h1 ⟨hn1,rfl⟩
 refine⟨λn2 h2=>n2=(k:Int)/\h2=h1,?_,λh0=>⟨by rcases hn1 with e|e<;>omega,rfl⟩,λh0=>⟨by rcases hn1 with e|e<;>omega,rfl⟩⟩
 rintro n2 h2 ⟨rfl,rfl⟩
 intro b hb b1 hb1
 have K1:=Keep.new hb (.cells ⟨[.int .i64 0,.slice none 0 0]⟩ 152 (0,0))
 have y1:=new_at h2 b (.cells ⟨[.int .i64 0,.slice none 0 0]⟩ 152 (0,0))
 generalize h2.new b (.cells ⟨[.int .i64 0,.slice none 0 0]⟩ 152 (0,0))=g1 at hb1 K1 y1 ⊢
 have hb1h:=K1.dom _ hb1
 have K2:=Keep.new hb1 (.cells ⟨[.pointer (some ⟨b,0,none⟩),.slice none 0 0,.slice none 0 0,.slice none 0 0]⟩ 154 (0,0))
 have z2:=new_at g1 b1 (.cells ⟨[.pointer (some ⟨b,0,none⟩),.slice none 0 0,.slice none 0 0,.slice none 0 0]⟩ 154 (0,0))
 have y2:=K2 _ _ y1
 have K12:=K1.trans K2
 generalize g1.new b1 (.cells ⟨[.pointer (some ⟨b,0,none⟩),.slice none 0 0,.slice none 0 0,.slice none 0 0]⟩ 154 (0,0))=g2 at K12 y2 z2 ⊢
 clear K1 K2 y1 hb1
 have hmem:∀ {j:Nat},∀ x∈List.replicate j ((⟨none,0,0⟩:Sl),([]:List Tab)),x=((⟨none,0,0⟩:Sl),([]:List Tab)):=λ{j} x hx=>(List.mem_replicate.1 hx).2
 refine⟨λn3 g=>∃ (j:Nat) (ls ps:Sl),n3=(j:Int)/\j<=k/\g b=some (.cells ⟨[.int .i64 0,.slice ls.a ls.n ls.c]⟩ 152 (0,0))/\g b1=some (.cells ⟨[.pointer (some ⟨b,0,none⟩),.slice none 0 0,.slice none 0 0,.slice ps.a ps.n ps.c]⟩ 154 (0,0))/\Lvs h2 g ls (List.replicate j (⟨none,0,0⟩,[]))/\Buf g ps 1 9 (ptrV (List.replicate j ⟨#[]⟩))/\NewN h2 ps,λn3 _=>k-n3.toNat,⟨0,⟨none,0,0⟩,⟨none,0,0⟩,rfl,Nat.zero_le _,y2,z2,⟨K12,.inl rfl,Buf.nil _ _ _,λx hx=>(by cases hx),λx hx=>(by cases hx),λi j x y hx=>(by cases hx)⟩,Buf.nil _ _ _,.inl rfl⟩,?_⟩
 rintro n3 g3 ⟨j,ls,ps,rfl,hj,y3,z3,L3,P3,N3⟩
 have hln:=L3.len
 rw[List.length_replicate] at hln
 have hpn:ps.n=j:=by have:=P3.len;rw[ptrV_length,List.length_replicate] at this;omega
 refine⟨λhlt=>?_,λhge=>?_⟩
 ·refine⟨some ⟨b,0,none⟩,at_of z3 0,some ⟨b,0,none⟩,at_of z3 0,b,0,rfl,ls,at_of y3 1,at_of z3 0,at_of z3 0,at_of y3 1,?_⟩
  refine L3.snoc (s:=⟨none,0,0⟩) (us:=[]) (Keep.refl g3) (NewN.nil g3) (Buf.nil g3 6 63) (by omega) λl1 g4 L4 c4=>?_
  have y4:=c4.keep _ _ y3 (show 154∉[79] by decide)
  have z4:=c4.keep _ _ z3 (show 156∉[79] by decide)
  have P4:=c4.buf (by decide) P3
  refine⟨at_of z4 0,b,0,rfl,canW_new y4 (by simp),?_⟩
  have y5:(g4.wr b (0+1) [.slice l1.a l1.n l1.c]) b=some (.cells ⟨[.int .i64 0,.slice l1.a l1.n l1.c]⟩ 152 (0,0)):=wr_at y4
  have c5:Ck [154] g4 (g4.wr b (0+1) [.slice l1.a l1.n l1.c]):=Ck.wr y4
  have K5:Keep h2 (g4.wr b (0+1) [.slice l1.a l1.n l1.c]):=L4.k.wr hb _ _
  have z5:=c5.keep _ _ z4 (show 156∉[154] by decide)
  have P5:=c5.buf (by decide) P4
  have L5:=L4.ck c5 K5 (by decide) (by decide)
  generalize g4.wr b (0+1) [.slice l1.a l1.n l1.c]=g5 at y5 K5 z5 P5 L5 ⊢
  refine⟨ps,at_of z5 3,append_buf P5 rfl rfl (by omega) λl3 g6 P6 hl3 U6=>?_⟩
  obtain⟨K6,N6⟩:=N3.upd K5 U6
  have c6:Ck [11] g5 g6:=Ck.of_upd P5 U6
  have z6:=c6.keep _ _ z5 (show 156∉[11] by decide)
  have y6:=c6.keep _ _ y5 (show 154∉[11] by decide)
  have L6:=L5.ck c6 K6 (by decide) (by decide)
  have c7:Ck [156] g6 (g6.wr b1 3 [.slice l3.a l3.n l3.c]):=Ck.wr z6
  refine⟨canW_new z6 (by simp),?_⟩
  rw[next_i (n:=100) (by omega) (by omega)]
  refine⟨⟨j+1,l1,l3,rfl,by omega,c7.keep _ _ y6 (show 154∉[156] by decide),wr_at z6,?_,?_,N6⟩,by(try dsimp only);omega⟩
  ·rw[List.replicate_succ']
   exact L6.ck c7 (K6.wr hb1h _ _) (by decide) (by decide)
  ·rw[List.replicate_succ']
   unfold ptrV at P6 ⊢
   rw[map_append]
   exact c7.buf (by decide) P6
 ·have hjk:j=k:=by omega
  subst hjk
  refine⟨⟨none,0,0⟩,at_of z3 1,some ⟨b,0,none⟩,at_of z3 0,at_of z3 1,append_buf (Buf.nil g3 1 97) rfl rfl (by decide) λl5 g4 B4 _ U4=>?_⟩
  have k4:=U4.keepNil rfl
  have N4:NewN g3 l5:=(NewN.upd (Keep.refl g3) (NewN.nil g3) U4).2
  have z4:=k4 _ _ z3
  refine⟨canW_new z4 (by simp),?_⟩
  have z5:(g4.wr b1 1 [.slice l5.a l5.n l5.c]) b1=some (.cells ⟨[.pointer (some ⟨b,0,none⟩),.slice l5.a l5.n l5.c,.slice none 0 0,.slice ps.a ps.n ps.c]⟩ 154 (0,0)):=wr_at z4
  have c5:Ck [156] g4 (g4.wr b1 1 [.slice l5.a l5.n l5.c]):=Ck.wr z4
  have c45:Ck [156] g3 (g4.wr b1 1 [.slice l5.a l5.n l5.c]):=(Ck.of_keep k4).trans c5
  have K5:Keep h2 (g4.wr b1 1 [.slice l5.a l5.n l5.c]):=(L3.k.trans k4).wr hb1h _ _
  have B5:=c5.buf (by decide) B4
  have y5:=c45.keep _ _ y3 (show 154∉[156] by decide)
  have L5:=L3.ck c45 K5 (by decide) (by decide)
  have P5:=c45.buf (by decide) P3
  generalize g4.wr b1 1 [.slice l5.a l5.n l5.c]=g5 at z5 K5 B5 y5 L5 P5 ⊢
  refine⟨⟨none,0,0⟩,at_of z5 2,append_buf (Buf.nil g5 1 3) rfl rfl (by decide) λl7 g6 B6 _ U6=>?_⟩
  have k6:=U6.keepNil rfl
  have N6:NewN g5 l7:=(NewN.upd (Keep.refl g5) (NewN.nil g5) U6).2
  have z6:=k6 _ _ z5
  have c7:Ck [156] g6 (g6.wr b1 2 [.slice l7.a l7.n l7.c]):=Ck.wr z6
  have c67:Ck [156] g5 (g6.wr b1 2 [.slice l7.a l7.n l7.c]):=(Ck.of_keep k6).trans c7
  have K7:Keep h2 (g6.wr b1 2 [.slice l7.a l7.n l7.c]):=(K5.trans k6).wr hb1h _ _
  refine⟨canW_new z6 (by simp),?_⟩
  have L7:=L5.ck c67 K7 (by decide) (by decide)
  refine hQ _ b1 b l5 l7 ps ⟨K7,hb1h,⟨_,rfl,wr_at z6⟩,N4.mono L3.k.dom,c67.buf (by decide) B5,N6.mono K5.dom,c7.buf (by decide) B6,N3,c67.buf (by decide) P5,rfl,λi d hd=>?_,by simp⟩
  match i,hd with
  |0,hd=>
   cases hd
   exact⟨ls,_,L7,hb,c67.keep _ _ y5 (show 154∉[156] by decide),by simp⟩
  |i+1,hd=>simp at hd
section
variable{g h h':Hp}{sb:Nat}{al pi ps:Sl}{D:List (Nat×Lv)}{pins:List Nat}{ptrs:List ByteArray}{Q:Value->Hp->Prop}
theorem pinL_snoc{D:List (Nat×Lv)}{pins:List Nat}{d:Nat×Lv}(h:pins.length=D.length):pinL (D++[d]) (pins++[0])=pinL D pins:=by
 unfold pinL
 rw[List.zip_append h.symm,List.filterMap_append]
 simp
theorem apply_d{l l1 l2:Sl}{e:Edit}{a b c:Int}(S:SetD g h sb al pi ps D pins ptrs)(Z:SmD D)(E:EdAt g e l l1 l2)(h1:1<=(curD D).length)(hs:totL (curD D)+e.inn.length<=3900000)(ho:e.out.length<=3900000)(hk:AllT kOk (curD D))(hki:∀ q∈e.inn,kOk q.tab)(hN:D.length<=90000)
  (hQ:∀ h' c (r:Sl) al' pi' ps' D' pins' ptrs',SetD g h' sb al' pi' ps' D' pins' ptrs'->(c=0->∃ wb lv',D'=D++[(wb,lv')]/\pins'=pins++[0]/\ptrs'=e.ptr/\Res (curD D) e 0 lv'/\Buf h' r 1 48 (uvs (goneM lv' (pinL D pins) (curD D))))->(c≠0->D'=D/\pins'=pins/\ptrs'=ptrs/\r=⟨none,0,0⟩/\Res (curD D) e c (curD D))->Q (.tuple ⟨[.slice r.a r.n r.c,.int .i64 c]⟩) h'):F34.T (some ⟨sb,0,none⟩) a b c l l1 l2 h Q:=by
 have Eh:=E.keep S.k
 obtain⟨dl,hdl,hsb⟩:=S.s
 have hcur:curD D=dl.2:=by unfold curD;rw[hdl]
 have hlast:D[D.length-1]?=some dl:=by rw[List.getLast?_eq_getElem?] at hdl;exact hdl
 have hdlm:dl∈D:=mem_of_getElem? hlast
 have Zl:=Z.p dl hdlm
 obtain⟨ls,xs,Lx,hvn,hv,hxs⟩:=S.v _ _ hlast
 rw[hcur,<- hxs] at h1 hs hk
 rw[hcur] at hQ
 have hx5:xs.length<=5:=by have:=Zl.2;rw[<- hxs] at this;simpa using this
 have h1x:1<=xs.length:=by simpa using h1
 unfold F34.T F34.G
 refine⟨sb,0,rfl,some ⟨dl.1,0,none⟩,at_of hsb 0,dl.1,0,rfl,ls,at_of hv 1,?_⟩
 refine next_spec Lx.l.row (λx hx=>Buf.row (Lx.t x hx)) Eh h1x hx5 (by omega) (by omega) hk hki (λh1 c K1 hc hr=>⟨⟨none,0,0⟩,c,rfl,λh0=>absurd h0 hc,λ_=>?_⟩) (λh1 r xs1 L1 hr=>⟨r,0,rfl,λ_=>?_,λh0=>absurd rfl h0⟩)
 ·rw[hxs] at hr
  exact hQ h1 c ⟨none,0,0⟩ al pi ps D pins ptrs (S.keep K1) (λh0=>absurd h0 hc) (λ_=>⟨rfl,rfl,rfl,rfl,hr⟩)
 ·rw[hxs] at hr
  have K1:=L1.k
  have S1:=S.keep K1
  have Kg1:=S.k.trans K1
  have s1:=K1 _ _ hsb
  have L1g:Lvs g h1 r xs1:=⟨Kg1,L1.nl.mono S.k.dom,L1.l,L1.t,λx hx=>(L1.n x hx).mono S.k.dom,L1.d⟩
  have han:al.n=D.length:=by have:=S1.a.len;rw[wV_len] at this;omega
  have hin:pi.n=D.length:=by have:=S1.i.len;rw[nV_len,S.pl] at this;omega
  refine⟨sb,0,rfl,some ⟨dl.1,0,none⟩,at_of s1 0,sb,0,rfl,al,at_of s1 1,λb4 hb4=>?_⟩
  have K2:=Keep.new hb4 (.cells ⟨[.int .i64 (al.n:Int),.slice r.a r.n r.c]⟩ 152 (0,0))
  have v2:=new_at h1 b4 (.cells ⟨[.int .i64 (al.n:Int),.slice r.a r.n r.c]⟩ 152 (0,0))
  have S2:=S1.keep K2
  have s2:=K2 _ _ s1
  have L2:=L1g.keep K2
  have nb4:g b4=none:=Kg1.dom _ hb4
  have C2:Ck [156,99,5] h (h1.new b4 (.cells ⟨[.int .i64 (al.n:Int),.slice r.a r.n r.c]⟩ 152 (0,0))):=Ck.of_keep (K1.trans K2)
  generalize h1.new b4 (.cells ⟨[.int .i64 (al.n:Int),.slice r.a r.n r.c]⟩ 152 (0,0))=h2 at v2 S2 s2 L2 C2 ⊢
  refine⟨sb,0,rfl,canW_new s2 (by simp),sb,0,rfl,?_⟩
  have s3:(h2.wr sb 0 [.pointer (some ⟨b4,0,none⟩)]) sb=some (.cells ⟨[.pointer (some ⟨b4,0,none⟩),.slice al.a al.n al.c,.slice pi.a pi.n pi.c,.slice ps.a ps.n ps.c]⟩ 154 (0,0)):=wr_at s2
  have c3:Ck [156] h2 (h2.wr sb 0 [.pointer (some ⟨b4,0,none⟩)]):=Ck.wr s2
  have K3:Keep g (h2.wr sb 0 [.pointer (some ⟨b4,0,none⟩)]):=S2.k.wr S.ns _ _
  have L3:=L2.ck c3 K3 (by decide) (by decide)
  have v3:=c3.keep _ _ v2 (show 154∉[156] by decide)
  have a3:=c3.buf (by decide) S2.a
  have i3:=c3.buf (by decide) S2.i
  have p3:=c3.buf (by decide) S2.p
  have C3:=C2.trans (c3.mono (by simp))
  clear c3
  generalize h2.wr sb 0 [.pointer (some ⟨b4,0,none⟩)]=h3 at s3 K3 L3 v3 a3 i3 p3 C3 ⊢
  refine⟨al,at_of s3 1,sb,0,rfl,some ⟨b4,0,none⟩,at_of s3 0,at_of s3 1,?_⟩
  -- one version more
  refine append_buf a3 rfl rfl (by omega) λl7 h4 B4 hl7 U4=>?_
  obtain⟨K4,N4⟩:=S.na.upd K3 U4
  have c4:Ck [99] h3 h4:=Ck.of_upd a3 U4
  have s4:=c4.keep _ _ s3 (show 156∉[99] by decide)
  refine⟨sb,0,rfl,canW_new s4 (by simp),sb,0,rfl,?_⟩
  have s5:(h4.wr sb (0+1) [.slice l7.a l7.n l7.c]) sb=some (.cells ⟨[.pointer (some ⟨b4,0,none⟩),.slice l7.a l7.n l7.c,.slice pi.a pi.n pi.c,.slice ps.a ps.n ps.c]⟩ 154 (0,0)):=wr_at s4
  have c5:Ck [156] h4 (h4.wr sb (0+1) [.slice l7.a l7.n l7.c]):=Ck.wr s4
  have K5:Keep g (h4.wr sb (0+1) [.slice l7.a l7.n l7.c]):=K4.wr S.ns _ _
  have c45:Ck [156,99] h3 (h4.wr sb (0+1) [.slice l7.a l7.n l7.c]):=(c4.mono (by simp)).trans (c5.mono (by simp))
  have a5:=c5.buf (by decide) B4
  have C5:=C3.trans (c45.mono (by simp))
  have L5:=L3.ck c45 K5 (by decide) (by decide)
  have v5:=c45.keep _ _ v3 (show 154∉[156,99] by decide)
  have i5:=c45.buf (by decide) i3
  have p5:=c45.buf (by decide) p3
  clear c4 c5 c45 L3 v3 i3 p3 a3 B4
  generalize h4.wr sb (0+1) [.slice l7.a l7.n l7.c]=h5 at s5 K5 a5 C5 L5 v5 i5 p5 ⊢
  refine⟨pi,at_of s5 2,?_⟩
  refine append_buf i5 rfl rfl (by omega) λl9 h6 B6 hl9 U6=>?_
  obtain⟨K6,N6⟩:=S.ni.upd K5 U6
  have c6:Ck [5] h5 h6:=Ck.of_upd i5 U6
  have s6:=c6.keep _ _ s5 (show 156∉[5] by decide)
  refine⟨sb,0,rfl,canW_new s6 (by simp),ptrV e.ptr,?_⟩
  have s7:(h6.wr sb (0+2) [.slice l9.a l9.n l9.c]) sb=some (.cells ⟨[.pointer (some ⟨b4,0,none⟩),.slice l7.a l7.n l7.c,.slice l9.a l9.n l9.c,.slice ps.a ps.n ps.c]⟩ 154 (0,0)):=wr_at s6
  have c7:Ck [156] h6 (h6.wr sb (0+2) [.slice l9.a l9.n l9.c]):=Ck.wr s6
  have K7:Keep g (h6.wr sb (0+2) [.slice l9.a l9.n l9.c]):=K6.wr S.ns _ _
  have c67:Ck [156,5] h5 (h6.wr sb (0+2) [.slice l9.a l9.n l9.c]):=(c6.mono (by simp)).trans (c7.mono (by simp))
  have i7:=c7.buf (by decide) B6
  have C7:=C5.trans (c67.mono (by simp))
  have L7:=L5.ck c67 K7 (by decide) (by decide)
  have v7:=c67.keep _ _ v5 (show 154∉[156,5] by decide)
  have a7:=c67.buf (by decide) a5
  clear c6 c7 c67 L5 v5 i5 a5 p5 B6
  generalize h6.wr sb (0+2) [.slice l9.a l9.n l9.c]=h7 at s7 K7 a7 C7 L7 v7 i7 ⊢
  have hl2:l2.n=e.ptr.length:=by have:=E.ptr.1;rw[ptrV_length] at this;omega
  have hpl:=hr.ok.1
  rw[<- hxs,length_map] at hpl
  refine⟨by rw[Nat.mul_one];exact K7.row E.ptr,ptr_one _,append_buf (Buf.nil h7 1 9) rfl (by rw[ptrV_length];omega) (by dsimp only;omega) λl10 h8 B8 _ U8=>?_⟩
  have K8:=U8.keepNil rfl
  have N8:NewN h7 l10:=(NewN.upd (Keep.refl h7) (NewN.nil h7) U8).2
  have s8:=K8 _ _ s7
  refine⟨sb,0,rfl,canW_new s8 (by simp),?_⟩
  have s9:(h8.wr sb (0+3) [.slice l10.a l10.n l10.c]) sb=some (.cells ⟨[.pointer (some ⟨b4,0,none⟩),.slice l7.a l7.n l7.c,.slice l9.a l9.n l9.c,.slice l10.a l10.n l10.c]⟩ 154 (0,0)):=wr_at s8
  have c9:Ck [156] h8 (h8.wr sb (0+3) [.slice l10.a l10.n l10.c]):=Ck.wr s8
  have K9:Keep g (h8.wr sb (0+3) [.slice l10.a l10.n l10.c]):=(K7.trans K8).wr S.ns _ _
  have c89:Ck [156] h7 (h8.wr sb (0+3) [.slice l10.a l10.n l10.c]):=(Ck.of_keep K8).trans c9
  have p9:=c9.buf (by decide) B8
  have C9:=C7.trans (c89.mono (by simp))
  have L9:=L7.ck c89 K9 (by decide) (by decide)
  have v9:=c89.keep _ _ v7 (show 154∉[156] by decide)
  have a9:=c89.buf (by decide) a7
  have i9:=c89.buf (by decide) i7
  generalize h8.wr sb (0+3) [.slice l10.a l10.n l10.c]=h9 at s9 K9 p9 C9 L9 v9 a9 i9 ⊢
  have hall:∀ (i:Nat) d,D[i]?=some d->DVer g h9 d.1 i d.2:=λi d hd=>(S.v i d hd).ck C9 K9 (by decide) (by decide) (by decide)
  have S9:SetD g h9 sb l7 l9 l10 (D++[(b4,xs1.map (·.2))]) (pins++[0]) e.ptr:=by
   refine⟨K9,S.ns,⟨_,by rw[List.getLast?_append];rfl,s9⟩,N4,by unfold wV;rw[map_append];exact a9,N6,by unfold nV;rw[map_append];exact i9,N8.mono K7.dom,p9,by rw[length_append,length_append,S.pl];rfl,λi d hd=>?_,?_⟩
   ·by_cases hi:i<D.length
    ·rw[getElem?_append_left hi] at hd
     exact hall i d hd
    ·rw[getElem?_append_right (by omega)] at hd
     have hi0:i-D.length=0:=by
      apply Classical.byContradiction
      intro q
      rw[List.getElem?_eq_none (by rw[length_singleton];omega)] at hd;cases hd
     rw[hi0] at hd
     cases hd
     have e1:i=D.length:=by omega
     subst e1
     exact⟨r,xs1,L9,nb4,by rw[han] at v9;exact v9,rfl⟩
   ·rw[map_append,List.nodup_append]
    refine⟨S.nd,by simp,λx hx y hy=>?_⟩
    obtain⟨d,hd,rfl⟩:=List.mem_map.1 hx
    obtain⟨i,hi,rfl⟩:=List.getElem_of_mem hd
    obtain⟨_,_,_,_,hvv,_⟩:=S1.v i _ (getElem?_eq_getElem hi)
    have hy:y=b4:=by simpa using hy
    rw[hy]
    intro q
    rw[q,hb4] at hvv
    cases hvv
  obtain⟨_,l2',hS,hT2,hl2',_⟩:=hr.ok
  have t3:totL (xs1.map (·.2))<=4000000:=by rw[hS.totL];rw[<- hxs] at hT2;omega
  have n3:(xs1.map (·.2)).length=xs.length:=by have:=hS.1;rw[this,hl2',<- hxs,length_map]
  have Z9:SmD (D++[(b4,xs1.map (·.2))]):=⟨by rw[length_append,length_singleton];omega,λd hd=>by
   rcases mem_append.1 hd with hd|hd
   ·exact Z.p d hd
   ·rw[mem_singleton.1 hd];exact⟨t3,by rw[n3];exact hx5⟩⟩
  have hc9:curD (D++[(b4,xs1.map (·.2))])=xs1.map (·.2):=by unfold curD;rw[List.getLast?_append];rfl
  refine gone_d S9 (hall _ _ hlast) Z9 Zl.1 Zl.2 λh10 rr K10 B10 N10=>⟨rr,rfl,?_⟩
  rw[hc9,pinL_snoc S.pl] at B10
  exact hQ h10 0 rr l7 l9 l10 _ _ _ (S9.keep K10) (λ_=>⟨b4,_,rfl,rfl,rfl,hr,B10⟩) (λh0=>absurd rfl h0)
theorem cur_d(S:SetD g h sb al pi ps D pins ptrs)(hQ:∀ d,D.getLast?=some d->Q (.pointer (some ⟨d.1,0,none⟩)) h):F28.T (some ⟨sb,0,none⟩) h Q:=by
 obtain⟨d,h1,h2⟩:=S.s
 exact⟨sb,0,rfl,some ⟨d.1,0,none⟩,at_of h2 0,hQ d h1⟩
theorem pointers_d(S:SetD g h sb al pi ps D pins ptrs)(hs:ptrs.length<=1000000000)(hQ:∀ h' r,Keep h h'->Buf h' r 1 9 (ptrV ptrs)->NewN h r->Q (.slice r.a r.n r.c) h'):F47.T (some ⟨sb,0,none⟩) h Q:=by
 have hn:ps.n=ptrs.length:=by have:=S.p.len;rw[ptrV_length] at this;omega
 obtain⟨d,h1,h2⟩:=S.s
 refine⟨sb,0,rfl,ps,at_of h2 3,ptrV ptrs,S.p.row,ptr_one _,append_buf (Buf.nil h 1 9) rfl (by rw[ptrV_length];omega) (by dsimp only;omega) λr h2 B2 _ U2=>hQ h2 r (U2.keepNil rfl) (by simpa using B2) (NewN.upd (Keep.refl h) (NewN.nil h) U2).2⟩
end
end Go.Eng.YtbjnlacacapjiaaGreatDoor
end
section
namespace Go.Eng.YtbjnlacacapjiaaGreatDoor
def tabsI(xs:List (Sl×List Tab))(n:Int):List Tab:=if n<0 then[] else match xs[n.toNat]? with|some x=>x.2|none=>[]
theorem tabsI_nat(xs:List (Sl×List Tab)){i:Nat}{x:Sl×List Tab}(hx:xs[i]?=some x):tabsI xs (i:Int)=x.2:=by
 unfold tabsI
 rw[if_neg (by omega),Int.toNat_natCast,hx]
theorem tabsI_out(xs:List (Sl×List Tab)){n:Int}(hn:n<0\/(xs.length:Int)<=n):tabsI xs n=[]:=by
 unfold tabsI
 split
 ·rfl
 ·rw[List.getElem?_eq_none (by omega)]
def overM(from_ to:ByteArray)(l:List Tab):List Tab:=l.filter λt=>!blB t.greatest from_ && !blB to t.least
def weightW(l:List Tab):Int:=l.foldl (λn t=>wrap .i64 (n+t.weight)) 0
theorem tb_new{h:Hp}{r:Sl}{ts:List Tab}(B:TB h r ts):r.n=ts.length:=by have:=B.len;rw[tabV_len] at this;omega
theorem cells_inj{t u:Tab}(h:t.cells=u.cells):t=u:=by
 obtain⟨a,b,c,d,e,f⟩:=t
 obtain⟨a',b',c',d',e',f'⟩:=u
 simp only[Tab.cells,List.cons.injEq,Value.int.injEq,Value.string.injEq,true_and,and_true] at h
 obtain⟨rfl,rfl,rfl,rfl,rfl,rfl⟩:=h
 rfl
section
variable{l l1:Sl}{g h h':Hp}{vb:Nat}{ls:Sl}{xs:List (Sl×List Tab)}{Q:Value->Hp->Prop}
theorem tables_s(V:Ver g h vb ls xs)(hs:∀ x∈xs,x.2.length<=5000000){n:Int}(hQ:∀ h' r,Keep h h'->TB h' r (tabsI xs n)->NewN h r->Q (.slice r.a r.n r.c) h'):F73.T (some ⟨vb,0,none⟩) n h Q:=by
 unfold F73.T F73.G
 have hl:=V.L.len
 refine has_spec V.v (λc0 c1=>⟨true,rfl,λ_=>?_,λh0=>(by cases h0)⟩) (λhc=>⟨false,rfl,λh0=>(by cases h0),λ_=>?_⟩)
 ·obtain⟨i,rfl⟩:=Int.eq_ofNat_of_zero_le c0
  have hi:i<xs.length:=by omega
  have hx:xs[i]?=some xs[i]:=getElem?_eq_getElem hi
  generalize xs[i]=x at hx
  rw[tabsI_nat xs hx] at hQ
  have hm:=mem_of_getElem? hx
  have hxs:=hs x hm
  obtain⟨b,ha,hat⟩:=V.L.rd hx
  have T:=V.L.t x hm
  refine⟨vb,0,rfl,ls,at_of V.v 0,b,0,ha,⟨c0,c1⟩,x.1,by rw[Nat.zero_add,Int.toNat_natCast];exact hat,tabV x.2,Buf.row T,tab_one _,?_⟩
  refine append_buf (Buf.nil h 6 63) rfl (by rw[tabV_len,T.n]) (by have:=T.n;dsimp only;omega) λr h2 B2 _ U2=>?_
  obtain⟨K2,N2⟩:=NewN.upd (Keep.refl h) (NewN.nil h) U2
  exact hQ h2 r K2 (by unfold TB;simpa using B2) N2
 ·rw[tabsI_out xs (by omega)] at hQ
  exact hQ h ⟨none,0,0⟩ (Keep.refl h) (Buf.nil _ _ _) (NewN.nil _)
theorem weight_s(V:Ver g h vb ls xs)(hs:∀ x∈xs,x.2.length<=5000000){n:Int}(hl:(tabsI xs n).length<=5000000)(hQ:∀ h',Keep h h'->Q (.int .i64 (weightW (tabsI xs n))) h'):F76.T (some ⟨vb,0,none⟩) n h Q:=by
 unfold F76.T F76.G
 refine tables_s V hs λh1 l K1 B1 _=>⟨l,rfl,?_⟩
 have hn:=tb_new B1
 refine⟨λw i h2=>h2=h1/\∃ P R,tabsI xs n=P++R/\i=(P.length:Int)/\w=weightW P,λ_ i _=>(tabsI xs n).length-i.toNat,⟨rfl,[],_,rfl,rfl,rfl⟩,?_⟩
 rintro w i h2 ⟨rfl,P,R,e,rfl,rfl⟩
 have e2:=congrArg List.length e
 rw[length_append] at e2
 refine⟨λhlt=>?_,λhge=>?_⟩
 ·rcases R with _|⟨t,R⟩
  ·exact absurd hlt (by simp at e2;omega)
  rw[length_cons] at e2
  have hr:=B1.row
  rw[e] at hr
  refine tab_rd hr rfl λb o=>?_
  rw[next_i (n:=5100000) (by omega) (by omega)]
  refine⟨⟨rfl,P++[t],R,by rw[e];simp,by simp,?_⟩,by dsimp only;omega⟩
  unfold weightW
  rw[List.foldl_append];rfl
 ·have hR:R=[]:=eq_nil_of_length_eq_zero (by omega)
  subst hR
  rw[append_nil] at e
  rw[e] at hQ
  exact hQ h2 K1
theorem over_s(V:Ver g h vb ls xs)(hs:∀ x∈xs,x.2.length<=5000000){n:Int}{s s1:ByteArray}(hl:(tabsI xs n).length<=5000000)(hQ:∀ h' r,Keep h h'->TB h' r (overM s s1 (tabsI xs n))->NewN h r->Q (.slice r.a r.n r.c) h'):F84.T (some ⟨vb,0,none⟩) n s s1 h Q:=by
 unfold F84.T F84.G
 refine tables_s V hs λh1 l K1 B1 _=>⟨l,rfl,?_⟩
 have hn:=tb_new B1
 refine⟨λl1 i h2=>∃ P R,tabsI xs n=P++R/\i=(P.length:Int)/\Keep h1 h2/\TB h2 l1 (overM s s1 P)/\NewN h1 l1,λ_ i _=>(tabsI xs n).length-i.toNat,⟨[],_,rfl,rfl,Keep.refl _,Buf.nil _ _ _,NewN.nil _⟩,?_⟩
 rintro l1 i h2 ⟨P,R,e,rfl,K2,B2,N2⟩
 have e2:=congrArg List.length e
 rw[length_append] at e2
 refine⟨λhlt=>?_,λhge=>?_⟩
 ·rcases R with _|⟨t,R⟩
  ·exact absurd hlt (by simp at e2;omega)
  rw[length_cons] at e2
  have hr:=(B1.keep K2).row
  rw[e] at hr
  have hn1:=tb_new B2
  have hfl:(overM s s1 P).length<=P.length:=List.length_filter_le _ _
  refine tab_rd hr rfl λb o=>?_
  rw[next_i (n:=5100000) (by omega) (by omega)]
  have skip:(blB t.greatest s=true\/blB s1 t.least=true)->(∃ P_1 R_1,tabsI xs n=P_1++R_1/\((P.length+1:Nat):Int)=(P_1.length:Int)/\Keep h1 h2/\TB h2 l1 (overM s s1 P_1)/\NewN h1 l1):=λhc=>by
   refine⟨P++[t],R,by rw[e];simp,by simp,K2,?_,N2⟩
   have:overM s s1 (P++[t])=overM s s1 P:=by
    unfold overM
    rw[List.filter_append]
    have:([t]:List Tab).filter (λt=>!blB t.greatest s && !blB s1 t.least)=[]:=by
     rcases hc with hc|hc<;>simp[hc]
    rw[this,append_nil]
   rw[this];exact B2
  refine⟨λhlt1=>⟨skip (.inl (blB_t.2 ((sLt_bl _ _).1 hlt1))),by dsimp only;omega⟩,λhge1=>⟨λhle=>?_,λhgt=>⟨skip (.inr ?_),by dsimp only;omega⟩⟩⟩
  ·refine append_buf (us:=t.cells) B2 rfl rfl (by omega) λl3 h3 B3 _ U3=>?_
   obtain⟨K3,N3⟩:=NewN.upd K2 N2 U3
   refine⟨⟨P++[t],R,by rw[e];simp,by simp,K3,?_,N3⟩,by dsimp only;omega⟩
   have:overM s s1 (P++[t])=overM s s1 P++[t]:=by
    unfold overM
    rw[List.filter_append]
    have h1:blB t.greatest s=false:=by
     cases hb:blB t.greatest s with
     |false=>rfl
     |true=>exact absurd ((sLt_bl _ _).2 (blB_t.1 hb)) hge1
    have h2:blB s1 t.least=false:=by
     cases hb:blB s1 t.least with
     |false=>rfl
     |true=>exact absurd (blB_t.1 hb) (sle.1 hle)
    congr 1
    simp[h1,h2]
   rw[this]
   unfold TB
   rw[tabV_app]
   have:tabV [t]=t.cells:=by unfold tabV;simp
   rw[this]
   exact B3
  ·cases hb:blB s1 t.least with
   |true=>rfl
   |false=>exact absurd (sle.2 λhbl=>by rw[blB_t.2 hbl] at hb;cases hb) hgt
 ·have hR:R=[]:=eq_nil_of_length_eq_zero (by omega)
  subst hR
  rw[append_nil] at e
  rw[e] at hQ
  exact hQ h2 l1 (K1.trans K2) B2 (N2.mono K1.dom)
theorem sameT_s{A B:List Tab}(BA:h.row l.a (l.n*6) (tabV A))(BB:h.row l1.a (l1.n*6) (tabV B))(hA:A.length<=5000000)(hT:A=B->Q (.bool true) h)(hF:A≠B->Q (.bool false) h):F119.T l l1 h Q:=by
 have n1:l.n=A.length:=by have:=BA.1;rw[tabV_len] at this;omega
 have n2:l1.n=B.length:=by have:=BB.1;rw[tabV_len] at this;omega
 unfold F119.T
 refine⟨λhl=>?_,λhl=>hF λe=>hl (by rw[n1,n2,e])⟩
 have hAB:A.length=B.length:=by omega
 refine⟨λk h1=>h1=h/\∃ P R S,A=P++R/\B=P++S/\k=(P.length:Int),λk _=>A.length-k.toNat,⟨rfl,[],_,_,rfl,rfl,rfl⟩,?_⟩
 rintro k h1 ⟨rfl,P,R,S,e,e',rfl⟩
 have e2:=congrArg List.length e
 have e3:=congrArg List.length e'
 rw[length_append] at e2 e3
 refine⟨λhlt=>?_,λhge=>?_⟩
 ·rcases R with _|⟨t,R⟩
  ·exact absurd hlt (by simp at e2;omega)
  rw[length_cons] at e2
  rcases S with _|⟨u,S⟩
  ·simp at e3;omega
  rw[length_cons] at e3
  have BA':=BA
  have BB':=BB
  rw[e] at BA'
  rw[e'] at BB'
  refine tab_rd BA' rfl λb o=>?_
  refine tab_rd BB' rfl λb1 o1=>⟨λheq=>?_,λhne=>hF λhAB'=>hne ?_⟩
  ·have htu:t=u:=cells_inj heq
   subst htu
   rw[next_i (n:=5100000) (by omega) (by omega)]
   exact⟨⟨rfl,P++[t],R,S,by rw[e];simp,by rw[e'];simp,by simp⟩,by dsimp only;omega⟩
  ·rw[e,e'] at hAB'
   have:=List.append_cancel_left hAB'
   cases this;rfl
 ·have hR:R=[]:=eq_nil_of_length_eq_zero (by omega)
  have hS:S=[]:=eq_nil_of_length_eq_zero (by omega)
  subst hR hS
  exact hT (by rw[e,e'])
def holdsM(n:Int)(s:ByteArray)(l:List Tab):List Tab:=if n=0 then(overM s s l).reverse else overM s s l
theorem holds_s(V:Ver g h vb ls xs)(hs:∀ x∈xs,x.2.length<=5000000){n:Int}{s:ByteArray}(hl:(tabsI xs n).length<=5000000)(hQ:∀ h' r,Keep h h'->TB h' r (holdsM n s (tabsI xs n))->NewN h r->Q (.slice r.a r.n r.c) h'):F116.T (some ⟨vb,0,none⟩) n s h Q:=by
 unfold F116.T F116.G
 refine over_s V hs hl λh1 l K1 B1 N1=>⟨l,rfl,λh0=>?_,λh0=>?_⟩
 ·unfold holdsM at hQ
  rw[if_pos h0] at hQ
  have hA:(overM s s (tabsI xs n)).length<=5000000:=Nat.le_trans (List.length_filter_le _ _) hl
  generalize overM s s (tabsI xs n)=A at B1 hQ hA
  have hn:=tb_new B1
  refine⟨λi j h2=>∃ P M S,A=P++(M++S)/\P.length=S.length/\i=(P.length:Int)/\j=(P.length:Int)+M.length-1/\TB h2 l (S.reverse++(M++P.reverse))/\Keep h h2,λi j _=>(j-i).toNat,⟨[],A,[],by simp,rfl,rfl,by rw[wrap_i64 (by omega) (by omega),hn];simp,by simpa using B1,K1⟩,?_⟩
  rintro i j h2 ⟨P,M,S,e,hPS,rfl,rfl,B2,K2⟩
  have eL:=congrArg List.length e
  rw[length_append,length_append] at eL
  refine⟨λhlt=>?_,λhge=>?_⟩
  ·rcases M with _|⟨x,M⟩
   ·simp at hlt;omega
   rcases List.eq_nil_or_concat M with rfl|⟨M',y,rfl⟩
   ·simp at hlt
   rw[List.concat_eq_append] at *
   simp only[length_cons,length_append,List.length_nil] at hlt eL ⊢
   refine B2.rd (P:=S.reverse++x::M') (t:=y) (R:=P.reverse) (by simp) (by simp;omega) λb o=>?_
   refine B2.rd (P:=S.reverse) (t:=x) (R:=M'++y::P.reverse) (by simp) (by simp;omega) λb1 o1=>?_
   refine B2.wr (P:=S.reverse) (x:=x) (t:=y) (R:=M'++y::P.reverse) (by simp) (by simp;omega) λb2 B3 U3=>?_
   obtain⟨K3,_⟩:=NewN.upd K2 N1 U3
   generalize h2.wr b2 _ _=h3 at B3 K3 ⊢
   refine B3.wr (P:=S.reverse++y::M') (x:=y) (t:=x) (R:=P.reverse) (by simp) (by simp;omega) λb3 B4 U4=>?_
   obtain⟨K4,_⟩:=NewN.upd K3 N1 U4
   generalize h3.wr b3 _ _=h4 at B4 K4 ⊢
   rw[next_i (n:=5100000) (by omega) (by omega),wrap_i64 (by omega) (by omega)]
   refine⟨⟨P++[x],M',y::S,by rw[e];simp,by simp;omega,by simp,by simp;omega,by simpa using B4,K4⟩,by(try dsimp only);omega⟩
  ·have hM:M.reverse=M:=by
    rcases M with _|⟨x,_|⟨y,M⟩⟩
    ·rfl
    ·rfl
    ·simp at hge;omega
   refine hQ h2 l K2 ?_ N1
   rw[e,List.reverse_append,List.reverse_append,hM,List.append_assoc];exact B2
 ·unfold holdsM at hQ
  rw[if_neg h0] at hQ
  exact hQ h1 l K1 B1 N1
end
end Go.Eng.YtbjnlacacapjiaaGreatDoor
end
section
namespace Go.Eng
def NewB(g:Hp)(s:Sl):Prop:=s.a=none\/∃ b,s.a=some ⟨b,0,none⟩/\g b=none
theorem NewB.mono{g h:Hp}(d:∀ k,h k=none->g k=none){s:Sl}(N:NewB h s):NewB g s:=N.imp id λ⟨b,e,n⟩=>⟨b,e,d b n⟩
theorem NewB.off{g:Hp}{s r:Sl}{sz t:Nat}{vs:List Value}(N:NewB g s)(B:Buf g r sz t vs):Off r s/\Off s r:=by
 rcases B.own with⟨ha,_⟩|⟨b,c,f,ha,hb,_⟩
 ·exact⟨λk o o' e=>(by rw[ha] at e;cases e),λk o o' _ e=>(by rw[ha] at e;cases e)⟩
 ·rcases N with hn|⟨b',hb',hn⟩
  ·exact⟨λk o o' _ e=>(by rw[hn] at e;cases e),λk o o' e=>(by rw[hn] at e;cases e)⟩
  ·have:b≠b':=λe=>by rw[e,hn] at hb;cases hb
   refine⟨λk o o' e1 e2=>this ?_,λk o o' e1 e2=>this ?_⟩
   ·rw[ha] at e1;rw[hb'] at e2
    simp only[Option.some.injEq,Addr.mk.injEq] at e1 e2
    rw[e1.1,e2.1]
   ·rw[hb'] at e1;rw[ha] at e2
    simp only[Option.some.injEq,Addr.mk.injEq] at e1 e2
    rw[e1.1,e2.1]
theorem keepB{g h h':Hp}(K:Keep g h){s s':Sl}(N:NewB g s)(U:Upd h h' s s'):Keep g h':=λk x e=>U.keep k x (λo hs=>by
 rcases N with hn|⟨b,hb,hn⟩
 ·rw[hn] at hs;cases hs
 ·rw[hb] at hs
  simp only[Option.some.injEq,Addr.mk.injEq] at hs
  rw[<- hs.1,hn] at e;cases e) (K k x e)
theorem newB{g h h':Hp}(K:Keep g h){s s':Sl}(N:NewB g s)(U:Upd h h' s s'):NewB g s':=by
 rcases U.at_ with h0|⟨b,hb,hn⟩
 ·unfold NewB;rw[h0];exact N
 ·exact .inr ⟨b,hb,K.dom b hn⟩
structure Bf where
 s:Sl
 sz:Nat
 t:Nat
 vs:List Value
abbrev Key:=Nat×Nat×Nat
abbrev Mem:=Key->Option Bf
structure Mine(h0 h:Hp)(m:Mem):Prop where
 keep:Keep h0 h
 buf:∀ k x,m k=some x->Buf h x.s x.sz x.t x.vs
 new:∀ k x,m k=some x->NewB h0 x.s
 off:∀ k k' x x',k≠k'->m k=some x->m k'=some x'->Off x.s x'.s
def Mem.put(m:Mem)(k:Key)(x:Bf):Mem:=λj=>if j=k then some x else m j
theorem put_self(m:Mem)(k:Key)(x:Bf):(m.put k x) k=some x:=if_pos rfl
theorem put_ne(m:Mem){k j:Key}(x:Bf)(h:j≠k):(m.put k x) j=m j:=if_neg h
theorem Mine.keepH{h0 h h':Hp}{m:Mem}(O:Mine h0 h m)(K:Keep h h'):Mine h0 h' m:=⟨O.keep.trans K,λk x e=>(O.buf k x e).keep K,O.new,O.off⟩
theorem Mine.start(h:Hp):Mine h h (λ_=>none):=⟨Keep.refl h,λ_ _ e=>(by cases e),λ_ _ e=>(by cases e),λ_ _ _ _ _ e=>(by cases e)⟩
theorem Mine.of_eq{h0 h:Hp}{m m':Mem}(O:Mine h0 h m)(e:∀ k,m' k=m k):Mine h0 h m':=by
 have:m'=m:=funext e
 rw[this];exact O
theorem Mine.sub{h0 h:Hp}{m m':Mem}(O:Mine h0 h m)(e:∀ k x,m' k=some x->m k=some x):Mine h0 h m':=
 ⟨O.keep,λk x h=>O.buf k x (e k x h),λk x h=>O.new k x (e k x h),λk k' x x' n h h'=>O.off k k' x x' n (e k x h) (e k' x' h')⟩
theorem Mine.write{h0 h h':Hp}{m:Mem}{k:Key}{x:Bf}{s':Sl}{sz t:Nat}{vs:List Value}(O:Mine h0 h m)(hk:m k=some x)(U:Upd h h' x.s s')(B:Buf h' s' sz t vs):Mine h0 h' (m.put k ⟨s',sz,t,vs⟩):=by
 have N:=O.new k x hk
 have off1:∀ j y,j≠k->m j=some y->Off y.s s'/\Off s' y.s:=λj y hj e=>by
  have o1:=O.off j k y x hj e hk
  have o2:=O.off k j x y (Ne.symm hj) hk e
  rcases U.at_ with h0'|hn
  ·exact⟨λb p q e1 e2=>o1 b p q e1 (by rw[<- h0'];exact e2),λb p q e1 e2=>o2 b p q (by rw[<- h0'];exact e1) e2⟩
  ·exact NewB.off (.inr hn) (O.buf j y e)
 refine⟨keepB O.keep N U,λj y e=>?_,λj y e=>?_,λj j' y y' hne e e'=>?_⟩
 ·unfold Mem.put at e
  by_cases hj:j=k
  ·rw[if_pos hj] at e;cases e;exact B
  ·rw[if_neg hj] at e
   exact(O.buf j y e).upd U (O.off j k y x hj e hk)
 ·unfold Mem.put at e
  by_cases hj:j=k
  ·rw[if_pos hj] at e;cases e;exact newB O.keep N U
  ·rw[if_neg hj] at e;exact O.new j y e
 ·unfold Mem.put at e e'
  by_cases hj:j=k
  ·rw[if_pos hj] at e;cases e
   rw[if_neg (λc=>hne (by rw[hj,c]))] at e'
   exact(off1 j' y' (λc=>hne (by rw[hj,c])) e').2
  ·rw[if_neg hj] at e
   by_cases hj':j'=k
   ·rw[if_pos hj'] at e';cases e'
    exact(off1 j y hj e).1
   ·rw[if_neg hj'] at e'
    exact O.off j j' y y' hne e e'
theorem Mine.add{h0 h h':Hp}{m:Mem}{k:Key}{s:Sl}{sz t:Nat}{vs:List Value}(O:Mine h0 h m)(hk:m k=none)(K:Keep h h')(N:NewB h s)(B:Buf h' s sz t vs):Mine h0 h' (m.put k ⟨s,sz,t,vs⟩):=by
 refine⟨O.keep.trans K,λj y e=>?_,λj y e=>?_,λj j' y y' hne e e'=>?_⟩
 ·unfold Mem.put at e
  by_cases hj:j=k
  ·rw[if_pos hj] at e;cases e;exact B
  ·rw[if_neg hj] at e;exact(O.buf j y e).keep K
 ·unfold Mem.put at e
  by_cases hj:j=k
  ·rw[if_pos hj] at e;cases e;exact N.mono O.keep.dom
  ·rw[if_neg hj] at e;exact O.new j y e
 ·unfold Mem.put at e e'
  by_cases hj:j=k
  ·rw[if_pos hj] at e;cases e
   rw[if_neg (λc=>hne (by rw[hj,c]))] at e'
   exact(N.off (O.buf j' y' e')).2
  ·rw[if_neg hj] at e
   by_cases hj':j'=k
   ·rw[if_pos hj'] at e';cases e'
    exact(N.off (O.buf j y e)).1
   ·rw[if_neg hj'] at e'
    exact O.off j j' y y' hne e e'
theorem buf_new{h:Hp}{b t sz n:Nat}(vs:List Value)(hl:vs.length=n*sz):Buf (h.new b (.cells ⟨vs⟩ t (0,0))) ⟨some ⟨b,0,none⟩,n,n⟩ sz t vs:=
 ⟨hl,Nat.le_refl _,.inr ⟨b,_,(0,0),rfl,by unfold Hp.new;rw[if_pos rfl],by show n*sz<=vs.length;omega,λj _=>by simp,by show vs.take vs.length=vs;exact List.take_length⟩⟩
theorem buf_wr{h:Hp}{s:Sl}{sz t:Nat}{A U V B:List Value}(Bf:Buf h s sz t (A++(U++B)))(hu:U.length=V.length)(h0:0<U.length):∃ b,s.a=some ⟨b,0,none⟩/\h.canW b A.length V.length/\Upd h (h.wr b A.length V) s s/\Buf (h.wr b A.length V) s sz t (A++(V++B)):=by
 have app:∀ (V A U B:List Value),U.length=V.length->setL (A++(U++B)) A.length V=A++(V++B):=λV=>by
  induction V with
  |nil=>intro A U B h;have:U=[]:=eq_nil_of_length_eq_zero h;subst this;rfl
  |cons v V ih=>
   intro A U B h
   rcases U with _|⟨u,U⟩
   ·cases h
   unfold setL
   have e:(A++(u::U++B)).set A.length v=(A++[v])++(U++B):=by simp
   have l:A.length+1=(A++[v]).length:=by simp
   rw[e,l,ih (A++[v]) U B (by simpa using h)]
   simp
 have slen:∀ (vs c:List Value) (o:Nat),(setL c o vs).length=c.length:=λvs=>by
  induction vs with
  |nil=>intro c o;rfl
  |cons v vs ih=>intro c o;unfold setL;rw[ih,length_set]
 have hlen0:(A++(U++B)).length=A.length+(U.length+B.length):=by simp
 have hlen1:(A++(V++B)).length=A.length+(U.length+B.length):=by simp[hu]
 rcases Bf.own with⟨ha,hc⟩|⟨b,c,f,ha,hb,hsz,hf,ht⟩
 ·have h1:=Bf.len
  have h2:=Bf.cap
  have:s.n=0:=by omega
  rw[this,Nat.zero_mul] at h1
  omega
 ·have hcl:(A++(U++B)).length<=c.size:=by
   rw[Bf.len]
   exact Nat.le_trans (Nat.mul_le_mul_right _ Bf.cap) hsz
  have hct:c.toList=A++(U++(B++c.toList.drop (A++(U++B)).length)):=by
   have:=List.take_append_drop (A++(U++B)).length c.toList
   rw[ht] at this
   rw[<- this]
   simp
  have wrs:(h.wr b A.length V) b=some (.cells (setL c.toList A.length V).toArray t f):=by unfold Hp.wr;rw[if_pos rfl,hb]
  refine⟨b,ha,⟨c,t,f,hb,by omega,λj h1 h2=>hf j (by omega)⟩,⟨λj x hj e=>?_,.inl rfl,λj e=>?_⟩,⟨by rw[hlen1,<- hlen0];exact Bf.len,Bf.cap,.inr ⟨b,(setL c.toList A.length V).toArray,f,ha,wrs,?_,?_,?_⟩⟩⟩
  ·have hjb:j≠b:=λq=>hj 0 (by rw[q];exact ha)
   unfold Hp.wr
   rw[if_neg hjb]
   exact e
  ·unfold Hp.wr at e
   by_cases hjb:j=b
   ·rw[if_pos hjb,hb] at e;cases e
   ·rw[if_neg hjb] at e;exact e
  ·simp only[List.size_toArray,slen,Array.length_toList];exact hsz
  ·intro j hj
   simp only[List.size_toArray,slen,Array.length_toList] at hj
   exact hf j hj
  ·show((setL c.toList A.length V).take (A++(V++B)).length)=A++(V++B)
   rw[hct,app V A U _ hu,show A++(V++(B++c.toList.drop (A++(U++B)).length))=(A++(V++B))++c.toList.drop (A++(U++B)).length by simp,List.take_left' rfl]
theorem buf_wr1{h:Hp}{s:Sl}{sz t k:Nat}{vs:List Value}(B:Buf h s sz t vs)(hk:k<vs.length)(v:Value):∃ b,s.a=some ⟨b,0,none⟩/\h.canW b k 1/\Upd h (h.wr b k [v]) s s/\Buf (h.wr b k [v]) s sz t (vs.set k v):=by
 have e:vs=vs.take k++([vs[k]]++vs.drop (k+1)):=by
  have e:=List.take_append_drop k vs
  rw[List.drop_eq_getElem_cons hk] at e
  exact e.symm
 have lt:(vs.take k).length=k:=by rw[length_take];omega
 have e2:vs.set k v=vs.take k++([v]++vs.drop (k+1)):=by
  rw[List.set_eq_take_append_cons_drop,if_pos hk];rfl
 have B':Buf h s sz t (vs.take k++([vs[k]]++vs.drop (k+1))):=by rw[<- e];exact B
 obtain⟨b,ha,hc,U,Bw⟩:=buf_wr (V:=[v]) B' rfl (by simp)
 rw[lt] at hc U Bw
 rw[<- e2] at Bw
 exact⟨b,ha,hc,U,Bw⟩
theorem buf_at{h:Hp}{s:Sl}{sz t k:Nat}{vs:List Value}(B:Buf h s sz t vs)(hk:k<vs.length):∃ b,s.a=some ⟨b,0,none⟩/\h.at b (0+k)=vs[k]?:=by
 rcases B.own with⟨ha,hc⟩|⟨b,c,f,ha,hb,hsz,hf,ht⟩
 ·have h1:=B.len
  have h2:=B.cap
  have:s.n=0:=by omega
  rw[this,Nat.zero_mul] at h1
  omega
 ·refine⟨b,ha,?_⟩
  unfold Hp.at
  rw[hb,Nat.zero_add]
  show c[k]?=_
  rw[<- ht,List.getElem?_take,if_pos hk,Array.getElem?_toList]
def markL(mk:Nat->List Value)(k:Nat):List Value:=(List.range k).flatMap mk
theorem markL_succ(mk:Nat->List Value)(k:Nat):markL mk (k+1)=markL mk k++mk k:=by unfold markL;rw[List.range_succ,List.flatMap_append];simp
theorem flatL{α:Type}(f:α->List Value)(sz:Nat)(hf:∀ x,(f x).length=sz):∀ l:List α,(l.flatMap f).length=l.length*sz
 |[]=>by simp
 |x::l=>by rw[List.flatMap_cons,length_append,hf,flatL f sz hf l,length_cons,Nat.add_mul];omega
theorem markL_len{mk:Nat->List Value}{sz:Nat}(h:∀ j,(mk j).length=sz)(k:Nat):(markL mk k).length=k*sz:=by
 unfold markL;rw[flatL mk sz h,List.length_range]
theorem flatG{α:Type}(f:α->List Value)(sz:Nat)(hf:∀ x,(f x).length=sz):∀ (l:List α) (i c:Nat) (hi:i<l.length),c<sz->(l.flatMap f)[i*sz+c]?=(f l[i])[c]?
 |[],i,c,hi,_=>absurd hi (by simp)
 |x::l,0,c,_,hc=>by rw[List.flatMap_cons,getElem?_append_left (by rw[hf];omega)];simp
 |x::l,i+1,c,hi,hc=>by
  rw[List.flatMap_cons,getElem?_append_right (by rw[hf,Nat.add_mul];omega),hf,show(i+1)*sz+c-sz=i*sz+c by rw[Nat.add_mul];omega]
  exact flatG f sz hf l i c (by simpa using hi) hc
theorem mark_at{mk:Nat->List Value}{sz m:Nat}(hm:∀ j,(mk j).length=sz){us:List Value}{n:Nat}(hus:us.length=n*sz){j c:Nat}(hj:j<m)(hc:c<sz):(us++markL mk m)[(n+j)*sz+c]?=(mk j)[c]?:=by
 have h2:(n+j)*sz=n*sz+j*sz:=Nat.add_mul _ _ _
 rw[getElem?_append_right (by omega),show(n+j)*sz+c-us.length=j*sz+c by omega]
 unfold markL
 rw[flatG mk sz hm (List.range m) j c (by rw[List.length_range];exact hj) hc,List.getElem_range]
theorem nx_i{k n:Nat}(hk:k<n)(hn:n<9223372036854775807):wrap .i64 ((k:Int)+1)=((k+1:Nat):Int):=by rw[wrap_i64 (by omega) (by omega)];omega
theorem lay_own{h0 h:Hp}{m:Mem}{kr kw kn kd:Key}{pb slot R tr tw ti t sz bytes M:Nat}{mk:Nat->List Value}{z us ws ns cs:List Value}{G:Int->Hp->(List Value->Hp->Prop)->Prop}{w n l:Sl}{Q:Value->Hp->Prop}
  (hG:∀ (j:Nat) h K,K (mk j) h->G (j:Int) h K) (hmk:∀ j,(mk j).length=sz) (hz:z.length=sz) (hone:∀ v∈us,Value.oneCell' v=true)
  (O:Mine h0 h m) (er:m kr=some ⟨⟨some ⟨pb,0,none⟩,1,1⟩,R,tr,cs⟩) (ew:m kw=some ⟨w,1,tw,ws⟩) (en:m kn=some ⟨n,1,ti,ns⟩) (ed:m kd=none)
  (n1:kw≠kr) (n2:kn≠kr) (n3:kw≠kn) (hslot:slot+1<R) (hw:cs[slot]?=some (.slice w.a w.n w.c)) (hn:cs[slot+1]?=some (.slice n.a n.n n.c))
  (hr:h.row l.a (l.n*sz) us) (hb:(l.n+M)*bytes<=140737488355328) (hM:M<=100000) (hb0:0<bytes) (hws:ws.length<=100000) (hns:ns.length<=100000)
  (hQ:∀ h' w' n' s,Mine h0 h' ((((m.put kd ⟨s,sz,t,us++markL mk M⟩).put kw ⟨w',1,tw,ws++[.slice s.a s.n s.c]⟩).put kn ⟨n',1,ti,ns++[.int .i64 (l.n:Int)]⟩).put kr ⟨⟨some ⟨pb,0,none⟩,1,1⟩,R,tr,(cs.set slot (.slice w'.a w'.n w'.c)).set (slot+1) (.slice n'.a n'.n n'.c)⟩)->s.n=l.n+M->s.n<=s.c->(∃ b,s.a=some ⟨b,0,none⟩) ->
   Q (.slice (Sl.cut s sz 0 (l.n:Int) (s.n:Int)).a (Sl.cut s sz 0 (l.n:Int) (s.n:Int)).n (Sl.cut s sz 0 (l.n:Int) (s.n:Int)).c) h') :
  nw h (.cells ⟨[]⟩ t (0,0)) λb h1=>∃ vs,h1.row l.a (l.n*sz) vs/\(∀ v∈vs,Value.oneCell' v=true)/\appendD ⟨(some ⟨b,0,none⟩),0,0⟩ t sz bytes z l.n vs h1 λl1 h2=>∃ (I:Sl->Int->Hp->Prop) (m:Sl->Int->Hp->Nat),I l1 0 h2/\(∀ l2:Sl,∀ n1:Int,∀ h3:Hp,I l2 n1 h3->par (n1<(M:Int)) (G n1 h3 λus h4=>appendD l2 t sz bytes z 1 us h4 λl3 h5=>I l3 (wrap .i64 (n1+1)) h5/\m l3 (wrap .i64 (n1+1)) h5<m l2 n1 h3) (dr (some ⟨pb,0,none⟩) λb1 o=>ldS h3 b1 (o+slot) λl4=>appendD l4 tw 1 24 [.slice none 0 0] 1 [.slice l2.a l2.n l2.c] h3 λl5 h6=>dr (some ⟨pb,0,none⟩) λb2 o1=>st h6 b2 (o1+slot) 1 [.slice l5.a l5.n l5.c] λh7=>dr (some ⟨pb,0,none⟩) λb3 o2=>ldS h7 b3 (o2+(slot+1)) λl6=>appendD l6 ti 1 8 [.int .i64 0] 1 [.int .i64 (l.n:Int)] h7 λl7 h8=>dr (some ⟨pb,0,none⟩) λb4 o3=>st h8 b4 (o3+(slot+1)) 1 [.slice l7.a l7.n l7.c] λh9=>Sl.okCut l2 0 (l.n:Int) (l2.n:Int)/\Q (.slice (Sl.cut l2 sz 0 (l.n:Int) (l2.n:Int)).a (Sl.cut l2 sz 0 (l.n:Int) (l2.n:Int)).n (Sl.cut l2 sz 0 (l.n:Int) (l2.n:Int)).c) h9)):=by
 intro b hbn
 have hus:=hr.1
 have nd1:kd≠kr:=λe=>by rw[e,er] at ed;cases ed
 have nd2:kd≠kw:=λe=>by rw[e,ew] at ed;cases ed
 have nd3:kd≠kn:=λe=>by rw[e,en] at ed;cases ed
 have k0:=Keep.new hbn (.cells ⟨[]⟩ t (0,0))
 have B0:=buf_new (h:=h) (b:=b) (t:=t) (sz:=sz) (n:=0) [] (by simp)
 have O0:=O.add ed k0 (.inr ⟨b,rfl,hbn⟩) B0
 have r0:=k0.row hr
 generalize h.new b (.cells ⟨[]⟩ t (0,0))=h1 at k0 B0 O0 r0 ⊢
 refine⟨us,r0,hone,?_⟩
 have mulle:∀ x:Nat,x<=l.n+M->x*bytes<=140737488355328:=λx hx=>Nat.le_trans (Nat.mul_le_mul_right _ hx) hb
 have hlM:l.n+M<=140737488355328:=Nat.le_trans (Nat.le_mul_of_pos_right _ hb0) hb
 refine append_buf B0 hz (by rw[hus]) (mulle _ (by show 0+l.n<=_;omega)) λs1 h2 B1 hn1 U1=>?_
 rw[List.nil_append] at B1
 have O1:=O0.write (put_self _ _ _) U1 B1
 have put2:∀ (x y:Bf),(m.put kd x).put kd y=m.put kd y:=λx y=>funext λj=>by
  unfold Mem.put;by_cases hj:j=kd
  ·rw[if_pos hj,if_pos hj]
  ·rw[if_neg hj,if_neg hj,if_neg hj]
 rw[put2] at O1
 have hs1:∃ b,s1.a=some ⟨b,0,none⟩:=by
  rcases U1.at_ with h0'|⟨b',e',_⟩
  ·exact⟨b,h0'⟩
  ·exact⟨b',e'⟩
 refine⟨λl2 n1 h3=>∃ j:Nat,n1=(j:Int)/\j<=M/\Mine h0 h3 (m.put kd ⟨l2,sz,t,us++markL mk j⟩)/\l2.n=l.n+j/\∃ b,l2.a=some ⟨b,0,none⟩,λ_ n1 _=>M-n1.toNat,⟨0,rfl,Nat.zero_le _,by simpa[markL] using O1,by rw[hn1];show 0+l.n=_;omega,hs1⟩,?_⟩
 rintro l2 n1 h3 ⟨j,rfl,hj,O2,l2n,ba⟩
 have B2:Buf h3 l2 sz t (us++markL mk j):=O2.buf kd _ (put_self _ _ _)
 refine⟨λhlt=>hG _ _ _ ?_,λhge=>?_⟩
 ·have w3:wrap .i64 ((j:Int)+1)=((j+1:Nat):Int):=nx_i (n:=M) (by omega) (by omega)
  refine append_buf B2 hz (by rw[hmk,Nat.one_mul]) (mulle _ (by omega)) λl3 h4 B4 hn4 U4=>?_
  rw[w3]
  have O4:=O2.write (put_self _ _ _) U4 B4
  rw[put2] at O4
  refine⟨⟨j+1,rfl,by omega,?_,by omega,?_⟩,by dsimp only;omega⟩
  ·rw[markL_succ,<- List.append_assoc]
   exact O4
  ·obtain⟨b',hb'⟩:=ba
   rcases U4.at_ with h0'|⟨c',e',_⟩
   ·exact⟨b',by rw[h0'];exact hb'⟩
   ·exact⟨c',e'⟩
 ·have hjM:j=M:=by omega
  subst hjM
  have er2:(m.put kd ⟨l2,sz,t,us++markL mk j⟩) kr=some ⟨⟨some ⟨pb,0,none⟩,1,1⟩,R,tr,cs⟩:=by rw[put_ne _ _ (Ne.symm nd1)];exact er
  have ew2:(m.put kd ⟨l2,sz,t,us++markL mk j⟩) kw=some ⟨w,1,tw,ws⟩:=by rw[put_ne _ _ (Ne.symm nd2)];exact ew
  have en2:(m.put kd ⟨l2,sz,t,us++markL mk j⟩) kn=some ⟨n,1,ti,ns⟩:=by rw[put_ne _ _ (Ne.symm nd3)];exact en
  have BR:=O2.buf kr _ er2
  have BW:=O2.buf kw _ ew2
  have hcl:cs.length=R:=by have:=BR.len;simpa using this
  have hwn:w.n=ws.length:=by have:=BW.len;simp only[Nat.mul_one] at this;omega
  obtain⟨b1,hb1,g1⟩:=buf_at BR (k:=slot) (by show slot<cs.length;omega)
  cases hb1
  refine⟨pb,0,rfl,w,by rw[g1];exact hw,?_⟩
  refine append_buf BW rfl rfl (by omega) λl5 h6 B5 hn5 U5=>?_
  have O5:=O2.write ew2 U5 B5
  have er5:((m.put kd ⟨l2,sz,t,us++markL mk j⟩).put kw ⟨l5,1,tw,ws++[.slice l2.a l2.n l2.c]⟩) kr=some ⟨⟨some ⟨pb,0,none⟩,1,1⟩,R,tr,cs⟩:=by rw[put_ne _ _ (Ne.symm n1)];exact er2
  obtain⟨b2,hb2,c2,U6,B6⟩:=buf_wr1 (O5.buf kr _ er5) (k:=slot) (by show slot<cs.length;omega) (.slice l5.a l5.n l5.c)
  cases hb2
  have O6:=O5.write er5 U6 B6
  refine⟨pb,0,rfl,?_⟩
  dsimp only
  rw[Nat.zero_add]
  refine⟨c2,pb,0,rfl,?_⟩
  generalize h6.wr pb slot [.slice l5.a l5.n l5.c]=h7 at U6 B6 O6 ⊢
  have en6:(((m.put kd ⟨l2,sz,t,us++markL mk j⟩).put kw ⟨l5,1,tw,ws++[.slice l2.a l2.n l2.c]⟩).put kr ⟨⟨some ⟨pb,0,none⟩,1,1⟩,R,tr,cs.set slot (.slice l5.a l5.n l5.c)⟩) kn=some ⟨n,1,ti,ns⟩:=by rw[put_ne _ _ n2,put_ne _ _ (Ne.symm n3)];exact en2
  have BN:=O6.buf kn _ en6
  have hnn:n.n=ns.length:=by have:=BN.len;simp only[Nat.mul_one] at this;omega
  obtain⟨b3,hb3,g3⟩:=buf_at B6 (k:=slot+1) (by rw[length_set];show slot+1<cs.length;omega)
  cases hb3
  refine⟨n,by rw[g3,getElem?_set_ne (by omega)];exact hn,?_⟩
  refine append_buf BN rfl rfl (by omega) λl7 h8 B7 hn7 U7=>?_
  have O7:=O6.write en6 U7 B7
  have er7:((((m.put kd ⟨l2,sz,t,us++markL mk j⟩).put kw ⟨l5,1,tw,ws++[.slice l2.a l2.n l2.c]⟩).put kr ⟨⟨some ⟨pb,0,none⟩,1,1⟩,R,tr,cs.set slot (.slice l5.a l5.n l5.c)⟩).put kn ⟨l7,1,ti,ns++[.int .i64 (l.n:Int)]⟩) kr=some ⟨⟨some ⟨pb,0,none⟩,1,1⟩,R,tr,cs.set slot (.slice l5.a l5.n l5.c)⟩:=by rw[put_ne _ _ (Ne.symm n2)];exact put_self _ _ _
  obtain⟨b4,hb4,c4,U8,B8⟩:=buf_wr1 (O7.buf kr _ er7) (k:=slot+1) (by show slot+1<(cs.set slot _).length;rw[length_set];omega) (.slice l7.a l7.n l7.c)
  cases hb4
  have O8:=O7.write er7 U8 B8
  refine⟨pb,0,rfl,?_⟩
  dsimp only
  rw[Nat.zero_add]
  have cap2:=B2.cap
  refine⟨c4,⟨by decide,by omega,by omega,by omega⟩,?_⟩
  refine hQ _ l5 l7 l2 (O8.of_eq λk=>?_) l2n cap2 ba
  unfold Mem.put
  by_cases h1:k=kr
  ·rw[if_pos h1,if_pos h1]
  ·rw[if_neg h1,if_neg h1]
   by_cases h2:k=kn
   ·rw[if_pos h2,if_pos h2]
   ·rw[if_neg h2,if_neg h2,if_neg h1]
theorem hold_own{h:Hp}{pb slot R tr tw ti M:Nat}{cs:List Value}{ls:List (Sl×Nat)}{w n:Sl}{Q:Value->Hp->Prop}{BODY:Nat->Nat->Int->Int->Hp->(Hp->Prop)->Prop}
  (BR:Buf h ⟨some ⟨pb,0,none⟩,1,1⟩ R tr cs) (BW:Buf h w 1 tw (ls.map λx=>.slice x.1.a x.1.n x.1.c)) (BN:Buf h n 1 ti (ls.map λx=>.int .i64 (x.2:Int))) (hslot:slot+1<R) (hw:cs[slot]?=some (.slice w.a w.n w.c)) (hn:cs[slot+1]?=some (.slice n.a n.n n.c))
  (hl:∀ x∈ls,x.1.n=x.2+M/\x.1.n<9223372036854775807) (hls:ls.length<=100000)
  (hB:∀ x∈ls,∀ j,j<M->∀ P:Hp->Prop,P h->∃ b o,x.1.a=some ⟨b,o,none⟩/\BODY b o ((x.2+j:Nat):Int) (x.2:Int) h P)
  (hQ:Q (.bool true) h):∃ (I:Int->Hp->Prop) (m:Int->Hp->Nat),I 0 h/\(∀ n:Int,∀ h1:Hp,I n h1->dr (some ⟨pb,0,none⟩) λb o=>ldS h1 b (o+slot) λl=>par (n<(l.n:Int)) (dr (some ⟨pb,0,none⟩) λb1 o1=>ldS h1 b1 (o1+(slot+1)) λl1=>ix l1.a n l1.n λb2 o2=>ldI .i64 h1 b2 (o2+n.toNat) λn1=>∃ (I1:Int->Hp->Prop) (m1:Int->Hp->Nat),I1 n1 h1/\(∀ n2:Int,∀ h2:Hp,I1 n2 h2->dr (some ⟨pb,0,none⟩) λb3 o3=>ldS h2 b3 (o3+slot) λl2=>ix l2.a n l2.n λb4 o4=>ldS h2 b4 (o4+n.toNat) λl3=>par (n2<(l3.n:Int)) (dr (some ⟨pb,0,none⟩) λb5 o5=>ldS h2 b5 (o5+slot) λl4=>ix l4.a n l4.n λb6 o6=>ldS h2 b6 (o6+n.toNat) λl5=>ix l5.a n2 l5.n λb7 o7=>BODY b7 o7 n2 n1 h2 λh3=>I1 (wrap .i64 (n2+1)) h3/\m1 (wrap .i64 (n2+1)) h3<m1 n2 h2) (I (wrap .i64 (n+1)) h2/\m (wrap .i64 (n+1)) h2<m n h1))) (Q (.bool true) h1)):=by
 have hcl:cs.length=R:=by have:=BR.len;simpa using this
 have hwn:w.n=ls.length:=by have:=BW.len;simp only[length_map,Nat.mul_one] at this;omega
 have hnn:n.n=ls.length:=by have:=BN.len;simp only[length_map,Nat.mul_one] at this;omega
 obtain⟨b1,hb1,g1⟩:=buf_at BR (k:=slot) (by omega)
 cases hb1
 rw[hw] at g1
 obtain⟨b1,hb1,g2⟩:=buf_at BR (k:=slot+1) (by omega)
 cases hb1
 rw[hn] at g2
 refine⟨λn h1=>∃ i:Nat,n=(i:Int)/\i<=ls.length/\h1=h,λn _=>ls.length-n.toNat,⟨0,rfl,Nat.zero_le _,rfl⟩,?_⟩
 rintro n2 h1 ⟨i,rfl,hi,rfl⟩
 refine⟨pb,0,rfl,w,g1,λhlt=>?_,λ_=>hQ⟩
 have hi1:i<ls.length:=by omega
 have hx:=List.getElem_mem hi1
 obtain⟨x1,x2⟩:=hl _ hx
 obtain⟨b2,ha2,c2⟩:=buf_at BN (k:=i) (by rw[length_map];exact hi1)
 obtain⟨b4,ha4,c4⟩:=buf_at BW (k:=i) (by rw[length_map];exact hi1)
 rw[getElem?_map,getElem?_eq_getElem hi1] at c2 c4
 refine⟨pb,0,rfl,n,g2,b2,0,ha2,⟨by omega,by omega⟩,_,by rw[Int.toNat_natCast];exact c2,?_⟩
 refine⟨λn2 h2=>∃ j:Nat,n2=((ls[i].2+j:Nat):Int)/\j<=M/\h2=h1,λn2 _=>ls[i].2+M-n2.toNat,⟨0,rfl,Nat.zero_le _,rfl⟩,?_⟩
 rintro n3 h2 ⟨j,rfl,hj,rfl⟩
 refine⟨pb,0,rfl,w,g1,b4,0,ha4,⟨by omega,by omega⟩,_,by rw[Int.toNat_natCast];exact c4,λhlt2=>?_,λhge2=>?_⟩
 ·have hj4:j<M:=by omega
  have w2:wrap .i64 (((ls[i].2+j:Nat):Int)+1)=((ls[i].2+(j+1):Nat):Int):=by rw[wrap_i64 (by omega) (by omega)];omega
  obtain⟨b7,o7,ha7,hbody⟩:=hB _ hx j hj4 (λh3=>h3=h2) rfl
  obtain⟨b8,o8,ha8,hbody⟩:=hB _ hx j hj4 (λh3=>(∃ j':Nat,wrap .i64 (((ls[i].2+j:Nat):Int)+1)=((ls[i].2+j':Nat):Int)/\j'<=M/\h3=h2)/\ls[i].2+M-(wrap .i64 (((ls[i].2+j:Nat):Int)+1)).toNat<ls[i].2+M-(((ls[i].2+j:Nat):Int)).toNat) ⟨⟨j+1,w2,by omega,rfl⟩,by rw[w2];omega⟩
  exact⟨pb,0,rfl,w,g1,b4,0,ha4,⟨by omega,by omega⟩,_,by rw[Int.toNat_natCast];exact c4,b8,o8,ha8,⟨by omega,hlt2⟩,hbody⟩
 ·rw[nx_i hi1 (by omega)]
  exact⟨⟨i+1,rfl,hi1,rfl⟩,by dsimp only;omega⟩
theorem hold_nil{h:Hp}{pb slot:Nat}{R:Hp->Prop}{A:(Int->Hp->Prop)->(Int->Hp->Nat)->Int->Hp->Sl->Prop}(hc:h.at pb (0+slot)=some (.slice none 0 0))(hQ:R h):∃ (I:Int->Hp->Prop) (m:Int->Hp->Nat),I 0 h/\(∀ n:Int,∀ h1:Hp,I n h1->dr (some ⟨pb,0,none⟩) λb o=>ldS h1 b (o+slot) λl=>par (n<(l.n:Int)) (A I m n h1 l) (R h1)):=by
 refine⟨λn h1=>n=0/\h1=h,λ_ _=>0,⟨rfl,rfl⟩,?_⟩
 rintro n h1 ⟨rfl,rfl⟩
 exact⟨pb,0,rfl,⟨none,0,0⟩,hc,λh0=>absurd h0 (by decide),λ_=>hQ⟩
end Go.Eng
end
section
namespace Go.Eng.YtbjnlacacapjiaaGreatDoor
open Go.Eng
def tabsD(lv:Lv)(n:Int):List Tab:=if n<0 then[] else lv[n.toNat]?.getD []
theorem tabsD_I{xs:List (Sl×List Tab)}{n:Int}:tabsI xs n=tabsD (xs.map (·.2)) n:=by
 unfold tabsI tabsD
 split
 ·rfl
 ·rw[getElem?_map]
  cases xs[n.toNat]?<;>rfl
theorem tabsD_le{lv:Lv}{n:Int}:(tabsD lv n).length<=totL lv:=by
 unfold tabsD
 split
 ·exact Nat.zero_le _
 ·cases h:lv[n.toNat]? with
  |none=>exact Nat.zero_le _
  |some l=>exact totL_mem (mem_of_getElem? h)
theorem tabsD_all{lv:Lv}{n:Int}{p:Tab->Prop}(H:AllT p lv):∀ t∈tabsD lv n,p t:=λt ht=>by
 unfold tabsD at ht
 split at ht
 ·cases ht
 ·cases h:lv[n.toNat]? with
  |none=>rw[h] at ht;cases ht
  |some l=>rw[h] at ht;exact H l (mem_of_getElem? h) t ht
theorem SetD.ckI{κ:List Nat}{g h h':Hp}{sb:Nat}{al pi ps:Sl}{D:List (Nat×Lv)}{pins pins':List Nat}{ptrs:List ByteArray}(S:SetD g h sb al pi ps D pins ptrs)(C:Ck κ h h')(K:Keep g h')(a:79∉κ)(b:65∉κ)(c:154∉κ)(d:156∉κ)(e:99∉κ)(x:11∉κ)(i':Buf h' pi 1 3 (nV pins'))(pl':pins'.length=D.length):SetD g h' sb al pi ps D pins' ptrs:=by
 obtain⟨q,h1,h2⟩:=S.s
 exact⟨K,S.ns,⟨q,h1,C.keep _ _ h2 d⟩,S.na,C.buf e S.a,S.ni,i',S.np,C.buf x S.p,pl',λi d hd=>(S.v i d hd).ck C K a b c,S.nd⟩
section
variable{g h h':Hp}{sb:Nat}{al pi ps:Sl}{D:List (Nat×Lv)}{pins:List Nat}{ptrs:List ByteArray}{Q:Value->Hp->Prop}
theorem nV_set(w:List Nat)(i m:Nat):(nV w).set i (.int .i64 (m:Int))=nV (w.set i m):=by unfold nV;rw[List.map_set]
theorem pin_d(S:SetD g h sb al pi ps D pins ptrs)(hm:∀ m∈pins,m<=1000000)(hN:D.length<=1000000)
  (hQ:∀ h' m d,D.getLast?=some d->pins[D.length-1]?=some m->SetD g h' sb al pi ps D (pins.set (D.length-1) (m+1)) ptrs->Q (.pointer (some ⟨d.1,0,none⟩)) h'):F41.T (some ⟨sb,0,none⟩) h Q:=by
 obtain⟨dl,hdl,hsb⟩:=S.s
 have hD0:0<D.length:=by
  apply Classical.byContradiction
  intro q
  have:D=[]:=eq_nil_of_length_eq_zero (by omega)
  rw[this] at hdl;cases hdl
 have hlast:D[D.length-1]?=some dl:=by rw[List.getLast?_eq_getElem?] at hdl;exact hdl
 obtain⟨ls,xs,Lx,hvn,hv,hxs⟩:=S.v _ _ hlast
 have hin:pi.n=D.length:=by have:=S.i.len;rw[nV_len,S.pl] at this;omega
 have ep:pins[D.length-1]?=some (pins[D.length-1]'(by rw[S.pl];omega)):=getElem?_eq_getElem _
 have hmm:=hm _ (List.getElem_mem (l:=pins) (n:=D.length-1) (by rw[S.pl];omega))
 generalize pins[D.length-1]'(by rw[S.pl];omega)=m at ep hmm
 obtain⟨b,ha,hc,U,B⟩:=buf_wr1 S.i (k:=D.length-1) (by rw[nV_len,S.pl];omega) (.int .i64 ((m+1:Nat):Int))
 obtain⟨b',ha',hat⟩:=buf_at S.i (k:=D.length-1) (by rw[nV_len,S.pl];omega)
 rw[ha] at ha'
 cases ha'
 rw[show(nV pins)[D.length-1]?=some (.int .i64 (m:Int)) by unfold nV;rw[getElem?_map,ep];rfl] at hat
 have hat':h.at b (0+(((D.length-1:Nat):Int)).toNat)=some (.int .i64 (m:Int)):=by rw[Int.toNat_natCast];exact hat
 obtain⟨K,_⟩:=S.ni.upd S.k U
 have C:Ck [5] h _:=Ck.of_upd S.i U
 rw[nV_set] at B
 have S':=S.ckI C K (by decide) (by decide) (by decide) (by decide) (by decide) (by decide) B (by rw[length_set];exact S.pl)
 obtain⟨d2,hd2,hs2⟩:=S'.s
 rw[hdl] at hd2
 cases hd2
 refine⟨sb,0,rfl,pi,at_of hsb 2,sb,0,rfl,some ⟨dl.1,0,none⟩,at_of hsb 0,dl.1,0,rfl,((D.length-1:Nat):Int),at_of hv 0,b,0,ha,⟨by omega,by omega⟩,(m:Int),hat',b,0,ha,⟨by omega,by omega⟩,?_⟩
 dsimp only
 rw[Int.toNat_natCast,Nat.zero_add,wrap_i64 (by omega) (by omega)]
 exact⟨hc,sb,0,rfl,some ⟨dl.1,0,none⟩,at_of hs2 0,hQ _ m dl hdl ep S'⟩
theorem unpin_d{j:Nat}{d:Nat×Lv}(S:SetD g h sb al pi ps D pins ptrs)(Z:SmD D)(hd:D[j]?=some d)(hm:∀ m∈pins,m<=1000000)
  (h0:pins[j]?=some 0->Q (.slice none 0 0) h)
  (hQ:∀ h' (r:Sl) m,pins[j]?=some (m+1)->SetD g h' sb al pi ps D (pins.set j m) ptrs->Buf h' r 1 48 (uvs (goneM (curD D) (pinL D (pins.set j m)) d.2))->Q (.slice r.a r.n r.c) h'):F44.T (some ⟨sb,0,none⟩) (some ⟨d.1,0,none⟩) h Q:=by
 obtain⟨dl,hdl,hsb⟩:=S.s
 have hj:j<D.length:=(List.getElem?_eq_some_iff.1 hd).1
 have hdm:d∈D:=mem_of_getElem? hd
 have hDl:=Z.l
 have V:=S.v _ _ hd
 obtain⟨ls,xs,Lx,hvn,hv,hxs⟩:=V
 have han:al.n=D.length:=by have:=S.a.len;rw[wV_len] at this;omega
 have hin:pi.n=D.length:=by have:=S.i.len;rw[nV_len,S.pl] at this;omega
 have ep:pins[j]?=some (pins[j]'(by rw[S.pl];omega)):=getElem?_eq_getElem _
 have hmm:=hm _ (List.getElem_mem (l:=pins) (n:=j) (by rw[S.pl];omega))
 generalize pins[j]'(by rw[S.pl];omega)=m at ep hmm
 obtain⟨b',ha',hat⟩:=buf_at S.i (k:=j) (by rw[nV_len,S.pl];omega)
 rw[show(nV pins)[j]?=some (.int .i64 (m:Int)) by unfold nV;rw[getElem?_map,ep];rfl] at hat
 have hat':h.at b' (0+((j:Int)).toNat)=some (.int .i64 (m:Int)):=by rw[Int.toNat_natCast];exact hat
 obtain⟨ba,haa,hata⟩:=buf_at S.a (k:=j) (by rw[wV_len];omega)
 rw[show(wV D)[j]?=some (pk d.1) by unfold wV;rw[getElem?_map,hd];rfl] at hata
 have hata':h.at ba (0+((j:Int)).toNat)=some (.pointer (some ⟨d.1,0,none⟩)):=by rw[Int.toNat_natCast];exact hata
 unfold F44.T F44.G
 refine⟨λa b _ e=>(by cases e),λe=>(by cases e),λ_=>⟨d.1,0,rfl,(j:Int),at_of hv 0,sb,0,rfl,al,at_of hsb 1,λq=>absurd q (by omega),λ_=>⟨sb,0,rfl,al,at_of hsb 1,d.1,0,rfl,(j:Int),at_of hv 0,ba,0,haa,⟨by omega,by omega⟩,some ⟨d.1,0,none⟩,hata',λa b e1 e2 hne=>?_,λ_=>⟨sb,0,rfl,pi,at_of hsb 2,d.1,0,rfl,(j:Int),at_of hv 0,b',0,ha',⟨by omega,by omega⟩,(m:Int),hat',λhz=>?_,λhz=>?_⟩,λq=>absurd rfl q⟩⟩⟩
 ·rw[e1] at e2;cases e2;exact absurd rfl hne
 ·have:m=0:=by omega
  subst this
  exact h0 ep
 ·obtain⟨m',rfl⟩:∃ m',m=m'+1:=⟨m-1,by omega⟩
  obtain⟨b,ha,hc,U,B⟩:=buf_wr1 S.i (k:=j) (by rw[nV_len,S.pl];omega) (.int .i64 (m':Int))
  rw[ha] at ha'
  cases ha'
  obtain⟨K,_⟩:=S.ni.upd S.k U
  have C:Ck [5] h _:=Ck.of_upd S.i U
  rw[nV_set] at B
  have S':=S.ckI C K (by decide) (by decide) (by decide) (by decide) (by decide) (by decide) B (by rw[length_set];exact S.pl)
  have V':=S'.v _ _ hd
  refine⟨sb,0,rfl,pi,at_of hsb 2,d.1,0,rfl,(j:Int),at_of hv 0,b',0,ha,⟨by omega,by omega⟩,((m'+1:Nat):Int),hat',b',0,ha,⟨by omega,by omega⟩,?_⟩
  dsimp only
  rw[Int.toNat_natCast,Nat.zero_add,wrap_i64 (by omega) (by omega),show((m'+1:Nat):Int)-1=(m':Int) by omega]
  have Zd:=Z.p d hdm
  refine⟨hc,gone_d S' V' Z Zd.1 Zd.2 λh2 r K2 B2 N2=>⟨r,rfl,hQ h2 r m' ep (S'.keep K2) B2⟩⟩
variable{wb nm:Nat}{lv:Lv}
theorem levels_d(V:DVer g h wb nm lv)(hQ:Q (.int .i64 (lv.length:Int)) h):F117.T (some ⟨wb,0,none⟩) h Q:=by
 obtain⟨ls,xs,L,_,hv,rfl⟩:=V
 exact⟨wb,0,rfl,ls,at_of hv 1,by dsimp only;rw[L.len];rw[length_map] at hQ;exact hQ⟩
theorem tables_d(V:DVer g h wb nm lv)(hs:totL lv<=4000000){n:Int}(hQ:∀ h' r,Keep h h'->TB h' r (tabsD lv n)->NewN h r->Q (.slice r.a r.n r.c) h'):F120.T (some ⟨wb,0,none⟩) n h Q:=by
 obtain⟨ls,xs,L,_,hv,rfl⟩:=V
 have hl:=L.len
 have nil:tabsD (xs.map (·.2)) n=[]->Q (.slice none 0 0) h:=λe=>by
  rw[e] at hQ
  exact hQ h ⟨none,0,0⟩ (Keep.refl h) (Buf.nil _ _ _) (NewN.nil _)
 refine⟨λh0=>nil (by unfold tabsD;rw[if_pos h0]),λh0=>⟨wb,0,rfl,ls,at_of hv 1,λh1=>nil ?_,λh1=>⟨wb,0,rfl,ls,at_of hv 1,?_⟩⟩⟩
 ·unfold tabsD
  rw[if_neg h0,List.getElem?_eq_none (by rw[length_map];omega)]
  rfl
 ·obtain⟨i,rfl⟩:=Int.eq_ofNat_of_zero_le (show 0<=n by omega)
  have hi:i<xs.length:=by omega
  have hx:xs[i]?=some xs[i]:=getElem?_eq_getElem hi
  generalize xs[i]=x at hx
  have hxs:x.2.length<=4000000:=Nat.le_trans (totL_mem (mem_map_of_mem (f:=λx:Sl×List Tab=>x.2) (mem_of_getElem? hx))) hs
  have et:tabsD (xs.map (·.2)) (i:Int)=x.2:=by
   unfold tabsD
   rw[if_neg (by omega),Int.toNat_natCast,getElem?_map,hx];rfl
  rw[et] at hQ
  obtain⟨b,ha,hat⟩:=L.rd hx
  have T:=L.t x (mem_of_getElem? hx)
  refine⟨b,0,ha,⟨by omega,by omega⟩,x.1,by rw[Nat.zero_add,Int.toNat_natCast];exact hat,tabV x.2,Buf.row T,tab_one _,?_⟩
  refine append_buf (Buf.nil h 6 63) rfl (by rw[tabV_len,T.n]) (by have:=T.n;dsimp only;omega) λr h2 B2 _ U2=>hQ h2 r (U2.keepNil rfl) (by unfold TB;simpa using B2) (NewN.upd (Keep.refl h) (NewN.nil h) U2).2
theorem weight_d(V:DVer g h wb nm lv)(hs:totL lv<=4000000){n:Int}(hQ:∀ h',Keep h h'->Q (.int .i64 (weightW (tabsD lv n))) h'):F118.T (some ⟨wb,0,none⟩) n h Q:=by
 have hl:(tabsD lv n).length<=4000000:=Nat.le_trans tabsD_le hs
 unfold F118.T F118.G
 refine tables_d V hs λh1 l K1 B1 _=>⟨l,rfl,?_⟩
 have hn:=tb_new B1
 refine⟨λw i h2=>h2=h1/\∃ P R,tabsD lv n=P++R/\i=(P.length:Int)/\w=weightW P,λ_ i _=>(tabsD lv n).length-i.toNat,⟨rfl,[],_,rfl,rfl,rfl⟩,?_⟩
 rintro w i h2 ⟨rfl,P,R,e,rfl,rfl⟩
 have e2:=congrArg List.length e
 rw[length_append] at e2
 refine⟨λhlt=>?_,λhge=>?_⟩
 ·rcases R with _|⟨t,R⟩
  ·exact absurd hlt (by simp at e2;omega)
  rw[length_cons] at e2
  obtain⟨b,o,ha,hi3,hat⟩:=tab_at (i:=P.length) (x:=t) B1.row (by rw[e];simp)
  refine⟨b,o,ha,⟨by omega,by omega⟩,t.weight,by rw[Int.toNat_natCast];exact hat 1 (by decide),?_⟩
  rw[next_i (n:=5000000) (by omega) (by omega)]
  refine⟨⟨rfl,P++[t],R,by rw[e];simp,by simp,?_⟩,by(try dsimp only);omega⟩
  unfold weightW
  rw[List.foldl_append];rfl
 ·have hR:R=[]:=eq_nil_of_length_eq_zero (by omega)
  subst hR
  rw[append_nil] at e
  rw[e] at hQ
  exact hQ h2 K1
theorem over_d(V:DVer g h wb nm lv)(hs:totL lv<=4000000)(hk:AllT kOk lv){n:Int}{s s1:ByteArray}(z:s.size<=9223372036854775807)(z1:s1.size<=9223372036854775807)(hQ:∀ h' r,Keep h h'->TB h' r (overM s s1 (tabsD lv n))->NewN h r->Q (.slice r.a r.n r.c) h'):F121.T (some ⟨wb,0,none⟩) n s s1 h Q:=by
 have hl:(tabsD lv n).length<=4000000:=Nat.le_trans tabsD_le hs
 have hkt:=tabsD_all (n:=n) hk
 unfold F121.T F121.G
 refine tables_d V hs λh1 l K1 B1 _=>⟨l,rfl,?_⟩
 have hn:=tb_new B1
 generalize tabsD lv n=ts at hl hkt B1 hn hQ
 refine⟨λl1 i h2=>∃ P R,ts=P++R/\i=(P.length:Int)/\Keep h1 h2/\TB h2 l1 (overM s s1 P)/\NewN h1 l1,λ_ i _=>ts.length-i.toNat,⟨[],_,rfl,rfl,Keep.refl _,Buf.nil _ _ _,NewN.nil _⟩,?_⟩
 rintro l1 i h2 ⟨P,R,e,rfl,K2,B2,N2⟩
 have e2:=congrArg List.length e
 rw[length_append] at e2
 refine⟨λhlt=>?_,λhge=>?_⟩
 ·rcases R with _|⟨t,R⟩
  ·exact absurd hlt (by simp at e2;omega)
  rw[length_cons] at e2
  have hn1:=tb_new B2
  have hfl:(overM s s1 P).length<=P.length:=List.length_filter_le _ _
  obtain⟨kz1,kz2⟩:=hkt t (by rw[e];simp)
  obtain⟨b,o,ha,hi3,hat⟩:=tab_at (i:=P.length) (x:=t) (B1.keep K2).row (by rw[e];simp)
  have skip:(blB t.greatest s=true\/blB s1 t.least=true)->(∃ P_1 R_1,ts=P_1++R_1/\wrap .i64 ((P.length:Int)+1)=(P_1.length:Int)/\Keep h1 h2/\TB h2 l1 (overM s s1 P_1)/\NewN h1 l1)/\ts.length-(wrap .i64 ((P.length:Int)+1)).toNat<ts.length-((P.length:Nat):Int).toNat:=λhc=>by
   rw[next_i (n:=5000000) (by omega) (by omega)]
   refine⟨⟨P++[t],R,by rw[e];simp,by simp,K2,?_,N2⟩,by omega⟩
   have:overM s s1 (P++[t])=overM s s1 P:=by
    unfold overM
    rw[List.filter_append]
    have:([t]:List Tab).filter (λt=>!blB t.greatest s && !blB s1 t.least)=[]:=by
     rcases hc with hc|hc<;>simp[hc]
    rw[this,append_nil]
   rw[this];exact B2
  refine⟨b,o,ha,⟨by omega,by omega⟩,t.greatest,by rw[Int.toNat_natCast];exact hat 5 (by decide),above_spec z kz2 (λhb=>⟨true,rfl,λ_=>skip (.inl (blB_t.2 hb)),λq=>Bool.noConfusion q⟩) (λhb=>⟨false,rfl,λq=>Bool.noConfusion q,λ_=>⟨b,o,ha,⟨by omega,by omega⟩,t.least,by rw[Int.toNat_natCast];exact hat 4 (by decide),above_spec kz1 z1 (λhb2=>⟨true,rfl,λ_=>skip (.inr (blB_t.2 hb2)),λq=>Bool.noConfusion q⟩) (λhb2=>⟨false,rfl,λq=>Bool.noConfusion q,λ_=>?_⟩)⟩⟩)⟩
  refine⟨b,o,ha,⟨by omega,by omega⟩,t.num,by rw[Int.toNat_natCast];exact hat 0 (by decide),t.weight,by rw[Int.toNat_natCast];exact hat 1 (by decide),t.bytes,by rw[Int.toNat_natCast];exact hat 2 (by decide),t.entries,by rw[Int.toNat_natCast];exact hat 3 (by decide),t.least,by rw[Int.toNat_natCast];exact hat 4 (by decide),t.greatest,by rw[Int.toNat_natCast];exact hat 5 (by decide),?_⟩
  refine append_buf (us:=t.cells) B2 rfl rfl (by omega) λl3 h3 B3 _ U3=>?_
  obtain⟨K3,N3⟩:=NewN.upd K2 N2 U3
  rw[next_i (n:=5000000) (by omega) (by omega)]
  refine⟨⟨P++[t],R,by rw[e];simp,by simp,K3,?_,N3⟩,by(try dsimp only);omega⟩
  have:overM s s1 (P++[t])=overM s s1 P++[t]:=by
   unfold overM
   rw[List.filter_append]
   have h1:blB t.greatest s=false:=by
    cases hq:blB t.greatest s with
    |false=>rfl
    |true=>exact absurd (blB_t.1 hq) hb
   have h2:blB s1 t.least=false:=by
    cases hq:blB s1 t.least with
    |false=>rfl
    |true=>exact absurd (blB_t.1 hq) hb2
   congr 1
   simp[h1,h2]
  rw[this]
  unfold TB
  rw[tabV_app]
  have:tabV [t]=t.cells:=by unfold tabV;simp
  rw[this]
  exact B3
 ·have hR:R=[]:=eq_nil_of_length_eq_zero (by omega)
  subst hR
  rw[append_nil] at e
  rw[e] at hQ
  exact hQ h2 l1 (K1.trans K2) B2 (N2.mono K1.dom)
theorem holds_d(V:DVer g h wb nm lv)(hs:totL lv<=4000000)(hk:AllT kOk lv){n:Int}{s:ByteArray}(z:s.size<=9223372036854775807)(hQ:∀ h' r,Keep h h'->TB h' r (holdsM n s (tabsD lv n))->NewN h r->Q (.slice r.a r.n r.c) h'):F122.T (some ⟨wb,0,none⟩) n s h Q:=by
 unfold F122.T F122.G
 refine over_d V hs hk z z λh1 l K1 B1 N1=>⟨l,rfl,λh0=>?_,λh0=>?_⟩
 ·unfold holdsM at hQ
  rw[if_pos h0] at hQ
  have hA:(overM s s (tabsD lv n)).length<=4000000:=Nat.le_trans (List.length_filter_le _ _) (Nat.le_trans tabsD_le hs)
  generalize overM s s (tabsD lv n)=A at B1 hQ hA
  have hn:=tb_new B1
  refine⟨λl1 i h2=>∃ P R,A=P++R/\i=(P.length:Int)-1/\Keep h1 h2/\TB h2 l1 R.reverse/\NewN h1 l1,λ_ i _=>(i+1).toNat,⟨A,[],by simp,by rw[wrap_i64 (by omega) (by omega)];omega,Keep.refl _,Buf.nil _ _ _,NewN.nil _⟩,?_⟩
  rintro l1 i h2 ⟨P,R,e,rfl,K2,B2,N2⟩
  have e2:=congrArg List.length e
  rw[length_append] at e2
  refine⟨λhlt=>?_,λhge=>?_⟩
  ·rcases List.eq_nil_or_concat P with rfl|⟨P',t,rfl⟩
   ·simp at hlt
   rw[List.concat_eq_append] at *
   simp only[length_append,length_singleton] at e2 hlt ⊢
   have hn1:=tb_new B2
   rw[List.length_reverse] at hn1
   have ei:((P'.length+1:Nat):Int)-1=(P'.length:Int):=by omega
   rw[ei]
   obtain⟨b,o,ha,hi3,hat⟩:=tab_at (i:=P'.length) (x:=t) (B1.keep K2).row (by rw[e];simp)
   refine⟨b,o,ha,⟨by omega,by omega⟩,t.num,by rw[Int.toNat_natCast];exact hat 0 (by decide),t.weight,by rw[Int.toNat_natCast];exact hat 1 (by decide),t.bytes,by rw[Int.toNat_natCast];exact hat 2 (by decide),t.entries,by rw[Int.toNat_natCast];exact hat 3 (by decide),t.least,by rw[Int.toNat_natCast];exact hat 4 (by decide),t.greatest,by rw[Int.toNat_natCast];exact hat 5 (by decide),?_⟩
   refine append_buf (us:=t.cells) B2 rfl rfl (by omega) λl3 h3 B3 _ U3=>?_
   obtain⟨K3,N3⟩:=NewN.upd K2 N2 U3
   rw[wrap_i64 (by omega) (by omega)]
   refine⟨⟨P',t::R,by rw[e];simp,rfl,K3,?_,N3⟩,by(try dsimp only);omega⟩
   rw[List.reverse_cons]
   unfold TB
   rw[tabV_app]
   have:tabV [t]=t.cells:=by unfold tabV;simp
   rw[this]
   exact B3
  ·have hP:P=[]:=eq_nil_of_length_eq_zero (by omega)
   subst hP
   rw[List.nil_append] at e
   rw[e] at hQ
   exact hQ h2 l1 (K1.trans K2) B2 (N2.mono K1.dom)
 ·unfold holdsM at hQ
  rw[if_neg h0] at hQ
  exact hQ h1 l K1 B1 N1
end
end Go.Eng.YtbjnlacacapjiaaGreatDoor
end
section
namespace Go.Eng
def Mem.del(m:Mem)(k:Key):Mem:=λj=>if j=k then none else m j
theorem del_self(m:Mem)(k:Key):(m.del k) k=none:=if_pos rfl
theorem del_ne(m:Mem){k j:Key}(h:j≠k):(m.del k) j=m j:=if_neg h
theorem Mine.del{h0 h:Hp}{m:Mem}(O:Mine h0 h m)(k:Key):Mine h0 h (m.del k):=O.sub λj x e=>by
 unfold Mem.del at e
 by_cases hj:j=k
 ·rw[if_pos hj] at e;cases e
 ·rw[if_neg hj] at e;exact e
theorem Mine.freeze{g h:Hp}{m:Mem}{k:Key}{x:Bf}(O:Mine g h m)(hk:m k=some x):∃ g1,Keep g g1/\Mine g1 h (m.del k)/\Buf g1 x.s x.sz x.t x.vs:=by
 have B:=O.buf k x hk
 rcases B.own with⟨ha,hc⟩|⟨b,c,f,ha,hb,h3,h4,h5⟩
 ·exact⟨g,Keep.refl g,O.del k,B.len,B.cap,.inl ⟨ha,hc⟩⟩
 ·have gb:g b=none:=by
   rcases O.new k x hk with hn|⟨b',hb',hn⟩
   ·rw[hn] at ha;cases ha
   ·rw[ha] at hb'
    simp only[Option.some.injEq,Addr.mk.injEq] at hb'
    rw[hb'.1];exact hn
  have K1:Keep g (g.new b (.cells c x.t f)):=Keep.new gb _
  have e1:(g.new b (.cells c x.t f)) b=some (.cells c x.t f):=by unfold Hp.new;rw[if_pos rfl]
  refine⟨g.new b (.cells c x.t f),K1,⟨λj y e=>?_,λj y e=>(O.del k).buf j y e,λj y e=>?_,λj j' y y' n e e'=>(O.del k).off j j' y y' n e e'⟩,B.len,B.cap,.inr ⟨b,c,f,ha,e1,h3,h4,h5⟩⟩
  ·unfold Hp.new at e
   by_cases hj:j=b
   ·rw[if_pos hj] at e;cases e;rw[hj];exact hb
   ·rw[if_neg hj] at e;exact O.keep j y e
  ·have hjk:j≠k:=λq=>by rw[q,del_self] at e;cases e
   rw[del_ne _ hjk] at e
   rcases O.new j y e with hn|⟨b',hb',hn⟩
   ·exact .inl hn
   ·refine .inr ⟨b',hb',?_⟩
    have hbb:b'≠b:=λq=>O.off j k y x hjk e hk b' 0 0 hb' (by rw[ha,q])
    unfold Hp.new;rw[if_neg hbb];exact hn
def kB:Key:=(0,0,0)
def bkF(pb R t:Nat)(cs:List Value):Bf:=⟨⟨some ⟨pb,0,none⟩,1,1⟩,R,t,cs⟩
theorem Mine.cell{g h:Hp}{m:Mem}{pb R t i:Nat}{cs:List Value}{v:Value}(O:Mine g h m)(hb:m kB=some (bkF pb R t cs))(hv:cs[i]?=some v):h.at pb (0+i)=some v:=by
 have hi:i<cs.length:=(List.getElem?_eq_some_iff.1 hv).1
 obtain⟨b,e,ha⟩:=buf_at (O.buf kB _ hb) (k:=i) hi
 cases e
 rw[ha];exact hv
theorem Mem.put_put(m:Mem)(k:Key)(x y:Bf):(m.put k x).put k y=m.put k y:=funext λj=>by
 unfold Mem.put
 by_cases hj:j=k
 ·rw[if_pos hj,if_pos hj]
 ·rw[if_neg hj,if_neg hj,if_neg hj]
theorem Mine.setCell{g h:Hp}{m:Mem}{pb R t i:Nat}{cs:List Value}{v0:Value}(O:Mine g h m)(hb:m kB=some (bkF pb R t cs))(hi:cs[i]?=some v0)(v:Value) :
  h.canW pb (0+i) 1/\Mine g (h.wr pb (0+i) [v]) (m.put kB (bkF pb R t (cs.set i v))):=by
 have hl:i<cs.length:=(List.getElem?_eq_some_iff.1 hi).1
 obtain⟨b,e,hc,U,B⟩:=buf_wr1 (O.buf kB _ hb) (k:=i) hl v
 cases e
 rw[Nat.zero_add]
 exact⟨hc,O.write hb U B⟩
def NoK(cs:List Value)(s:Nat):Prop:=∀ f,f<8->cs[s+f]?=some (.slice none 0 0)
theorem set_same{cs:List Value}{i:Nat}{v:Value}(h:cs[i]?=some v):cs.set i v=cs:=by
 apply List.ext_getElem?
 intro j
 rw[List.getElem?_set]
 by_cases hij:i=j
 ·subst hij
  rw[if_pos rfl]
  have hl:i<cs.length:=(List.getElem?_eq_some_iff.1 h).1
  rw[if_pos hl,h]
 ·rw[if_neg hij]
theorem put_same{m:Mem}{k:Key}{x:Bf}(h:m k=some x):m.put k x=m:=funext λj=>by
 unfold Mem.put
 by_cases hj:j=k
 ·rw[if_pos hj,hj,h]
 ·rw[if_neg hj]
@[reducible] def nilMarkT(pb s:Nat)(h:Hp)(Q:Value->Hp->Prop):Prop:=
 dr (some ⟨pb,0,none⟩) λb o=>ldS h b (o+(s+2)) λl=>dr (some ⟨pb,0,none⟩) λb1 o1=>ldS h b1 (o1+(s+3)) λl1=>dr (some ⟨pb,0,none⟩) λb2 o2=>ldS h b2 (o2+(s+5)) λl2=>dr (some ⟨pb,0,none⟩) λb3 o3=>ldS h b3 (o3+(s+6)) λl3=>par ((l.n:Int)=0) (Q (.tuple ⟨[]⟩) h) False
@[reducible] def nilGrowT(pb s:Nat)(h:Hp)(Q:Value->Hp->Prop):Prop:=
 ∃ (I:Int->Hp->Prop) (m:Int->Hp->Nat),I 0 h/\(∀ n:Int,∀ h1:Hp,I n h1->dr (some ⟨pb,0,none⟩) λb o=>ldS h1 b (o+(s+4)) λl=>par (n<(l.n:Int)) (False) (dr (some ⟨pb,0,none⟩) λb1 o1=>st h1 b1 (o1+(s+4)) 1 [.slice none 0 0] λh2=>dr (some ⟨pb,0,none⟩) λb2 o2=>st h2 b2 (o2+(s+7)) 1 [.slice none 0 0] λh3=>Q (.tuple ⟨[]⟩) h3))
@[reducible] def nilKeepT(pb s:Nat)(h:Hp)(Q:Value->Hp->Prop):Prop:=
 ∃ (I:Int->Hp->Prop) (m:Int->Hp->Nat),I 0 h/\(∀ n:Int,∀ h1:Hp,I n h1->dr (some ⟨pb,0,none⟩) λb o=>ldS h1 b (o+s) λl=>par (n<(l.n:Int)) (False) (∃ (I1:Int->Hp->Prop) (m1:Int->Hp->Nat),I1 0 h1/\(∀ n1:Int,∀ h2:Hp,I1 n1 h2->dr (some ⟨pb,0,none⟩) λb1 o1=>ldS h2 b1 (o1+(s+2)) λl1=>par (n1<(l1.n:Int)) (False) (Q (.bool true) h2))))
section
variable{g h:Hp}{m:Mem}{pb R t s:Nat}{cs:List Value}{Q:Value->Hp->Prop}
theorem nil_mark(O:Mine g h m)(hb:m kB=some (bkF pb R t cs))(N:NoK cs s)(hQ:Q (.tuple ⟨[]⟩) h) :
  nilMarkT pb s h Q:=
 ⟨pb,0,rfl,⟨none,0,0⟩,O.cell hb (N 2 (by decide)),pb,0,rfl,⟨none,0,0⟩,O.cell hb (N 3 (by decide)),pb,0,rfl,⟨none,0,0⟩,O.cell hb (N 5 (by decide)),pb,0,rfl,⟨none,0,0⟩,O.cell hb (N 6 (by decide)),λ_=>hQ,λhh=>absurd rfl hh⟩
theorem nil_grow(O:Mine g h m)(hb:m kB=some (bkF pb R t cs))(N:NoK cs s)(hQ:∀ h',Mine g h' m->Q (.tuple ⟨[]⟩) h') :
  nilGrowT pb s h Q:=by
 refine⟨λn h1=>n=0/\h1=h,λ_ _=>0,⟨rfl,rfl⟩,?_⟩
 rintro n h1 ⟨rfl,rfl⟩
 refine⟨pb,0,rfl,⟨none,0,0⟩,O.cell hb (N 4 (by decide)),λhh=>absurd hh (by decide),λ_=>?_⟩
 obtain⟨c1,O1⟩:=O.setCell hb (N 4 (by decide)) (.slice none 0 0)
 rw[set_same (N 4 (by decide)),put_same hb] at O1
 obtain⟨c2,O2⟩:=O1.setCell hb (N 7 (by decide)) (.slice none 0 0)
 rw[set_same (N 7 (by decide)),put_same hb] at O2
 exact⟨pb,0,rfl,c1,pb,0,rfl,c2,hQ _ O2⟩
theorem nil_keep(O:Mine g h m)(hb:m kB=some (bkF pb R t cs))(N:NoK cs s)(hQ:Q (.bool true) h) :
  nilKeepT pb s h Q:=by
 refine⟨λn h1=>n=0/\h1=h,λ_ _=>0,⟨rfl,rfl⟩,?_⟩
 rintro n h1 ⟨rfl,rfl⟩
 refine⟨pb,0,rfl,⟨none,0,0⟩,O.cell hb (N 0 (by decide)),λhh=>absurd hh (by decide),λ_=>?_⟩
 refine⟨λn h2=>n=0/\h2=h1,λ_ _=>0,⟨rfl,rfl⟩,?_⟩
 rintro n h2 ⟨rfl,rfl⟩
 exact⟨pb,0,rfl,⟨none,0,0⟩,O.cell hb (N 2 (by decide)),λhh=>absurd hh (by decide),λ_=>hQ⟩
end
end Go.Eng
end
section
namespace Go.Eng
def slv(s:Sl):Value:=.slice s.a s.n s.c
def kA(c f:Nat):Key:=(1,c,f)
def kL(c i:Nat):Key:=(2,c,i)
theorem kA_kB(c f:Nat):kA c f≠kB:=λe=>by cases e
theorem kL_kB(c f:Nat):kL c f≠kB:=λe=>by cases e
theorem kL_kA(c i d f:Nat):kL c i≠kA d f:=λe=>by cases e
theorem kA_ne{c d f e:Nat}(h:f≠e):kA c f≠kA d e:=λq=>h (by cases q;rfl)
@[reducible] def addT(pb s tL t sz bytes:Nat)(zs:List Value)(l:Sl)(mark:Int)(U:Int->Hp->(Value->Hp->Prop)->Prop)(D:Hp->(Value->Hp->Prop)->Prop)(h:Hp)(Q:Value->Hp->Prop):Prop:=
 dr (some ⟨pb,0,none⟩) λb o=>ldI .i64 h b (o+3) λn1=>dr (some ⟨pb,0,none⟩) λb1 o1=>st h b1 (o1+3) 1 [.int .i64 (wrap .i64 (n1+1))] λh1=>dr (some ⟨pb,0,none⟩) λb2 o2=>ldS h1 b2 (o2+(s+2)) λl1=>appendD l1 tL 1 24 [.slice none 0 0] 1 [.slice l.a l.n l.c] h1 λl2 h2=>dr (some ⟨pb,0,none⟩) λb3 o3=>st h2 b3 (o3+(s+2)) 1 [.slice l2.a l2.n l2.c] λh3=>dr (some ⟨pb,0,none⟩) λb4 o4=>ldS h3 b4 (o4+(s+3)) λl3=>nw h3 (.cells ⟨[]⟩ t (0,0)) λb5 h4=>h4.at b4 (o4+(s+3))=some (.slice l3.a l3.n l3.c)/\∃ vs,h4.row l.a (l.n*sz) vs/\(∀ v∈vs,Value.oneCell' v=true)/\appendD ⟨(some ⟨b5,0,none⟩),0,0⟩ t sz bytes zs l.n vs h4 λl4 h5=>h5.at b4 (o4+(s+3))=some (.slice l3.a l3.n l3.c)/\h5.at b4 (o4+(s+3))=some (.slice l3.a l3.n l3.c)/\appendD l3 tL 1 24 [.slice none 0 0] 1 [.slice l4.a l4.n l4.c] h5 λl5 h6=>dr (some ⟨pb,0,none⟩) λb6 o5=>st h6 b6 (o5+(s+3)) 1 [.slice l5.a l5.n l5.c] λh7=>dr (some ⟨pb,0,none⟩) λb7 o6=>ldS h7 b7 (o6+(s+5)) λl6=>appendD l6 3 1 8 [.int .i64 0] 1 [.int .i64 mark] h7 λl7 h8=>dr (some ⟨pb,0,none⟩) λb8 o7=>st h8 b8 (o7+(s+5)) 1 [.slice l7.a l7.n l7.c] λh9=>dr (some ⟨pb,0,none⟩) λb9 o8=>ldS h9 b9 (o8+(s+6)) λl8=>dr (some ⟨pb,0,none⟩) λb10 o9=>ldI .i64 h9 b10 (o9+(s+8)) λn2=>U n2 h9 λr h10=>retI .i64 r λn3=>h10.at b9 (o8+(s+6))=some (.slice l8.a l8.n l8.c)/\h10.at b9 (o8+(s+6))=some (.slice l8.a l8.n l8.c)/\appendD l8 3 1 8 [.int .i64 0] 1 [.int .i64 n3] h10 λl9 h11=>dr (some ⟨pb,0,none⟩) λb11 o10=>st h11 b11 (o10+(s+6)) 1 [.slice l9.a l9.n l9.c] λh12=>dr (some ⟨pb,0,none⟩) λb12 o11=>ldI .i64 h12 b12 (o11+(s+8)) λn4=>dr (some ⟨pb,0,none⟩) λb13 o12=>st h12 b13 (o12+(s+8)) 1 [.int .i64 (wrap .i64 (n4+1))] λh13=>D h13 λr1 h14=>Q (.tuple ⟨[]⟩) h14
section
variable{g h:Hp}{m:Mem}{pb R t s f c tA bt:Nat}{cs us:List Value}{z v:Value}{A:Sl}{K:Hp->Prop}
theorem app_f(O:Mine g h m)(hb:m kB=some (bkF pb R t cs))(ha:m (kA c f)=some ⟨A,1,tA,us⟩)(hc:cs[s+f]?=some (slv A))(hl:(us.length+1)*bt<=140737488355328)
  (hK:∀ h' A' m' cs',Mine g h' m'->m' kB=some (bkF pb R t cs')->m' (kA c f)=some ⟨A',1,tA,us++[v]⟩->(∀ j,j≠kB->j≠kA c f->m' j=m j)->cs'[s+f]?=some (slv A')->(∀ i,i≠s+f->cs'[i]?=cs[i]?)->K h') :
  appendD A tA 1 bt [z] 1 [v] h λl2 h2=>dr (some ⟨pb,0,none⟩) λb3 o3=>st h2 b3 (o3+(s+f)) 1 [.slice l2.a l2.n l2.c] λh3=>K h3:=by
 have B:=O.buf _ _ ha
 have hn:A.n=us.length:=by have:=B.len;simp only[Nat.mul_one] at this;omega
 refine append_buf B rfl rfl (by rw[hn];exact hl) λl2 h2 B2 _ U2=>?_
 have O2:=O.write ha U2 B2
 have hb2:(m.put (kA c f) ⟨l2,1,tA,us++[v]⟩) kB=some (bkF pb R t cs):=by rw[put_ne _ _ (Ne.symm (kA_kB c f))];exact hb
 obtain⟨c2,O3⟩:=O2.setCell hb2 hc (slv l2)
 refine⟨pb,0,rfl,c2,hK _ l2 _ _ O3 (put_self _ _ _) (by rw[put_ne _ _ (kA_kB c f),put_self]) (λj h1 h2=>by rw[put_ne _ _ h1,put_ne _ _ h2]) (getElem?_set_self (List.getElem?_eq_some_iff.1 hc).1) λi hi=>getElem?_set_ne (Ne.symm hi)⟩
def kT:Key:=(9,9,9)
theorem put_del{m:Mem}{k:Key}(h:m k=none)(x:Bf):(m.put k x).del k=m:=funext λj=>by
 unfold Mem.del Mem.put
 by_cases hj:j=k
 ·rw[if_pos hj,hj,h]
 ·rw[if_neg hj,if_neg hj]
theorem copy_f{sz bytes:Nat}{zs vs:List Value}{l:Sl}{P:Hp->Prop}{K:Sl->Hp->Prop}(hP:∀ h',Keep h h'->P h')(O:Mine g h m)(hk:m kT=none)(hr:h.row l.a (l.n*sz) vs)(hone:∀ v∈vs,Value.oneCell' v=true)(hz:zs.length=sz)(hn:l.n*bytes<=140737488355328)
  (hK:∀ (l4:Sl) (h5 g':Hp),Keep g g'->Mine g' h5 m->g'.row l4.a (l4.n*sz) vs->l4.n=l.n->Keep h h5->K l4 h5) :
  nw h (.cells ⟨[]⟩ t (0,0)) λb5 h4=>P h4/\∃ vs,h4.row l.a (l.n*sz) vs/\(∀ v∈vs,Value.oneCell' v=true)/\appendD ⟨(some ⟨b5,0,none⟩),0,0⟩ t sz bytes zs l.n vs h4 λl4 h5=>K l4 h5:=by
 intro b hbn
 have k0:=Keep.new hbn (.cells ⟨[]⟩ t (0,0))
 have B0:=buf_new (h:=h) (b:=b) (t:=t) (sz:=sz) (n:=0) [] (by simp)
 have N0:NewB h ⟨some ⟨b,0,none⟩,0,0⟩:=.inr ⟨b,rfl,hbn⟩
 have r0:=k0.row hr
 generalize h.new b (.cells ⟨[]⟩ t (0,0))=h1 at k0 B0 r0 ⊢
 refine⟨hP _ k0,vs,r0,hone,?_⟩
 refine append_buf B0 hz r0.1 (by show(0+l.n)*bytes<=_;rw[Nat.zero_add];exact hn) λl4 h5 B5 hn5 U5=>?_
 rw[List.nil_append] at B5
 have K5:Keep h h5:=keepB k0 N0 U5
 have N5:NewB h l4:=newB k0 N0 U5
 have O5:=O.add hk K5 N5 B5
 obtain⟨g',Kg,Og,Bg⟩:=O5.freeze (put_self _ _ _)
 rw[put_del hk] at Og
 exact hK l4 h5 g' Kg Og Bg.row (by rw[hn5];show 0+l.n=_;omega) K5
theorem keep_at{h h':Hp}(K:Keep h h'){b o:Nat}{v:Value}(e:h.at b o=some v):h'.at b o=some v:=by
 unfold Hp.at at e ⊢
 cases hb:h b with
 |none=>rw[hb] at e;cases e
 |some x=>rw[hb] at e;rw[K b x hb];exact e
structure AddK(g:Hp)(m:Mem)(cs:List Value)(c s:Nat)(tL:Nat)(v2 v3 v5 v6:List Value)(seen deep:Int)(l nt:Sl)(mark due:Int)(m':Mem)(cs':List Value):Prop where
 a2:∃ A,m' (kA c 2)=some ⟨A,1,tL,v2++[slv l]⟩/\cs'[s+2]?=some (slv A)
 a3:∃ A,m' (kA c 3)=some ⟨A,1,tL,v3++[slv nt]⟩/\cs'[s+3]?=some (slv A)
 a5:∃ A,m' (kA c 5)=some ⟨A,1,3,v5++[.int .i64 mark]⟩/\cs'[s+5]?=some (slv A)
 a6:∃ A,m' (kA c 6)=some ⟨A,1,3,v6++[.int .i64 due]⟩/\cs'[s+6]?=some (slv A)
 seen:cs'[s+8]?=some (.int .i64 (wrap .i64 (seen+1)))
 deep:cs'[3]?=some (.int .i64 (wrap .i64 (deep+1)))
 rest:∀ i,i≠3->i≠s+2->i≠s+3->i≠s+5->i≠s+6->i≠s+8->cs'[i]?=cs[i]?
 mem:∀ j,j≠kB->j≠kA c 2->j≠kA c 3->j≠kA c 5->j≠kA c 6->m' j=m j
theorem add_k{tL sz bytes:Nat}{zs vs v2 v3 v5 v6:List Value}{l A2 A3 A5 A6:Sl}{seen deep turn mark:Int}{U:Int->Hp->(Value->Hp->Prop)->Prop}{D:Hp->(Value->Hp->Prop)->Prop}{Q:Value->Hp->Prop}
  (hU:∀ n h9 K,h9.at pb (0+0)=some (.bool false)->h9.at pb (0+2)=some (.int .i64 turn)->(∀ d,K (.int .i64 d) h9)->U n h9 K)
  (O:Mine g h m) (hb:m kB=some (bkF pb R tA cs)) (hk:m kT=none) (hs:4<=s)
  (c0:cs[0]?=some (.bool false)) (c2:cs[2]?=some (.int .i64 turn)) (c3:cs[3]?=some (.int .i64 deep)) (c8:cs[s+8]?=some (.int .i64 seen))
  (m2:m (kA c 2)=some ⟨A2,1,tL,v2⟩) (e2:cs[s+2]?=some (slv A2)) (m3:m (kA c 3)=some ⟨A3,1,tL,v3⟩) (e3:cs[s+3]?=some (slv A3))
  (m5:m (kA c 5)=some ⟨A5,1,3,v5⟩) (e5:cs[s+5]?=some (slv A5)) (m6:m (kA c 6)=some ⟨A6,1,3,v6⟩) (e6:cs[s+6]?=some (slv A6))
  (l2:v2.length<=1000000) (l3:v3.length<=1000000) (l5:v5.length<=1000000) (l6:v6.length<=1000000)
  {id:Nat} (hl:m (kL c id)=some ⟨l,sz,t,vs⟩) (hone:∀ v∈vs,Value.oneCell' v=true) (hz:zs.length=sz) (hn:l.n*bytes<=140737488355328)
  (hD:∀ h' g' m' cs' nt due,Keep g g'->Mine g' h' m'->m' kB=some (bkF pb R tA cs')->AddK g m cs c s tL v2 v3 v5 v6 seen deep l nt mark due m' cs'->g'.row nt.a (nt.n*sz) vs->nt.n=l.n->D h' λr1 h14=>Q (.tuple ⟨[]⟩) h14) :
  addT pb s tL t sz bytes zs l mark U D h Q:=by
 obtain⟨w1,O1⟩:=O.setCell hb c3 (.int .i64 (wrap .i64 (deep+1)))
 refine⟨pb,0,rfl,deep,O.cell hb c3,pb,0,rfl,w1,?_⟩
 generalize hcs1:cs.set 3 (.int .i64 (wrap .i64 (deep+1)))=cs1 at O1
 have g1:∀ i,i≠3->cs1[i]?=cs[i]?:=λi hi=>by rw[<- hcs1,getElem?_set_ne (Ne.symm hi)]
 have d1:cs1[3]?=some (.int .i64 (wrap .i64 (deep+1))):=by rw[<- hcs1,getElem?_set_self (List.getElem?_eq_some_iff.1 c3).1]
 have hb1:=put_self m kB (bkF pb R tA cs1)
 have n1:∀ j,j≠kB->(m.put kB (bkF pb R tA cs1)) j=m j:=λj hj=>put_ne _ _ hj
 generalize m.put kB (bkF pb R tA cs1)=M1 at O1 hb1 n1
 generalize h.wr pb (0+3) _=h1 at O1 ⊢
 refine⟨pb,0,rfl,A2,O1.cell hb1 (by rw[g1 _ (by omega)];exact e2),?_⟩
 refine app_f (v:=slv l) O1 hb1 (by rw[n1 _ (kA_kB _ _)];exact m2) (by rw[g1 _ (by omega)];exact e2) (by omega) λh3 B2 M2 cs2 O2 hb2 p2 n2 q2 g2=>?_
 have f3:cs2[s+3]?=some (slv A3):=by rw[g2 _ (by omega),g1 _ (by omega)];exact e3
 refine⟨pb,0,rfl,A3,O2.cell hb2 f3,?_⟩
 have hl2:M2 (kL c id)=some ⟨l,sz,t,vs⟩:=by rw[n2 _ (kL_kB _ _) (kL_kA _ _ _ _),n1 _ (kL_kB _ _)];exact hl
 have hk2:M2 kT=none:=by rw[n2 _ (λe=>by cases e) (λe=>by cases e),n1 _ (λe=>by cases e)];exact hk
 refine copy_f (λh' K'=>keep_at K' (O2.cell hb2 f3)) O2 hk2 (O2.buf _ _ hl2).row hone hz hn λnt h5 g' Kg O3 rnt hnt K5=>?_
 refine⟨O3.cell hb2 f3,O3.cell hb2 f3,?_⟩
 refine app_f (v:=slv nt) O3 hb2 (by rw[n2 _ (kA_kB _ _) (kA_ne (by decide)),n1 _ (kA_kB _ _)];exact m3) f3 (by omega) λh7 B3 M3 cs3 O4 hb3 p3 n3 q3 g3=>?_
 have f5:cs3[s+5]?=some (slv A5):=by rw[g3 _ (by omega),g2 _ (by omega),g1 _ (by omega)];exact e5
 refine⟨pb,0,rfl,A5,O4.cell hb3 f5,?_⟩
 refine app_f (v:=.int .i64 mark) O4 hb3 (by rw[n3 _ (kA_kB _ _) (kA_ne (by decide)),n2 _ (kA_kB _ _) (kA_ne (by decide)),n1 _ (kA_kB _ _)];exact m5) f5 (by omega) λh9 B5 M5 cs5 O5 hb5 p5 n5 q5 g5=>?_
 have f6:cs5[s+6]?=some (slv A6):=by rw[g5 _ (by omega),g3 _ (by omega),g2 _ (by omega),g1 _ (by omega)];exact e6
 have f8:cs5[s+8]?=some (.int .i64 seen):=by rw[g5 _ (by omega),g3 _ (by omega),g2 _ (by omega),g1 _ (by omega)];exact c8
 refine⟨pb,0,rfl,A6,O5.cell hb5 f6,pb,0,rfl,seen,O5.cell hb5 f8,?_⟩
 refine hU _ _ _ (O5.cell hb5 (by rw[g5 _ (by omega),g3 _ (by omega),g2 _ (by omega),g1 _ (by omega)];exact c0)) (O5.cell hb5 (by rw[g5 _ (by omega),g3 _ (by omega),g2 _ (by omega),g1 _ (by omega)];exact c2)) λdue=>⟨due,rfl,O5.cell hb5 f6,O5.cell hb5 f6,?_⟩
 refine app_f (v:=.int .i64 due) O5 hb5 (by rw[n5 _ (kA_kB _ _) (kA_ne (by decide)),n3 _ (kA_kB _ _) (kA_ne (by decide)),n2 _ (kA_kB _ _) (kA_ne (by decide)),n1 _ (kA_kB _ _)];exact m6) f6 (by omega) λh12 B6 M6 cs6 O6 hb6 p6 n6 q6 g6=>?_
 have f8':cs6[s+8]?=some (.int .i64 seen):=by rw[g6 _ (by omega)];exact f8
 obtain⟨w7,O7⟩:=O6.setCell hb6 f8' (.int .i64 (wrap .i64 (seen+1)))
 refine⟨pb,0,rfl,seen,O6.cell hb6 f8',pb,0,rfl,w7,?_⟩
 have g7:∀ i,i≠s+8->(cs6.set (s+8) (.int .i64 (wrap .i64 (seen+1))))[i]?=cs6[i]?:=λi hi=>getElem?_set_ne (Ne.symm hi)
 have n7:∀ j,j≠kB->(M6.put kB (bkF pb R tA (cs6.set (s+8) (.int .i64 (wrap .i64 (seen+1)))))) j=M6 j:=λj hj=>put_ne _ _ hj
 refine hD _ g' _ _ nt due Kg O7 (put_self _ _ _) ⟨⟨B2,?_,?_⟩,⟨B3,?_,?_⟩,⟨B5,?_,?_⟩,⟨B6,?_,?_⟩,getElem?_set_self (List.getElem?_eq_some_iff.1 f8').1,?_,λi h3 h2 h3' h5 h6 h8=>?_,λj hB h2 h3 h5 h6=>?_⟩ rnt hnt
 ·rw[n7 _ (kA_kB _ _),n6 _ (kA_kB _ _) (kA_ne (by decide)),n5 _ (kA_kB _ _) (kA_ne (by decide)),n3 _ (kA_kB _ _) (kA_ne (by decide))];exact p2
 ·rw[g7 _ (by omega),g6 _ (by omega),g5 _ (by omega),g3 _ (by omega)];exact q2
 ·rw[n7 _ (kA_kB _ _),n6 _ (kA_kB _ _) (kA_ne (by decide)),n5 _ (kA_kB _ _) (kA_ne (by decide))];exact p3
 ·rw[g7 _ (by omega),g6 _ (by omega),g5 _ (by omega)];exact q3
 ·rw[n7 _ (kA_kB _ _),n6 _ (kA_kB _ _) (kA_ne (by decide))];exact p5
 ·rw[g7 _ (by omega),g6 _ (by omega)];exact q5
 ·rw[n7 _ (kA_kB _ _)];exact p6
 ·rw[g7 _ (by omega)];exact q6
 ·rw[g7 _ (by omega),g6 _ (by omega),g5 _ (by omega),g3 _ (by omega),g2 _ (by omega)];exact d1
 ·rw[g7 _ h8,g6 _ h6,g5 _ h5,g3 _ h3',g2 _ h2,g1 _ h3]
 ·rw[n7 _ hB,n6 _ hB h6,n5 _ hB h5,n3 _ hB h3,n2 _ hB h2,n1 _ hB]
end
end Go.Eng
end
section
namespace Go.Eng
theorem append_two{h:Hp}{s:Sl}{sz t bytes m:Nat}{z vs us:List Value}{K:Sl->Hp->Prop}(B:Buf h s sz t vs)(hz:z.length=sz)(hu:us.length=m*sz)(hb:(s.n+m)*bytes<=140737488355328)
  (hK1:∀ s' h',Buf h' s' sz t (vs++us)->s'.n=s.n+m->s'.a=s.a->Upd h h' s s'->K s' h') (hK2:∀ s' h',Buf h' s' sz t (vs++us)->s'.n=s.n+m->NewB h s'->Keep h h'->K s' h'):appendD s t sz bytes z m us h K:=by
 refine⟨hb,λhle=>?_,λhlt=>⟨vs,B.row,λb c hbn hc=>?_⟩⟩
 ·rcases B.own with⟨ha,hc⟩|⟨b,c,f,ha,hbb,hsz,hf,ht⟩
  ·have hm:m=0/\s.n=0:=by omega
   have hus:us=[]:=eq_nil_of_length_eq_zero (by rw[hu,hm.1];simp)
   subst hus
   refine⟨.inl rfl,hK1 _ _ ⟨?_,by show s.n+m<=s.c;omega,.inl ⟨ha,hc⟩⟩ rfl rfl ⟨λk x _ e=>?_,.inl rfl,λk e=>?_⟩⟩
   ·have:=B.len;simp only[append_nil,this,hm.1,Nat.add_zero]
   ·rw[wrA_nil];exact e
   ·rw[wrA_nil] at e;exact e
  ·have hmul:s.n*sz+m*sz<=c.size:=by
    rw[<- Nat.add_mul]
    exact Nat.le_trans (Nat.mul_le_mul_right _ hle) hsz
   have haddr:s.a.map (·.add (s.n*sz))=some ⟨b,s.n*sz,none⟩:=by rw[ha];simp[addr_add]
   rw[haddr]
   have hcl:c.toList.length=c.size:=by simp
   refine⟨.inr ⟨b,s.n*sz,rfl,c,t,f,hbb,by omega,λj h1 h2=>hf j (by omega)⟩,hK1 _ _ ⟨?_,by show s.n+m<=s.c;exact hle,.inr ⟨b,(setL c.toList (s.n*sz) us).toArray,f,ha,?_,?_,?_,?_⟩⟩ rfl rfl ⟨λk x hk e=>?_,.inl rfl,λk e=>?_⟩⟩
   ·simp only[length_append,B.len,hu,Nat.add_mul]
   ·simp only[Hp.wrA,Hp.wr,if_pos,hbb]
   ·simp only[List.size_toArray,setL_length,hcl];exact hsz
   ·intro j hj
    simp only[List.size_toArray,setL_length,hcl] at hj
    exact hf j hj
   ·apply List.ext_getElem?
    intro j
    rw[List.getElem?_take]
    simp only[List.toList_toArray]
    rw[setL_get' _ _ _ _ (by rw[hcl,hu];exact hmul)]
    have hl:=B.len
    by_cases h1:j<(vs++us).length
    ·rw[if_pos h1]
     simp only[length_append] at h1
     by_cases h2:s.n*sz<=j
     ·rw[if_pos ⟨h2,by omega⟩,getElem?_append_right (by omega),hl]
     ·rw[if_neg (by omega),getElem?_append_left (by omega)]
      rw[<- ht,List.getElem?_take,if_pos (by omega)]
    ·rw[if_neg h1,List.getElem?_eq_none (by omega)]
   ·simp only[Hp.wrA,Hp.wr]
    rw[if_neg (λe=>hk 0 (by rw[e];exact ha))]
    exact e
   ·simp only[Hp.wrA,Hp.wr] at e
    by_cases hkb:k=b
    ·rw[if_pos hkb,hbb] at e;cases e
    ·rw[if_neg hkb] at e;exact e
 ·have hsize:(vs++us++zerosV z (c-(s.n+m))).length=c*sz:=by
   simp only[length_append,B.len,hu,zerosV_length,hz]
   rw[<- Nat.add_mul,<- Nat.add_mul]
   congr 1
   omega
  refine hK2 _ _ ⟨?_,hc,.inr ⟨b,_,(0,0),rfl,by unfold Hp.new;rw[if_pos rfl],?_,λj _=>by simp,?_⟩⟩ rfl (.inr ⟨b,rfl,hbn⟩) (Keep.new hbn _)
  ·simp only[length_append,B.len,hu,Nat.add_mul]
  ·simp only[List.size_toArray,hsize,Nat.le_refl]
  ·simp only[List.toList_toArray]
   rw[List.take_left' rfl]
def Cols(KD:Nat->Value->Prop)(sz:Nat)(vs:List Value):Prop:=∀ i v,vs[i]?=some v->KD (i % sz) v
theorem Cols.nil(KD:Nat->Value->Prop)(sz:Nat):Cols KD sz []:=λi v e=>by simp at e
theorem Cols.app{KD:Nat->Value->Prop}{sz n:Nat}{vs us:List Value}(A:Cols KD sz vs)(B:Cols KD sz us)(hl:vs.length=n*sz):Cols KD sz (vs++us):=λi v e=>by
 by_cases hi:i<vs.length
 ·rw[getElem?_append_left hi] at e;exact A i v e
 ·rw[getElem?_append_right (by omega)] at e
  have:=B _ v e
  rw[hl] at this hi
  have e2:i=(i-n*sz)+n*sz:=by omega
  rw[e2,Nat.add_mul_mod_self_right]
  exact this
theorem Cols.take{KD:Nat->Value->Prop}{sz:Nat}{vs:List Value}(A:Cols KD sz vs)(k:Nat):Cols KD sz (vs.take k):=λi v e=>by
 rw[List.getElem?_take] at e
 by_cases hi:i<k
 ·rw[if_pos hi] at e;exact A i v e
 ·rw[if_neg hi] at e;cases e
theorem Cols.drop{KD:Nat->Value->Prop}{sz:Nat}{vs:List Value}(A:Cols KD sz vs)(k:Nat):Cols KD sz (vs.drop (k*sz)):=λi v e=>by
 rw[List.getElem?_drop] at e
 have:=A _ v e
 rw[Nat.add_comm,Nat.add_mul_mod_self_right] at this
 exact this
theorem Cols.one{KD:Nat->Value->Prop}{sz:Nat}{vs:List Value}(A:Cols KD sz vs)(h:∀ c v,KD c v->Value.oneCell' v=true):∀ v∈vs,Value.oneCell' v=true:=λv hv=>by
 obtain⟨i,hi,e⟩:=List.getElem_of_mem hv
 exact h _ v (A i v (by rw[getElem?_eq_getElem hi,e]))
theorem row_pre{h:Hp}{A:Option Addr}{n k:Nat}{vs us:List Value}(R:h.row A n (vs++us))(hk:vs.length=k):h.row A k vs:=by
 refine⟨hk,?_⟩
 have hl:=R.1
 rw[length_append] at hl
 rcases R.2 with h0|⟨b,o,ha,hat⟩
 ·exact .inl (by omega)
 ·refine .inr ⟨b,o,ha,λj hj=>?_⟩
  rw[hat j (by omega),getElem?_append_left (by omega)]
theorem del_put(m:Mem)(k:Key)(x y:Bf):((m.put k x).del k).put k y=m.put k y:=funext λj=>by
 by_cases hj:j=k
 ·rw[hj,put_self,put_self]
 ·rw[put_ne _ _ hj,del_ne _ hj,put_ne _ _ hj,put_ne _ _ hj]
theorem del_put'(m:Mem)(k:Key)(x:Bf):(m.put k x).del k=m.del k:=funext λj=>by
 by_cases hj:j=k
 ·rw[hj,del_self,del_self]
 ·rw[del_ne _ hj,put_ne _ _ hj,del_ne _ hj]
section
variable{g h:Hp}{m:Mem}{pb R t s c tA bt sz bytes:Nat}{cs us zs fv:List Value}{z v:Value}{fs:Sl}
theorem lay_on{KD:Nat->Value->Prop}{k:Key}{WR:Int->Hp->(List Value->Hp->Prop)->Prop}{K:Sl->Hp->Prop}(O:Mine g h m)(hl:m k=some ⟨fs,sz,t,fv⟩)(hWR:∀ i h' K,Keep g h'->(∀ h'' us,Keep h' h''->us.length=sz->Cols KD sz us->K us h'')->WR i h' K)(hone:Cols KD sz fv)(hz:zs.length=sz)(hn:(fs.n+30)*bytes<=140737488355328)
  (hK:∀ (l4:Sl) (h2 g':Hp) (us:List Value),Keep g g'->Mine g' h2 (m.del k)->g'.row fs.a (fs.n*sz) fv->g'.row l4.a (l4.n*sz) us->Cols KD sz us->l4.n=fs.n+30->K l4 h2) :
  ∃ (I1:Sl->Int->Hp->Prop) (m1:Sl->Int->Hp->Nat),I1 fs 0 h/\(∀ l4:Sl,∀ n2:Int,∀ h2:Hp,I1 l4 n2 h2->par (n2<30) (WR n2 h2 λus h3=>appendD l4 t sz bytes zs 1 us h3 λl5 h4=>I1 l5 (wrap .i64 (n2+1)) h4/\m1 l5 (wrap .i64 (n2+1)) h4<m1 l4 n2 h2) (K l4 h2)):=by
 have hfl:fv.length=fs.n*sz:=(O.buf _ _ hl).len
 have mulle:∀ x:Nat,x<=fs.n+30->x*bytes<=140737488355328:=λx hx=>Nat.le_trans (Nat.mul_le_mul_right _ hx) hn
 refine⟨λl4 n2 h2=>∃ (j:Nat) (us:List Value) (g':Hp),n2=(j:Int)/\j<=30/\Keep g g'/\Mine g' h2 (m.put k ⟨l4,sz,t,fv++us⟩)/\Cols KD sz us/\us.length=j*sz/\l4.n=fs.n+j/\(l4.a=fs.a\/g'.row fs.a (fs.n*sz) fv),λ_ n2 _=>30-n2.toNat,⟨0,[],g,rfl,by decide,Keep.refl g,by rw[append_nil,put_same hl];exact O,Cols.nil _ _,by simp,rfl,.inl rfl⟩,?_⟩
 rintro l4 n2 h2 ⟨j,us,g',rfl,hj,Kg,O2,hus,hul,hn4,hor⟩
 have B2:=O2.buf k _ (put_self _ _ _)
 refine⟨λhlt=>?_,λhge=>?_⟩
 ·have w3:wrap .i64 ((j:Int)+1)=((j+1:Nat):Int):=nx_i (n:=30) (by omega) (by omega)
  rw[w3]
  refine hWR _ _ _ (Kg.trans O2.keep) λhw V KV hV cV=>?_
  replace O2:=O2.keepH KV
  have B2:=O2.buf k _ (put_self _ _ _)
  have hus':Cols KD sz (us++V):=hus.app cV hul
  have hul':(us++V).length=(j+1)*sz:=by rw[length_append,hV,hul,Nat.add_mul,Nat.one_mul]
  refine append_two B2 hz (by rw[hV,Nat.one_mul]) (mulle _ (by omega)) (λl5 h3 B3 hn5 ha U3=>?_) (λl5 h3 B3 hn5 N3 K3=>?_)
  ·have O3:=O2.write (put_self _ _ _) U3 B3
   rw[Mem.put_put,List.append_assoc] at O3
   exact⟨⟨j+1,us++V,g',rfl,by omega,Kg,O3,hus',hul',by rw[hn5];omega,by rw[ha];exact hor⟩,by dsimp only;omega⟩
  ·obtain⟨g1,Kg1,O3,Bg⟩:=O2.freeze (put_self _ _ _)
   have O4:=O3.add (del_self _ _) K3 N3 B3
   rw[del_put,List.append_assoc] at O4
   refine⟨⟨j+1,us++V,g1,rfl,by omega,Kg.trans Kg1,O4,hus',hul',by rw[hn5];omega,.inr ?_⟩,by dsimp only;omega⟩
   rcases hor with ha|hr
   ·have:=Bg.row
    dsimp only at this
    rw[ha] at this
    exact row_pre this hfl
   ·exact Kg1.row hr
 ·have hj30:j=30:=by omega
  subst hj30
  obtain⟨g1,Kg1,O3,Bg⟩:=O2.freeze (put_self _ _ _)
  rw[del_put'] at O3
  refine hK l4 h2 g1 (fv++us) (Kg.trans Kg1) O3 ?_ Bg.row (hone.app hus hfl) hn4
  rcases hor with ha|hr
  ·have:=Bg.row
   dsimp only at this
   rw[ha] at this
   exact row_pre this hfl
  ·exact Kg1.row hr
end
end Go.Eng
end
section
namespace Go.Eng
structure FR where
 id:Nat
 s:Sl
 td:Sl
 fv:List Value
 mark:Int
def Fz(g:Hp)(KD:Nat->Value->Prop)(sz:Nat)(p:Sl×Sl):Prop:=∃ vs,Cols KD sz vs/\g.row p.1.a (p.1.n*sz) vs/\g.row p.2.a (p.2.n*sz) vs/\p.1.n=p.2.n/\p.1.n<=140737488355328
theorem Fz.keep{g g':Hp}{KD:Nat->Value->Prop}{sz:Nat}{p:Sl×Sl}(K:Keep g g')(F:Fz g KD sz p):Fz g' KD sz p:=by
 obtain⟨vs,d,a,b,c⟩:=F
 exact⟨vs,d,K.row a,K.row b,c⟩
structure GrS(g:Hp)(m:Mem)(cs:List Value)(KD:Nat->Value->Prop)(pb R tB c s tL sz t bytes:Nat)(A4 A7:Sl)(fa rm:List FR)(outs:List (Sl×Sl)):Prop where
 hb:m kB=some (bkF pb R tB cs)
 kt:m kT=none
 a0:∃ A,m (kA c 0)=some ⟨A,1,tL,outs.map λp=>slv p.1⟩/\cs[s+0]?=some (slv A)
 a1:∃ A,m (kA c 1)=some ⟨A,1,tL,outs.map λp=>slv p.2⟩/\cs[s+1]?=some (slv A)
 a4:m (kA c 4)=some ⟨A4,1,tL,fa.map λf=>slv f.s⟩/\cs[s+4]?=some (slv A4)
 a7:m (kA c 7)=some ⟨A7,1,3,fa.map λf=>.int .i64 f.mark⟩/\cs[s+7]?=some (slv A7)
 f:∀ f∈rm,m (kL c f.id)=some ⟨f.s,sz,t,f.fv⟩/\Cols KD sz f.fv/\(f.s.n+30)*bytes<=140737488355328/\g.row f.td.a (f.td.n*sz) f.fv/\f.s.n=f.td.n
 nd:(rm.map (·.id)).Nodup
 o:∀ p∈outs,Fz g KD sz p\/∃ f∈rm,p=(f.s,f.td)
@[reducible] def growT(pb s tL t sz bytes:Nat)(zs:List Value)(WR:Int->Int->Hp->(List Value->Hp->Prop)->Prop)(h:Hp)(Q:Value->Hp->Prop):Prop:=
 ∃ (I:Int->Hp->Prop) (m:Int->Hp->Nat),I 0 h/\(∀ n:Int,∀ h1:Hp,I n h1->dr (some ⟨pb,0,none⟩) λb o=>ldS h1 b (o+(s+4)) λl=>par (n<(l.n:Int)) (dr (some ⟨pb,0,none⟩) λb1 o1=>ldS h1 b1 (o1+(s+7)) λl1=>ix l1.a n l1.n λb2 o2=>ldI .i64 h1 b2 (o2+n.toNat) λn1=>dr (some ⟨pb,0,none⟩) λb3 o3=>ldS h1 b3 (o3+(s+4)) λl2=>ix l2.a n l2.n λb4 o4=>ldS h1 b4 (o4+n.toNat) λl3=>∃ (I1:Sl->Int->Hp->Prop) (m1:Sl->Int->Hp->Nat),I1 l3 0 h1/\(∀ l4:Sl,∀ n2:Int,∀ h2:Hp,I1 l4 n2 h2->par (n2<30) (WR n1 n2 h2 λus h3=>appendD l4 t sz bytes zs 1 us h3 λl5 h4=>I1 l5 (wrap .i64 (n2+1)) h4/\m1 l5 (wrap .i64 (n2+1)) h4<m1 l4 n2 h2) (dr (some ⟨pb,0,none⟩) λb5 o5=>ldS h2 b5 (o5+(s+0)) λl6=>appendD l6 tL 1 24 [.slice none 0 0] 1 [.slice l4.a l4.n l4.c] h2 λl7 h4=>dr (some ⟨pb,0,none⟩) λb6 o6=>st h4 b6 (o6+(s+0)) 1 [.slice l7.a l7.n l7.c] λh5=>dr (some ⟨pb,0,none⟩) λb7 o7=>ldS h5 b7 (o7+(s+1)) λl8=>nw h5 (.cells ⟨[]⟩ t (0,0)) λb8 h6=>h6.at b7 (o7+(s+1))=some (.slice l8.a l8.n l8.c)/\∃ vs,h6.row l4.a (l4.n*sz) vs/\(∀ v∈vs,Value.oneCell' v=true)/\appendD ⟨(some ⟨b8,0,none⟩),0,0⟩ t sz bytes zs l4.n vs h6 λl9 h7=>h7.at b7 (o7+(s+1))=some (.slice l8.a l8.n l8.c)/\h7.at b7 (o7+(s+1))=some (.slice l8.a l8.n l8.c)/\appendD l8 tL 1 24 [.slice none 0 0] 1 [.slice l9.a l9.n l9.c] h7 λl10 h8=>dr (some ⟨pb,0,none⟩) λb9 o8=>st h8 b9 (o8+(s+1)) 1 [.slice l10.a l10.n l10.c] λh9=>I (wrap .i64 (n+1)) h9/\m (wrap .i64 (n+1)) h9<m n h1))) (dr (some ⟨pb,0,none⟩) λb10 o9=>st h1 b10 (o9+(s+4)) 1 [.slice none 0 0] λh10=>dr (some ⟨pb,0,none⟩) λb11 o10=>st h10 b11 (o10+(s+7)) 1 [.slice none 0 0] λh11=>Q (.tuple ⟨[]⟩) h11))
section
variable{g h:Hp}{m:Mem}{pb R tB t s c tL sz bytes:Nat}{cs zs:List Value}{A4 A7:Sl}{fa:List FR}{outs:List (Sl×Sl)}{Q:Value->Hp->Prop}{KD:Nat->Value->Prop}
theorem grow_k{WR:Int->Int->Hp->(List Value->Hp->Prop)->Prop}(O:Mine g h m)(G0:GrS g m cs KD pb R tB c s tL sz t bytes A4 A7 fa fa outs)(hWR:∀ a i h' K,Keep g h'->(∀ h'' us,Keep h' h''->us.length=sz->Cols KD sz us->K us h'')->WR a i h' K)(hKD:∀ c v,KD c v->Value.oneCell' v=true)(hby:0<bytes)(hz:zs.length=sz)(hfa:fa.length<=1000000)(hou:outs.length<=1000000000)
  (hQ:∀ (h' g':Hp) (m':Mem) (cs':List Value) (outs':List (Sl×Sl)),Keep g g'->Mine g' h' m'->m' kB=some (bkF pb R tB cs')->m' kT=none->(∃ A,m' (kA c 0)=some ⟨A,1,tL,outs'.map λp=>slv p.1⟩/\cs'[s+0]?=some (slv A))->(∃ A,m' (kA c 1)=some ⟨A,1,tL,outs'.map λp=>slv p.2⟩/\cs'[s+1]?=some (slv A))->cs'[s+4]?=some (.slice none 0 0)->cs'[s+7]?=some (.slice none 0 0)->(∀ p∈outs',Fz g' KD sz p)->outs'.length=outs.length+fa.length->(∀ j,j≠kB->j≠kA c 0->j≠kA c 1->(∀ f∈fa,j≠kL c f.id)->m' j=m j)->(∀ i,i≠s+0->i≠s+1->i≠s+4->i≠s+7->cs'[i]?=cs[i]?)->Q (.tuple ⟨[]⟩) h') :
  growT pb s tL t sz bytes zs WR h Q:=by
 refine⟨λn h1=>∃ (D rm:List FR) (g':Hp) (m':Mem) (cs':List Value) (outs':List (Sl×Sl)),fa=D++rm/\n=(D.length:Int)/\Keep g g'/\Mine g' h1 m'/\GrS g' m' cs' KD pb R tB c s tL sz t bytes A4 A7 fa rm outs'/\outs'.length=outs.length+D.length/\(∀ j,j≠kB->j≠kA c 0->j≠kA c 1->(∀ f∈fa,j≠kL c f.id)->m' j=m j)/\(∀ i,i≠s+0->i≠s+1->cs'[i]?=cs[i]?),λn _=>fa.length-n.toNat,⟨[],fa,g,m,cs,outs,rfl,rfl,Keep.refl g,O,G0,rfl,λ_ _ _ _ _=>rfl,λ_ _ _=>rfl⟩,?_⟩
 rintro n h1 ⟨D,rm,g',m',cs',outs',e,rfl,Kg,O1,G,hlo,hmem,hrest⟩
 have eL:=congrArg List.length e
 rw[length_append] at eL
 have B4:=O1.buf _ _ G.a4.1
 have B7:=O1.buf _ _ G.a7.1
 have n4:A4.n=fa.length:=by have:=B4.len;simp only[length_map,Nat.mul_one] at this;omega
 have n7:A7.n=fa.length:=by have:=B7.len;simp only[length_map,Nat.mul_one] at this;omega
 refine⟨pb,0,rfl,A4,O1.cell G.hb G.a4.2,λhlt=>?_,λhge=>?_⟩
 ·rcases rm with _|⟨f,rm⟩
  ·exact absurd hlt (by simp at eL;omega)
  rw[length_cons] at eL
  have hD:D.length<fa.length:=by omega
  have gf:fa[D.length]?=some f:=by rw[e,getElem?_append_right (Nat.le_refl _),Nat.sub_self];rfl
  obtain⟨b2,ha2,c2⟩:=buf_at B7 (k:=D.length) (by rw[length_map];exact hD)
  obtain⟨b4,ha4,c4⟩:=buf_at B4 (k:=D.length) (by rw[length_map];exact hD)
  dsimp only at ha2 ha4 c2 c4
  rw[getElem?_map,gf] at c2 c4
  refine⟨pb,0,rfl,A7,O1.cell G.hb G.a7.2,b2,0,ha2,⟨by omega,by omega⟩,f.mark,by rw[Int.toNat_natCast];exact c2,pb,0,rfl,A4,O1.cell G.hb G.a4.2,b4,0,ha4,⟨by omega,by omega⟩,f.s,by rw[Int.toNat_natCast];exact c4,?_⟩
  obtain⟨f1,f2,f3,f4,f5⟩:=G.f f List.mem_cons_self
  refine lay_on (WR:=WR f.mark) O1 f1 (λi h' K k=>hWR f.mark i h' K (Kg.trans k)) f2 hz f3 λl4 h2 g2 us Kg2 O2 r1 r2 ho hn4=>?_
  have hb2:(m'.del (kL c f.id)) kB=some (bkF pb R tB cs'):=by rw[del_ne _ (Ne.symm (kL_kB _ _))];exact G.hb
  have dA:∀ i,(m'.del (kL c f.id)) (kA c i)=m' (kA c i):=λi=>del_ne _ (Ne.symm (kL_kA _ _ _ _))
  have kt2:(m'.del (kL c f.id)) kT=none:=by rw[del_ne _ (λe=>by cases e)];exact G.kt
  obtain⟨A0,x0,y0⟩:=G.a0
  obtain⟨A1,x1,y1⟩:=G.a1
  refine⟨pb,0,rfl,A0,O2.cell hb2 y0,?_⟩
  refine app_f (v:=slv l4) O2 hb2 (by rw[dA];exact x0) y0 (by rw[length_map];omega) λh5 B0 M3 cs3 O3 hb3 p3 n3 q3 g3=>?_
  have y1':cs3[s+1]?=some (slv A1):=by rw[g3 _ (by omega)];exact y1
  have kt3:M3 kT=none:=by rw[n3 _ (λe=>by cases e) (λe=>by cases e)];exact kt2
  refine⟨pb,0,rfl,A1,O3.cell hb3 y1',?_⟩
  refine copy_f (λh' K'=>keep_at K' (O3.cell hb3 y1')) O3 kt3 (O3.keep.row r2) (ho.one hKD) hz (by rw[hn4];exact f3) λnt h7 g4 Kg4 O4 rnt hnt K5=>?_
  refine⟨O4.cell hb3 y1',O4.cell hb3 y1',?_⟩
  refine app_f (v:=slv nt) O4 hb3 (by rw[n3 _ (kA_kB _ _) (kA_ne (by decide)),dA];exact x1) y1' (by rw[length_map];omega) λh9 B1 M5 cs5 O5 hb5 p5 n5 q5 g5=>?_
  rw[nx_i (n:=100000000) (by omega) (by omega)]
  have K24:Keep g' g4:=Kg2.trans Kg4
  have nd:=G.nd
  rw[map_cons,List.nodup_cons] at nd
  refine⟨⟨D++[f],rm,g4,M5,cs5,outs'++[(l4,nt)],by rw[e];simp,by simp,Kg.trans K24,O5,⟨hb5,?_,⟨B0,?_,?_⟩,⟨B1,?_,q5⟩,⟨?_,?_⟩,⟨?_,?_⟩,λf' hf'=>?_,nd.2,λp hp=>?_⟩,by rw[length_append,length_append,length_singleton,length_singleton];omega,λj h1 h2 h3 h4=>?_,λi h0 h1=>?_⟩,by dsimp only;omega⟩
  ·rw[n5 _ (λe=>by cases e) (λe=>by cases e)];exact kt3
  ·rw[n5 _ (kA_kB _ _) (kA_ne (by decide)),p3,map_append];rfl
  ·rw[g5 _ (by omega)];exact q3
  ·rw[p5,map_append];rfl
  ·rw[n5 _ (kA_kB _ _) (kA_ne (by decide)),n3 _ (kA_kB _ _) (kA_ne (by decide)),dA];exact G.a4.1
  ·rw[g5 _ (by omega),g3 _ (by omega)];exact G.a4.2
  ·rw[n5 _ (kA_kB _ _) (kA_ne (by decide)),n3 _ (kA_kB _ _) (kA_ne (by decide)),dA];exact G.a7.1
  ·rw[g5 _ (by omega),g3 _ (by omega)];exact G.a7.2
  ·obtain⟨e1,e2,e3,e4,e5⟩:=G.f f' (List.mem_cons_of_mem _ hf')
   refine⟨?_,e2,e3,K24.row e4,e5⟩
   rw[n5 _ (kL_kB _ _) (kL_kA _ _ _ _),n3 _ (kL_kB _ _) (kL_kA _ _ _ _),del_ne _ (λq=>nd.1 (by
    have q2:f'.id=f.id:=by unfold kL at q;simpa using q
    rw[<- q2];exact mem_map_of_mem (f:=(·.id)) hf'))]
   exact e1
  ·rcases mem_append.1 hp with hp|hp
   ·rcases G.o p hp with h|⟨f',hf',ep⟩
    ·exact .inl (h.keep K24)
    ·rcases mem_cons.1 hf' with rfl|hf'
     ·rw[ep]
      exact .inl ⟨f'.fv,f2,Kg4.row r1,K24.row f4,f5,Nat.le_trans (Nat.le_add_right _ 30) (Nat.le_trans (Nat.le_mul_of_pos_right _ hby) f3)⟩
     ·exact .inr ⟨f',hf',ep⟩
   ·rw[mem_singleton] at hp
    rw[hp]
    exact .inl ⟨us,ho,Kg4.row r2,rnt,hnt.symm,by dsimp only;rw[hn4];exact Nat.le_trans (Nat.le_mul_of_pos_right _ hby) f3⟩
  ·rw[n5 _ h1 h3,n3 _ h1 h2,del_ne _ (h4 f (by rw[e];simp))]
   exact hmem j h1 h2 h3 h4
  ·rw[g5 _ h1,g3 _ h0]
   exact hrest i h0 h1
 ·have hR:rm=[]:=eq_nil_of_length_eq_zero (by omega)
  subst hR
  rw[append_nil] at e
  subst e
  obtain⟨c1,O2⟩:=O1.setCell G.hb G.a4.2 (.slice none 0 0)
  have hb2:=put_self m' kB (bkF pb R tB (cs'.set (s+4) (.slice none 0 0)))
  obtain⟨c2,O3⟩:=O2.setCell hb2 (i:=s+7) (by rw[getElem?_set_ne (by omega)];exact G.a7.2) (.slice none 0 0)
  rw[Mem.put_put] at O3
  refine⟨pb,0,rfl,c1,pb,0,rfl,c2,?_⟩
  obtain⟨A0,x0,y0⟩:=G.a0
  obtain⟨A1,x1,y1⟩:=G.a1
  have l4:=(List.getElem?_eq_some_iff.1 G.a4.2).1
  have l7:=(List.getElem?_eq_some_iff.1 G.a7.2).1
  refine hQ _ g' _ _ outs' Kg O3 (put_self _ _ _) (by rw[put_ne _ _ (λe=>by cases e)];exact G.kt) ⟨A0,by rw[put_ne _ _ (kA_kB _ _)];exact x0,by rw[getElem?_set_ne (by omega),getElem?_set_ne (by omega)];exact y0⟩ ⟨A1,by rw[put_ne _ _ (kA_kB _ _)];exact x1,by rw[getElem?_set_ne (by omega),getElem?_set_ne (by omega)];exact y1⟩ (by rw[getElem?_set_ne (by omega),getElem?_set_self l4]) (getElem?_set_self (by rw[length_set];exact l7)) (λp hp=>?_) hlo (λj h1 h2 h3 h4=>by rw[put_ne _ _ h1];exact hmem j h1 h2 h3 h4) λi h0 h1 h4 h7=>by rw[getElem?_set_ne (Ne.symm h7),getElem?_set_ne (Ne.symm h4)];exact hrest i h0 h1
  rcases G.o p hp with h|⟨f,hf,_⟩
  ·exact h
  ·cases hf
end
end Go.Eng
end
section
namespace Go.Eng
structure WL where
 id:Nat
 s:Sl
 nt:Sl
 vs:List Value
 mark:Int
 due:Int
@[reducible] def holdT(pb s:Nat)(S:Sl->Sl->Hp->(Value->Hp->Prop)->Prop)(h:Hp)(Q:Value->Hp->Prop):Prop:=
 ∃ (I:Int->Hp->Prop) (m:Int->Hp->Nat),I 0 h/\(∀ n:Int,∀ h1:Hp,I n h1->dr (some ⟨pb,0,none⟩) λb o=>ldS h1 b (o+(s+0)) λl=>par (n<(l.n:Int)) (dr (some ⟨pb,0,none⟩) λb1 o1=>ldS h1 b1 (o1+(s+0)) λl1=>ix l1.a n l1.n λb2 o2=>ldS h1 b2 (o2+n.toNat) λl2=>dr (some ⟨pb,0,none⟩) λb3 o3=>ldS h1 b3 (o3+(s+1)) λl3=>ix l3.a n l3.n λb4 o4=>ldS h1 b4 (o4+n.toNat) λl4=>S l2 l4 h1 λr h2=>retB r (I (wrap .i64 (n+1)) h2/\m (wrap .i64 (n+1)) h2<m n h1) (Q (.bool false) h2)) (∃ (I1:Int->Hp->Prop) (m1:Int->Hp->Nat),I1 0 h1/\(∀ n1:Int,∀ h3:Hp,I1 n1 h3->dr (some ⟨pb,0,none⟩) λb5 o5=>ldS h3 b5 (o5+(s+2)) λl5=>par (n1<(l5.n:Int)) (dr (some ⟨pb,0,none⟩) λb6 o6=>ldS h3 b6 (o6+(s+2)) λl6=>ix l6.a n1 l6.n λb7 o7=>ldS h3 b7 (o7+n1.toNat) λl7=>dr (some ⟨pb,0,none⟩) λb8 o8=>ldS h3 b8 (o8+(s+3)) λl8=>ix l8.a n1 l8.n λb9 o9=>ldS h3 b9 (o9+n1.toNat) λl9=>S l7 l9 h3 λr1 h4=>retB r1 (I1 (wrap .i64 (n1+1)) h4/\m1 (wrap .i64 (n1+1)) h4<m1 n1 h3) (Q (.bool false) h4)) (Q (.bool true) h3))))
section
variable{g h:Hp}{m:Mem}{pb R tB t s c tL sz:Nat}{cs:List Value}{outs:List (Sl×Sl)}{ws:List WL}{Q:Value->Hp->Prop}{KD:Nat->Value->Prop}
theorem pairs_rd{w:Sl}{l:List Sl}(B:Buf h w 1 tL (l.map slv)){i:Nat}{x:Sl}(hx:l[i]?=some x):w.n=l.length/\∃ b,w.a=some ⟨b,0,none⟩/\h.at b (0+i)=some (.slice x.a x.n x.c):=by
 have hl:i<l.length:=(List.getElem?_eq_some_iff.1 hx).1
 have hn:w.n=l.length:=by have:=B.len;simp only[length_map,Nat.mul_one] at this;omega
 obtain⟨b,ha,c4⟩:=buf_at B (k:=i) (by rw[length_map];exact hl)
 rw[getElem?_map,hx] at c4
 exact⟨hn,b,ha,c4⟩
theorem hold_k{S:Sl->Sl->Hp->(Value->Hp->Prop)->Prop}(hS:∀ l l' (h:Hp) vs K,Cols KD sz vs->h.row l.a (l.n*sz) vs->h.row l'.a (l'.n*sz) vs->l.n=l'.n->l.n<=140737488355328->K (.bool true) h->S l l' h K)
  (O:Mine g h m) (hb:m kB=some (bkF pb R tB cs)) {A0 A1 A2 A3:Sl} (x0:m (kA c 0)=some ⟨A0,1,tL,(outs.map (·.1)).map slv⟩) (y0:cs[s+0]?=some (slv A0)) (x1:m (kA c 1)=some ⟨A1,1,tL,(outs.map (·.2)).map slv⟩) (y1:cs[s+1]?=some (slv A1))
  (x2:m (kA c 2)=some ⟨A2,1,tL,(ws.map (·.s)).map slv⟩) (y2:cs[s+2]?=some (slv A2)) (x3:m (kA c 3)=some ⟨A3,1,tL,(ws.map (·.nt)).map slv⟩) (y3:cs[s+3]?=some (slv A3))
  (ho:∀ p∈outs,Fz g KD sz p) (hw:∀ w∈ws,Cols KD sz w.vs/\h.row w.s.a (w.s.n*sz) w.vs/\g.row w.nt.a (w.nt.n*sz) w.vs/\w.s.n=w.nt.n/\w.s.n<=140737488355328) (lo:outs.length<=1000000000) (lw:ws.length<=1000000000) (hQ:Q (.bool true) h) :
  holdT pb s S h Q:=by
 have n0:A0.n=outs.length:=by have:=(O.buf _ _ x0).len;simp only[length_map,Nat.mul_one] at this;omega
 have n2:A2.n=ws.length:=by have:=(O.buf _ _ x2).len;simp only[length_map,Nat.mul_one] at this;omega
 refine⟨λn h1=>∃ i:Nat,n=(i:Int)/\h1=h,λn _=>outs.length-n.toNat,⟨0,rfl,rfl⟩,?_⟩
 rintro n h1 ⟨i,rfl,rfl⟩
 refine⟨pb,0,rfl,A0,O.cell hb y0,λhlt=>?_,λ_=>?_⟩
 ·have hi:i<outs.length:=by omega
  have hp:=getElem?_eq_getElem hi
  obtain⟨vs,r0,r1,r2,r3,r4⟩:=ho _ (List.getElem_mem hi)
  obtain⟨_,b2,a2,c2⟩:=pairs_rd (O.buf _ _ x0) (i:=i) (x:=outs[i].1) (by rw[getElem?_map,hp];rfl)
  obtain⟨n1,b4,a4,c4⟩:=pairs_rd (O.buf _ _ x1) (i:=i) (x:=outs[i].2) (by rw[getElem?_map,hp];rfl)
  rw[length_map] at n1
  dsimp only at a2 a4 n1
  refine⟨pb,0,rfl,A0,O.cell hb y0,b2,0,a2,⟨by omega,by omega⟩,_,by rw[Int.toNat_natCast];exact c2,pb,0,rfl,A1,O.cell hb y1,b4,0,a4,⟨by omega,by omega⟩,_,by rw[Int.toNat_natCast];exact c4,?_⟩
  refine hS _ _ _ vs _ r0 (O.keep.row r1) (O.keep.row r2) r3 r4 ⟨true,rfl,λ_=>?_,λhh=>Bool.noConfusion hh⟩
  rw[nx_i hi (by omega)]
  exact⟨⟨i+1,rfl,rfl⟩,by dsimp only;omega⟩
 ·refine⟨λn h2=>∃ i:Nat,n=(i:Int)/\h2=h1,λn _=>ws.length-n.toNat,⟨0,rfl,rfl⟩,?_⟩
  rintro n h2 ⟨i,rfl,rfl⟩
  refine⟨pb,0,rfl,A2,O.cell hb y2,λhlt=>?_,λ_=>hQ⟩
  have hi:i<ws.length:=by omega
  have hp:=getElem?_eq_getElem hi
  obtain⟨r0,r1,r2,r3,r4⟩:=hw _ (List.getElem_mem hi)
  obtain⟨_,b2,a2,c2⟩:=pairs_rd (O.buf _ _ x2) (i:=i) (x:=ws[i].s) (by rw[getElem?_map,hp];rfl)
  obtain⟨n1,b4,a4,c4⟩:=pairs_rd (O.buf _ _ x3) (i:=i) (x:=ws[i].nt) (by rw[getElem?_map,hp];rfl)
  rw[length_map] at n1
  dsimp only at a2 a4 n1
  refine⟨pb,0,rfl,A2,O.cell hb y2,b2,0,a2,⟨by omega,by omega⟩,_,by rw[Int.toNat_natCast];exact c2,pb,0,rfl,A3,O.cell hb y3,b4,0,a4,⟨by omega,by omega⟩,_,by rw[Int.toNat_natCast];exact c4,?_⟩
  refine hS _ _ _ _ _ r0 r1 (O.keep.row r2) r3 r4 ⟨true,rfl,λ_=>?_,λhh=>Bool.noConfusion hh⟩
  rw[nx_i hi (by omega)]
  exact⟨⟨i+1,rfl,rfl⟩,by dsimp only;omega⟩
end
end Go.Eng
end
section
namespace Go.Eng
def kO(c f:Nat):Key:=(4,c,f)
theorem kO_kB(c f:Nat):kO c f≠kB:=λe=>by cases e
theorem kO_kA(c f d e:Nat):kO c f≠kA d e:=λq=>by cases q
theorem kO_kL(c f d e:Nat):kO c f≠kL d e:=λq=>by cases q
theorem Mine.move{g h:Hp}{m:Mem}{k k':Key}{x:Bf}(O:Mine g h m)(hk:m k=some x)(hn:m k'=none):Mine g h ((m.del k).put k' x):=by
 have hkk:k'≠k:=λe=>by rw[e,hk] at hn;cases hn
 have find:∀ j y,((m.del k).put k' x) j=some y->∃ i,m i=some y/\(j=k'->i=k)/\(j≠k'->i=j/\j≠k):=λj y e=>by
  by_cases hj:j=k'
  ·rw[hj,put_self] at e
   cases e
   exact⟨k,hk,λ_=>rfl,λh=>absurd hj h⟩
  ·rw[put_ne _ _ hj] at e
   have hjk:j≠k:=λq=>by rw[q,del_self] at e;cases e
   rw[del_ne _ hjk] at e
   exact⟨j,e,λh=>absurd h hj,λ_=>⟨rfl,hjk⟩⟩
 refine⟨O.keep,λj y e=>?_,λj y e=>?_,λj j' y y' n e e'=>?_⟩
 ·obtain⟨i,hi,_⟩:=find j y e
  exact O.buf i y hi
 ·obtain⟨i,hi,_⟩:=find j y e
  exact O.new i y hi
 ·obtain⟨i,hi,a1,a2⟩:=find j y e
  obtain⟨i',hi',b1,b2⟩:=find j' y' e'
  refine O.off i i' y y' (λq=>?_) hi hi'
  by_cases h1:j=k'<;>by_cases h2:j'=k'
  ·exact n (h1.trans h2.symm)
  ·exact(b2 h2).2 ((b2 h2).1.symm.trans (q.symm.trans (a1 h1)))
  ·exact(a2 h1).2 ((a2 h1).1.symm.trans (q.trans (b1 h2)))
  ·exact n ((a2 h1).1.symm.trans (q.trans (b2 h2).1))
theorem Mine.nil{g h:Hp}{m:Mem}{k:Key}(O:Mine g h m)(hn:m k=none)(sz t:Nat):Mine g h (m.put k ⟨⟨none,0,0⟩,sz,t,[]⟩):=
 O.add hn (Keep.refl h) (.inl rfl) (Buf.nil h sz t)
theorem fill_k{KD:Nat->Value->Prop}{g h:Hp}{m:Mem}{k:Key}{ls:Sl}{sz t:Nat}{vs:List Value}{OF:Int->Nat}{WR:Int->Hp->(List Value->Hp->Prop)->Prop}{K:Hp->Prop}(O:Mine g h m)(hl:m k=some ⟨ls,sz,t,vs⟩)(hsz:0<sz)(hOF:∀ i:Nat,OF (i:Int)=i*sz)(hWR:∀ i h' K,Keep g h'->(∀ h'' us,Keep h' h''->us.length=sz->Cols KD sz us->K us h'')->WR i h' K)(hone:Cols KD sz vs)(hn:ls.n<=140737488355328)
  (hK:∀ h' us,Mine g h' (m.put k ⟨ls,sz,t,us⟩)->Cols KD sz us->K h') :
  ∃ (I1:Int->Hp->Prop) (m1:Int->Hp->Nat),I1 0 h/\(∀ n5:Int,∀ h15:Hp,I1 n5 h15->par (n5<(ls.n:Int)) (WR n5 h15 λus h16=>ix ls.a n5 ls.n λb22 o22=>st h16 b22 (o22+OF n5) sz us λh17=>I1 (wrap .i64 (n5+1)) h17/\m1 (wrap .i64 (n5+1)) h17<m1 n5 h15) (K h15)):=by
 refine⟨λn h'=>∃ (i:Nat) (us:List Value),n=(i:Int)/\Mine g h' (m.put k ⟨ls,sz,t,us⟩)/\Cols KD sz us,λn _=>ls.n-n.toNat,⟨0,vs,rfl,by rw[put_same hl];exact O,hone⟩,?_⟩
 rintro n h' ⟨i,us,rfl,O1,hus⟩
 refine⟨λhlt=>?_,λ_=>hK h' us O1 hus⟩
 refine hWR _ _ _ O1.keep λhw V KV hV cV=>?_
 replace O1:=O1.keepH KV
 have B:=O1.buf k _ (put_self _ _ _)
 have hL:us.length=ls.n*sz:=B.len
 have hi:i<ls.n:=by omega
 have hle:i*sz+sz<=us.length:=by rw[hL,show i*sz+sz=(i+1)*sz by rw[Nat.add_mul,Nat.one_mul]];exact Nat.mul_le_mul_right _ hi
 have e:us=us.take (i*sz)++((us.drop (i*sz)).take sz++(us.drop (i*sz)).drop sz):=by rw[List.take_append_drop,List.take_append_drop]
 have l1:(us.take (i*sz)).length=i*sz:=by rw[length_take];omega
 have l2:((us.drop (i*sz)).take sz).length=sz:=by rw[length_take,List.length_drop];omega
 have B':Buf hw ls sz t (us.take (i*sz)++((us.drop (i*sz)).take sz++(us.drop (i*sz)).drop sz)):=by rw[<- e];exact B
 obtain⟨b,ha,hc,U,Bw⟩:=buf_wr (V:=V) B' (by rw[l2,hV]) (by rw[l2];exact hsz)
 rw[l1,hV] at hc
 rw[l1] at U Bw
 have O2:=O1.write (put_self _ _ _) U Bw
 rw[Mem.put_put] at O2
 refine⟨b,0,ha,⟨by omega,hlt⟩,?_⟩
 dsimp only
 rw[hOF,Nat.zero_add,nx_i hi (by omega)]
 refine⟨hc,⟨i+1,_,rfl,O2,(hus.take _).app (cV.app ?_ (by rw[hV];exact(Nat.one_mul _).symm)) l1⟩,by omega⟩
 have:=(hus.drop i).drop 1
 rw[Nat.one_mul] at this
 exact this
end Go.Eng
end
section
namespace Go.Eng
structure OutK(m:Mem)(cs:List Value)(c s tL:Nat)(v0 v1 v4 v7:List Value)(l nt:Sl)(mark:Int)(m':Mem)(cs':List Value):Prop where
 a0:∃ A,m' (kA c 0)=some ⟨A,1,tL,v0++[slv l]⟩/\cs'[s+0]?=some (slv A)
 a1:∃ A,m' (kA c 1)=some ⟨A,1,tL,v1++[slv nt]⟩/\cs'[s+1]?=some (slv A)
 a4:∃ A,m' (kA c 4)=some ⟨A,1,tL,v4++[slv l]⟩/\cs'[s+4]?=some (slv A)
 a7:∃ A,m' (kA c 7)=some ⟨A,1,3,v7++[.int .i64 mark]⟩/\cs'[s+7]?=some (slv A)
 rest:∀ i,i≠s+0->i≠s+1->i≠s+4->i≠s+7->cs'[i]?=cs[i]?
 mem:∀ j,j≠kB->j≠kA c 0->j≠kA c 1->j≠kA c 4->j≠kA c 7->m' j=m j
section
variable{g h:Hp}{m:Mem}{pb R tB t s c tL sz bytes:Nat}{cs zs vs v0 v1 v4 v7:List Value}{l A0 A1 A4 A7:Sl}{mark:Int}{K:Hp->Prop}
theorem out_k{k:Key}(O:Mine g h m)(hb:m kB=some (bkF pb R tB cs))(hk:m kT=none)(hl:m k=some ⟨l,sz,t,vs⟩)(hkB:k≠kB)(hkA:∀ f,k≠kA c f)
  (m0:m (kA c 0)=some ⟨A0,1,tL,v0⟩) (e0:cs[s+0]?=some (slv A0)) (m1:m (kA c 1)=some ⟨A1,1,tL,v1⟩) (e1:cs[s+1]?=some (slv A1))
  (m4:m (kA c 4)=some ⟨A4,1,tL,v4⟩) (e4:cs[s+4]?=some (slv A4)) (m7:m (kA c 7)=some ⟨A7,1,3,v7⟩) (e7:cs[s+7]?=some (slv A7))
  (l0:v0.length<=1000000000) (l1:v1.length<=1000000000) (l4:v4.length<=1000000000) (l7:v7.length<=1000000000) (hone:∀ v∈vs,Value.oneCell' v=true) (hz:zs.length=sz) (hn:l.n*bytes<=140737488355328)
  (hK:∀ h' g' m' cs' nt,Keep g g'->Mine g' h' m'->m' kB=some (bkF pb R tB cs')->OutK m cs c s tL v0 v1 v4 v7 l nt mark m' cs'->g'.row nt.a (nt.n*sz) vs->nt.n=l.n->K h') :
  dr (some ⟨pb,0,none⟩) λb23 o23=>ldS h b23 (o23+(s+0)) λl14=>appendD l14 tL 1 24 [.slice none 0 0] 1 [.slice l.a l.n l.c] h λl15 h17=>dr (some ⟨pb,0,none⟩) λb24 o24=>st h17 b24 (o24+(s+0)) 1 [.slice l15.a l15.n l15.c] λh18=>dr (some ⟨pb,0,none⟩) λb25 o25=>ldS h18 b25 (o25+(s+1)) λl16=>nw h18 (.cells ⟨[]⟩ t (0,0)) λb26 h19=>h19.at b25 (o25+(s+1))=some (.slice l16.a l16.n l16.c)/\∃ vs,h19.row l.a (l.n*sz) vs/\(∀ v∈vs,Value.oneCell' v=true)/\appendD ⟨(some ⟨b26,0,none⟩),0,0⟩ t sz bytes zs l.n vs h19 λl17 h20=>h20.at b25 (o25+(s+1))=some (.slice l16.a l16.n l16.c)/\h20.at b25 (o25+(s+1))=some (.slice l16.a l16.n l16.c)/\appendD l16 tL 1 24 [.slice none 0 0] 1 [.slice l17.a l17.n l17.c] h20 λl18 h21=>dr (some ⟨pb,0,none⟩) λb27 o26=>st h21 b27 (o26+(s+1)) 1 [.slice l18.a l18.n l18.c] λh22=>dr (some ⟨pb,0,none⟩) λb28 o27=>ldS h22 b28 (o27+(s+4)) λl19=>appendD l19 tL 1 24 [.slice none 0 0] 1 [.slice l.a l.n l.c] h22 λl20 h23=>dr (some ⟨pb,0,none⟩) λb29 o28=>st h23 b29 (o28+(s+4)) 1 [.slice l20.a l20.n l20.c] λh24=>dr (some ⟨pb,0,none⟩) λb30 o29=>ldS h24 b30 (o29+(s+7)) λl21=>appendD l21 3 1 8 [.int .i64 0] 1 [.int .i64 mark] h24 λl22 h25=>dr (some ⟨pb,0,none⟩) λb31 o30=>st h25 b31 (o30+(s+7)) 1 [.slice l22.a l22.n l22.c] λh26=>K h26:=by
 refine⟨pb,0,rfl,A0,O.cell hb e0,?_⟩
 refine app_f (v:=slv l) O hb m0 e0 (by omega) λh2 B0 M2 cs2 O2 hb2 p2 n2 q2 g2=>?_
 have f1:cs2[s+1]?=some (slv A1):=by rw[g2 _ (by omega)];exact e1
 refine⟨pb,0,rfl,A1,O2.cell hb2 f1,?_⟩
 have hl2:M2 k=some ⟨l,sz,t,vs⟩:=by rw[n2 _ hkB (hkA 0)];exact hl
 refine copy_f (λh' K'=>keep_at K' (O2.cell hb2 f1)) O2 (by rw[n2 _ (λe=>by cases e) (λe=>by cases e)];exact hk) (O2.buf _ _ hl2).row hone hz hn λnt h5 g' Kg O3 rnt hnt K5=>?_
 refine⟨O3.cell hb2 f1,O3.cell hb2 f1,?_⟩
 refine app_f (v:=slv nt) O3 hb2 (by rw[n2 _ (kA_kB _ _) (kA_ne (by decide))];exact m1) f1 (by omega) λh7 B1 M3 cs3 O4 hb3 p3 n3 q3 g3=>?_
 have f4:cs3[s+4]?=some (slv A4):=by rw[g3 _ (by omega),g2 _ (by omega)];exact e4
 refine⟨pb,0,rfl,A4,O4.cell hb3 f4,?_⟩
 refine app_f (v:=slv l) O4 hb3 (by rw[n3 _ (kA_kB _ _) (kA_ne (by decide)),n2 _ (kA_kB _ _) (kA_ne (by decide))];exact m4) f4 (by omega) λh9 B4 M4 cs4 O5 hb4 p4 n4 q4 g4=>?_
 have f7:cs4[s+7]?=some (slv A7):=by rw[g4 _ (by omega),g3 _ (by omega),g2 _ (by omega)];exact e7
 refine⟨pb,0,rfl,A7,O5.cell hb4 f7,?_⟩
 refine app_f (v:=.int .i64 mark) O5 hb4 (by rw[n4 _ (kA_kB _ _) (kA_ne (by decide)),n3 _ (kA_kB _ _) (kA_ne (by decide)),n2 _ (kA_kB _ _) (kA_ne (by decide))];exact m7) f7 (by omega) λh12 B7 M7 cs7 O6 hb7 p7 n7 q7 g7=>?_
 refine hK _ g' M7 cs7 nt Kg O6 hb7 ⟨⟨B0,?_,?_⟩,⟨B1,?_,?_⟩,⟨B4,?_,?_⟩,⟨B7,p7,q7⟩,λi h0 h1 h4 h7=>?_,λj hB h0 h1 h4 h7=>?_⟩ rnt hnt
 ·rw[n7 _ (kA_kB _ _) (kA_ne (by decide)),n4 _ (kA_kB _ _) (kA_ne (by decide)),n3 _ (kA_kB _ _) (kA_ne (by decide))];exact p2
 ·rw[g7 _ (by omega),g4 _ (by omega),g3 _ (by omega)];exact q2
 ·rw[n7 _ (kA_kB _ _) (kA_ne (by decide)),n4 _ (kA_kB _ _) (kA_ne (by decide))];exact p3
 ·rw[g7 _ (by omega),g4 _ (by omega)];exact q3
 ·rw[n7 _ (kA_kB _ _) (kA_ne (by decide))];exact p4
 ·rw[g7 _ (by omega)];exact q4
 ·rw[g7 _ h7,g4 _ h4,g3 _ h1,g2 _ h0]
 ·rw[n7 _ hB h7,n4 _ hB h4,n3 _ hB h1,n2 _ hB h0]
end
end Go.Eng
end
section
namespace Go.Eng
structure WaitK(m:Mem)(cs:List Value)(c s tL:Nat)(v2 v3 v5 v6:List Value)(l nt:Sl)(mark due:Int)(m':Mem)(cs':List Value):Prop where
 a2:∃ A,m' (kA c 2)=some ⟨A,1,tL,v2++[slv l]⟩/\cs'[s+2]?=some (slv A)
 a3:∃ A,m' (kA c 3)=some ⟨A,1,tL,v3++[slv nt]⟩/\cs'[s+3]?=some (slv A)
 a5:∃ A,m' (kA c 5)=some ⟨A,1,3,v5++[.int .i64 mark]⟩/\cs'[s+5]?=some (slv A)
 a6:∃ A,m' (kA c 6)=some ⟨A,1,3,v6++[.int .i64 due]⟩/\cs'[s+6]?=some (slv A)
 rest:∀ i,i≠s+2->i≠s+3->i≠s+5->i≠s+6->cs'[i]?=cs[i]?
 mem:∀ j,j≠kB->j≠kA c 2->j≠kA c 3->j≠kA c 5->j≠kA c 6->m' j=m j
section
variable{g h:Hp}{m:Mem}{pb R tB s c tL i:Nat}{cs v2 v3 v5 v6 o3 o6:List Value}{l nt L1 L3 A2 A3 A5 A6:Sl}{mark due:Int}{K:Hp->Prop}
theorem wait_k(O:Mine g h m)(hb:m kB=some (bkF pb R tB cs))
  (m2:m (kA c 2)=some ⟨A2,1,tL,v2⟩) (e2:cs[s+2]?=some (slv A2)) (m3:m (kA c 3)=some ⟨A3,1,tL,v3⟩) (e3:cs[s+3]?=some (slv A3))
  (m5:m (kA c 5)=some ⟨A5,1,3,v5⟩) (e5:cs[s+5]?=some (slv A5)) (m6:m (kA c 6)=some ⟨A6,1,3,v6⟩) (e6:cs[s+6]?=some (slv A6))
  (q3:m (kO c 3)=some ⟨L1,1,tL,o3⟩) (x3:o3[i]?=some (slv nt)) (q6:m (kO c 6)=some ⟨L3,1,3,o6⟩) (x6:o6[i]?=some (.int .i64 due))
  (l2:v2.length<=1000000000) (l3:v3.length<=1000000000) (l5:v5.length<=1000000000) (l6:v6.length<=1000000000)
  (hK:∀ h' m' cs',Mine g h' m'->m' kB=some (bkF pb R tB cs')->WaitK m cs c s tL v2 v3 v5 v6 l nt mark due m' cs'->K h') :
  dr (some ⟨pb,0,none⟩) λb12 o12=>ldS h b12 (o12+(s+2)) λl5=>appendD l5 tL 1 24 [.slice none 0 0] 1 [.slice l.a l.n l.c] h λl6 h6=>dr (some ⟨pb,0,none⟩) λb13 o13=>st h6 b13 (o13+(s+2)) 1 [.slice l6.a l6.n l6.c] λh7=>dr (some ⟨pb,0,none⟩) λb14 o14=>ldS h7 b14 (o14+(s+3)) λl7=>ix L1.a (i:Int) L1.n λb15 o15=>ldS h7 b15 (o15+(i:Int).toNat) λl8=>h7.at b14 (o14+(s+3))=some (.slice l7.a l7.n l7.c)/\appendD l7 tL 1 24 [.slice none 0 0] 1 [.slice l8.a l8.n l8.c] h7 λl9 h8=>dr (some ⟨pb,0,none⟩) λb16 o16=>st h8 b16 (o16+(s+3)) 1 [.slice l9.a l9.n l9.c] λh9=>dr (some ⟨pb,0,none⟩) λb17 o17=>ldS h9 b17 (o17+(s+5)) λl10=>appendD l10 3 1 8 [.int .i64 0] 1 [.int .i64 mark] h9 λl11 h10=>dr (some ⟨pb,0,none⟩) λb18 o18=>st h10 b18 (o18+(s+5)) 1 [.slice l11.a l11.n l11.c] λh11=>dr (some ⟨pb,0,none⟩) λb19 o19=>ldS h11 b19 (o19+(s+6)) λl12=>ix L3.a (i:Int) L3.n λb20 o20=>ldI .i64 h11 b20 (o20+(i:Int).toNat) λn4=>h11.at b19 (o19+(s+6))=some (.slice l12.a l12.n l12.c)/\appendD l12 3 1 8 [.int .i64 0] 1 [.int .i64 n4] h11 λl13 h12=>dr (some ⟨pb,0,none⟩) λb21 o21=>st h12 b21 (o21+(s+6)) 1 [.slice l13.a l13.n l13.c] λh13=>K h13:=by
 have oA:∀ f e,kO c f≠kA c e:=λf e=>kO_kA _ _ _ _
 refine⟨pb,0,rfl,A2,O.cell hb e2,?_⟩
 refine app_f (v:=slv l) O hb m2 e2 (by omega) λh2 B2 M2 cs2 O2 hb2 p2 n2 z2 g2=>?_
 have f3:cs2[s+3]?=some (slv A3):=by rw[g2 _ (by omega)];exact e3
 have k3:M2 (kO c 3)=some ⟨L1,1,tL,o3⟩:=by rw[n2 _ (kO_kB _ _) (oA _ _)];exact q3
 have i3:i<o3.length:=(List.getElem?_eq_some_iff.1 x3).1
 have t3:L1.n=o3.length:=by have:=(O2.buf _ _ k3).len;simp only[Nat.mul_one] at this;omega
 obtain⟨b15,ha15,c15⟩:=buf_at (O2.buf _ _ k3) (k:=i) i3
 dsimp only at ha15 c15
 rw[x3] at c15
 refine⟨pb,0,rfl,A3,O2.cell hb2 f3,b15,0,ha15,⟨by omega,by omega⟩,nt,by rw[Int.toNat_natCast];exact c15,O2.cell hb2 f3,?_⟩
 refine app_f (v:=slv nt) O2 hb2 (by rw[n2 _ (kA_kB _ _) (kA_ne (by decide))];exact m3) f3 (by omega) λh3 B3 M3 cs3 O3 hb3 p3 n3 z3 g3=>?_
 have f5:cs3[s+5]?=some (slv A5):=by rw[g3 _ (by omega),g2 _ (by omega)];exact e5
 refine⟨pb,0,rfl,A5,O3.cell hb3 f5,?_⟩
 refine app_f (v:=.int .i64 mark) O3 hb3 (by rw[n3 _ (kA_kB _ _) (kA_ne (by decide)),n2 _ (kA_kB _ _) (kA_ne (by decide))];exact m5) f5 (by omega) λh5 B5 M5 cs5 O5 hb5 p5 n5 z5 g5=>?_
 have f6:cs5[s+6]?=some (slv A6):=by rw[g5 _ (by omega),g3 _ (by omega),g2 _ (by omega)];exact e6
 have k6:M5 (kO c 6)=some ⟨L3,1,3,o6⟩:=by rw[n5 _ (kO_kB _ _) (oA _ _),n3 _ (kO_kB _ _) (oA _ _),n2 _ (kO_kB _ _) (oA _ _)];exact q6
 have i6:i<o6.length:=(List.getElem?_eq_some_iff.1 x6).1
 have t6:L3.n=o6.length:=by have:=(O5.buf _ _ k6).len;simp only[Nat.mul_one] at this;omega
 obtain⟨b20,ha20,c20⟩:=buf_at (O5.buf _ _ k6) (k:=i) i6
 dsimp only at ha20 c20
 rw[x6] at c20
 refine⟨pb,0,rfl,A6,O5.cell hb5 f6,b20,0,ha20,⟨by omega,by omega⟩,due,by rw[Int.toNat_natCast];exact c20,O5.cell hb5 f6,?_⟩
 refine app_f (v:=.int .i64 due) O5 hb5 (by rw[n5 _ (kA_kB _ _) (kA_ne (by decide)),n3 _ (kA_kB _ _) (kA_ne (by decide)),n2 _ (kA_kB _ _) (kA_ne (by decide))];exact m6) f6 (by omega) λh6 B6 M6 cs6 O6 hb6 p6 n6 z6 g6=>?_
 refine hK _ M6 cs6 O6 hb6 ⟨⟨B2,?_,?_⟩,⟨B3,?_,?_⟩,⟨B5,?_,?_⟩,⟨B6,p6,z6⟩,λi h0 h1 h4 h7=>?_,λj hB h0 h1 h4 h7=>?_⟩
 ·rw[n6 _ (kA_kB _ _) (kA_ne (by decide)),n5 _ (kA_kB _ _) (kA_ne (by decide)),n3 _ (kA_kB _ _) (kA_ne (by decide))];exact p2
 ·rw[g6 _ (by omega),g5 _ (by omega),g3 _ (by omega)];exact z2
 ·rw[n6 _ (kA_kB _ _) (kA_ne (by decide)),n5 _ (kA_kB _ _) (kA_ne (by decide))];exact p3
 ·rw[g6 _ (by omega),g5 _ (by omega)];exact z3
 ·rw[n6 _ (kA_kB _ _) (kA_ne (by decide))];exact p5
 ·rw[g6 _ (by omega)];exact z5
 ·rw[g6 _ h7,g5 _ h4,g3 _ h1,g2 _ h0]
 ·rw[n6 _ hB h7,n5 _ hB h4,n3 _ hB h1,n2 _ hB h0]
end
end Go.Eng
end
section
namespace Go.Eng
theorem kO_ne{c d f e:Nat}(h:f≠e):kO c f≠kO d e:=λq=>h (by cases q;rfl)
def NoO(m:Mem)(c:Nat):Prop:=m (kO c 2)=none/\m (kO c 3)=none/\m (kO c 5)=none/\m (kO c 6)=none
def WOk(g:Hp)(m:Mem)(KD:Nat->Value->Prop)(c sz t bytes:Nat)(w:WL):Prop:=m (kL c w.id)=some ⟨w.s,sz,t,w.vs⟩/\Cols KD sz w.vs/\(w.s.n+30)*bytes<=140737488355328/\g.row w.nt.a (w.nt.n*sz) w.vs/\w.s.n=w.nt.n
theorem WOk.keep{g g':Hp}{m m':Mem}{KD:Nat->Value->Prop}{c sz t bytes:Nat}{w:WL}(W:WOk g m KD c sz t bytes w)(K:Keep g g')(e:m' (kL c w.id)=m (kL c w.id)):WOk g' m' KD c sz t bytes w:=⟨by rw[e];exact W.1,W.2.1,W.2.2.1,K.row W.2.2.2.1,W.2.2.2.2⟩
def FrOk(g:Hp)(m:Mem)(KD:Nat->Value->Prop)(c sz t bytes:Nat)(f:FR):Prop:=m (kL c f.id)=some ⟨f.s,sz,t,f.fv⟩/\Cols KD sz f.fv/\(f.s.n+30)*bytes<=140737488355328/\g.row f.td.a (f.td.n*sz) f.fv/\f.s.n=f.td.n
theorem FrOk.keep{g g':Hp}{m m':Mem}{KD:Nat->Value->Prop}{c sz t bytes:Nat}{w:FR}(W:FrOk g m KD c sz t bytes w)(K:Keep g g')(e:m' (kL c w.id)=m (kL c w.id)):FrOk g' m' KD c sz t bytes w:=⟨by rw[e];exact W.1,W.2.1,W.2.2.1,K.row W.2.2.2.1,W.2.2.2.2⟩
structure KE(g:Hp)(m:Mem)(cs:List Value)(KD:Nat->Value->Prop)(c s tL sz t bytes:Nat)(kept:List WL)(fr:List FR)(outs:List (Sl×Sl)):Prop where
 a0:∃ A,m (kA c 0)=some ⟨A,1,tL,outs.map λp=>slv p.1⟩/\cs[s+0]?=some (slv A)
 a1:∃ A,m (kA c 1)=some ⟨A,1,tL,outs.map λp=>slv p.2⟩/\cs[s+1]?=some (slv A)
 a2:∃ A,m (kA c 2)=some ⟨A,1,tL,kept.map λw=>slv w.s⟩/\cs[s+2]?=some (slv A)
 a3:∃ A,m (kA c 3)=some ⟨A,1,tL,kept.map λw=>slv w.nt⟩/\cs[s+3]?=some (slv A)
 a4:∃ A,m (kA c 4)=some ⟨A,1,tL,fr.map λf=>slv f.s⟩/\cs[s+4]?=some (slv A)
 a5:∃ A,m (kA c 5)=some ⟨A,1,3,kept.map λw=>.int .i64 w.mark⟩/\cs[s+5]?=some (slv A)
 a6:∃ A,m (kA c 6)=some ⟨A,1,3,kept.map λw=>.int .i64 w.due⟩/\cs[s+6]?=some (slv A)
 a7:∃ A,m (kA c 7)=some ⟨A,1,3,fr.map λf=>.int .i64 f.mark⟩/\cs[s+7]?=some (slv A)
 f:∀ f∈fr,FrOk g m KD c sz t bytes f
 o:∀ p∈outs,Fz g KD sz p\/∃ f∈fr,p=(f.s,f.td)
theorem KE.cong{g g':Hp}{m m':Mem}{KD:Nat->Value->Prop}{cs cs':List Value}{c s tL sz t bytes:Nat}{kept:List WL}{fr:List FR}{outs:List (Sl×Sl)}(E:KE g m cs KD c s tL sz t bytes kept fr outs)(K:Keep g g')(hA:∀ f,m' (kA c f)=m (kA c f))(hL:∀ f∈fr,m' (kL c f.id)=m (kL c f.id))(hc:∀ f,f<8->cs'[s+f]?=cs[s+f]?):KE g' m' cs' KD c s tL sz t bytes kept fr outs:=
 ⟨by rw[hA,hc _ (by decide)];exact E.a0,by rw[hA,hc _ (by decide)];exact E.a1,by rw[hA,hc _ (by decide)];exact E.a2,by rw[hA,hc _ (by decide)];exact E.a3,by rw[hA,hc _ (by decide)];exact E.a4,by rw[hA,hc _ (by decide)];exact E.a5,by rw[hA,hc _ (by decide)];exact E.a6,by rw[hA,hc _ (by decide)];exact E.a7,λf hf=>(E.f f hf).keep K (hL f hf),λp hp=>(E.o p hp).imp (Fz.keep K) id⟩
structure LS(g:Hp)(m:Mem)(cs:List Value)(KD:Nat->Value->Prop)(pb R tB c s tL sz t bytes:Nat)(now:Bool)(turn:Int)(L0 L1 L2 L3:Sl)(ws rm kept:List WL)(fr:List FR)(outs:List (Sl×Sl)):Prop where
 hb:m kB=some (bkF pb R tB cs)
 kt:m kT=none
 c0:cs[0]?=some (.bool now)
 c1:cs[1]?=some (.bool false)
 c2:cs[2]?=some (.int .i64 turn)
 E:KE g m cs KD c s tL sz t bytes kept fr outs
 W:∀ w∈rm++kept,WOk g m KD c sz t bytes w
 nd:((rm.map (·.id)++kept.map (·.id))++fr.map (·.id)).Nodup
 o2:m (kO c 2)=some ⟨L0,1,tL,ws.map λw=>slv w.s⟩
 o3:m (kO c 3)=some ⟨L1,1,tL,ws.map λw=>slv w.nt⟩
 o5:m (kO c 5)=some ⟨L2,1,3,ws.map λw=>.int .i64 w.mark⟩
 o6:m (kO c 6)=some ⟨L3,1,3,ws.map λw=>.int .i64 w.due⟩
@[reducible] def markT(pb s tL t sz bytes:Nat)(zs:List Value)(OF:Int->Nat)(WR:Int->Int->Hp->(List Value->Hp->Prop)->Prop)(S:Sl->Sl->Hp->(Value->Hp->Prop)->Prop)(h:Hp)(Q:Value->Hp->Prop):Prop:=
 dr (some ⟨pb,0,none⟩) λb o=>ldS h b (o+(s+2)) λl=>dr (some ⟨pb,0,none⟩) λb1 o1=>ldS h b1 (o1+(s+3)) λl1=>dr (some ⟨pb,0,none⟩) λb2 o2=>ldS h b2 (o2+(s+5)) λl2=>dr (some ⟨pb,0,none⟩) λb3 o3=>ldS h b3 (o3+(s+6)) λl3=>par ((l.n:Int)=0) (Q (.tuple ⟨[]⟩) h) (dr (some ⟨pb,0,none⟩) λb4 o4=>st h b4 (o4+(s+2)) 1 [.slice none 0 0] λh1=>dr (some ⟨pb,0,none⟩) λb5 o5=>st h1 b5 (o5+(s+3)) 1 [.slice none 0 0] λh2=>dr (some ⟨pb,0,none⟩) λb6 o6=>st h2 b6 (o6+(s+5)) 1 [.slice none 0 0] λh3=>dr (some ⟨pb,0,none⟩) λb7 o7=>st h3 b7 (o7+(s+6)) 1 [.slice none 0 0] λh4=>∃ (I:Int->Hp->Prop) (m:Int->Hp->Nat),I 0 h4/\(∀ n:Int,∀ h5:Hp,I n h5->par (n<(l.n:Int)) (ix l.a n l.n λb8 o8=>ldS h5 b8 (o8+n.toNat) λl4=>ix l2.a n l2.n λb9 o9=>ldI .i64 h5 b9 (o9+n.toNat) λn1=>ix l3.a n l3.n λb10 o10=>ldI .i64 h5 b10 (o10+n.toNat) λn2=>dr (some ⟨pb,0,none⟩) λb11 o11=>ldI .i64 h5 b11 (o11+2) λn3=>par (n3<n2) (dr (some ⟨pb,0,none⟩) λb12 o12=>ldS h5 b12 (o12+(s+2)) λl5=>appendD l5 tL 1 24 [.slice none 0 0] 1 [.slice l4.a l4.n l4.c] h5 λl6 h6=>dr (some ⟨pb,0,none⟩) λb13 o13=>st h6 b13 (o13+(s+2)) 1 [.slice l6.a l6.n l6.c] λh7=>dr (some ⟨pb,0,none⟩) λb14 o14=>ldS h7 b14 (o14+(s+3)) λl7=>ix l1.a n l1.n λb15 o15=>ldS h7 b15 (o15+n.toNat) λl8=>h7.at b14 (o14+(s+3))=some (.slice l7.a l7.n l7.c)/\appendD l7 tL 1 24 [.slice none 0 0] 1 [.slice l8.a l8.n l8.c] h7 λl9 h8=>dr (some ⟨pb,0,none⟩) λb16 o16=>st h8 b16 (o16+(s+3)) 1 [.slice l9.a l9.n l9.c] λh9=>dr (some ⟨pb,0,none⟩) λb17 o17=>ldS h9 b17 (o17+(s+5)) λl10=>appendD l10 3 1 8 [.int .i64 0] 1 [.int .i64 n1] h9 λl11 h10=>dr (some ⟨pb,0,none⟩) λb18 o18=>st h10 b18 (o18+(s+5)) 1 [.slice l11.a l11.n l11.c] λh11=>dr (some ⟨pb,0,none⟩) λb19 o19=>ldS h11 b19 (o19+(s+6)) λl12=>ix l3.a n l3.n λb20 o20=>ldI .i64 h11 b20 (o20+n.toNat) λn4=>h11.at b19 (o19+(s+6))=some (.slice l12.a l12.n l12.c)/\appendD l12 3 1 8 [.int .i64 0] 1 [.int .i64 n4] h11 λl13 h12=>dr (some ⟨pb,0,none⟩) λb21 o21=>st h12 b21 (o21+(s+6)) 1 [.slice l13.a l13.n l13.c] λh13=>I (wrap .i64 (n+1)) h13/\m (wrap .i64 (n+1)) h13<m n h5) (∃ J:Hp->Prop,(∀ h14:Hp,J h14->∃ (I1:Int->Hp->Prop) (m1:Int->Hp->Nat),I1 0 h14/\(∀ n5:Int,∀ h15:Hp,I1 n5 h15->par (n5<(l4.n:Int)) (WR n1 n5 h15 λus h16=>ix l4.a n5 l4.n λb22 o22=>st h16 b22 (o22+OF n5) sz us λh17=>I1 (wrap .i64 (n5+1)) h17/\m1 (wrap .i64 (n5+1)) h17<m1 n5 h15) (dr (some ⟨pb,0,none⟩) λb23 o23=>ldS h15 b23 (o23+(s+0)) λl14=>appendD l14 tL 1 24 [.slice none 0 0] 1 [.slice l4.a l4.n l4.c] h15 λl15 h17=>dr (some ⟨pb,0,none⟩) λb24 o24=>st h17 b24 (o24+(s+0)) 1 [.slice l15.a l15.n l15.c] λh18=>dr (some ⟨pb,0,none⟩) λb25 o25=>ldS h18 b25 (o25+(s+1)) λl16=>nw h18 (.cells ⟨[]⟩ t (0,0)) λb26 h19=>h19.at b25 (o25+(s+1))=some (.slice l16.a l16.n l16.c)/\∃ vs,h19.row l4.a (l4.n*sz) vs/\(∀ v∈vs,Value.oneCell' v=true)/\appendD ⟨(some ⟨b26,0,none⟩),0,0⟩ t sz bytes zs l4.n vs h19 λl17 h20=>h20.at b25 (o25+(s+1))=some (.slice l16.a l16.n l16.c)/\h20.at b25 (o25+(s+1))=some (.slice l16.a l16.n l16.c)/\appendD l16 tL 1 24 [.slice none 0 0] 1 [.slice l17.a l17.n l17.c] h20 λl18 h21=>dr (some ⟨pb,0,none⟩) λb27 o26=>st h21 b27 (o26+(s+1)) 1 [.slice l18.a l18.n l18.c] λh22=>dr (some ⟨pb,0,none⟩) λb28 o27=>ldS h22 b28 (o27+(s+4)) λl19=>appendD l19 tL 1 24 [.slice none 0 0] 1 [.slice l4.a l4.n l4.c] h22 λl20 h23=>dr (some ⟨pb,0,none⟩) λb29 o28=>st h23 b29 (o28+(s+4)) 1 [.slice l20.a l20.n l20.c] λh24=>dr (some ⟨pb,0,none⟩) λb30 o29=>ldS h24 b30 (o29+(s+7)) λl21=>appendD l21 3 1 8 [.int .i64 0] 1 [.int .i64 n1] h24 λl22 h25=>dr (some ⟨pb,0,none⟩) λb31 o30=>st h25 b31 (o30+(s+7)) 1 [.slice l22.a l22.n l22.c] λh26=>I (wrap .i64 (n+1)) h26/\m (wrap .i64 (n+1)) h26<m n h5)))/\(dr (some ⟨pb,0,none⟩) λb32 o31=>ldB h5 b32 (o31+1) (dr (some ⟨pb,0,none⟩) λb33 o32=>st h5 b33 (o32+1) 1 [.bool true] λh27=>J h27) (dr (some ⟨pb,0,none⟩) λb34 o33=>ldB h5 b34 (o33+0) (dr (some ⟨pb,0,none⟩) λb35 o34=>st h5 b35 (o34+1) 1 [.bool false] λh28=>J h28) (ix l1.a n l1.n λb36 o35=>ldS h5 b36 (o35+n.toNat) λl23=>S l4 l23 h5 λr h29=>retB r (dr (some ⟨pb,0,none⟩) λb37 o36=>st h29 b37 (o36+1) 1 [.bool false] λh30=>J h30) (dr (some ⟨pb,0,none⟩) λb38 o37=>st h29 b38 (o37+1) 1 [.bool true] λh31=>J h31)))))) (Q (.tuple ⟨[]⟩) h5)))
section
variable{g h:Hp}{m:Mem}{pb R tB t s c tL tA sz bytes:Nat}{cs zs us:List Value}{A:Sl}{outs:List (Sl×Sl)}{ws:List WL}{fr0:List FR}{Q:Value->Hp->Prop}{K:Hp->Prop}{KD:Nat->Value->Prop}
theorem take_f{f:Nat}(O:Mine g h m)(hb:m kB=some (bkF pb R tB cs))(ha:m (kA c f)=some ⟨A,1,tA,us⟩)(hc:cs[s+f]?=some (slv A))(hn:m (kO c f)=none)
  (hK:∀ h' m' cs',Mine g h' m'->m' kB=some (bkF pb R tB cs')->m' (kA c f)=some ⟨⟨none,0,0⟩,1,tA,[]⟩->m' (kO c f)=some ⟨A,1,tA,us⟩->(∀ j,j≠kB->j≠kA c f->j≠kO c f->m' j=m j)->cs'[s+f]?=some (.slice none 0 0)->(∀ i,i≠s+f->cs'[i]?=cs[i]?)->K h') :
  dr (some ⟨pb,0,none⟩) λb o=>st h b (o+(s+f)) 1 [.slice none 0 0] λh'=>K h':=by
 obtain⟨w1,O1⟩:=O.setCell hb hc (.slice none 0 0)
 refine⟨pb,0,rfl,w1,?_⟩
 have O2:=O1.move (k:=kA c f) (k':=kO c f) (by rw[put_ne _ _ (kA_kB _ _)];exact ha) (by rw[put_ne _ _ (kO_kB _ _)];exact hn)
 have O3:=O2.nil (k:=kA c f) (by rw[put_ne _ _ (Ne.symm (kO_kA _ _ _ _)),del_self]) 1 tA
 refine hK _ _ _ O3 ?_ (put_self _ _ _) ?_ (λj h1 h2 h3=>?_) (getElem?_set_self (List.getElem?_eq_some_iff.1 hc).1) λi hi=>getElem?_set_ne (Ne.symm hi)
 ·rw[put_ne _ _ (Ne.symm (kA_kB _ _)),put_ne _ _ (Ne.symm (kO_kB _ _)),del_ne _ (Ne.symm (kA_kB _ _)),put_self]
 ·rw[put_ne _ _ (kO_kA _ _ _ _),put_self]
 ·rw[put_ne _ _ h2,put_ne _ _ h3,del_ne _ h2,put_ne _ _ h1]
theorem mark_k{S:Sl->Sl->Hp->(Value->Hp->Prop)->Prop}{OF:Int->Nat}{WR:Int->Int->Hp->(List Value->Hp->Prop)->Prop}{now:Bool}{turn:Int}(hS:∀ l l' (h:Hp) vs K,Cols KD sz vs->h.row l.a (l.n*sz) vs->h.row l'.a (l'.n*sz) vs->l.n=l'.n->l.n<=140737488355328->K (.bool true) h->S l l' h K)
  (hsz:0<sz) (hOF:∀ i:Nat,OF (i:Int)=i*sz) (hWR:∀ a i h' K,Keep g h'->(∀ h'' us,Keep h' h''->us.length=sz->Cols KD sz us->K us h'')->WR a i h' K) (hKD:∀ c v,KD c v->Value.oneCell' v=true) (hz:zs.length=sz) (hs:4<=s) (hby:0<bytes)
  (O:Mine g h m) (hb:m kB=some (bkF pb R tB cs)) (kt:m kT=none) (ko:NoO m c) (c0:cs[0]?=some (.bool now)) (c1:cs[1]?=some (.bool false)) (c2:cs[2]?=some (.int .i64 turn))
  (E:KE g m cs KD c s tL sz t bytes ws fr0 outs) (W:∀ w∈ws,WOk g m KD c sz t bytes w) (nd:(ws.map (·.id)++fr0.map (·.id)).Nodup) (lw:ws.length<=1000000) (lf:fr0.length<=1000000) (lo:outs.length<=100000000)
  (hQ:∀ h' g' m' cs' kept fr outs',Keep g g'->Mine g' h' m'->m' kB=some (bkF pb R tB cs')->m' kT=none->NoO m' c->KE g' m' cs' KD c s tL sz t bytes kept fr outs'->(∀ w∈kept,WOk g' m' KD c sz t bytes w)->(kept.map (·.id)++fr.map (·.id)).Nodup->(∀ i,i∈kept.map (·.id)++fr.map (·.id)->i∈ws.map (·.id)++fr0.map (·.id))->kept.length+fr.length=ws.length+fr0.length->outs'.length+fr0.length=outs.length+fr.length->(∀ j,j≠kB->(∀ f,j≠kA c f)->(∀ f,j≠kO c f)->(∀ w∈ws,j≠kL c w.id)->m' j=m j)->(∀ i,(∀ f,f<8->i≠s+f)->cs'[i]?=cs[i]?)->Q (.tuple ⟨[]⟩) h') :
  markT pb s tL t sz bytes zs OF WR S h Q:=by
 obtain⟨A2,m2,e2⟩:=E.a2
 obtain⟨A3,m3,e3⟩:=E.a3
 obtain⟨A5,m5,e5⟩:=E.a5
 obtain⟨A6,m6,e6⟩:=E.a6
 have n2:A2.n=ws.length:=by have:=(O.buf _ _ m2).len;simp only[length_map,Nat.mul_one] at this;omega
 refine⟨pb,0,rfl,A2,O.cell hb e2,pb,0,rfl,A3,O.cell hb e3,pb,0,rfl,A5,O.cell hb e5,pb,0,rfl,A6,O.cell hb e6,λh0=>?_,λh0=>?_⟩
 ·have:ws=[]:=eq_nil_of_length_eq_zero (by omega)
  subst this
  exact hQ h g m cs [] fr0 outs (Keep.refl g) O hb kt ko E (λw hw=>by cases hw) nd (λi hi=>hi) rfl rfl (λ_ _ _ _ _=>rfl) (λ_ _=>rfl)
 refine take_f O hb m2 e2 ko.1 λh1 M1 cs1 O1 hb1 p1 q1 r1 x1 y1=>?_
 refine take_f (f:=3) O1 hb1 (by rw[r1 _ (kA_kB _ _) (kA_ne (by decide)) (Ne.symm (kO_kA _ _ _ _))];exact m3) (by rw[y1 _ (by omega)];exact e3) (by rw[r1 _ (kO_kB _ _) (kO_kA _ _ _ _) (kO_ne (by decide))];exact ko.2.1) λh2 M2 cs2 O2 hb2 p2 q2 r2 x2 y2=>?_
 refine take_f (f:=5) O2 hb2 (by rw[r2 _ (kA_kB _ _) (kA_ne (by decide)) (Ne.symm (kO_kA _ _ _ _)),r1 _ (kA_kB _ _) (kA_ne (by decide)) (Ne.symm (kO_kA _ _ _ _))];exact m5) (by rw[y2 _ (by omega),y1 _ (by omega)];exact e5) (by rw[r2 _ (kO_kB _ _) (kO_kA _ _ _ _) (kO_ne (by decide)),r1 _ (kO_kB _ _) (kO_kA _ _ _ _) (kO_ne (by decide))];exact ko.2.2.1) λh3 M3 cs3 O3 hb3 p3 q3 r3 x3 y3=>?_
 refine take_f (f:=6) O3 hb3 (by rw[r3 _ (kA_kB _ _) (kA_ne (by decide)) (Ne.symm (kO_kA _ _ _ _)),r2 _ (kA_kB _ _) (kA_ne (by decide)) (Ne.symm (kO_kA _ _ _ _)),r1 _ (kA_kB _ _) (kA_ne (by decide)) (Ne.symm (kO_kA _ _ _ _))];exact m6) (by rw[y3 _ (by omega),y2 _ (by omega),y1 _ (by omega)];exact e6) (by rw[r3 _ (kO_kB _ _) (kO_kA _ _ _ _) (kO_ne (by decide)),r2 _ (kO_kB _ _) (kO_kA _ _ _ _) (kO_ne (by decide)),r1 _ (kO_kB _ _) (kO_kA _ _ _ _) (kO_ne (by decide))];exact ko.2.2.2) λh4 M4 cs4 O4 hb4 p4 q4 r4 x4 y4=>?_
 have mem4:∀ j,j≠kB->(∀ f,j≠kA c f)->(∀ f,j≠kO c f)->M4 j=m j:=λj h1 h2 h3=>by rw[r4 _ h1 (h2 _) (h3 _),r3 _ h1 (h2 _) (h3 _),r2 _ h1 (h2 _) (h3 _),r1 _ h1 (h2 _) (h3 _)]
 have memA:∀ f,f≠2->f≠3->f≠5->f≠6->M4 (kA c f)=m (kA c f):=λf h2 h3 h5 h6=>by rw[r4 _ (kA_kB _ _) (kA_ne h6) (Ne.symm (kO_kA _ _ _ _)),r3 _ (kA_kB _ _) (kA_ne h5) (Ne.symm (kO_kA _ _ _ _)),r2 _ (kA_kB _ _) (kA_ne h3) (Ne.symm (kO_kA _ _ _ _)),r1 _ (kA_kB _ _) (kA_ne h2) (Ne.symm (kO_kA _ _ _ _))]
 have cell4:∀ i,i≠s+2->i≠s+3->i≠s+5->i≠s+6->cs4[i]?=cs[i]?:=λi h2 h3 h5 h6=>by rw[y4 _ h6,y3 _ h5,y2 _ h3,y1 _ h2]
 have L0:LS g M4 cs4 KD pb R tB c s tL sz t bytes now turn A2 A3 A5 A6 ws ws [] fr0 outs:=by
  refine⟨hb4,by rw[mem4 _ (λe=>by cases e) (λ_ e=>by cases e) (λ_ e=>by cases e)];exact kt,by rw[cell4 _ (by omega) (by omega) (by omega) (by omega)];exact c0,by rw[cell4 _ (by omega) (by omega) (by omega) (by omega)];exact c1,by rw[cell4 _ (by omega) (by omega) (by omega) (by omega)];exact c2,⟨?_,?_,?_,?_,?_,?_,?_,?_,λf hf=>(E.f f hf).keep (Keep.refl g) (mem4 _ (kL_kB _ _) (λ_=>kL_kA _ _ _ _) (λ_=>Ne.symm (kO_kL _ _ _ _))),E.o⟩,λw hw=>?_,by rw[List.map_nil,append_nil];exact nd,?_,?_,?_,q4⟩
  ·rw[memA 0 (by decide) (by decide) (by decide) (by decide),cell4 _ (by omega) (by omega) (by omega) (by omega)];exact E.a0
  ·rw[memA 1 (by decide) (by decide) (by decide) (by decide),cell4 _ (by omega) (by omega) (by omega) (by omega)];exact E.a1
  ·exact⟨_,by rw[r4 _ (kA_kB _ _) (kA_ne (by decide)) (Ne.symm (kO_kA _ _ _ _)),r3 _ (kA_kB _ _) (kA_ne (by decide)) (Ne.symm (kO_kA _ _ _ _)),r2 _ (kA_kB _ _) (kA_ne (by decide)) (Ne.symm (kO_kA _ _ _ _))];exact p1,by rw[y4 _ (by omega),y3 _ (by omega),y2 _ (by omega)];exact x1⟩
  ·exact⟨_,by rw[r4 _ (kA_kB _ _) (kA_ne (by decide)) (Ne.symm (kO_kA _ _ _ _)),r3 _ (kA_kB _ _) (kA_ne (by decide)) (Ne.symm (kO_kA _ _ _ _))];exact p2,by rw[y4 _ (by omega),y3 _ (by omega)];exact x2⟩
  ·rw[memA 4 (by decide) (by decide) (by decide) (by decide),cell4 _ (by omega) (by omega) (by omega) (by omega)];exact E.a4
  ·exact⟨_,by rw[r4 _ (kA_kB _ _) (kA_ne (by decide)) (Ne.symm (kO_kA _ _ _ _))];exact p3,by rw[y4 _ (by omega)];exact x3⟩
  ·exact⟨_,p4,x4⟩
  ·rw[memA 7 (by decide) (by decide) (by decide) (by decide),cell4 _ (by omega) (by omega) (by omega) (by omega)];exact E.a7
  ·rw[append_nil] at hw
   exact(W w hw).keep (Keep.refl g) (mem4 _ (kL_kB _ _) (λ_=>kL_kA _ _ _ _) (λ_=>Ne.symm (kO_kL _ _ _ _)))
  ·rw[r4 _ (kO_kB _ _) (kO_kA _ _ _ _) (kO_ne (by decide)),r3 _ (kO_kB _ _) (kO_kA _ _ _ _) (kO_ne (by decide)),r2 _ (kO_kB _ _) (kO_kA _ _ _ _) (kO_ne (by decide))];exact q1
  ·rw[r4 _ (kO_kB _ _) (kO_kA _ _ _ _) (kO_ne (by decide)),r3 _ (kO_kB _ _) (kO_kA _ _ _ _) (kO_ne (by decide))];exact q2
  ·rw[r4 _ (kO_kB _ _) (kO_kA _ _ _ _) (kO_ne (by decide))];exact q3
 clear r1 r2 r3 r4 y1 y2 y3 y4 p1 p2 p3 p4 q1 q2 q3 q4 x1 x2 x3 x4
 refine⟨λn h5=>∃ (D rm kept:List WL) (fr:List FR) (g':Hp) (m':Mem) (cs':List Value) (outs':List (Sl×Sl)),ws=D++rm/\n=(D.length:Int)/\Keep g g'/\Mine g' h5 m'/\LS g' m' cs' KD pb R tB c s tL sz t bytes now turn A2 A3 A5 A6 ws rm kept fr outs'/\kept.length+fr.length=D.length+fr0.length/\outs'.length+fr0.length=outs.length+fr.length/\(∀ i,i∈kept.map (·.id)++fr.map (·.id)->i∈D.map (·.id)++fr0.map (·.id))/\(∀ j,j≠kB->(∀ f,j≠kA c f)->(∀ f,j≠kO c f)->(∀ w∈ws,j≠kL c w.id)->m' j=m j)/\(∀ i,(∀ f,f<8->i≠s+f)->cs'[i]?=cs[i]?),λn _=>ws.length-n.toNat,⟨[],ws,[],fr0,g,M4,cs4,outs,rfl,rfl,Keep.refl g,O4,L0,by simp,rfl,λi hi=>hi,λj h1 h2 h3 _=>mem4 j h1 h2 h3,λi hi=>cell4 i (hi 2 (by decide)) (hi 3 (by decide)) (hi 5 (by decide)) (hi 6 (by decide))⟩,?_⟩
 rintro n h5 ⟨D,rm,kept,fr,g',m',cs',outs',e,rfl,Kg,O5,L,hkf,hlo,hid,hmem,hrest⟩
 have eL:=congrArg List.length e
 rw[length_append] at eL
 refine⟨λhlt=>?_,λhge=>?_⟩
 ·rcases rm with _|⟨w,rm⟩
  ·exact absurd hlt (by simp at eL;omega)
  rw[length_cons] at eL
  have hD:D.length<ws.length:=by omega
  have gw:ws[D.length]?=some w:=by rw[e,getElem?_append_right (Nat.le_refl _),Nat.sub_self];rfl
  have wmem:w∈ws:=by rw[e];simp
  have n5:A5.n=ws.length:=by have:=(O5.buf _ _ L.o5).len;simp only[length_map,Nat.mul_one] at this;omega
  have n6:A6.n=ws.length:=by have:=(O5.buf _ _ L.o6).len;simp only[length_map,Nat.mul_one] at this;omega
  have n3:A3.n=ws.length:=by have:=(O5.buf _ _ L.o3).len;simp only[length_map,Nat.mul_one] at this;omega
  obtain⟨b8,ha8,k8⟩:=buf_at (O5.buf _ _ L.o2) (k:=D.length) (by rw[length_map];exact hD)
  obtain⟨b9,ha9,k9⟩:=buf_at (O5.buf _ _ L.o5) (k:=D.length) (by rw[length_map];exact hD)
  obtain⟨b10,ha10,k10⟩:=buf_at (O5.buf _ _ L.o6) (k:=D.length) (by rw[length_map];exact hD)
  dsimp only at ha8 ha9 ha10 k8 k9 k10
  rw[getElem?_map,gw] at k8 k9 k10
  obtain⟨w1,w2,w3,w4,w5⟩:=L.W w (by simp)
  obtain⟨A0,x0,y0⟩:=L.E.a0
  obtain⟨A1,x1,y1⟩:=L.E.a1
  obtain⟨B2,x2,y2⟩:=L.E.a2
  obtain⟨B3,x3,y3⟩:=L.E.a3
  obtain⟨A4,x4,y4⟩:=L.E.a4
  obtain⟨B5,x5,y5⟩:=L.E.a5
  obtain⟨B6,x6,y6⟩:=L.E.a6
  obtain⟨A7,x7,y7⟩:=L.E.a7
  have ndc:=L.nd
  rw[map_cons,List.cons_append,List.cons_append,List.nodup_cons] at ndc
  have nrm:∀ v∈rm,v.id≠w.id:=λv hv q=>ndc.1 (by rw[<- q];exact mem_append_left _ (mem_append_left _ (mem_map_of_mem (f:=λx:WL=>x.id) hv)))
  have nke:∀ v∈kept,v.id≠w.id:=λv hv q=>ndc.1 (by rw[<- q];exact mem_append_left _ (List.mem_append_right _ (mem_map_of_mem (f:=λx:WL=>x.id) hv)))
  have nfr:∀ v∈fr,v.id≠w.id:=λv hv q=>ndc.1 (by rw[<- q];exact List.mem_append_right _ (mem_map_of_mem (f:=λx:FR=>x.id) hv))
  refine⟨b8,0,ha8,⟨by omega,by omega⟩,w.s,by rw[Int.toNat_natCast];exact k8,b9,0,ha9,⟨by omega,by omega⟩,w.mark,by rw[Int.toNat_natCast];exact k9,b10,0,ha10,⟨by omega,by omega⟩,w.due,by rw[Int.toNat_natCast];exact k10,pb,0,rfl,turn,O5.cell L.hb L.c2,λhdue=>?_,λhdue=>?_⟩
  ·refine wait_k (l:=w.s) (nt:=w.nt) (mark:=w.mark) (due:=w.due) O5 L.hb x2 y2 x3 y3 x5 y5 x6 y6 L.o3 (by rw[getElem?_map,gw];rfl) L.o6 (by rw[getElem?_map,gw];rfl) (by rw[length_map];omega) (by rw[length_map];omega) (by rw[length_map];omega) (by rw[length_map];omega) λh6 m6 cs6 O6 hb6 X=>?_
   rw[nx_i (n:=100000000) (by omega) (by omega)]
   have XL:∀ i,m6 (kL c i)=m' (kL c i):=λi=>X.mem _ (kL_kB _ _) (kL_kA _ _ _ _) (kL_kA _ _ _ _) (kL_kA _ _ _ _) (kL_kA _ _ _ _)
   have XO:∀ i,m6 (kO c i)=m' (kO c i):=λi=>X.mem _ (kO_kB _ _) (kO_kA _ _ _ _) (kO_kA _ _ _ _) (kO_kA _ _ _ _) (kO_kA _ _ _ _)
   have XA:∀ f,f≠2->f≠3->f≠5->f≠6->m6 (kA c f)=m' (kA c f):=λf h2 h3 h5 h6=>X.mem _ (kA_kB _ _) (kA_ne h2) (kA_ne h3) (kA_ne h5) (kA_ne h6)
   refine⟨⟨D++[w],rm,kept++[w],fr,g',m6,cs6,outs',by rw[e];simp,by simp,Kg,O6,⟨hb6,?_,?_,?_,?_,⟨?_,?_,?_,?_,?_,?_,?_,?_,λf hf=>(L.E.f f hf).keep (Keep.refl g') (XL _),L.E.o⟩,λv hv=>?_,?_,by rw[XO];exact L.o2,by rw[XO];exact L.o3,by rw[XO];exact L.o5,by rw[XO];exact L.o6⟩,by rw[length_append,length_append,length_singleton];omega,hlo,λi hi=>?_,λj h1 h2 h3 h4=>?_,λi hi=>?_⟩,by dsimp only;omega⟩
   ·rw[X.mem _ (λe=>by cases e) (λe=>by cases e) (λe=>by cases e) (λe=>by cases e) (λe=>by cases e)];exact L.kt
   ·rw[X.rest _ (by omega) (by omega) (by omega) (by omega)];exact L.c0
   ·rw[X.rest _ (by omega) (by omega) (by omega) (by omega)];exact L.c1
   ·rw[X.rest _ (by omega) (by omega) (by omega) (by omega)];exact L.c2
   ·rw[XA _ (by decide) (by decide) (by decide) (by decide),X.rest _ (by omega) (by omega) (by omega) (by omega)];exact L.E.a0
   ·rw[XA _ (by decide) (by decide) (by decide) (by decide),X.rest _ (by omega) (by omega) (by omega) (by omega)];exact L.E.a1
   ·rw[map_append];exact X.a2
   ·rw[map_append];exact X.a3
   ·rw[XA _ (by decide) (by decide) (by decide) (by decide),X.rest _ (by omega) (by omega) (by omega) (by omega)];exact L.E.a4
   ·rw[map_append];exact X.a5
   ·rw[map_append];exact X.a6
   ·rw[XA _ (by decide) (by decide) (by decide) (by decide),X.rest _ (by omega) (by omega) (by omega) (by omega)];exact L.E.a7
   ·refine(L.W v ?_).keep (Keep.refl g') (XL _)
    simp only[mem_append,mem_cons,List.not_mem_nil,or_false] at hv ⊢
    rcases hv with hv|hv|hv
    ·exact .inl (.inr hv)
    ·exact .inr hv
    ·exact .inl (.inl hv)
   ·rw[map_append,show rm.map (·.id)++(kept.map (·.id)++List.map (·.id) [w])++fr.map (·.id)=(rm.map (·.id)++kept.map (·.id))++w.id::fr.map (·.id) by simp]
    exact(List.perm_middle.nodup_iff).2 (List.nodup_cons.2 ndc)
   ·simp only[map_append,mem_append,map_cons,List.map_nil] at hi hid ⊢
    rcases hi with(hi|hi)|hi
    ·exact(hid i (.inl hi)).elim (λq=>.inl (.inl q)) .inr
    ·exact .inl (.inr hi)
    ·exact(hid i (.inr hi)).elim (λq=>.inl (.inl q)) .inr
   ·rw[X.mem _ h1 (h2 _) (h2 _) (h2 _) (h2 _)]
    exact hmem j h1 h2 h3 h4
   ·rw[X.rest _ (hi 2 (by decide)) (hi 3 (by decide)) (hi 5 (by decide)) (hi 6 (by decide))]
    exact hrest i hi
  ·obtain⟨st1,O5'⟩:=O5.setCell L.hb L.c1 (.bool false)
   rw[set_same L.c1,put_same L.hb] at O5'
   refine⟨λh14=>Mine g' h14 m',λh14 O14=>?_,pb,0,rfl,false,O5.cell L.hb L.c1,λq=>Bool.noConfusion q,λ_=>⟨pb,0,rfl,now,O5.cell L.hb L.c0,λ_=>⟨pb,0,rfl,st1,O5'⟩,λ_=>?_⟩⟩
   ·have hn:w.s.n*bytes<=140737488355328:=Nat.le_trans (Nat.mul_le_mul_right _ (by omega)) w3
    refine fill_k (OF:=OF) (WR:=WR w.mark) O14 w1 hsz hOF (λi h' K k=>hWR w.mark i h' K (Kg.trans k)) w2 (Nat.le_trans (Nat.le_mul_of_pos_right _ hby) hn) λh15 us O15 hus=>?_
    have pA:∀ f,(m'.put (kL c w.id) ⟨w.s,sz,t,us⟩) (kA c f)=m' (kA c f):=λf=>put_ne _ _ (Ne.symm (kL_kA _ _ _ _))
    refine out_k (mark:=w.mark) O15 (by rw[put_ne _ _ (Ne.symm (kL_kB _ _))];exact L.hb) (by rw[put_ne _ _ (λe=>by cases e)];exact L.kt) (put_self _ _ _) (kL_kB _ _) (λ_=>kL_kA _ _ _ _) (by rw[pA];exact x0) y0 (by rw[pA];exact x1) y1 (by rw[pA];exact x4) y4 (by rw[pA];exact x7) y7 (by rw[length_map];omega) (by rw[length_map];omega) (by rw[length_map];omega) (by rw[length_map];omega) (hus.one hKD) hz hn λh16 g2 m2 cs2 nt Kg2 O16 hb16 X rnt hnt=>?_
    rw[nx_i (n:=100000000) (by omega) (by omega)]
    have XL:∀ i,m2 (kL c i)=(m'.put (kL c w.id) ⟨w.s,sz,t,us⟩) (kL c i):=λi=>X.mem _ (kL_kB _ _) (kL_kA _ _ _ _) (kL_kA _ _ _ _) (kL_kA _ _ _ _) (kL_kA _ _ _ _)
    have XL':∀ i,i≠w.id->m2 (kL c i)=m' (kL c i):=λi hi=>by rw[XL,put_ne _ _ (λq=>hi (by unfold kL at q;simpa using q))]
    have XO:∀ i,m2 (kO c i)=m' (kO c i):=λi=>by rw[X.mem _ (kO_kB _ _) (kO_kA _ _ _ _) (kO_kA _ _ _ _) (kO_kA _ _ _ _) (kO_kA _ _ _ _),put_ne _ _ (kO_kL _ _ _ _)]
    have XA:∀ f,f≠0->f≠1->f≠4->f≠7->m2 (kA c f)=m' (kA c f):=λf h2 h3 h5 h6=>by rw[X.mem _ (kA_kB _ _) (kA_ne h2) (kA_ne h3) (kA_ne h5) (kA_ne h6),pA]
    refine⟨⟨D++[w],rm,kept,fr++[⟨w.id,w.s,nt,us,w.mark⟩],g2,m2,cs2,outs'++[(w.s,nt)],by rw[e];simp,by simp,Kg.trans Kg2,O16,⟨hb16,?_,?_,?_,?_,⟨?_,?_,?_,?_,?_,?_,?_,?_,λf hf=>?_,λp hp=>?_⟩,λv hv=>?_,?_,by rw[XO];exact L.o2,by rw[XO];exact L.o3,by rw[XO];exact L.o5,by rw[XO];exact L.o6⟩,by rw[length_append,length_append,length_singleton,length_singleton];omega,by rw[length_append,length_append,length_singleton,length_singleton];omega,λi hi=>?_,λj h1 h2 h3 h4=>?_,λi hi=>?_⟩,by dsimp only;omega⟩
    ·rw[X.mem _ (λe=>by cases e) (λe=>by cases e) (λe=>by cases e) (λe=>by cases e) (λe=>by cases e),put_ne _ _ (λe=>by cases e)];exact L.kt
    ·rw[X.rest _ (by omega) (by omega) (by omega) (by omega)];exact L.c0
    ·rw[X.rest _ (by omega) (by omega) (by omega) (by omega)];exact L.c1
    ·rw[X.rest _ (by omega) (by omega) (by omega) (by omega)];exact L.c2
    ·rw[map_append];exact X.a0
    ·rw[map_append];exact X.a1
    ·rw[XA _ (by decide) (by decide) (by decide) (by decide),X.rest _ (by omega) (by omega) (by omega) (by omega)];exact L.E.a2
    ·rw[XA _ (by decide) (by decide) (by decide) (by decide),X.rest _ (by omega) (by omega) (by omega) (by omega)];exact L.E.a3
    ·rw[map_append];exact X.a4
    ·rw[XA _ (by decide) (by decide) (by decide) (by decide),X.rest _ (by omega) (by omega) (by omega) (by omega)];exact L.E.a5
    ·rw[XA _ (by decide) (by decide) (by decide) (by decide),X.rest _ (by omega) (by omega) (by omega) (by omega)];exact L.E.a6
    ·rw[map_append];exact X.a7
    ·rcases mem_append.1 hf with hf|hf
     ·exact(L.E.f f hf).keep Kg2 (XL' _ (nfr f hf))
     ·rw[mem_singleton] at hf
      subst hf
      exact⟨by rw[XL];exact put_self _ _ _,hus,w3,rnt,hnt.symm⟩
    ·rcases mem_append.1 hp with hp|hp
     ·rcases L.E.o p hp with h|⟨f,hf,ep⟩
      ·exact .inl (h.keep Kg2)
      ·exact .inr ⟨f,mem_append_left _ hf,ep⟩
     ·rw[mem_singleton] at hp
      exact .inr ⟨_,List.mem_append_right _ (mem_singleton.2 rfl),hp⟩
    ·have hv':v.id≠w.id:=(mem_append.1 hv).elim (nrm v) (nke v)
     exact(L.W v (by rw[List.cons_append];exact List.mem_cons_of_mem _ hv)).keep Kg2 (XL' _ hv')
    ·rw[map_append,show rm.map (·.id)++kept.map (·.id)++(fr.map (·.id)++List.map (·.id) [(⟨w.id,w.s,nt,us,w.mark⟩:FR)])=((rm.map (·.id)++kept.map (·.id))++fr.map (·.id))++w.id::[] by simp]
     refine(List.perm_middle.nodup_iff).2 ?_
     rw[append_nil]
     exact List.nodup_cons.2 ndc
    ·simp only[map_append,mem_append,map_cons,List.map_nil] at hi hid ⊢
     rcases hi with hi|hi|hi
     ·exact(hid i (.inl hi)).elim (λq=>.inl (.inl q)) .inr
     ·exact(hid i (.inr hi)).elim (λq=>.inl (.inl q)) .inr
     ·exact .inl (.inr hi)
    ·rw[X.mem _ h1 (h2 _) (h2 _) (h2 _) (h2 _),put_ne _ _ (h4 w wmem)]
     exact hmem j h1 h2 h3 h4
    ·rw[X.rest _ (hi 0 (by decide)) (hi 1 (by decide)) (hi 4 (by decide)) (hi 7 (by decide))]
     exact hrest i hi
   ·obtain⟨b36,ha36,k36⟩:=buf_at (O5.buf _ _ L.o3) (k:=D.length) (by rw[length_map];exact hD)
    dsimp only at ha36 k36
    rw[getElem?_map,gw] at k36
    refine⟨b36,0,ha36,⟨by omega,by omega⟩,w.nt,by rw[Int.toNat_natCast];exact k36,hS _ _ _ w.vs _ w2 (O5.buf _ _ w1).row (O5.keep.row w4) w5 (Nat.le_trans (Nat.le_add_right _ 30) (Nat.le_trans (Nat.le_mul_of_pos_right _ hby) w3)) ⟨true,rfl,λ_=>⟨pb,0,rfl,st1,O5'⟩,λq=>Bool.noConfusion q⟩⟩
 ·have hR:rm=[]:=eq_nil_of_length_eq_zero (by omega)
  subst hR
  rw[append_nil] at e
  subst e
  have O6:=(((O5.del (kO c 2)).del (kO c 3)).del (kO c 5)).del (kO c 6)
  have dk:∀ j,(∀ f,j≠kO c f)->((((m'.del (kO c 2)).del (kO c 3)).del (kO c 5)).del (kO c 6)) j=m' j:=λj hj=>by rw[del_ne _ (hj _),del_ne _ (hj _),del_ne _ (hj _),del_ne _ (hj _)]
  have nd:=L.nd
  simp only[List.map_nil,List.nil_append] at nd
  refine hQ h5 g' _ cs' kept fr outs' Kg O6 (by rw[dk _ (λf=>Ne.symm (kO_kB _ _))];exact L.hb) (by rw[dk _ (λf e=>by cases e)];exact L.kt) ?_ (L.E.cong (Keep.refl g') (λf=>dk _ (λ_=>Ne.symm (kO_kA _ _ _ _))) (λf _=>dk _ (λ_=>Ne.symm (kO_kL _ _ _ _))) (λ_ _=>rfl)) (λw hw=>(L.W w (by simpa using hw)).keep (Keep.refl g') (dk _ (λ_=>Ne.symm (kO_kL _ _ _ _)))) nd hid hkf hlo (λj h1 h2 h3 h4=>by rw[dk j h3];exact hmem j h1 h2 h3 h4) hrest
  exact⟨by rw[del_ne _ (kO_ne (by decide)),del_ne _ (kO_ne (by decide)),del_ne _ (kO_ne (by decide)),del_self],by rw[del_ne _ (kO_ne (by decide)),del_ne _ (kO_ne (by decide)),del_self],by rw[del_ne _ (kO_ne (by decide)),del_self],del_self _ _⟩
end
end Go.Eng
end
