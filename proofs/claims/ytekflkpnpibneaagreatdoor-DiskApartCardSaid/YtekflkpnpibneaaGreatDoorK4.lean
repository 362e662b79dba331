/-
  JOINED.
-/
import Derived.Test.YtekflkpnpibneaaGreatDoorK3
import Derived.Test.YtekflkpnpibneaaGreatDoorK2
import Derived.Test.YtekflkpnpibneaaGreatDoorProg
set_option linter.unusedSimpArgs false
set_option linter.unusedVariables false
set_option maxRecDepth 100000
open Go.IntKind (wrap)
open List (length_append length_map length_cons eq_nil_of_length_eq_zero mem_of_getElem? mem_cons_self getElem?_eq_getElem getElem?_map map_append mem_cons_of_mem length_singleton map_cons mem_map_of_mem length_take mem_cons mem_append mem_singleton append_nil)
section
open Go.Proofs
namespace Go.Eng.YtekflkpnpibneaaGreatDoor
def F97.an:List (Nat×Ann):=[(58,.loop [(3,.sl),(10,.int .i64)] []),(3737,.order [0,1,2,3,4,5,6,7,9,10,11,12,13,14,8,15,16,17,18])]
def F97.G(T31:Sl->PT)(T130:Value->PT)(T131:Option Nat->PT)(m:Option Nat):PT:=λh Q=>
 T131 m h λr h1=>∃ v:Value,v.oneCell'=true/\r=v/\T130 v h1 λr1 h2=>∃ l:Sl,r1=.slice l.a l.n l.c/\∃ (I:Sl->Int->Hp->Prop) (m1:Sl->Int->Hp->Nat),I ⟨none,0,0⟩ 0 h2/\(∀ l1:Sl,∀ n:Int,∀ h3:Hp,I l1 n h3->par (n<(l.n:Int)) (∃ b o,(l.a:Option Addr)=some ⟨b,o,none⟩/\((0:Int)<=n/\n<(l.n:Int))/\∃ s:ByteArray,h3.at b (o+n.toNat)=some (.string s)/\∃ es c,h3.mp m es c/\keysFit (.string s) es/\∃ p:Option Addr,(mget es (.string s) (.pointer none))=.pointer p/\∃ b1 o1,(p:Option Addr)=some ⟨b1,o1,none⟩/\∃ l2:Sl,h3.at b1 o1=some (.slice l2.a l2.n l2.c)/\∃ es1 c1,h3.mp m es1 c1/\keysFit (.string s) es1/\∃ p1:Option Addr,(mget es1 (.string s) (.pointer none))=.pointer p1/\∃ b2 o2,(p1:Option Addr)=some ⟨b2,o2,none⟩/\∃ n1:Int,h3.at b2 (o2+1)=some (.int .i64 n1)/\T31 l2 h3 λr2 h4=>∃ l3:Sl,r2=.slice l3.a l3.n l3.c/\(∃ es2 c2,h4.mp m es2 c2/\keysFit (.string s) es2/\mget es2 (.string s) (.pointer none)=.pointer p1)/\h4.at b2 (o2+1)=some (.int .i64 n1)/\appendD l1 55 3 48 [.string ⟨#[]⟩,.slice none 0 0,.int .i64 0] 1 [.string s,.slice l3.a l3.n l3.c,.int .i64 n1] h4 λl4 h5=>I l4 (wrap .i64 (n+1)) h5/\m1 l4 (wrap .i64 (n+1)) h5<m1 l1 n h3) (Q (.slice l1.a l1.n l1.c) h3))
def F97.T(m:Option Nat):PT:=F97.G F31.T F130.T F131.T m
theorem F97.gen(V:Value->List Value->PT)(T31:Sl->PT)(T130:Value->PT)(T131:Option Nat->PT)(m:Option Nat):denF Tryz.prog [30] [(31,F31.W T31),(130,F130.W T130),(131,F131.W T131)] V F97.an Tryz.f97 [.v (.map m)]=F97.G T31 T130 T131 m:=by kernel_rfl
theorem F97.den(V:Value->List Value->PT)(m:Option Nat):denF Tryz.prog [30] [(31,F31.V),(130,F130.V),(131,F131.V)] V F97.an Tryz.f97 [.v (.map m)]=F97.T m:=F97.gen V F31.T F130.T F131.T m
def F97.W(T97:Option Nat->PT)(args:List Value):PT:=match args with
 |[.map m]=>T97 m
 |_=>λ_ _=>False
def F97.V:List Value->PT:=F97.W F97.T
theorem F97.ok:FOk Tryz.prog 97 F97.V:=by
 refine⟨⟨_,Tryz.func97,rfl,rfl⟩,λargs=>?_⟩
 have hG:GOk Tryz.prog [(31,F31.V),(130,F130.V),(131,F131.V)]:=GOk.cons F31.ok (GOk.cons F130.ok (GOk.cons F131.ok (GOk.nil)))
 have hV:VOk Tryz.prog noV:=noV_ok
 unfold F97.V F97.W
 split
 ·exact denF_okV hG hV Tryz.func97 (λh Q hq=>(F97.den _ _) ▸ hq)
 ·exact λh Q hq=>hq.elim
def F24.an:List (Nat×Ann):=[]
def F24.G(T97:Option Nat->PT)(p:Option Addr):PT:=λh Q=>
 ∃ b o,(p:Option Addr)=some ⟨b,o,none⟩/\∃ m:Option Nat,h.at b (o+1)=some (.map m)/\T97 m h λr h1=>∃ l:Sl,r=.slice l.a l.n l.c/\Q (.slice l.a l.n l.c) h1
def F24.T(p:Option Addr):PT:=F24.G F97.T p
theorem F24.gen(V:Value->List Value->PT)(T97:Option Nat->PT)(p:Option Addr):denF Tryz.prog [] [(97,F97.W T97)] V F24.an Tryz.f24 [.v (.pointer p)]=F24.G T97 p:=by kernel_rfl
theorem F24.den(V:Value->List Value->PT)(p:Option Addr):denF Tryz.prog [] [(97,F97.V)] V F24.an Tryz.f24 [.v (.pointer p)]=F24.T p:=F24.gen V F97.T p
def F24.W(T24:Option Addr->PT)(args:List Value):PT:=match args with
 |[.pointer p]=>T24 p
 |_=>λ_ _=>False
def F24.V:List Value->PT:=F24.W F24.T
theorem F24.ok:FOk Tryz.prog 24 F24.V:=by
 refine⟨⟨_,Tryz.func24,rfl,rfl⟩,λargs=>?_⟩
 have hG:GOk Tryz.prog [(97,F97.V)]:=GOk.cons F97.ok (GOk.nil)
 have hV:VOk Tryz.prog noV:=noV_ok
 unfold F24.V F24.W
 split
 ·exact denF_okV hG hV Tryz.func24 (λh Q hq=>(F24.den _ _) ▸ hq)
 ·exact λh Q hq=>hq.elim
def F25.an:List (Nat×Ann):=[(28,.order [0,1,2,3,4,5,6,7,8,9,10,11,12,13,14]),(58,.loop [(32,.int .i64)] []),(250,.loop [(44,.int .i64)] []),(256410,.order [0,1,2,3,4,5,6,7,8,9,10,11,12,13,14,15,16,17,18,19])]
def F25.G(T32:Option Nat->PT)(T97:Option Nat->PT)(T98:Int->ByteArray->ByteArray->Option Addr->Option Nat->PT)(p:Option Addr)(n:Int)(l:Sl):PT:=λh Q=>
 ∃ b o,(p:Option Addr)=some ⟨b,o,none⟩/\∃ m:Option Nat,h.at b (o+2)=some (.map m)/\T32 m h λr h1=>∃ m1:Option Nat,r=.map m1/\∃ b1 o1,(p:Option Addr)=some ⟨b1,o1,none⟩/\∃ l1:Sl,h1.at b1 (o1+3)=some (.slice l1.a l1.n l1.c)/\∃ b2 o2,(p:Option Addr)=some ⟨b2,o2,none⟩/\∃ l2:Sl,h1.at b2 (o2+3)=some (.slice l2.a l2.n l2.c)/\Sl.okCut l1 0 (iMin (iMax n 0) (l2.n:Int)) (l1.c:Int)/\∃ (I:Int->Hp->Prop) (m2:Int->Hp->Nat),I 0 h1/\(∀ n1:Int,∀ h2:Hp,I n1 h2->par (n1<((Sl.cut l1 4 0 (iMin (iMax n 0) (l2.n:Int)) (l1.c:Int)).n:Int)) (∃ b3 o3,((Sl.cut l1 4 0 (iMin (iMax n 0) (l2.n:Int)) (l1.c:Int)).a:Option Addr)=some ⟨b3,o3,none⟩/\((0:Int)<=n1/\n1<((Sl.cut l1 4 0 (iMin (iMax n 0) (l2.n:Int)) (l1.c:Int)).n:Int))/\∃ n2:Int,h2.at b3 (o3+n1.toNat*4)=some (.int .i64 n2)/\∃ s:ByteArray,h2.at b3 ((o3+n1.toNat*4)+1)=some (.string s)/\∃ s1:ByteArray,h2.at b3 ((o3+n1.toNat*4)+2)=some (.string s1)/\∃ p1:Option Addr,h2.at b3 ((o3+n1.toNat*4)+3)=some (.pointer p1)/\T98 n2 s s1 p1 m1 h2 λr1 h3=>I (wrap .i64 (n1+1)) h3/\m2 (wrap .i64 (n1+1)) h3<m2 n1 h2) (T97 m1 h2 λr2 h4=>∃ l3:Sl,r2=.slice l3.a l3.n l3.c/\∃ (I1:Int->Hp->Prop) (m3:Int->Hp->Nat),I1 0 h4/\(∀ n3:Int,∀ h5:Hp,I1 n3 h5->par (n3<(l3.n:Int)) (∃ b4 o4,(l3.a:Option Addr)=some ⟨b4,o4,none⟩/\((0:Int)<=n3/\n3<(l3.n:Int))/\∃ n4:Int,h5.at b4 ((o4+n3.toNat*3)+2)=some (.int .i64 n4)/\par ((0:Int)<(l.n:Int)) ((l.n:Int)≠0/\∃ b5 o5,(l.a:Option Addr)=some ⟨b5,o5,none⟩/\((0:Int)<=(Int.tmod n3 (l.n:Int))/\(Int.tmod n3 (l.n:Int))<(l.n:Int))/\∃ n5:Int,h5.at b5 (o5+((Int.tmod n3 (l.n:Int))).toNat)=some (.int .i64 n5)/\∃ b6 o6,(l3.a:Option Addr)=some ⟨b6,o6,none⟩/\((0:Int)<=n3/\n3<(l3.n:Int))/\∃ l4:Sl,h5.at b6 ((o6+n3.toNat*3)+1)=some (.slice l4.a l4.n l4.c)/\∃ b7 o7,(l3.a:Option Addr)=some ⟨b7,o7,none⟩/\((0:Int)<=n3/\n3<(l3.n:Int))/\∃ l5:Sl,h5.at b7 ((o7+n3.toNat*3)+1)=some (.slice l5.a l5.n l5.c)/\Sl.okCut l5 0 (wrap .i64 (n4+(iMin (iMax n5 0) (wrap .i64 ((l4.n:Int)-n4))))) (wrap .i64 (n4+(iMin (iMax n5 0) (wrap .i64 ((l4.n:Int)-n4)))))/\∃ b8 o8,(l3.a:Option Addr)=some ⟨b8,o8,none⟩/\((0:Int)<=n3/\n3<(l3.n:Int))/\h5.canW b8 ((o8+n3.toNat*3)+1) 1/\∃ b9 o9,(l3.a:Option Addr)=some ⟨b9,o9,none⟩/\((0:Int)<=n3/\n3<(l3.n:Int))/\(h5.wr b8 ((o8+n3.toNat*3)+1) [.slice (Sl.cut l5 1 0 (wrap .i64 (n4+(iMin (iMax n5 0) (wrap .i64 ((l4.n:Int)-n4))))) (wrap .i64 (n4+(iMin (iMax n5 0) (wrap .i64 ((l4.n:Int)-n4)))))).a (Sl.cut l5 1 0 (wrap .i64 (n4+(iMin (iMax n5 0) (wrap .i64 ((l4.n:Int)-n4))))) (wrap .i64 (n4+(iMin (iMax n5 0) (wrap .i64 ((l4.n:Int)-n4)))))).n (Sl.cut l5 1 0 (wrap .i64 (n4+(iMin (iMax n5 0) (wrap .i64 ((l4.n:Int)-n4))))) (wrap .i64 (n4+(iMin (iMax n5 0) (wrap .i64 ((l4.n:Int)-n4)))))).c]).canW b9 ((o9+n3.toNat*3)+2) 1/\I1 (wrap .i64 (n3+1)) ((h5.wr b8 ((o8+n3.toNat*3)+1) [.slice (Sl.cut l5 1 0 (wrap .i64 (n4+(iMin (iMax n5 0) (wrap .i64 ((l4.n:Int)-n4))))) (wrap .i64 (n4+(iMin (iMax n5 0) (wrap .i64 ((l4.n:Int)-n4)))))).a (Sl.cut l5 1 0 (wrap .i64 (n4+(iMin (iMax n5 0) (wrap .i64 ((l4.n:Int)-n4))))) (wrap .i64 (n4+(iMin (iMax n5 0) (wrap .i64 ((l4.n:Int)-n4)))))).n (Sl.cut l5 1 0 (wrap .i64 (n4+(iMin (iMax n5 0) (wrap .i64 ((l4.n:Int)-n4))))) (wrap .i64 (n4+(iMin (iMax n5 0) (wrap .i64 ((l4.n:Int)-n4)))))).c]).wr b9 ((o9+n3.toNat*3)+2) [.int .i64 (wrap .i64 (n4+(iMin (iMax n5 0) (wrap .i64 ((l4.n:Int)-n4)))))])/\m3 (wrap .i64 (n3+1)) ((h5.wr b8 ((o8+n3.toNat*3)+1) [.slice (Sl.cut l5 1 0 (wrap .i64 (n4+(iMin (iMax n5 0) (wrap .i64 ((l4.n:Int)-n4))))) (wrap .i64 (n4+(iMin (iMax n5 0) (wrap .i64 ((l4.n:Int)-n4)))))).a (Sl.cut l5 1 0 (wrap .i64 (n4+(iMin (iMax n5 0) (wrap .i64 ((l4.n:Int)-n4))))) (wrap .i64 (n4+(iMin (iMax n5 0) (wrap .i64 ((l4.n:Int)-n4)))))).n (Sl.cut l5 1 0 (wrap .i64 (n4+(iMin (iMax n5 0) (wrap .i64 ((l4.n:Int)-n4))))) (wrap .i64 (n4+(iMin (iMax n5 0) (wrap .i64 ((l4.n:Int)-n4)))))).c]).wr b9 ((o9+n3.toNat*3)+2) [.int .i64 (wrap .i64 (n4+(iMin (iMax n5 0) (wrap .i64 ((l4.n:Int)-n4)))))])<m3 n3 h5) (∃ b10 o10,(l3.a:Option Addr)=some ⟨b10,o10,none⟩/\((0:Int)<=n3/\n3<(l3.n:Int))/\∃ l6:Sl,h5.at b10 ((o10+n3.toNat*3)+1)=some (.slice l6.a l6.n l6.c)/\Sl.okCut l6 0 n4 n4/\∃ b11 o11,(l3.a:Option Addr)=some ⟨b11,o11,none⟩/\((0:Int)<=n3/\n3<(l3.n:Int))/\h5.canW b11 ((o11+n3.toNat*3)+1) 1/\∃ b12 o12,(l3.a:Option Addr)=some ⟨b12,o12,none⟩/\((0:Int)<=n3/\n3<(l3.n:Int))/\(h5.wr b11 ((o11+n3.toNat*3)+1) [.slice (Sl.cut l6 1 0 n4 n4).a (Sl.cut l6 1 0 n4 n4).n (Sl.cut l6 1 0 n4 n4).c]).canW b12 ((o12+n3.toNat*3)+2) 1/\I1 (wrap .i64 (n3+1)) ((h5.wr b11 ((o11+n3.toNat*3)+1) [.slice (Sl.cut l6 1 0 n4 n4).a (Sl.cut l6 1 0 n4 n4).n (Sl.cut l6 1 0 n4 n4).c]).wr b12 ((o12+n3.toNat*3)+2) [.int .i64 n4])/\m3 (wrap .i64 (n3+1)) ((h5.wr b11 ((o11+n3.toNat*3)+1) [.slice (Sl.cut l6 1 0 n4 n4).a (Sl.cut l6 1 0 n4 n4).n (Sl.cut l6 1 0 n4 n4).c]).wr b12 ((o12+n3.toNat*3)+2) [.int .i64 n4])<m3 n3 h5)) (Q (.slice l3.a l3.n l3.c) h5))))
def F25.T(p:Option Addr)(n:Int)(l:Sl):PT:=F25.G F32.T F97.T F98.T p n l
theorem F25.gen(V:Value->List Value->PT)(T32:Option Nat->PT)(T97:Option Nat->PT)(T98:Int->ByteArray->ByteArray->Option Addr->Option Nat->PT)(p:Option Addr)(n:Int)(l:Sl):denF Tryz.prog [9] [(32,F32.W T32),(97,F97.W T97),(98,F98.W T98)] V F25.an Tryz.f25 [.v (.pointer p),.v (.int .i64 n),.v (.slice l.a l.n l.c)]=F25.G T32 T97 T98 p n l:=by kernel_rfl
theorem F25.den(V:Value->List Value->PT)(p:Option Addr)(n:Int)(l:Sl):denF Tryz.prog [9] [(32,F32.V),(97,F97.V),(98,F98.V)] V F25.an Tryz.f25 [.v (.pointer p),.v (.int .i64 n),.v (.slice l.a l.n l.c)]=F25.T p n l:=F25.gen V F32.T F97.T F98.T p n l
def F25.W(T25:Option Addr->Int->Sl->PT)(args:List Value):PT:=match args with
 |[.pointer p,.int .i64 n,.slice l_a l_n l_c]=>T25 p n ⟨l_a,l_n,l_c⟩
 |_=>λ_ _=>False
def F25.V:List Value->PT:=F25.W F25.T
theorem F25.ok:FOk Tryz.prog 25 F25.V:=by
 refine⟨⟨_,Tryz.func25,rfl,rfl⟩,λargs=>?_⟩
 have hG:GOk Tryz.prog [(32,F32.V),(97,F97.V),(98,F98.V)]:=GOk.cons F32.ok (GOk.cons F97.ok (GOk.cons F98.ok (GOk.nil)))
 have hV:VOk Tryz.prog noV:=noV_ok
 unfold F25.V F25.W
 split
 ·exact denF_okV hG hV Tryz.func25 (λh Q hq=>(F25.den _ _ _ _) ▸ hq)
 ·exact λh Q hq=>hq.elim
def F7.an:List (Nat×Ann):=[(250,.loop [(7,.int .i64),(23,.int .i64)] []),(64100,.order [0,1,2,3,4,5,6,7,8,9,10,11,12,13,14,15,16,17,18,19,20,21,22,23,24,25,26,27,28,29,30,31,32]),(128207,.order [0,1,2,3,4,5,6,7,9,10,8,11,12,13])]
def F7.G(T30:ByteArray->PT)(T31:Sl->PT)(T32:Option Nat->PT)(n:Int)(l:Sl):PT:=λh Q=>
 ∀ b,h b=none->∀ b1,(h.new b (.map #[] 0)) b1=none->par (n<0) (Q (.tuple ⟨[.pointer none,.int .i64 36]⟩) ((h.new b (.map #[] 0)).new b1 (.cells ⟨[.int .i64 n,.map (some b),.map none,.slice none 0 0,.int .i64 0,.int .i64 0,.int .i64 0,.int .i64 0,.bool false]⟩ 91 (0,0)))) (par ((8388608:Int)<(l.n:Int)) (Q (.tuple ⟨[.pointer none,.int .i64 36]⟩) ((h.new b (.map #[] 0)).new b1 (.cells ⟨[.int .i64 n,.map (some b),.map none,.slice none 0 0,.int .i64 0,.int .i64 0,.int .i64 0,.int .i64 0,.bool false]⟩ 91 (0,0)))) (∃ (I:Int->Int->Hp->Prop) (m:Int->Int->Hp->Nat),I 0 0 ((h.new b (.map #[] 0)).new b1 (.cells ⟨[.int .i64 n,.map (some b),.map none,.slice none 0 0,.int .i64 0,.int .i64 0,.int .i64 0,.int .i64 0,.bool false]⟩ 91 (0,0)))/\(∀ n1 n2:Int,∀ h1:Hp,I n1 n2 h1->par (n2<(l.n:Int)) (∃ b2 o,(l.a:Option Addr)=some ⟨b2,o,none⟩/\((0:Int)<=n2/\n2<(l.n:Int))/\∃ s:ByteArray,h1.at b2 (o+n2.toNat*3)=some (.string s)/\∃ l1:Sl,h1.at b2 ((o+n2.toNat*3)+1)=some (.slice l1.a l1.n l1.c)/\∃ n3:Int,h1.at b2 ((o+n2.toNat*3)+2)=some (.int .i64 n3)/\T30 s h1 λr h2=>∃ b3:Bool,r=.bool b3/\parB b3 (∃ m1:Option Nat,h2.at b1 1=some (.map m1)/\∃ es c,h2.mp m1 es c/\keysFit (.string s) es/\∃ p:Option Addr,(mget es (.string s) (.pointer none))=.pointer p/\okPtr h2 p none/\par ((p:Option Addr)=none) (par ((2147483648:Int)<(l1.n:Int)) (Q (.tuple ⟨[.pointer none,.int .i64 36]⟩) h2) (par (n3<0) (Q (.tuple ⟨[.pointer none,.int .i64 36]⟩) h2) (par ((l1.n:Int)<n3) (Q (.tuple ⟨[.pointer none,.int .i64 36]⟩) h2) (par (n=0) (∃ m2:Option Nat,h2.at b1 1=some (.map m2)/\T31 l1 h2 λr1 h3=>∃ l2:Sl,r1=.slice l2.a l2.n l2.c/\h3.at b1 1=some (.map m2)/\∀ b4,h3 b4=none->(h3.new b4 (.cells ⟨[.slice l2.a l2.n l2.c,.int .i64 n3]⟩ 95 (0,0))).at b1 1=some (.map m2)/\∃ b5 es1 c1,(m2:Option Nat)=some b5/\(h3.new b4 (.cells ⟨[.slice l2.a l2.n l2.c,.int .i64 n3]⟩ 95 (0,0))) b5=some (.map es1 c1)/\keysFit (.string s) es1/\I (wrap .i64 (n1+(l1.n:Int))) (wrap .i64 (n2+1)) ((h3.new b4 (.cells ⟨[.slice l2.a l2.n l2.c,.int .i64 n3]⟩ 95 (0,0))).new b5 (mPut es1 c1 (.string s) (.pointer (some ⟨b4,0,none⟩))))/\m (wrap .i64 (n1+(l1.n:Int))) (wrap .i64 (n2+1)) ((h3.new b4 (.cells ⟨[.slice l2.a l2.n l2.c,.int .i64 n3]⟩ 95 (0,0))).new b5 (mPut es1 c1 (.string s) (.pointer (some ⟨b4,0,none⟩))))<m n1 n2 h1) (par (n<(wrap .i64 (n1+(l1.n:Int)))) (Q (.tuple ⟨[.pointer none,.int .i64 36]⟩) h2) (∃ m3:Option Nat,h2.at b1 1=some (.map m3)/\T31 l1 h2 λr2 h4=>∃ l3:Sl,r2=.slice l3.a l3.n l3.c/\h4.at b1 1=some (.map m3)/\∀ b6,h4 b6=none->(h4.new b6 (.cells ⟨[.slice l3.a l3.n l3.c,.int .i64 n3]⟩ 95 (0,0))).at b1 1=some (.map m3)/\∃ b7 es2 c2,(m3:Option Nat)=some b7/\(h4.new b6 (.cells ⟨[.slice l3.a l3.n l3.c,.int .i64 n3]⟩ 95 (0,0))) b7=some (.map es2 c2)/\keysFit (.string s) es2/\I (wrap .i64 (n1+(l1.n:Int))) (wrap .i64 (n2+1)) ((h4.new b6 (.cells ⟨[.slice l3.a l3.n l3.c,.int .i64 n3]⟩ 95 (0,0))).new b7 (mPut es2 c2 (.string s) (.pointer (some ⟨b6,0,none⟩))))/\m (wrap .i64 (n1+(l1.n:Int))) (wrap .i64 (n2+1)) ((h4.new b6 (.cells ⟨[.slice l3.a l3.n l3.c,.int .i64 n3]⟩ 95 (0,0))).new b7 (mPut es2 c2 (.string s) (.pointer (some ⟨b6,0,none⟩))))<m n1 n2 h1)))))) (Q (.tuple ⟨[.pointer none,.int .i64 36]⟩) h2)) (Q (.tuple ⟨[.pointer none,.int .i64 36]⟩) h2)) (∃ m4:Option Nat,h1.at b1 1=some (.map m4)/\T32 m4 h1 λr3 h5=>∃ m5:Option Nat,r3=.map m5/\h5.canW b1 2 1/\Q (.tuple ⟨[.pointer (some ⟨b1,0,none⟩),.int .i64 0]⟩) (h5.wr b1 2 [.map m5])))))
def F7.T(n:Int)(l:Sl):PT:=F7.G F30.T F31.T F32.T n l
theorem F7.gen(V:Value->List Value->PT)(T30:ByteArray->PT)(T31:Sl->PT)(T32:Option Nat->PT)(n:Int)(l:Sl):denF Tryz.prog [9] [(30,F30.W T30),(31,F31.W T31),(32,F32.W T32)] V F7.an Tryz.f7 [.v (.int .i64 n),.v (.slice l.a l.n l.c)]=F7.G T30 T31 T32 n l:=by kernel_rfl
theorem F7.den(V:Value->List Value->PT)(n:Int)(l:Sl):denF Tryz.prog [9] [(30,F30.V),(31,F31.V),(32,F32.V)] V F7.an Tryz.f7 [.v (.int .i64 n),.v (.slice l.a l.n l.c)]=F7.T n l:=F7.gen V F30.T F31.T F32.T n l
def F7.W(T7:Int->Sl->PT)(args:List Value):PT:=match args with
 |[.int .i64 n,.slice l_a l_n l_c]=>T7 n ⟨l_a,l_n,l_c⟩
 |_=>λ_ _=>False
def F7.V:List Value->PT:=F7.W F7.T
theorem F7.ok:FOk Tryz.prog 7 F7.V:=by
 refine⟨⟨_,Tryz.func7,rfl,rfl⟩,λargs=>?_⟩
 have hG:GOk Tryz.prog [(30,F30.V),(31,F31.V),(32,F32.V)]:=GOk.cons F30.ok (GOk.cons F31.ok (GOk.cons F32.ok (GOk.nil)))
 have hV:VOk Tryz.prog noV:=noV_ok
 unfold F7.V F7.W
 split
 ·exact denF_okV hG hV Tryz.func7 (λh Q hq=>(F7.den _ _ _) ▸ hq)
 ·exact λh Q hq=>hq.elim
def F63.an:List (Nat×Ann):=[]
def F63.G(T32:Option Nat->PT)(T93:Option Addr->Sl->PT)(T96:Option Addr->Int->PT)(p:Option Addr):PT:=λh Q=>
 T93 p ⟨none,0,0⟩ h λr h1=>∃ n:Int,r=.int .i64 n/\par (n=0) (T96 p 1 h1 λr1 h2=>∃ n1:Int,∃ b:Bool,parB b (r1=.tuple ⟨[.int .i64 n1,.bool true]⟩/\Q (.int .i64 30) h2) (r1=.tuple ⟨[.int .i64 n1,.bool false]⟩/\∃ b1 o,(p:Option Addr)=some ⟨b1,o,none⟩/\∃ m:Option Nat,h2.at b1 (o+1)=some (.map m)/\T32 m h2 λr2 h3=>∃ m1:Option Nat,r2=.map m1/\∃ b2 o1,(p:Option Addr)=some ⟨b2,o1,none⟩/\h3.canW b2 (o1+2) 1/\∃ b3 o2,(p:Option Addr)=some ⟨b3,o2,none⟩/\(h3.wr b2 (o1+2) [.map m1]).canW b3 (o2+3) 1/\Q (.int .i64 0) ((h3.wr b2 (o1+2) [.map m1]).wr b3 (o2+3) [.slice none 0 0]))) (Q (.int .i64 n) h1)
def F63.T(p:Option Addr):PT:=F63.G F32.T F93.T F96.T p
theorem F63.gen(V:Value->List Value->PT)(T32:Option Nat->PT)(T93:Option Addr->Sl->PT)(T96:Option Addr->Int->PT)(p:Option Addr):denF Tryz.prog [] [(32,F32.W T32),(93,F93.W T93),(96,F96.W T96)] V F63.an Tryz.f63 [.v (.pointer p)]=F63.G T32 T93 T96 p:=by kernel_rfl
theorem F63.den(V:Value->List Value->PT)(p:Option Addr):denF Tryz.prog [] [(32,F32.V),(93,F93.V),(96,F96.V)] V F63.an Tryz.f63 [.v (.pointer p)]=F63.T p:=F63.gen V F32.T F93.T F96.T p
def F63.W(T63:Option Addr->PT)(args:List Value):PT:=match args with
 |[.pointer p]=>T63 p
 |_=>λ_ _=>False
def F63.V:List Value->PT:=F63.W F63.T
theorem F63.ok:FOk Tryz.prog 63 F63.V:=by
 refine⟨⟨_,Tryz.func63,rfl,rfl⟩,λargs=>?_⟩
 have hG:GOk Tryz.prog [(32,F32.V),(93,F93.V),(96,F96.V)]:=GOk.cons F32.ok (GOk.cons F93.ok (GOk.cons F96.ok (GOk.nil)))
 have hV:VOk Tryz.prog noV:=noV_ok
 unfold F63.V F63.W
 split
 ·exact denF_okV hG hV Tryz.func63 (λh Q hq=>(F63.den _ _) ▸ hq)
 ·exact λh Q hq=>hq.elim
def F56.an:List (Nat×Ann):=[(58,.loop [(19,.int .i64)] []),(3737,.order [0,1,2,3,4,5,6,7,8,9,10,11,12])]
def F56.G(T25:Option Addr->Int->Sl->PT)(T32:Option Nat->PT)(p:Option Addr)(n:Int)(l:Sl):PT:=λh Q=>
 T25 p n l h λr h1=>∃ l1:Sl,r=.slice l1.a l1.n l1.c/\∀ b,h1 b=none->∃ b1 o,(p:Option Addr)=some ⟨b1,o,none⟩/\(h1.new b (.map #[] 0)).canW b1 (o+1) 1/\∃ (I:Int->Hp->Prop) (m:Int->Hp->Nat),I 0 ((h1.new b (.map #[] 0)).wr b1 (o+1) [.map (some b)])/\(∀ n1:Int,∀ h2:Hp,I n1 h2->par (n1<(l1.n:Int)) (∃ b2 o1,(l1.a:Option Addr)=some ⟨b2,o1,none⟩/\((0:Int)<=n1/\n1<(l1.n:Int))/\∃ s:ByteArray,h2.at b2 (o1+n1.toNat*3)=some (.string s)/\∃ l2:Sl,h2.at b2 ((o1+n1.toNat*3)+1)=some (.slice l2.a l2.n l2.c)/\∃ n2:Int,h2.at b2 ((o1+n1.toNat*3)+2)=some (.int .i64 n2)/\∃ b3 o2,(p:Option Addr)=some ⟨b3,o2,none⟩/\∃ m1:Option Nat,h2.at b3 (o2+1)=some (.map m1)/\∀ b4,h2 b4=none->(h2.new b4 (.cells ⟨[.slice l2.a l2.n l2.c,.int .i64 n2]⟩ 95 (0,0))).at b3 (o2+1)=some (.map m1)/\∃ b5 es c,(m1:Option Nat)=some b5/\(h2.new b4 (.cells ⟨[.slice l2.a l2.n l2.c,.int .i64 n2]⟩ 95 (0,0))) b5=some (.map es c)/\keysFit (.string s) es/\I (wrap .i64 (n1+1)) ((h2.new b4 (.cells ⟨[.slice l2.a l2.n l2.c,.int .i64 n2]⟩ 95 (0,0))).new b5 (mPut es c (.string s) (.pointer (some ⟨b4,0,none⟩))))/\m (wrap .i64 (n1+1)) ((h2.new b4 (.cells ⟨[.slice l2.a l2.n l2.c,.int .i64 n2]⟩ 95 (0,0))).new b5 (mPut es c (.string s) (.pointer (some ⟨b4,0,none⟩))))<m n1 h2) (∃ b6 o3,(p:Option Addr)=some ⟨b6,o3,none⟩/\∃ m2:Option Nat,h2.at b6 (o3+1)=some (.map m2)/\T32 m2 h2 λr1 h3=>∃ m3:Option Nat,r1=.map m3/\∃ b7 o4,(p:Option Addr)=some ⟨b7,o4,none⟩/\h3.canW b7 (o4+2) 1/\∃ b8 o5,(p:Option Addr)=some ⟨b8,o5,none⟩/\(h3.wr b7 (o4+2) [.map m3]).canW b8 (o5+3) 1/\∃ b9 o6,(p:Option Addr)=some ⟨b9,o6,none⟩/\((h3.wr b7 (o4+2) [.map m3]).wr b8 (o5+3) [.slice none 0 0]).canW b9 (o6+4) 4/\∃ b10 o7,(p:Option Addr)=some ⟨b10,o7,none⟩/\(((h3.wr b7 (o4+2) [.map m3]).wr b8 (o5+3) [.slice none 0 0]).wr b9 (o6+4) [.int .i64 0,.int .i64 0,.int .i64 0,.int .i64 0]).canW b10 (o7+8) 1/\Q (.tuple ⟨[]⟩) ((((h3.wr b7 (o4+2) [.map m3]).wr b8 (o5+3) [.slice none 0 0]).wr b9 (o6+4) [.int .i64 0,.int .i64 0,.int .i64 0,.int .i64 0]).wr b10 (o7+8) [.bool false])))
def F56.T(p:Option Addr)(n:Int)(l:Sl):PT:=F56.G F25.T F32.T p n l
theorem F56.gen(V:Value->List Value->PT)(T25:Option Addr->Int->Sl->PT)(T32:Option Nat->PT)(p:Option Addr)(n:Int)(l:Sl):denF Tryz.prog [8] [(25,F25.W T25),(32,F32.W T32)] V F56.an Tryz.f56 [.v (.pointer p),.v (.int .i64 n),.v (.slice l.a l.n l.c)]=F56.G T25 T32 p n l:=by kernel_rfl
theorem F56.den(V:Value->List Value->PT)(p:Option Addr)(n:Int)(l:Sl):denF Tryz.prog [8] [(25,F25.V),(32,F32.V)] V F56.an Tryz.f56 [.v (.pointer p),.v (.int .i64 n),.v (.slice l.a l.n l.c)]=F56.T p n l:=F56.gen V F25.T F32.T p n l
def F56.W(T56:Option Addr->Int->Sl->PT)(args:List Value):PT:=match args with
 |[.pointer p,.int .i64 n,.slice l_a l_n l_c]=>T56 p n ⟨l_a,l_n,l_c⟩
 |_=>λ_ _=>False
def F56.V:List Value->PT:=F56.W F56.T
theorem F56.ok:FOk Tryz.prog 56 F56.V:=by
 refine⟨⟨_,Tryz.func56,rfl,rfl⟩,λargs=>?_⟩
 have hG:GOk Tryz.prog [(25,F25.V),(32,F32.V)]:=GOk.cons F25.ok (GOk.cons F32.ok (GOk.nil))
 have hV:VOk Tryz.prog noV:=noV_ok
 unfold F56.V F56.W
 split
 ·exact denF_okV hG hV Tryz.func56 (λh Q hq=>(F56.den _ _ _ _) ▸ hq)
 ·exact λh Q hq=>hq.elim
def F4.an:List (Nat×Ann):=[]
def F4.G(T7:Int->Sl->PT)(T20:Option Addr->PT)(T21:Option Addr->ByteArray->PT)(T22:Option Addr->ByteArray->Sl->PT)(T23:Option Addr->ByteArray->PT)(T24:Option Addr->PT)(T25:Option Addr->Int->Sl->PT)(T26:Option Addr->Int->Int->Int->PT)(T27:Option Addr->ByteArray->PT)(T28:Option Addr->ByteArray->PT) :PT:=λh Q=>
 T7 0 ⟨none,0,0⟩ h λr h1=>∃ p:Option Addr,∃ n:Int,r=.tuple ⟨[.pointer p,.int .i64 n]⟩/\okPtr h1 p none/\par ((p:Option Addr)=none) (Q (.bool false) h1) (par (n=0) (T20 p h1 λr1 h2=>∃ b:Bool,r1=.bool b/\parB b (Q (.bool false) h2) (T21 p (ByteArray.mk #[97]) h2 λr2 h3=>∃ n1:Int,r2=.int .i64 n1/\par (n1=0) (∀ b1,h3 b1=none->∃ cs t,(h3.new b1 (.cells ⟨[.int .u8 120,.int .u8 121,.int .u8 122]⟩ 5 (0,0))) b1=some (.cells cs t (0,0))/\T22 p (ByteArray.mk #[97]) ⟨(some ⟨b1,0,none⟩),3,3⟩ ((h3.new b1 (.cells ⟨[.int .u8 120,.int .u8 121,.int .u8 122]⟩ 5 (0,0))).new b1 (.cells cs t (cs.size,cs.size+1))) λr3 h4=>∃ n2:Int,r3=.int .i64 n2/\par (n2=0) (T23 p (ByteArray.mk #[97]) h4 λr4 h5=>∃ n3:Int,r4=.int .i64 n3/\par (n3=0) (∀ b2,h5 b2=none->∃ cs1 t1,(h5.new b2 (.cells ⟨[.int .u8 117,.int .u8 118]⟩ 5 (0,0))) b2=some (.cells cs1 t1 (0,0))/\T22 p (ByteArray.mk #[97]) ⟨(some ⟨b2,0,none⟩),2,2⟩ ((h5.new b2 (.cells ⟨[.int .u8 117,.int .u8 118]⟩ 5 (0,0))).new b2 (.cells cs1 t1 (cs1.size,cs1.size+1))) λr5 h6=>∃ n4:Int,r5=.int .i64 n4/\par (n4=0) (T24 p h6 λr6 h7=>∃ l:Sl,r6=.slice l.a l.n l.c/\par ((l.n:Int)=1) (∃ b3 o,(l.a:Option Addr)=some ⟨b3,o,none⟩/\((0:Int)<=0/\0<(l.n:Int))/\∃ s:ByteArray,h7.at b3 (o+(0:Int).toNat*3)=some (.string s)/\par (s=(ByteArray.mk #[97])) (∃ b4 o1,(l.a:Option Addr)=some ⟨b4,o1,none⟩/\((0:Int)<=0/\0<(l.n:Int))/\∃ l1:Sl,h7.at b4 ((o1+(0:Int).toNat*3)+1)=some (.slice l1.a l1.n l1.c)/\∃ s1:ByteArray,h7.row l1.a l1.n (bytesV s1)/\par (s1=(ByteArray.mk #[120,121,122,117,118])) (∃ b5 o2,(l.a:Option Addr)=some ⟨b5,o2,none⟩/\((0:Int)<=0/\0<(l.n:Int))/\∃ n5:Int,h7.at b5 ((o2+(0:Int).toNat*3)+2)=some (.int .i64 n5)/\par (n5=3) (T25 p 0 ⟨none,0,0⟩ h7 λr7 h8=>∃ l2:Sl,r7=.slice l2.a l2.n l2.c/\par ((l2.n:Int)=0) (∀ b6,h8 b6=none->T25 p 1 ⟨(some ⟨b6,0,none⟩),1,1⟩ (h8.new b6 (.cells ⟨[.int .i64 1]⟩ 3 (0,0))) λr8 h9=>∃ l3:Sl,r8=.slice l3.a l3.n l3.c/\par ((l3.n:Int)=1) (∃ b7 o3,(l3.a:Option Addr)=some ⟨b7,o3,none⟩/\((0:Int)<=0/\0<(l3.n:Int))/\∃ l4:Sl,h9.at b7 ((o3+(0:Int).toNat*3)+1)=some (.slice l4.a l4.n l4.c)/\∃ s2:ByteArray,h9.row l4.a l4.n (bytesV s2)/\par (s2=(ByteArray.mk #[120,121,122,117])) (∃ b8 o4,(l3.a:Option Addr)=some ⟨b8,o4,none⟩/\((0:Int)<=0/\0<(l3.n:Int))/\∃ n6:Int,h9.at b8 ((o4+(0:Int).toNat*3)+2)=some (.int .i64 n6)/\par (n6=4) (T7 0 ⟨none,0,0⟩ h9 λr9 h10=>∃ p1:Option Addr,∃ n7:Int,r9=.tuple ⟨[.pointer p1,.int .i64 n7]⟩/\okPtr h10 p1 none/\par ((p1:Option Addr)=none) (Q (.bool false) h10) (par (n7=0) (T26 p1 1 2 2 h10 λr10 h11=>T21 p1 (ByteArray.mk #[120]) h11 λr11 h12=>∃ n8:Int,r11=.int .i64 n8/\par (n8=0) (∀ b9,h12 b9=none->∃ cs2 t2,(h12.new b9 (.cells ⟨[.int .u8 49,.int .u8 50,.int .u8 51,.int .u8 52,.int .u8 53]⟩ 5 (0,0))) b9=some (.cells cs2 t2 (0,0))/\T22 p1 (ByteArray.mk #[120]) ⟨(some ⟨b9,0,none⟩),5,5⟩ ((h12.new b9 (.cells ⟨[.int .u8 49,.int .u8 50,.int .u8 51,.int .u8 52,.int .u8 53]⟩ 5 (0,0))).new b9 (.cells cs2 t2 (cs2.size,cs2.size+1))) λr12 h13=>∃ n9:Int,r12=.int .i64 n9/\par (n9=31) (T27 p1 (ByteArray.mk #[121]) h13 λr13 h14=>∃ n10:Int,r13=.int .i64 n10/\par (n10=31) (T27 p1 (ByteArray.mk #[121]) h14 λr14 h15=>∃ n11:Int,r14=.int .i64 n11/\par (n11=34) (T28 p1 (ByteArray.mk #[120]) h15 λr15 h16=>∃ l5:Sl,∃ n12:Int,r15=.tuple ⟨[.slice l5.a l5.n l5.c,.int .i64 n12]⟩/\par (n12=0) (∃ s3:ByteArray,h16.row l5.a l5.n (bytesV s3)/\par (s3=(ByteArray.mk #[49,50])) (Q (.bool true) h16) (Q (.bool false) h16)) (Q (.bool false) h16)) (Q (.bool false) h15)) (Q (.bool false) h14)) (Q (.bool false) h13)) (Q (.bool false) h12)) (Q (.bool false) h10))) (Q (.bool false) h9)) (Q (.bool false) h9)) (Q (.bool false) h9)) (Q (.bool false) h8)) (Q (.bool false) h7)) (Q (.bool false) h7)) (Q (.bool false) h7)) (Q (.bool false) h7)) (Q (.bool false) h6)) (Q (.bool false) h5)) (Q (.bool false) h4)) (Q (.bool false) h3))) (Q (.bool false) h1))
def F4.T :PT:=F4.G F7.T F20.T F21.T F22.T F23.T F24.T F25.T F26.T F27.T F28.T
theorem F4.gen(V:Value->List Value->PT)(T7:Int->Sl->PT)(T20:Option Addr->PT)(T21:Option Addr->ByteArray->PT)(T22:Option Addr->ByteArray->Sl->PT)(T23:Option Addr->ByteArray->PT)(T24:Option Addr->PT)(T25:Option Addr->Int->Sl->PT)(T26:Option Addr->Int->Int->Int->PT)(T27:Option Addr->ByteArray->PT)(T28:Option Addr->ByteArray->PT) :denF Tryz.prog [] [(7,F7.W T7),(20,F20.W T20),(21,F21.W T21),(22,F22.W T22),(23,F23.W T23),(24,F24.W T24),(25,F25.W T25),(26,F26.W T26),(27,F27.W T27),(28,F28.W T28)] V F4.an Tryz.f4 []=F4.G T7 T20 T21 T22 T23 T24 T25 T26 T27 T28 :=by kernel_rfl
theorem F4.den(V:Value->List Value->PT) :denF Tryz.prog [] [(7,F7.V),(20,F20.V),(21,F21.V),(22,F22.V),(23,F23.V),(24,F24.V),(25,F25.V),(26,F26.V),(27,F27.V),(28,F28.V)] V F4.an Tryz.f4 []=F4.T :=F4.gen V F7.T F20.T F21.T F22.T F23.T F24.T F25.T F26.T F27.T F28.T
def F4.W(T4:PT)(args:List Value):PT:=match args with
 |[]=>T4
 |_=>λ_ _=>False
def F4.V:List Value->PT:=F4.W F4.T
theorem F4.ok:FOk Tryz.prog 4 F4.V:=by
 refine⟨⟨_,Tryz.func4,rfl,rfl⟩,λargs=>?_⟩
 have hG:GOk Tryz.prog [(7,F7.V),(20,F20.V),(21,F21.V),(22,F22.V),(23,F23.V),(24,F24.V),(25,F25.V),(26,F26.V),(27,F27.V),(28,F28.V)]:=GOk.cons F7.ok (GOk.cons F20.ok (GOk.cons F21.ok (GOk.cons F22.ok (GOk.cons F23.ok (GOk.cons F24.ok (GOk.cons F25.ok (GOk.cons F26.ok (GOk.cons F27.ok (GOk.cons F28.ok (GOk.nil))))))))))
 have hV:VOk Tryz.prog noV:=noV_ok
 unfold F4.V F4.W
 split
 ·exact denF_okV hG hV Tryz.func4 (λh Q hq=>(F4.den _ ) ▸ hq)
 ·exact λh Q hq=>hq.elim
def F11.an:List (Nat×Ann):=[(15,.join [] [])]
def F11.G(T7:Int->Sl->PT)(T8:Int->Sl->PT)(T51:Sl->PT)(n:Int)(l:Sl):PT:=λh Q=>
 T51 l h λr h1=>∃ l1:Sl,r=.slice l1.a l1.n l1.c/\T7 n l1 h1 λr1 h2=>∃ p:Option Addr,∃ n1:Int,r1=.tuple ⟨[.pointer p,.int .i64 n1]⟩/\T8 n l h2 λr2 h3=>∃ p1:Option Addr,∃ n2:Int,r2=.tuple ⟨[.pointer p1,.int .i64 n2]⟩/\∃ J:Hp->Prop,(∀ h4:Hp,J h4->okPtr h4 p none/\par ((p:Option Addr)=none) (Q (.tuple ⟨[.pointer none,.bool true]⟩) h4) (∀ b,h4 b=none->Q (.tuple ⟨[.pointer (some ⟨b,0,none⟩),.bool true]⟩) (h4.new b (.cells ⟨[.pointer p,.pointer p1]⟩ 58 (0,0)))))/\(par (n1=n2) (okPtr h3 p none/\par ((p:Option Addr)=none) (okPtr h3 p1 none/\par ((p1:Option Addr)=none) (par ((true:Bool)=true) (J h3) (Q (.tuple ⟨[.pointer none,.bool false]⟩) h3)) (par ((true:Bool)=false) (J h3) (Q (.tuple ⟨[.pointer none,.bool false]⟩) h3))) (okPtr h3 p1 none/\par ((p1:Option Addr)=none) (par ((false:Bool)=true) (J h3) (Q (.tuple ⟨[.pointer none,.bool false]⟩) h3)) (par ((false:Bool)=false) (J h3) (Q (.tuple ⟨[.pointer none,.bool false]⟩) h3)))) (Q (.tuple ⟨[.pointer none,.bool false]⟩) h3))
def F11.T(n:Int)(l:Sl):PT:=F11.G F7.T F8.T F51.T n l
theorem F11.gen(V:Value->List Value->PT)(T7:Int->Sl->PT)(T8:Int->Sl->PT)(T51:Sl->PT)(n:Int)(l:Sl):denF Tryz.prog [] [(7,F7.W T7),(8,F8.W T8),(51,F51.W T51)] V F11.an Tryz.f11 [.v (.int .i64 n),.v (.slice l.a l.n l.c)]=F11.G T7 T8 T51 n l:=by kernel_rfl
theorem F11.den(V:Value->List Value->PT)(n:Int)(l:Sl):denF Tryz.prog [] [(7,F7.V),(8,F8.V),(51,F51.V)] V F11.an Tryz.f11 [.v (.int .i64 n),.v (.slice l.a l.n l.c)]=F11.T n l:=F11.gen V F7.T F8.T F51.T n l
def F11.W(T11:Int->Sl->PT)(args:List Value):PT:=match args with
 |[.int .i64 n,.slice l_a l_n l_c]=>T11 n ⟨l_a,l_n,l_c⟩
 |_=>λ_ _=>False
def F11.V:List Value->PT:=F11.W F11.T
theorem F11.ok:FOk Tryz.prog 11 F11.V:=by
 refine⟨⟨_,Tryz.func11,rfl,rfl⟩,λargs=>?_⟩
 have hG:GOk Tryz.prog [(7,F7.V),(8,F8.V),(51,F51.V)]:=GOk.cons F7.ok (GOk.cons F8.ok (GOk.cons F51.ok (GOk.nil)))
 have hV:VOk Tryz.prog noV:=noV_ok
 unfold F11.V F11.W
 split
 ·exact denF_okV hG hV Tryz.func11 (λh Q hq=>(F11.den _ _ _) ▸ hq)
 ·exact λh Q hq=>hq.elim
def F17.an:List (Nat×Ann):=[(63,.join [(7,.int .i64),(8,.int .i64)] []),(4052,.order [0,1,2,3,4,5,6,7]),(4053,.order [0,1,2,3,4,5,6,7]),(16220,.order [0,1,2,3,4,5,6,7,8]),(16221,.order [0,1,2,3,4,5,6,7,8,9]),(64892,.order [0,1,2,3,4,5,6,7]),(64893,.order [0,1,2,3,4,5,6,7]),(259580,.order [0,1,2,3,4,5,6,7,8,9]),(259581,.order [0,1,2,3,4,5,6,7,8,9]),(1038332,.order [0,1,2,3,4,5,6,7]),(1038333,.order [0,1,2,3,4,5,6,7]),(16613372,.order [0,1,2,3,4,5,6,7,8,9,10,11]),(33226746,.order [0,1,2,3,4,5,6,7,8,9,10,11]),(66453500,.order [0,1,2,3,5,6,7,8,4,9,10,11]),(265814012,.order [0,1,2,3,4,5,6,8,9,10,11,12,13,14,15,7,16,17,18]),(1063256060,.order [0,1,2,3,4,5,6,7]),(1063256061,.order [0,1,2,3,4,5,6,7,8]),(4253024252,.order [0,1,2,3,4,5,6]),(4253024253,.order [0,1,2,3,4,5,6]),(17012097020,.order [0,1,2,3,4,5,6,7,8,9,10]),(17012097021,.order [0,1,2,3,4,5,6,7,8,9,10]),(68048388092,.order [0,1,2,3,5,6,7,8,4,9,10,11])]
def F17.G(T9:Sl->Sl->PT)(T15:Sl->Sl->PT)(T16:Sl->Sl->PT)(T20:Option Addr->PT)(T21:Option Addr->ByteArray->PT)(T22:Option Addr->ByteArray->Sl->PT)(T23:Option Addr->ByteArray->PT)(T24:Option Addr->PT)(T25:Option Addr->Int->Sl->PT)(T26:Option Addr->Int->Int->Int->PT)(T27:Option Addr->ByteArray->PT)(T28:Option Addr->ByteArray->PT)(T54:Option Addr->ByteArray->Sl->PT)(T55:Option Addr->Int->Sl->PT)(T56:Option Addr->Int->Sl->PT)(T57:Option Addr->Int->Sl->PT)(T58:Option Addr->ByteArray->PT)(T59:Option Addr->ByteArray->PT)(T60:Option Addr->ByteArray->ByteArray->PT)(T61:Option Addr->ByteArray->ByteArray->PT)(T62:Option Addr->ByteArray->PT)(T63:Option Addr->PT)(T64:Option Addr->PT)(T65:Option Addr->ByteArray->PT)(T66:Option Addr->PT)(T67:Option Addr->Int->PT)(T68:Option Addr->Int->PT)(T69:Option Addr->Int->Int->Int->PT)(T70:Option Addr->PT)(p:Option Addr)(n:Int)(s s1:ByteArray)(l:Sl)(n1 n2 n3:Int)(l1:Sl):PT:=λh Q=>
 ∃ vs,h.row l.a (l.n*1) vs/\(∀ v∈vs,Value.oneCell' v=true)/\appendD ⟨none,0,0⟩ 5 1 1 [.int .u8 0] l.n vs h λl2 h1=>∃ vs1,h1.row l1.a (l1.n*1) vs1/\(∀ v∈vs1,Value.oneCell' v=true)/\appendD ⟨none,0,0⟩ 3 1 8 [.int .i64 0] l1.n vs1 h1 λl3 h2=>∃ J:Int->Int->Hp->Prop,(∀ n4 n5:Int,∀ h3:Hp,J n4 n5 h3->par (n4=n5) (T15 l2 l h3 λr h4=>∃ b:Bool,r=.bool b/\parB b (T16 l3 l1 h4 λr1 h5=>∃ b1:Bool,r1=.bool b1/\parB b1 (Q (.bool true) h5) (Q (.bool false) h5)) (Q (.bool false) h4)) (Q (.bool false) h3))/\(par (n=1) (∃ b2 o,(p:Option Addr)=some ⟨b2,o,none⟩/\∃ p1:Option Addr,h2.at b2 o=some (.pointer p1)/\T21 p1 s h2 λr2 h6=>∃ n6:Int,r2=.int .i64 n6/\∃ b3 o1,(p:Option Addr)=some ⟨b3,o1,none⟩/\∃ p2:Option Addr,h6.at b3 (o1+1)=some (.pointer p2)/\T58 p2 s h6 λr3 h7=>∃ n7:Int,r3=.int .i64 n7/\J n6 n7 h7) (par (n=2) (∃ b4 o2,(p:Option Addr)=some ⟨b4,o2,none⟩/\∃ p3:Option Addr,h2.at b4 o2=some (.pointer p3)/\T22 p3 s l2 h2 λr4 h8=>∃ n8:Int,r4=.int .i64 n8/\∃ b5 o3,(p:Option Addr)=some ⟨b5,o3,none⟩/\∃ p4:Option Addr,h8.at b5 (o3+1)=some (.pointer p4)/\T54 p4 s l h8 λr5 h9=>∃ n9:Int,r5=.int .i64 n9/\J n8 n9 h9) (par (n=3) (∃ b6 o4,(p:Option Addr)=some ⟨b6,o4,none⟩/\∃ p5:Option Addr,h2.at b6 o4=some (.pointer p5)/\T23 p5 s h2 λr6 h10=>∃ n10:Int,r6=.int .i64 n10/\∃ b7 o5,(p:Option Addr)=some ⟨b7,o5,none⟩/\∃ p6:Option Addr,h10.at b7 (o5+1)=some (.pointer p6)/\T59 p6 s h10 λr7 h11=>∃ n11:Int,r7=.int .i64 n11/\J n10 n11 h11) (par (n=4) (∃ b8 o6,(p:Option Addr)=some ⟨b8,o6,none⟩/\∃ p7:Option Addr,h2.at b8 o6=some (.pointer p7)/\T60 p7 s s1 h2 λr8 h12=>∃ n12:Int,r8=.int .i64 n12/\∃ b9 o7,(p:Option Addr)=some ⟨b9,o7,none⟩/\∃ p8:Option Addr,h12.at b9 (o7+1)=some (.pointer p8)/\T61 p8 s s1 h12 λr9 h13=>∃ n13:Int,r9=.int .i64 n13/\J n12 n13 h13) (par (n=5) (∃ b10 o8,(p:Option Addr)=some ⟨b10,o8,none⟩/\∃ p9:Option Addr,h2.at b10 o8=some (.pointer p9)/\T27 p9 s h2 λr10 h14=>∃ n14:Int,r10=.int .i64 n14/\∃ b11 o9,(p:Option Addr)=some ⟨b11,o9,none⟩/\∃ p10:Option Addr,h14.at b11 (o9+1)=some (.pointer p10)/\T62 p10 s h14 λr11 h15=>∃ n15:Int,r11=.int .i64 n15/\J n14 n15 h15) (par (n=6) (∃ b12 o10,(p:Option Addr)=some ⟨b12,o10,none⟩/\∃ p11:Option Addr,h2.at b12 o10=some (.pointer p11)/\T63 p11 h2 λr12 h16=>∃ n16:Int,r12=.int .i64 n16/\∃ b13 o11,(p:Option Addr)=some ⟨b13,o11,none⟩/\∃ p12:Option Addr,h16.at b13 (o11+1)=some (.pointer p12)/\T64 p12 h16 λr13 h17=>∃ n17:Int,r13=.int .i64 n17/\J n16 n17 h17) (par (n=7) (∃ b14 o12,(p:Option Addr)=some ⟨b14,o12,none⟩/\∃ p13:Option Addr,h2.at b14 o12=some (.pointer p13)/\T28 p13 s h2 λr14 h18=>∃ l4:Sl,∃ n18:Int,r14=.tuple ⟨[.slice l4.a l4.n l4.c,.int .i64 n18]⟩/\∃ b15 o13,(p:Option Addr)=some ⟨b15,o13,none⟩/\∃ p14:Option Addr,h18.at b15 (o13+1)=some (.pointer p14)/\T65 p14 s h18 λr15 h19=>∃ l5:Sl,∃ n19:Int,r15=.tuple ⟨[.slice l5.a l5.n l5.c,.int .i64 n19]⟩/\T15 l4 l5 h19 λr16 h20=>∃ b16:Bool,r16=.bool b16/\parB b16 (J n18 n19 h20) (Q (.bool false) h20)) (par (n=8) (∃ b17 o14,(p:Option Addr)=some ⟨b17,o14,none⟩/\∃ p15:Option Addr,h2.at b17 o14=some (.pointer p15)/\∃ b18 o15,(p:Option Addr)=some ⟨b18,o15,none⟩/\∃ p16:Option Addr,h2.at b18 (o15+1)=some (.pointer p16)/\T24 p15 h2 λr17 h21=>∃ l6:Sl,r17=.slice l6.a l6.n l6.c/\h21.at b18 (o15+1)=some (.pointer p16)/\T66 p16 h21 λr18 h22=>∃ l7:Sl,r18=.slice l7.a l7.n l7.c/\T9 l6 l7 h22 λr19 h23=>∃ b19:Bool,r19=.bool b19/\parB b19 (Q (.bool true) h23) (Q (.bool false) h23)) (par (n=9) (∃ b20 o16,(p:Option Addr)=some ⟨b20,o16,none⟩/\∃ p17:Option Addr,h2.at b20 o16=some (.pointer p17)/\∃ b21 o17,(p:Option Addr)=some ⟨b21,o17,none⟩/\∃ p18:Option Addr,h2.at b21 (o17+1)=some (.pointer p18)/\T25 p17 n1 l3 h2 λr20 h24=>∃ l8:Sl,r20=.slice l8.a l8.n l8.c/\h24.at b21 (o17+1)=some (.pointer p18)/\T55 p18 n1 l1 h24 λr21 h25=>∃ l9:Sl,r21=.slice l9.a l9.n l9.c/\T9 l8 l9 h25 λr22 h26=>∃ b22:Bool,r22=.bool b22/\parB b22 (Q (.bool true) h26) (Q (.bool false) h26)) (par (n=10) (∃ b23 o18,(p:Option Addr)=some ⟨b23,o18,none⟩/\∃ p19:Option Addr,h2.at b23 o18=some (.pointer p19)/\T56 p19 n1 l3 h2 λr23 h27=>∃ b24 o19,(p:Option Addr)=some ⟨b24,o19,none⟩/\∃ p20:Option Addr,h27.at b24 (o19+1)=some (.pointer p20)/\T57 p20 n1 l1 h27 λr24 h28=>J 0 0 h28) (par (n=11) (∃ b25 o20,(p:Option Addr)=some ⟨b25,o20,none⟩/\∃ p21:Option Addr,h2.at b25 o20=some (.pointer p21)/\T67 p21 n1 h2 λr25 h29=>∃ b26 o21,(p:Option Addr)=some ⟨b26,o21,none⟩/\∃ p22:Option Addr,h29.at b26 (o21+1)=some (.pointer p22)/\T68 p22 n1 h29 λr26 h30=>J 0 0 h30) (par (n=12) (∃ b27 o22,(p:Option Addr)=some ⟨b27,o22,none⟩/\∃ p23:Option Addr,h2.at b27 o22=some (.pointer p23)/\T26 p23 n1 n2 n3 h2 λr27 h31=>∃ b28 o23,(p:Option Addr)=some ⟨b28,o23,none⟩/\∃ p24:Option Addr,h31.at b28 (o23+1)=some (.pointer p24)/\T69 p24 n1 n2 n3 h31 λr28 h32=>J 0 0 h32) (par (n=13) (∃ b29 o24,(p:Option Addr)=some ⟨b29,o24,none⟩/\∃ p25:Option Addr,h2.at b29 o24=some (.pointer p25)/\∃ b30 o25,(p:Option Addr)=some ⟨b30,o25,none⟩/\∃ p26:Option Addr,h2.at b30 (o25+1)=some (.pointer p26)/\T20 p25 h2 λr29 h33=>∃ b31:Bool,r29=.bool b31/\parB b31 (h33.at b30 (o25+1)=some (.pointer p26)/\T70 p26 h33 λr30 h34=>∃ b32:Bool,r30=.bool b32/\parB b32 (par ((true:Bool)=true) (Q (.bool true) h34) (Q (.bool false) h34)) (par ((true:Bool)=false) (Q (.bool true) h34) (Q (.bool false) h34))) (h33.at b30 (o25+1)=some (.pointer p26)/\T70 p26 h33 λr31 h35=>∃ b33:Bool,r31=.bool b33/\parB b33 (par ((false:Bool)=true) (Q (.bool true) h35) (Q (.bool false) h35)) (par ((false:Bool)=false) (Q (.bool true) h35) (Q (.bool false) h35)))) (J 0 0 h2))))))))))))))
def F17.T(p:Option Addr)(n:Int)(s s1:ByteArray)(l:Sl)(n1 n2 n3:Int)(l1:Sl):PT:=F17.G F9.T F15.T F16.T F20.T F21.T F22.T F23.T F24.T F25.T F26.T F27.T F28.T F54.T F55.T F56.T F57.T F58.T F59.T F60.T F61.T F62.T F63.T F64.T F65.T F66.T F67.T F68.T F69.T F70.T p n s s1 l n1 n2 n3 l1
theorem F17.gen(V:Value->List Value->PT)(T9:Sl->Sl->PT)(T15:Sl->Sl->PT)(T16:Sl->Sl->PT)(T20:Option Addr->PT)(T21:Option Addr->ByteArray->PT)(T22:Option Addr->ByteArray->Sl->PT)(T23:Option Addr->ByteArray->PT)(T24:Option Addr->PT)(T25:Option Addr->Int->Sl->PT)(T26:Option Addr->Int->Int->Int->PT)(T27:Option Addr->ByteArray->PT)(T28:Option Addr->ByteArray->PT)(T54:Option Addr->ByteArray->Sl->PT)(T55:Option Addr->Int->Sl->PT)(T56:Option Addr->Int->Sl->PT)(T57:Option Addr->Int->Sl->PT)(T58:Option Addr->ByteArray->PT)(T59:Option Addr->ByteArray->PT)(T60:Option Addr->ByteArray->ByteArray->PT)(T61:Option Addr->ByteArray->ByteArray->PT)(T62:Option Addr->ByteArray->PT)(T63:Option Addr->PT)(T64:Option Addr->PT)(T65:Option Addr->ByteArray->PT)(T66:Option Addr->PT)(T67:Option Addr->Int->PT)(T68:Option Addr->Int->PT)(T69:Option Addr->Int->Int->Int->PT)(T70:Option Addr->PT)(p:Option Addr)(n:Int)(s s1:ByteArray)(l:Sl)(n1 n2 n3:Int)(l1:Sl):denF Tryz.prog [3] [(9,F9.W T9),(15,F15.W T15),(16,F16.W T16),(20,F20.W T20),(21,F21.W T21),(22,F22.W T22),(23,F23.W T23),(24,F24.W T24),(25,F25.W T25),(26,F26.W T26),(27,F27.W T27),(28,F28.W T28),(54,F54.W T54),(55,F55.W T55),(56,F56.W T56),(57,F57.W T57),(58,F58.W T58),(59,F59.W T59),(60,F60.W T60),(61,F61.W T61),(62,F62.W T62),(63,F63.W T63),(64,F64.W T64),(65,F65.W T65),(66,F66.W T66),(67,F67.W T67),(68,F68.W T68),(69,F69.W T69),(70,F70.W T70)] V F17.an Tryz.f17 [.v (.pointer p),.v (.agg ⟨[.int .i64 n,.string s,.string s1,.slice l.a l.n l.c,.int .i64 n1,.int .i64 n2,.int .i64 n3,.slice l1.a l1.n l1.c]⟩)]=F17.G T9 T15 T16 T20 T21 T22 T23 T24 T25 T26 T27 T28 T54 T55 T56 T57 T58 T59 T60 T61 T62 T63 T64 T65 T66 T67 T68 T69 T70 p n s s1 l n1 n2 n3 l1:=by kernel_rfl
theorem F17.den(V:Value->List Value->PT)(p:Option Addr)(n:Int)(s s1:ByteArray)(l:Sl)(n1 n2 n3:Int)(l1:Sl):denF Tryz.prog [3] [(9,F9.V),(15,F15.V),(16,F16.V),(20,F20.V),(21,F21.V),(22,F22.V),(23,F23.V),(24,F24.V),(25,F25.V),(26,F26.V),(27,F27.V),(28,F28.V),(54,F54.V),(55,F55.V),(56,F56.V),(57,F57.V),(58,F58.V),(59,F59.V),(60,F60.V),(61,F61.V),(62,F62.V),(63,F63.V),(64,F64.V),(65,F65.V),(66,F66.V),(67,F67.V),(68,F68.V),(69,F69.V),(70,F70.V)] V F17.an Tryz.f17 [.v (.pointer p),.v (.agg ⟨[.int .i64 n,.string s,.string s1,.slice l.a l.n l.c,.int .i64 n1,.int .i64 n2,.int .i64 n3,.slice l1.a l1.n l1.c]⟩)]=F17.T p n s s1 l n1 n2 n3 l1:=F17.gen V F9.T F15.T F16.T F20.T F21.T F22.T F23.T F24.T F25.T F26.T F27.T F28.T F54.T F55.T F56.T F57.T F58.T F59.T F60.T F61.T F62.T F63.T F64.T F65.T F66.T F67.T F68.T F69.T F70.T p n s s1 l n1 n2 n3 l1
def F17.W(T17:Option Addr->Int->ByteArray->ByteArray->Sl->Int->Int->Int->Sl->PT)(args:List Value):PT:=match args with
 |[.pointer p,.agg ⟨[.int .i64 n,.string s,.string s1,.slice l_a l_n l_c,.int .i64 n1,.int .i64 n2,.int .i64 n3,.slice l1_a l1_n l1_c]⟩]=>T17 p n s s1 ⟨l_a,l_n,l_c⟩ n1 n2 n3 ⟨l1_a,l1_n,l1_c⟩
 |_=>λ_ _=>False
def F17.V:List Value->PT:=F17.W F17.T
theorem F17.ok:FOk Tryz.prog 17 F17.V:=by
 refine⟨⟨_,Tryz.func17,rfl,rfl⟩,λargs=>?_⟩
 have hG:GOk Tryz.prog [(9,F9.V),(15,F15.V),(16,F16.V),(20,F20.V),(21,F21.V),(22,F22.V),(23,F23.V),(24,F24.V),(25,F25.V),(26,F26.V),(27,F27.V),(28,F28.V),(54,F54.V),(55,F55.V),(56,F56.V),(57,F57.V),(58,F58.V),(59,F59.V),(60,F60.V),(61,F61.V),(62,F62.V),(63,F63.V),(64,F64.V),(65,F65.V),(66,F66.V),(67,F67.V),(68,F68.V),(69,F69.V),(70,F70.V)]:=GOk.cons F9.ok (GOk.cons F15.ok (GOk.cons F16.ok (GOk.cons F20.ok (GOk.cons F21.ok (GOk.cons F22.ok (GOk.cons F23.ok (GOk.cons F24.ok (GOk.cons F25.ok (GOk.cons F26.ok (GOk.cons F27.ok (GOk.cons F28.ok (GOk.cons F54.ok (GOk.cons F55.ok (GOk.cons F56.ok (GOk.cons F57.ok (GOk.cons F58.ok (GOk.cons F59.ok (GOk.cons F60.ok (GOk.cons F61.ok (GOk.cons F62.ok (GOk.cons F63.ok (GOk.cons F64.ok (GOk.cons F65.ok (GOk.cons F66.ok (GOk.cons F67.ok (GOk.cons F68.ok (GOk.cons F69.ok (GOk.cons F70.ok (GOk.nil)))))))))))))))))))))))))))))
 have hV:VOk Tryz.prog noV:=noV_ok
 unfold F17.V F17.W
 split
 ·exact denF_okV hG hV Tryz.func17 (λh Q hq=>(F17.den _ _ _ _ _ _ _ _ _ _) ▸ hq)
 ·exact λh Q hq=>hq.elim
end Go.Eng.YtekflkpnpibneaaGreatDoor
end
section
namespace Go.Eng.YtekflkpnpibneaaGreatDoor
theorem inc_i{k n:Nat}(hk:k<n)(hn:n<=9223372036854775807):wrap .i64 ((k:Int)+1)=((k+1:Nat):Int):=by rw[wrap_i64 (by omega) (by omega)];omega
theorem byteOk_t{b:UInt8}:byteOk b=true↔(97<=b.toNat/\b.toNat<=122)\/(48<=b.toNat/\b.toNat<=57)\/b.toNat=45:=by
 unfold byteOk
 simp only[Bool.or_eq_true,Bool.and_eq_true,decide_eq_true_eq,beq_iff_eq,or_assoc]
theorem byteOk_f{b:UInt8}(h:¬ ((97<=b.toNat/\b.toNat<=122)\/(48<=b.toNat/\b.toNat<=57)\/b.toNat=45)):byteOk b=false:=by
 rw[<- Bool.not_eq_true,byteOk_t];exact h
theorem all_snoc{A:List UInt8}{b:UInt8}(h:A.all byteOk=true)(hb:byteOk b=true):(A++[b]).all byteOk=true:=by simp[h,hb]
theorem not_all{A B:List UInt8}{b:UInt8}(hb:byteOk b=false):(A++b::B).all byteOk=false:=by simp[hb]
def bl(l:List UInt8):List Value:=l.map λb=>.int .u8 (b.toNat:Int)
theorem bl_len(l:List UInt8):(bl l).length=l.length:=length_map _
theorem bytesV_bl(s:ByteArray):bytesV s=bl s.data.toList:=rfl
theorem bl_app(a b:List UInt8):bl (a++b)=bl a++bl b:=map_append
theorem bl_one(l:List UInt8):∀ v∈bl l,Value.oneCell' v=true:=λv hv=>by
 unfold bl at hv
 obtain⟨s,_,rfl⟩:=List.mem_map.1 hv
 rfl
theorem name_spec{h:Hp}{s:ByteArray}{Q:Value->Hp->Prop}(hs:s.size<=9223372036854775807)(hQ:∀ h',Keep h h'->Q (.bool (nameOk s)) h'):F30.T s h Q:=by
 intro b c hb hc
 have K:=Keep.new hb (.cells ⟨bytesV s++List.replicate (c-s.size) (.int .u8 0)⟩ 5 (c,c+1))
 have hx:=new_at h b (.cells ⟨bytesV s++List.replicate (c-s.size) (.int .u8 0)⟩ 5 (c,c+1))
 generalize h.new b (.cells ⟨bytesV s++List.replicate (c-s.size) (.int .u8 0)⟩ 5 (c,c+1))=h0 at K hx ⊢
 refine⟨λn h1=>h1=h0/\∃ A B:List UInt8,s.data.toList=A++B/\n=(A.length:Int)/\A.all byteOk=true,λn _=>s.size-n.toNat,⟨rfl,[],s.data.toList,rfl,rfl,rfl⟩,?_⟩
 rintro n h1 ⟨rfl,A,B,eAB,rfl,hA⟩
 have hl:=congrArg List.length eAB
 rw[length_append,Array.length_toList] at hl
 have hsz:s.size=A.length+B.length:=hl
 refine⟨λhlt=>?_,λhge=>?_⟩
 ·rcases B with _|⟨x,B⟩
  ·exact absurd hlt (by simp at hsz;omega)
  rw[length_cons] at hsz
  have hat:h1.at b (0+(A.length:Int).toNat)=some (.int .u8 (x.toNat:Int)):=by
   rw[at_of hx,Nat.zero_add,Int.toNat_natCast,<- Array.getElem?_toList]
   show(bytesV s++List.replicate (c-s.size) (Value.int .u8 0))[A.length]?=_
   rw[List.getElem?_append_left (by rw[bytesV_bl,bl_len,Array.length_toList];exact(show A.length<s.size by omega)),bytesV_bl,eAB]
   unfold bl
   simp
  have hT:byteOk x=true->((h1=h1/\∃ A' B':List UInt8,s.data.toList=A'++B'/\wrap .i64 ((A.length:Int)+1)=(A'.length:Int)/\A'.all byteOk=true)/\s.size-(wrap .i64 ((A.length:Int)+1)).toNat<s.size-((A.length:Int)).toNat):=λhx=>by
   rw[inc_i (n:=9223372036854775807) (by omega) (by omega)]
   exact⟨⟨rfl,A++[x],B,by rw[eAB];simp,by simp,all_snoc hA hx⟩,by omega⟩
  have hF:byteOk x=false->Q (.bool false) h1:=λhx=>by
   have:nameOk s=false:=by unfold nameOk;rw[eAB,not_all hx,Bool.and_false]
   have h2:=hQ h1 K
   rw[this] at h2
   exact h2
  refine⟨b,0,rfl,⟨by omega,hlt⟩,_,hat,λc1=>⟨λc2=>⟨λc3=>hT (byteOk_t.2 (by omega)),λc3=>hF (byteOk_f (by omega))⟩,λc2=>⟨λc3=>⟨λc4=>hT (byteOk_t.2 (by omega)),λc4=>hF (byteOk_f (by omega))⟩,λc3=>hT (byteOk_t.2 (by omega))⟩⟩,λc1=>⟨λc2=>⟨λc3=>⟨λc4=>hT (byteOk_t.2 (by omega)),λc4=>hF (byteOk_f (by omega))⟩,λc3=>⟨λc4=>⟨λc5=>hT (byteOk_t.2 (by omega)),λc5=>hF (byteOk_f (by omega))⟩,λc4=>hT (byteOk_t.2 (by omega))⟩⟩,λc2=>hT (byteOk_t.2 (by omega))⟩⟩
 ·have hB:B=[]:=eq_nil_of_length_eq_zero (by omega)
  subst hB
  rw[append_nil] at eAB
  have h2:=hQ h1 K
  have e0:s=ByteArray.mk #[]↔s.size=0:=by
   constructor
   ·rintro rfl;rfl
   ·intro h0
    have:s.data.toList=[]:=eq_nil_of_length_eq_zero (by rw[Array.length_toList];exact h0)
    exact ByteArray.ext (Array.ext' this)
  have hn:nameOk s=(decide (1<=s.size) && decide (s.size<=24)):=by unfold nameOk;rw[eAB,hA,Bool.and_true]
  refine⟨λhs0=>?_,λhs0=>⟨λh24=>?_,λh24=>?_⟩⟩
  ·have h0:=e0.1 hs0
   rw[hn,h0] at h2;exact h2
  ·have h0:s.size≠0:=λh=>hs0 (e0.2 h)
   rw[hn,decide_eq_true (by omega:1<=s.size),decide_eq_true (by omega:s.size<=24)] at h2;exact h2
  ·have h0:s.size≠0:=λh=>hs0 (e0.2 h)
   rw[hn,decide_eq_true (by omega:1<=s.size),decide_eq_false (by omega:¬ s.size<=24)] at h2;exact h2
theorem bt_at{s:ByteArray}{i:Nat}{x:UInt8}(h:s.data.toList[i]?=some x):bt s (i:Int)=(x.toNat:Int):=by
 have hi:=(List.getElem?_eq_some_iff.1 h).1
 rw[Array.length_toList] at hi
 have hi:i<s.size:=hi
 unfold bt
 rw[dif_pos (show(i:Int).toNat<s.size from hi)]
 rw[getElem?_eq_getElem (by rw[Array.length_toList];exact hi)] at h
 rw[<- Option.some.inj h]
 rfl
theorem name_doc{h:Hp}{s:ByteArray}{Q:Value->Hp->Prop}(hQ:Q (.bool (nameOk s)) h):F33.T s h Q:=by
 refine⟨λh1=>?_,λh1=>⟨λh2=>?_,λh2=>?_⟩⟩
 ·have:nameOk s=false:=by unfold nameOk;rw[decide_eq_false (by omega:¬ 1<=s.size)];rfl
  rw[this] at hQ;exact hQ
 ·have:nameOk s=false:=by unfold nameOk;rw[decide_eq_false (by omega:¬ s.size<=24),Bool.and_false];rfl
  rw[this] at hQ;exact hQ
 ·refine⟨λn g=>g=h/\∃ A B:List UInt8,s.data.toList=A++B/\n=(A.length:Int)/\A.all byteOk=true,λn _=>s.size-n.toNat,⟨rfl,[],s.data.toList,rfl,rfl,rfl⟩,?_⟩
  rintro n g ⟨rfl,A,B,eAB,rfl,hA⟩
  have hl:=congrArg List.length eAB
  rw[length_append,Array.length_toList] at hl
  have hsz:s.size=A.length+B.length:=hl
  refine⟨λhlt=>?_,λhge=>?_⟩
  ·rcases B with _|⟨x,B⟩
   ·exact absurd hlt (by simp at hsz;omega)
   rw[length_cons] at hsz
   have hb:bt s (A.length:Int)=(x.toNat:Int):=bt_at (by rw[eAB];simp)
   have hT:byteOk x=true->((g=g/\∃ A' B':List UInt8,s.data.toList=A'++B'/\wrap .i64 ((A.length:Int)+1)=(A'.length:Int)/\A'.all byteOk=true)/\s.size-(wrap .i64 ((A.length:Int)+1)).toNat<s.size-((A.length:Int)).toNat):=λhx=>by
    rw[inc_i (n:=100) (by omega) (by omega)]
    exact⟨⟨rfl,A++[x],B,by rw[eAB];simp,by simp,all_snoc hA hx⟩,by omega⟩
   have hF:byteOk x=false->Q (.bool false) g:=λhx=>by
    have:nameOk s=false:=by unfold nameOk;rw[eAB,not_all hx,Bool.and_false]
    rw[this] at hQ
    exact hQ
   rw[hb]
   have n1:∀ {b1 b2:Prop},b1->b2->b1/\b2:=λa b=>⟨a,b⟩
   refine⟨⟨by omega,hlt⟩,λc1=>⟨λc2=>hT (byteOk_t.2 (by omega)),λc2=>⟨λc3=>⟨λc4=>hT (byteOk_t.2 (by omega)),λc4=>⟨λc5=>hT (byteOk_t.2 (by omega)),λc5=>hF (byteOk_f (by omega))⟩⟩,λc3=>⟨λc5=>hT (byteOk_t.2 (by omega)),λc5=>hF (byteOk_f (by omega))⟩⟩⟩,λc1=>⟨λc3=>⟨λc4=>hT (byteOk_t.2 (by omega)),λc4=>⟨λc5=>hT (byteOk_t.2 (by omega)),λc5=>hF (byteOk_f (by omega))⟩⟩,λc3=>⟨λc5=>hT (byteOk_t.2 (by omega)),λc5=>hF (byteOk_f (by omega))⟩⟩⟩
  ·have hB:B=[]:=eq_nil_of_length_eq_zero (by omega)
   subst hB
   rw[append_nil] at eAB
   have hn:nameOk s=true:=by unfold nameOk;rw[eAB,hA,Bool.and_true,decide_eq_true (by omega:1<=s.size),decide_eq_true (by omega:s.size<=24)];rfl
   rw[hn] at hQ
   exact hQ
theorem clone_bytes{h:Hp}{l:Sl}{v:List UInt8}{Q:Value->Hp->Prop}(hr:h.row l.a (l.n*1) (bl v))(hcap:l.n<=l.c)(hn0:l.a=none->l.n=0)(hs:v.length<=4294967296)(hQ:∀ h' r,Keep h h'->Buf h' r 1 5 (bl v)->NewN h r->Q (.slice r.a r.n r.c) h'):F31.T l h Q:=by
 have hn:l.n=v.length:=by have:=hr.1;rw[bl_len] at this;omega
 refine⟨λh0=>?_,λh0 b hb=>?_⟩
 ·have:v=[]:=eq_nil_of_length_eq_zero (by have:=hn0 h0;omega)
  subst this
  exact hQ h ⟨none,0,0⟩ (Keep.refl h) (Buf.nil _ _ _) (.inl rfl)
 ·have K:=Keep.new hb (.cells ⟨[]⟩ 5 (0,0))
  have B1:Buf (h.new b (.cells ⟨[]⟩ 5 (0,0))) ⟨some ⟨b,0,none⟩,0,0⟩ 1 5 []:=⟨rfl,Nat.le_refl _,.inr ⟨b,⟨[]⟩,(0,0),rfl,new_at _ _ _,by simp,λj _=>by simp,rfl⟩⟩
  refine⟨bl v,K.row hr,bl_one _,append_buf B1 rfl (by rw[bl_len];omega) (by dsimp only;omega) λr h2 B2 _ U2=>?_⟩
  obtain⟨K2,N2⟩:=NewN.upd K (s:=⟨some ⟨b,0,none⟩,0,0⟩) (.inr ⟨b,rfl,hb⟩) U2
  exact hQ h2 r K2 (by simpa using B2) N2
end Go.Eng.YtekflkpnpibneaaGreatDoor
end
section
namespace Go.Eng.YtekflkpnpibneaaGreatDoor
structure FX where
 b:Nat
 d:Sl
 f:Fil
def pid(bk:List Nat)(i:Nat):Value:=.pointer ((bk[i]?).map λb=>⟨b,0,none⟩)
def Cg.cells(bk:List Nat)(c:Cg):List Value:=[.int .i64 c.kind,.string c.nm,.string c.to,if c.kind=0 then pid bk c.id else .pointer none]
def chV(bk:List Nat)(l:List Cg):List Value:=l.flatMap (Cg.cells bk)
theorem chV_len(bk:List Nat)(l:List Cg):(chV bk l).length=l.length*4:=by
 unfold chV
 induction l with
 |nil=>rfl
 |cons c l ih=>rw[List.flatMap_cons,length_append,ih,length_cons];show 4+_=_;omega
structure PA where
 db:Nat
 nb:Nat
 sb:Nat
 ch:Sl
 X:List FX
def PA.bk(A:PA):List Nat:=A.X.map (·.b)
structure Fls(t:Nat)(h:Hp)(X:List FX):Prop where
 fb:∀ x∈X,h x.b=some (.cells ⟨[.slice x.d.a x.d.n x.d.c,.int .i64 (x.f.sure:Int)]⟩ t (0,0))
 fd:∀ x∈X,Buf h x.d 1 5 (bl x.f.data)
 dj:∀ (i j:Nat) x y,X[i]?=some x->X[j]?=some y->i≠j->x.b≠y.b/\Off x.d y.d
def ownX(X:List FX)(k:Nat):Prop:=∃ x∈X,k=x.b\/inS x.d k
theorem Fls.mono{t:Nat}{h h':Hp}{X:List FX}(F:Fls t h X)(m:∀ k x,ownX X k->h k=some x->h' k=some x):Fls t h' X:=
 ⟨λx hx=>m _ _ ⟨x,hx,.inl rfl⟩ (F.fb x hx),λx hx=>buf_mono (F.fd x hx) λk y hk e=>m k y ⟨x,hx,.inr hk⟩ e,F.dj⟩
theorem Fls.alive{t:Nat}{h:Hp}{X:List FX}(F:Fls t h X){k:Nat}(hk:ownX X k):∃ (c:Array Value) (u:Nat×(Nat×Nat)),h k=some (.cells c u.1 u.2)/\(u.1=5\/u.1=t):=by
 obtain⟨x,hx,rfl|hk⟩:=hk
 ·exact⟨_,(t,(0,0)),F.fb x hx,.inr rfl⟩
 ·obtain⟨c,f,e⟩:=buf_alive (F.fd x hx) hk;exact⟨c,(5,f),e,.inl rfl⟩
theorem offS{s t:Sl}(o:Off s t):Off t s:=λb o1 o2 e1 e2=>o b o2 o1 e2 e1
theorem off_upd{h h1:Hp}{s s' r:Sl}{sz t:Nat}{vs:List Value}(U:Upd h h1 s s')(o:Off r s)(B:Buf h r sz t vs):Off r s':=by
 rcases U.at_ with e|⟨b,e,hn⟩
 ·intro k o1 o2 e1 e2
  rw[e] at e2
  exact o k o1 o2 e1 e2
 ·intro k o1 o2 e1 e2
  rw[e] at e2
  simp only[Option.some.injEq,Addr.mk.injEq,and_true] at e2
  obtain⟨c,f,e3⟩:=buf_alive B ⟨o1,e1⟩
  rw[<- e2.1,hn] at e3;cases e3
theorem Fls.set{t:Nat}(ht5:t≠5){h h1 h2:Hp}{X:List FX}(F:Fls t h X){i:Nat}{x:FX}(hx:X[i]?=some x){d':Sl}{f':Fil}(U:Upd h h1 x.d d')(B:Buf h1 d' 1 5 (bl f'.data))(O:One x.b h1 h2)
  (hb:h2 x.b=some (.cells ⟨[.slice d'.a d'.n d'.c,.int .i64 (f'.sure:Int)]⟩ t (0,0))):Fls t h2 (X.set i ⟨x.b,d',f'⟩)/\Ck [7,t+2] h h2/\Tr2 (ownX X) (ownX (X.set i ⟨x.b,d',f'⟩)) h h2:=by
 have hi:=(List.getElem?_eq_some_iff.1 hx).1
 have hxm:=mem_of_getElem? hx
 have C1:=Ck.of_upd (F.fd x hxm) U
 have hb1:h1 x.b=some _:=C1.keep _ _ (F.fb x hxm) (by simp[kd];omega)
 have C2:=O.ck hb1
 have get:∀ {j:Nat} {y:FX},(X.set i ⟨x.b,d',f'⟩)[j]?=some y->(j=i/\y=⟨x.b,d',f'⟩)\/(j≠i/\X[j]?=some y):=λ{j y} h=>by
  rw[List.getElem?_set] at h
  by_cases hj:i=j
  ·subst hj
   rw[if_pos rfl,if_pos hi] at h
   exact .inl ⟨rfl,(Option.some.inj h).symm⟩
  ·rw[if_neg hj] at h
   exact .inr ⟨λe=>hj e.symm,h⟩
 refine⟨⟨λy hy=>?_,λy hy=>?_,λj k y z hy hz hjk=>?_⟩,(C1.mono (by simp)).trans (C2.mono (by simp[kd])),⟨λk y hk e=>?_,λk e=>U.dom k (O.dom k e),λk hk=>?_⟩⟩
 ·obtain⟨j,hj⟩:=List.mem_iff_getElem?.1 hy
  rcases get hj with⟨_,rfl⟩|⟨hne,hj⟩
  ·exact hb
  ·exact O.keep _ _ (F.dj j i y x hj hx hne).1 (C1.keep _ _ (F.fb y (mem_of_getElem? hj)) (by simp[kd];omega))
 ·obtain⟨j,hj⟩:=List.mem_iff_getElem?.1 hy
  rcases get hj with⟨_,rfl⟩|⟨hne,hj⟩
  ·exact C2.buf (by simp[kd];omega) B
  ·exact C2.buf (by simp[kd];omega) ((F.fd y (mem_of_getElem? hj)).upd U (F.dj j i y x hj hx hne).2)
 ·rcases get hy with⟨e1,e2⟩|⟨hj,hy'⟩
  ·rcases get hz with⟨e3,e4⟩|⟨hk,hz'⟩
   ·exact absurd (e1.trans e3.symm) hjk
   ·have:=F.dj i k x z hx hz' (λe=>hk e.symm)
    rw[e2]
    exact⟨this.1,offS (off_upd U (offS this.2) (F.fd z (mem_of_getElem? hz')))⟩
  ·rcases get hz with⟨e3,e4⟩|⟨hk,hz'⟩
   ·have:=F.dj j i y x hy' hx hj
    rw[e4]
    exact⟨this.1,off_upd U this.2 (F.fd y (mem_of_getElem? hy'))⟩
   ·exact F.dj j k y z hy' hz' hjk
 ·exact O.keep k y (by rintro rfl;exact hk ⟨x,hxm,.inl rfl⟩) (U.keep k y (λo ho=>hk ⟨x,hxm,.inr ⟨o,ho⟩⟩) e)
 ·obtain⟨y,hy,hk⟩:=hk
  obtain⟨j,hj⟩:=List.mem_iff_getElem?.1 hy
  rcases get hj with⟨_,rfl⟩|⟨hne,hj⟩
  ·rcases hk with rfl|hk
   ·exact .inl ⟨x,hxm,.inl rfl⟩
   ·rcases upd_in U hk with h0|h0
    ·exact .inl ⟨x,hxm,.inr h0⟩
    ·exact .inr h0
  ·exact .inl ⟨y,mem_of_getElem? hj,hk⟩
theorem Fls.snoc{t:Nat}{h:Hp}{X:List FX}(F:Fls t h X){x:FX}(hb:h x.b=some (.cells ⟨[.slice x.d.a x.d.n x.d.c,.int .i64 (x.f.sure:Int)]⟩ t (0,0)))(B:Buf h x.d 1 5 (bl x.f.data))(n1:¬ ownX X x.b)(n2:∀ k,inS x.d k->¬ ownX X k):Fls t h (X++[x]):=by
 refine⟨λy hy=>?_,λy hy=>?_,λi j y z hy hz hij=>?_⟩
 ·rcases mem_append.1 hy with hy|hy
  ·exact F.fb y hy
  ·rw[mem_singleton.1 hy];exact hb
 ·rcases mem_append.1 hy with hy|hy
  ·exact F.fd y hy
  ·rw[mem_singleton.1 hy];exact B
 ·have get:∀ {j:Nat} {y:FX},(X++[x])[j]?=some y->X[j]?=some y\/(j=X.length/\y=x):=λ{j y} h=>by
   rcases Nat.lt_trichotomy j X.length with hj|hj|hj
   ·rw[List.getElem?_append_left hj] at h;exact .inl h
   ·subst hj;simp at h;exact .inr ⟨rfl,h.symm⟩
   ·rw[List.getElem?_eq_none (by simp;omega)] at h;cases h
  rcases get hy with hy'|⟨e1,e2⟩
  ·rcases get hz with hz'|⟨e3,e4⟩
   ·exact F.dj i j y z hy' hz' hij
   ·rw[e4]
    exact⟨λe=>n1 ⟨y,mem_of_getElem? hy',.inl e.symm⟩,λb o o' e1 e2=>n2 b ⟨o',e2⟩ ⟨y,mem_of_getElem? hy',.inr ⟨o,e1⟩⟩⟩
  ·rcases get hz with hz'|⟨e3,e4⟩
   ·rw[e2]
    exact⟨λe=>n1 ⟨z,mem_of_getElem? hz',.inl e⟩,λb o o' e1 e2=>n2 b ⟨o,e1⟩ ⟨z,mem_of_getElem? hz',.inr ⟨o',e2⟩⟩⟩
   ·exact absurd (e1.trans e3.symm) hij
theorem ownX_snoc{X:List FX}{x:FX}{k:Nat}(h:ownX (X++[x]) k):ownX X k\/k=x.b\/inS x.d k:=by
 obtain⟨y,hy,hk⟩:=h
 rcases mem_append.1 hy with hy|hy
 ·exact .inl ⟨y,hy,hk⟩
 ·rw[mem_singleton.1 hy] at hk;exact .inr hk
structure PD(h:Hp)(A:PA)(S:Dk):Prop where
 dsk:∃ u w f p:Int,(S.down=false->u=S.left/\w=S.well/\f=S.fails/\p=S.part)/\h A.db=some (.cells ⟨[.int .i64 S.room,.map (some A.nb),.map (some A.sb),.slice A.ch.a A.ch.n A.ch.c,.int .i64 u,.int .i64 w,.int .i64 f,.int .i64 p,.bool S.down]⟩ 91 (0,0))
 now:∃ es c,h A.nb=some (.map es c)/\SM es c S.now (pid A.bk)
 sure:∃ es c,h A.sb=some (.map es c)/\SM es c S.sure (pid A.bk)
 ne:A.nb≠A.sb
 ch:Buf h A.ch 4 127 (chV A.bk S.chg)
 fl:A.X.map (·.f)=S.fl
 fx:Fls 95 h A.X
def PA.own(A:PA)(k:Nat):Prop:=k=A.db\/k=A.nb\/k=A.sb\/inS A.ch k\/ownX A.X k
section
variable{h h':Hp}{A:PA}{S S':Dk}{Q:Value->Hp->Prop}
theorem PD.alive(P:PD h A S){k:Nat}(hk:A.own k):∃ o,h k=some o:=by
 rcases hk with rfl|rfl|rfl|hk|hk
 ·obtain⟨u,w,f,p,_,e⟩:=P.dsk;exact⟨_,e⟩
 ·obtain⟨es,c,e,_⟩:=P.now;exact⟨_,e⟩
 ·obtain⟨es,c,e,_⟩:=P.sure;exact⟨_,e⟩
 ·obtain⟨c,f,e⟩:=buf_alive P.ch hk;exact⟨_,e⟩
 ·obtain⟨c,f,e,_⟩:=P.fx.alive hk;exact⟨_,e⟩
theorem PD.mono(P:PD h A S)(m:∀ k x,A.own k->h k=some x->h' k=some x):PD h' A S:=by
 obtain⟨u,w,f,p,e1,e2⟩:=P.dsk
 obtain⟨es,c,e3,e4⟩:=P.now
 obtain⟨es',c',e5,e6⟩:=P.sure
 exact⟨⟨u,w,f,p,e1,m _ _ (.inl rfl) e2⟩,⟨es,c,m _ _ (.inr (.inl rfl)) e3,e4⟩,⟨es',c',m _ _ (.inr (.inr (.inl rfl))) e5,e6⟩,P.ne,buf_mono P.ch λk x hk e=>m k x (.inr (.inr (.inr (.inl hk)))) e,P.fl,
  P.fx.mono λk y hk e=>m k y (.inr (.inr (.inr (.inr hk)))) e⟩
theorem PD.keep(P:PD h A S)(K:Keep h h'):PD h' A S:=P.mono λk x _ e=>K k x e
theorem PD.other(P:PD h A S){E E':Nat->Prop}(T:Tr2 E E' h h')(d:∀ k,A.own k->¬ E k):PD h' A S/\∀ k,A.own k->¬ E' k:=
 ⟨P.mono λk x hk e=>T.keep k x (d k hk) e,λk hk he=>(T.grow k he).elim (d k hk) λe=>by obtain⟨o,ho⟩:=P.alive hk;rw[e] at ho;cases ho⟩
theorem PD.cells(P:PD h A S)(C:Ck [93] h h')(e1:S'.now=S.now)(e2:S'.sure=S.sure)(e3:S'.chg=S.chg)(e4:S'.fl=S.fl)
  (hd:∃ u w f p:Int,(S'.down=false->u=S'.left/\w=S'.well/\f=S'.fails/\p=S'.part)/\h' A.db=some (.cells ⟨[.int .i64 S'.room,.map (some A.nb),.map (some A.sb),.slice A.ch.a A.ch.n A.ch.c,.int .i64 u,.int .i64 w,.int .i64 f,.int .i64 p,.bool S'.down]⟩ 91 (0,0))):PD h' A S':=by
 obtain⟨es,c,n1,n2⟩:=P.now
 obtain⟨es',c',n3,n4⟩:=P.sure
 exact⟨hd,⟨es,c,C.keep _ _ n1 (by simp[kd]),by rw[e1];exact n2⟩,⟨es',c',C.keep _ _ n3 (by simp[kd]),by rw[e2];exact n4⟩,P.ne,by rw[e3];exact C.buf (by decide) P.ch,by rw[e4];exact P.fl,
  P.fx.mono λk y hk e=>C.keep k y e (by
   obtain⟨c,t,e',ht⟩:=P.fx.alive hk
   rw[e] at e';cases e'
   rcases ht with ht|ht<;>simp[kd,ht])⟩
theorem one_wr{b o t:Nat}{c:Array Value}{f:Nat×Nat}{vs:List Value}(hb:h b=some (.cells c t f)):One b h (h.wr b o vs):=by
 have e:h.wr b o vs=h.new b (.cells (setL c.toList o vs).toArray t f):=by
  funext k
  unfold Hp.wr Hp.new
  by_cases hk:k=b
  ·rw[if_pos hk,if_pos hk,hb]
  ·rw[if_neg hk,if_neg hk]
 rw[e]
 exact One.new _ (by rw[hb];simp)
theorem wr_cells{b o t:Nat}{c:Array Value}{f:Nat×Nat}{vs:List Value}(hb:h b=some (.cells c t f)):(h.wr b o vs) b=some (.cells (setL c.toList o vs).toArray t f):=by
 unfold Hp.wr;rw[if_pos rfl,hb]
theorem strs_rd{l:Sl}{A B:List ByteArray}{s:ByteArray}(hr:h.row l.a (l.n*1) ((A++s::B).map Value.string)):∃ b o,l.a=some ⟨b,o,none⟩/\(A.length:Int)<(l.n:Int)/\h.at b (o+(A.length:Int).toNat)=some (.string s):=by
 have hl:=hr.1
 rw[length_map,length_append,length_cons] at hl
 obtain⟨b,o,ha,hat⟩:=row_get hr (i:=A.length) (by omega)
 refine⟨b,o,ha,by omega,?_⟩
 rw[Int.toNat_natCast,hat _ (by omega)]
 simp
theorem begin_p{l:Sl}{ns:List ByteArray}(P:PD h A S)(D:DOk S)(hr:h.row l.a (l.n*1) (ns.map Value.string))(hl:ns.length<=1000)(hs:∀ s∈ns,s.size<=9223372036854775807)
  (hQ:∀ h',PD h' A (dbegin S (ns.all nameOk)).2->Tr2 A.own A.own h h'->Q (.int .i64 (dbegin S (ns.all nameOk)).1) h'):F93.T (some ⟨A.db,0,none⟩) l h Q:=by
 obtain⟨u,w,f,p,hrig,hd⟩:=P.dsk
 have hln:l.n=ns.length:=by have:=hr.1;rw[length_map] at this;omega
 refine⟨A.db,0,rfl,S.down,at_of hd 8,λhdown=>?_,λhup=>?_⟩
 ·have e:dbegin S (ns.all nameOk)=(30,S):=by unfold dbegin;rw[if_pos hdown]
  rw[e] at hQ
  exact hQ h P (Tr2.refl _ _)
 obtain⟨rfl,rfl,rfl,rfl⟩:=hrig hup
 refine⟨λn h1=>Keep h h1/\∃ B C,ns=B++C/\n=(B.length:Int)/\B.all nameOk=true,λn _=>ns.length-n.toNat,⟨Keep.refl h,[],ns,rfl,rfl,rfl⟩,?_⟩
 rintro n h1 ⟨K,B,C,rfl,rfl,hB⟩
 rw[length_append] at hln hl
 refine⟨λhlt=>?_,λhge=>?_⟩
 ·rcases C with _|⟨s,C⟩
  ·exact absurd hlt (by simp at hln;omega)
  rw[length_cons] at hln hl
  obtain⟨b,o,ha,hb,hat⟩:=strs_rd (K.row hr)
  refine⟨b,o,ha,⟨by omega,hb⟩,s,hat,?_⟩
  refine name_spec (hs s (by simp)) λh2 K2=>⟨nameOk s,rfl,λhok=>?_,λhno=>?_⟩
  ·rw[inc_i (n:=100000) (by omega) (by omega)]
   exact⟨⟨K.trans K2,B++[s],C,by simp,by simp,by simp[hB,hok]⟩,by(try dsimp only);(try simp only[length_append,length_singleton,length_cons]);omega⟩
  ·have e:dbegin S ((B++s::C).all nameOk)=(33,S):=by
    have:(B++s::C).all nameOk=false:=by simp[hno]
    unfold dbegin
    rw[this,if_neg (by rw[hup];simp),if_pos rfl]
   rw[e] at hQ
   exact hQ h2 (P.keep (K.trans K2)) (Tr2.of_keep _ (K.trans K2))
 ·have hC:C=[]:=eq_nil_of_length_eq_zero (by omega)
  subst hC
  rw[append_nil,hB] at hQ
  have P1:=P.keep K
  have hd1:=K _ _ hd
  have pos:=D.pos
  have top:=D.top
  refine⟨A.db,0,rfl,S.well,at_of hd1 5,λhw=>?_,λhw=>?_⟩
  ·have e:dbegin S true=(0,{ S with well:=S.well-1 }):=by unfold dbegin;rw[if_neg (by rw[hup];simp),if_neg (by simp),if_pos hw]
   rw[e] at hQ
   refine⟨A.db,0,rfl,S.well,at_of hd1 5,A.db,0,rfl,canW_new hd1 (by simp),?_⟩
   rw[wrap_i64 (by omega) (by omega)]
   exact hQ _ (P1.cells (Ck.wr hd1) rfl rfl rfl rfl ⟨_,_,_,_,λ_=>⟨rfl,rfl,rfl,rfl⟩,wr_cells hd1⟩) (Tr2.keepTr K (Tr2.one (one_wr hd1) (.inl rfl) λ_ d=>.inl d))
  ·refine⟨A.db,0,rfl,S.fails,at_of hd1 6,λhf=>?_,λhf=>?_⟩
   ·have e:dbegin S true=(31,{ S with fails:=S.fails-1 }):=by unfold dbegin;rw[if_neg (by rw[hup];simp),if_neg (by simp),if_neg hw,if_pos hf]
    rw[e] at hQ
    refine⟨A.db,0,rfl,S.fails,at_of hd1 6,A.db,0,rfl,canW_new hd1 (by simp),?_⟩
    rw[wrap_i64 (by omega) (by omega)]
    exact hQ _ (P1.cells (Ck.wr hd1) rfl rfl rfl rfl ⟨_,_,_,_,λ_=>⟨rfl,rfl,rfl,rfl⟩,wr_cells hd1⟩) (Tr2.keepTr K (Tr2.one (one_wr hd1) (.inl rfl) λ_ d=>.inl d))
   ·have e:dbegin S true=(0,S):=by unfold dbegin;rw[if_neg (by rw[hup];simp),if_neg (by simp),if_neg hw,if_neg hf]
    rw[e] at hQ
    exact hQ h1 P1 (Tr2.of_keep _ K)
theorem falls_p{cost:Int}(P:PD h A S)(D:DOk S)(hup:S.down=false)(hc:0<=cost)
  (hN:∀ h',(dfalls S cost).1=none->PD h' A (dfalls S cost).2->Tr2 A.own A.own h h'->Q (.tuple ⟨[.int .i64 0,.bool false]⟩) h')
  (hF:∀ h' n,(dfalls S cost).1=some n->0<=n->n<cost\/n=0/\cost=0\/n+1<=cost->PD h' A (dfalls S cost).2->Tr2 A.own A.own h h'->Q (.tuple ⟨[.int .i64 n,.bool true]⟩) h'):F96.T (some ⟨A.db,0,none⟩) cost h Q:=by
 obtain⟨u,w,f,p,hrig,hd⟩:=P.dsk
 obtain⟨rfl,rfl,rfl,rfl⟩:=hrig hup
 have pos:=D.pos
 have top:=D.top
 refine⟨A.db,0,rfl,S.left,at_of hd 4,λh0=>?_,λh0=>⟨λhlt=>?_,λhge=>?_⟩⟩
 ·have e:dfalls S cost=(none,S):=by unfold dfalls;rw[if_pos h0]
  rw[e] at hN
  exact hN h rfl P (Tr2.refl _ _)
 ·have e:dfalls S cost=(none,{ S with left:=S.left-cost }):=by unfold dfalls;rw[if_neg h0,if_pos hlt]
  rw[e] at hN
  refine⟨A.db,0,rfl,S.left,at_of hd 4,A.db,0,rfl,canW_new hd (by simp),?_⟩
  rw[wrap_i64 (by omega) (by omega)]
  exact hN _ rfl (P.cells (Ck.wr hd) rfl rfl rfl rfl ⟨_,_,_,_,λ_=>⟨rfl,rfl,rfl,rfl⟩,wr_cells hd⟩) (Tr2.one (one_wr hd) (.inl rfl) λ_ d=>.inl d)
 ·have e:dfalls S cost=(some (S.left-1),{ S with left:=0,well:=0,fails:=0,part:=0,down:=true }):=by unfold dfalls;rw[if_neg h0,if_neg hge]
  rw[e] at hF
  have hd1:=wr_cells (o:=0+8) (vs:=[.bool true]) hd
  refine⟨A.db,0,rfl,canW_new hd (by simp),A.db,0,rfl,canW_new hd1 (by simp[setL]),?_⟩
  rw[wrap_i64 (by omega) (by omega)]
  refine hF _ (S.left-1) rfl (by omega) (.inr (.inr (by omega))) (P.cells ((Ck.wr hd).trans (Ck.wr hd1)) rfl rfl rfl rfl ⟨0,0,0,0,λh=>(by cases h),wr_cells hd1⟩) (Tr2.one ((one_wr hd).trans (one_wr hd1)) (.inl rfl) λ_ d=>.inl d)
theorem down_p(P:PD h A S)(hQ:Q (.bool S.down) h):F20.T (some ⟨A.db,0,none⟩) h Q:=by
 obtain⟨u,w,f,p,hrig,hd⟩:=P.dsk
 refine⟨A.db,0,rfl,S.down,at_of hd 8,λe=>?_,λe=>?_⟩
 ·rw[e] at hQ;exact hQ
 ·rw[e] at hQ;exact hQ
theorem arm_p{n:Int}(P:PD h A S)(hQ:∀ h',PD h' A (kArm S n)->Tr2 A.own A.own h h'->Q (.tuple ⟨[]⟩) h'):F67.T (some ⟨A.db,0,none⟩) n h Q:=by
 obtain⟨u,w,f,p,hrig,hd⟩:=P.dsk
 refine⟨A.db,0,rfl,canW_new hd (by simp),hQ _ ?_ (Tr2.one (one_wr hd) (.inl rfl) λ_ d=>.inl d)⟩
 unfold kArm
 by_cases hdn:S.down=true
 ·rw[if_pos hdn]
  exact P.cells (Ck.wr hd) rfl rfl rfl rfl ⟨_,_,_,_,λh=>(by rw[hdn] at h;cases h),wr_cells hd⟩
 ·rw[if_neg hdn]
  have:=hrig (by simpa using hdn)
  exact P.cells (Ck.wr hd) rfl rfl rfl rfl ⟨_,_,_,_,λh=>⟨rfl,this.2⟩,wr_cells hd⟩
theorem fail_p{a b c:Int}(P:PD h A S)(hQ:∀ h',PD h' A (kFail S a b c)->Tr2 A.own A.own h h'->Q (.tuple ⟨[]⟩) h'):F26.T (some ⟨A.db,0,none⟩) a b c h Q:=by
 obtain⟨u,w,f,p,hrig,hd⟩:=P.dsk
 have hd1:=wr_cells (o:=(0+4)+1) (vs:=[.int .i64 (iMax a 0)]) hd
 have hd2:=wr_cells (o:=(0+4)+2) (vs:=[.int .i64 (iMax b 0)]) hd1
 have hd3:=wr_cells (o:=(0+4)+3) (vs:=[.int .i64 (iMax c 0)]) hd2
 refine⟨A.db,0,rfl,canW_new hd (by simp),A.db,0,rfl,canW_new hd1 (by simp[setL]),A.db,0,rfl,canW_new hd2 (by simp[setL]),hQ _ ?_ (Tr2.one (((one_wr hd).trans (one_wr hd1)).trans (one_wr hd2)) (.inl rfl) λ_ d=>.inl d)⟩
 have C:Ck [93] h _:=((Ck.wr (o:=(0+4)+1) (vs:=[.int .i64 (iMax a 0)]) hd).trans (Ck.wr (o:=(0+4)+2) (vs:=[.int .i64 (iMax b 0)]) hd1)).trans (Ck.wr (o:=(0+4)+3) (vs:=[.int .i64 (iMax c 0)]) hd2)
 unfold kFail
 by_cases hdn:S.down=true
 ·rw[if_pos hdn]
  exact P.cells C rfl rfl rfl rfl ⟨_,_,_,_,λh=>(by rw[hdn] at h;cases h),hd3⟩
 ·rw[if_neg hdn]
  have:=hrig (by simpa using hdn)
  exact P.cells C rfl rfl rfl rfl ⟨_,_,_,_,λh=>⟨this.1,rfl,rfl,rfl⟩,hd3⟩
end
end Go.Eng.YtekflkpnpibneaaGreatDoor
end
section
namespace Go.Eng.YtekflkpnpibneaaGreatDoor
theorem pid_app(bk:List Nat)(b:Nat){i:Nat}(hi:i<bk.length):pid (bk++[b]) i=pid bk i:=by unfold pid;rw[List.getElem?_append_left hi]
theorem pid_last(bk:List Nat)(b:Nat):pid (bk++[b]) bk.length=.pointer (some ⟨b,0,none⟩):=by unfold pid;simp
theorem pid_get{A:PA}{i:Nat}{x:FX}(hx:A.X[i]?=some x):pid A.bk i=.pointer (some ⟨x.b,0,none⟩):=by unfold pid PA.bk;rw[getElem?_map,hx];rfl
theorem dlay_ren{d:Dir}(D:DSrt d){s t:ByteArray}(i:Nat)(hne:s≠t):ddel (dins d t i) s=dins (ddel d s) t i:=
 dir_ext (ddel_srt (dins_srt D _ _) _) (dins_srt (ddel_srt D _) _ _) λu=>by
  rw[dget_del (dins_srt D _ _),dget_ins,dget_ins,dget_del D]
  by_cases h1:u=s
  ·rw[if_pos h1,if_neg (by rw[h1];exact hne),if_pos h1]
  ·rw[if_neg h1,if_neg h1]
section
variable{h h':Hp}{A:PA}{S S':Dk}{Q:Value->Hp->Prop}
theorem lay_p{bk:List Nat}{mb c0:Nat}{es:Array MapEntry}{d:Dir}{c:Cg}{p:Option Addr}(hm:h mb=some (.map es c0))(M:SM es c0 d (pid bk))(D:DSrt d)(hc:CgOk d c)(hp:c.kind=0->pid bk c.id=.pointer p)
  (hQ:∀ es' c',SM es' c' (dlay d c) (pid bk)->Q (.tuple ⟨[]⟩) (h.new mb (.map es' c'))):F98.T c.kind c.nm c.to p (some mb) h Q:=by
 refine⟨λk0=>?_,λk0=>⟨λk1=>?_,λk1=>⟨λk2=>?_,λk2=>?_⟩⟩⟩
 ·obtain⟨es',c',e1,e2⟩:=M.put c.nm c.id
  refine⟨mb,es,c0,rfl,hm,M.fit _,?_⟩
  rw[<- hp k0,e1]
  have e:dlay d c=dins d c.nm c.id:=by unfold dlay;rw[if_pos k0]
  exact hQ es' c' (by rw[e];exact e2)
 ·have hs:(dget d c.nm).isSome=true/\c.nm≠c.to:=by
   rcases hc with e|e|e
   ·exact absurd e k0
   ·exact e.2
   ·omega
  obtain⟨i,hi⟩:=Option.isSome_iff_exists.1 hs.1
  have hv:mget es (.string c.nm) (.pointer none)=pid bk i:=by rw[M.get,hi]
  obtain⟨es',c',e1,e2⟩:=M.put c.to i
  refine⟨es,c0,hm,M.fit _,(bk[i]?).map λb=>⟨b,0,none⟩,hv,mb,es,c0,rfl,hm,M.fit _,?_⟩
  have e1':mPut es c0 (.string c.to) (.pointer ((bk[i]?).map λb=>⟨b,0,none⟩))=.map es' c':=e1
  rw[e1']
  refine⟨es',c',new_at _ _ _,e2.fit _,?_⟩
  show Q _ ((h.new mb _).new mb _)
  rw[new_new]
  have e:dlay d c=ddel (dins d c.to i) c.nm:=by unfold dlay;rw[if_neg k0,if_pos k1,hi,dlay_ren D i hs.2]
  exact hQ _ c' (by rw[e];exact e2.del (dins_srt D _ _) _)
 ·have e:dlay d c=ddel d c.nm:=by unfold dlay;rw[if_neg k0,if_neg k1]
  exact⟨es,c0,hm,M.fit _,hQ _ c0 (by rw[e];exact M.del D _)⟩
 ·rcases hc with e|e|e
  ·exact absurd e k0
  ·exact absurd e.1 k1
  ·exact absurd e k2
def chgT(p:Option Addr)(n:Int)(s s1:ByteArray)(p1:Option Addr)(h1:Hp)(Q:Value->Hp->Prop):Prop:=
 ∃ b1 o,(p:Option Addr)=some ⟨b1,o,none⟩/\∃ m:Option Nat,h1.at b1 (o+1)=some (.map m)/\F98.T n s s1 p1 m h1 λr1 h2=>∃ b2 o1,(p:Option Addr)=some ⟨b2,o1,none⟩/\∃ l:Sl,h2.at b2 (o1+3)=some (.slice l.a l.n l.c)/\h2.at b2 (o1+3)=some (.slice l.a l.n l.c)/\appendD l 127 4 48 [.int .i64 0,.string ⟨#[]⟩,.string ⟨#[]⟩,.pointer none] 1 [.int .i64 n,.string s,.string s1,.pointer p1] h2 λl1 h3=>∃ b3 o2,(p:Option Addr)=some ⟨b3,o2,none⟩/\h3.canW b3 (o2+3) 1/\Q (.int .i64 0) (h3.wr b3 (o2+3) [.slice l1.a l1.n l1.c])
theorem chg_p{c:Cg}{p1:Option Addr}(P:PD h A S)(D:DOk S)(hc:CgOk S.now c)(hp:(if c.kind=0 then pid A.bk c.id else .pointer none)=.pointer p1)(hl:S.chg.length<=1000000000)
  (hQ:∀ h' A',A'.db=A.db->PD h' A' (kDo S c)->Tr2 A.own A'.own h h'->Q (.int .i64 0) h'):chgT (some ⟨A.db,0,none⟩) c.kind c.nm c.to p1 h Q:=by
 obtain⟨u,w,f,p,hrig,hd⟩:=P.dsk
 obtain⟨es,c0,hm,M⟩:=P.now
 obtain⟨es2,c2,hm2,M2⟩:=P.sure
 refine⟨A.db,0,rfl,some A.nb,at_of hd 1,lay_p hm M D.now.s hc (λk0=>by rw[if_pos k0] at hp;exact hp) λes' c' M'=>?_⟩
 have C1:Ck [0] h (h.new A.nb (.map es' c')):=Ck.put hm
 have O1:One A.nb h (h.new A.nb (.map es' c')):=One.new _ (by rw[hm];simp)
 have hn1:=new_at h A.nb (.map es' c')
 generalize h.new A.nb (.map es' c')=h2 at C1 O1 hn1 ⊢
 have hd2:=C1.keep _ _ hd (by simp[kd])
 have B2:=C1.buf (by decide) P.ch
 have hln:A.ch.n=S.chg.length:=by have:=P.ch.len;rw[chV_len] at this;omega
 refine⟨A.db,0,rfl,A.ch,at_of hd2 3,at_of hd2 3,append_buf B2 rfl rfl (by omega) λs' h3 B3 hs' U3=>?_⟩
 have C3:Ck [129] h2 h3:=Ck.of_upd B2 U3
 have hd3:=C3.keep _ _ hd2 (by simp[kd])
 have hcell:[Value.int .i64 c.kind,.string c.nm,.string c.to,.pointer p1]=Cg.cells A.bk c:=by unfold Cg.cells;rw[hp]
 have hV:chV A.bk S.chg++[Value.int .i64 c.kind,.string c.nm,.string c.to,.pointer p1]=chV A.bk (S.chg++[c]):=by rw[hcell];unfold chV;simp
 rw[hV] at B3
 have C4:Ck [93] h3 (h3.wr A.db (0+3) [.slice s'.a s'.n s'.c]):=Ck.wr hd3
 have C24:Ck [129,93] h2 (h3.wr A.db (0+3) [.slice s'.a s'.n s'.c]):=(C3.mono (by decide)).trans (C4.mono (by decide))
 refine⟨A.db,0,rfl,canW_new hd3 (by simp),hQ _ { A with ch:=s' } rfl ⟨⟨u,w,f,p,hrig,wr_cells hd3⟩,⟨es',c',C24.keep _ _ hn1 (by simp[kd]),M'⟩,⟨es2,c2,C24.keep _ _ (O1.keep _ _ (λe=>P.ne e.symm) hm2) (by simp[kd]),M2⟩,P.ne,C4.buf (by decide) B3,P.fl,P.fx.mono λk y hk e=>?_⟩ ?_⟩
 ·obtain⟨c,t,e',ht⟩:=P.fx.alive hk
  rw[e] at e';cases e'
  exact C24.keep _ _ (C1.keep _ _ e (by simp[kd])) (by rcases ht with ht|ht<;>simp[kd,ht])
 ·refine(Tr2.one (D':=A.own) O1 (.inr (.inl rfl)) λk d=>.inl d).trans ((Tr2.upd (D:=A.own) (D':=PA.own { A with ch:=s' }) U3 (λk o e=>.inr (.inr (.inr (.inl ⟨o,e⟩)))) λk d=>?_).trans (Tr2.one (one_wr hd3) (.inl rfl) λk d=>.inl d))
  rcases d with d|d|d|d|d
  ·exact .inl (.inl d)
  ·exact .inl (.inr (.inl d))
  ·exact .inl (.inr (.inr (.inl d)))
  ·rcases upd_in U3 d with d|d
   ·exact .inl (.inr (.inr (.inr (.inl d))))
   ·exact .inr d
  ·exact .inl (.inr (.inr (.inr (.inr d))))
theorem do_p{n:Int}{s s1:ByteArray}{p1:Option Addr}(P:PD h A S)(D:DOk S)(hup:S.down=false)
  (hF:∀ h' m,(dfalls S 1).1=some m->PD h' A (dfalls S 1).2->Tr2 A.own A.own h h'->Q (.int .i64 30) h')
  (hN:∀ h',(dfalls S 1).1=none->PD h' A (dfalls S 1).2->Tr2 A.own A.own h h'->(n=1/\s=s1/\Q (.int .i64 0) h')\/(¬ (n=1/\s=s1)/\chgT (some ⟨A.db,0,none⟩) n s s1 p1 h' Q)):F94.T (some ⟨A.db,0,none⟩) n s s1 p1 h Q:=by
 unfold F94.T F94.G
 refine falls_p P D hup (by decide) (λh1 e P1 T1=>⟨0,false,⟨λh=>(by cases h),λ_=>⟨rfl,?_⟩⟩⟩) (λh1 m e _ _ P1 T1=>⟨m,true,⟨λ_=>⟨rfl,hF h1 m e P1 T1⟩,λh=>(by cases h)⟩⟩)
 have hh:=hN h1 e P1 T1
 refine⟨λn1=>⟨λes=>?_,λes=>?_⟩,λn1=>?_⟩
 ·rcases hh with hh|hh
  ·exact hh.2.2
  ·exact absurd ⟨n1,es⟩ hh.1
 ·rcases hh with hh|hh
  ·exact absurd hh.2.1 es
  ·exact hh.2
 ·rcases hh with hh|hh
  ·exact absurd hh.1 n1
  ·exact hh.2
theorem begin1{s:ByteArray}{K:Value->Hp->Prop}(P:PD h A S)(D:DOk S)(hs:s.size<=9223372036854775807)(hK:∀ h',PD h' A (dbegin S (nameOk s)).2->Tr2 A.own A.own h h'->K (.int .i64 (dbegin S (nameOk s)).1) h') :
  ∀ b,h b=none->F93.T (some ⟨A.db,0,none⟩) ⟨(some ⟨b,0,none⟩),1,1⟩ (h.new b (.cells ⟨[.string s]⟩ 9 (0,0))) K:=by
 intro b hb
 have K0:=Keep.new hb (.cells ⟨[.string s]⟩ 9 (0,0))
 have hx:=new_at h b (.cells ⟨[.string s]⟩ 9 (0,0))
 have e:[s].all nameOk=nameOk s:=by simp
 refine begin_p (ns:=[s]) (P.keep K0) D ⟨rfl,.inr ⟨b,0,rfl,λj hj=>?_⟩⟩ (by simp) (λt ht=>by rw[mem_singleton.1 ht];exact hs) λh1 P1 T1=>?_
 ·have:j=0:=by(try dsimp only at hj);omega
  subst this
  exact at_of hx 0
 ·rw[e] at P1 ⊢
  exact hK h1 P1 (Tr2.keepTr K0 T1)
theorem look_p{s:ByteArray}{K:Option Addr->Prop}(P:PD h A S)(D:DOk S)(h0:dget S.now s=none->K none)(h1:∀ i x,dget S.now s=some i->A.X[i]?=some x->K (some ⟨x.b,0,none⟩)) :
  ∃ b o,(some ⟨A.db,0,none⟩:Option Addr)=some ⟨b,o,none⟩/\∃ m:Option Nat,h.at b (o+1)=some (.map m)/\∃ es c,h.mp m es c/\keysFit (.string s) es/\∃ p1:Option Addr,(mget es (.string s) (.pointer none))=.pointer p1/\K p1:=by
 obtain⟨u,w,f,p,hrig,hd⟩:=P.dsk
 obtain⟨es,c0,hm,M⟩:=P.now
 refine⟨A.db,0,rfl,some A.nb,at_of hd 1,es,c0,hm,M.fit _,?_⟩
 rw[M.get]
 cases hg:dget S.now s with
 |none=>exact⟨none,rfl,h0 hg⟩
 |some i=>
  have hi:i<A.X.length:=by
   have:=D.now.i _ (dget_mem hg)
   rw[<- P.fl,length_map] at this
   exact this
  have hx:A.X[i]?=some A.X[i]:=getElem?_eq_getElem hi
  exact⟨_,pid_get hx,h1 i _ hg hx⟩
theorem okPtr_none(h:Hp)(p:Option Addr):okPtr h p none:=λa b _ e=>by cases e
theorem rename_p{s t:ByteArray}(P:PD h A S)(D:DOk S)(hs:s.size<=9223372036854775807)(ht:t.size<=9223372036854775807)(hl:S.chg.length<=1000000000)(hQ:∀ h' A',A'.db=A.db->PD h' A' (kRename S s t).2->Tr2 A.own A'.own h h'->Q (.int .i64 (kRename S s t).1) h'):F60.T (some ⟨A.db,0,none⟩) s t h Q:=by
 intro b hb
 have K0:=Keep.new hb (.cells ⟨[.string s,.string t]⟩ 9 (0,0))
 have hx:=new_at h b (.cells ⟨[.string s,.string t]⟩ 9 (0,0))
 have e:[s,t].all nameOk=(nameOk s && nameOk t):=by simp
 refine begin_p (ns:=[s,t]) (P.keep K0) D ⟨rfl,.inr ⟨b,0,rfl,λj hj=>?_⟩⟩ (by simp) (λu hu=>?_) λh1 P1 T1=>⟨_,rfl,?_⟩
 ·rw[at_of hx,Nat.zero_add,<- Array.getElem?_toList];rfl
 ·rcases mem_cons.1 hu with rfl|hu
  ·exact hs
  ·rw[mem_singleton.1 hu];exact ht
 rw[e] at P1 ⊢
 have T1:=Tr2.keepTr K0 T1
 refine⟨λe0=>?_,λe0=>?_⟩
 ·have hk:kRename S s t=kRename2 s t (dbegin S (nameOk s && nameOk t)).2:=kThen_0 e0
  have D1:=D.begin (nameOk s && nameOk t)
  have hup:=(begin_up e0).2.2
  have hl1:(dbegin S (nameOk s && nameOk t)).2.chg.length<=1000000000:=by rw[(begin_same S _).2.2.2.1];exact hl
  rw[hk] at hQ
  generalize (dbegin S (nameOk s && nameOk t)).2=S1 at P1 D1 hup hl1 hQ
  refine look_p P1 D1 (λhg=>⟨okPtr_none _ _,⟨λ_=>?_,λh=>absurd rfl h⟩⟩) (λi x hg hx=>⟨okPtr_none _ _,⟨λh=>(by cases h),λ_=>?_⟩⟩)
  ·have e:kRename2 s t S1=(34,S1):=by unfold kRename2;rw[hg]
   rw[e] at hQ
   exact hQ h1 A rfl P1 T1
  ·have e:kRename2 s t S1=kFalls S1 1 λS2=>if s=t then(0,S2) else(0,kDo S2 ⟨1,s,t,0⟩):=by unfold kRename2;rw[hg]
   rw[e] at hQ
   refine do_p P1 D1 hup (λh2 m e P2 T2=>⟨_,rfl,?_⟩) (λh2 e P2 T2=>?_)
   ·rw[kFalls_s e] at hQ
    exact hQ h2 A rfl P2 (T1.trans T2)
   ·rw[kFalls_n e] at hQ
    by_cases hst:s=t
    ·rw[if_pos hst] at hQ
     exact .inl ⟨rfl,hst,_,rfl,hQ h2 A rfl P2 (T1.trans T2)⟩
    ·rw[if_neg hst] at hQ
     refine .inr ⟨λh=>hst h.2,?_⟩
     have hnow:=(falls_same S1 1).2.1
     exact chg_p (c:=⟨1,s,t,0⟩) P2 (D1.falls (by decide)) (.inr (.inl ⟨rfl,by show(dget _ s).isSome=true;rw[hnow,hg];rfl,hst⟩)) rfl (by rw[(falls_same S1 1).2.2.2.1];exact hl1) λh3 A3 eA P3 T3=>⟨_,rfl,hQ h3 A3 eA P3 (T1.trans (T2.trans T3))⟩
 ·have hk:kRename S s t=dbegin S (nameOk s && nameOk t):=kThen_1 e0
  rw[hk] at hQ
  exact hQ h1 A rfl P1 T1
theorem PD.newFile{x:FX}(P:PD h A S)(D:DOk S)(hb:h x.b=some (.cells ⟨[.slice x.d.a x.d.n x.d.c,.int .i64 (x.f.sure:Int)]⟩ 95 (0,0)))(B:Buf h x.d 1 5 (bl x.f.data))(n1:¬ A.own x.b)(n2:∀ k,inS x.d k->¬ A.own k):PD h { A with X:=A.X++[x] } { S with fl:=S.fl++[x.f] }:=by
 have hlen:A.bk.length=S.fl.length:=by unfold PA.bk;rw[length_map,<- P.fl,length_map]
 have hbk:PA.bk { A with X:=A.X++[x] }=A.bk++[x.b]:=by unfold PA.bk;simp
 obtain⟨es,c0,hm,M⟩:=P.now
 obtain⟨es2,c2,hm2,M2⟩:=P.sure
 refine⟨P.dsk,⟨es,c0,hm,?_⟩,⟨es2,c2,hm2,?_⟩,P.ne,?_,by simp[P.fl],P.fx.snoc hb B (λe=>n1 (.inr (.inr (.inr (.inr e))))) λk hk e=>n2 k hk (.inr (.inr (.inr (.inr e))))⟩
 ·rw[hbk];exact M.congr λs i hi=>(pid_app _ _ (by rw[hlen];exact D.now.i _ (dget_mem hi))).symm
 ·rw[hbk];exact M2.congr λs i hi=>(pid_app _ _ (by rw[hlen];exact D.sure.i _ (dget_mem hi))).symm
 ·rw[hbk]
  have:chV (A.bk++[x.b]) S.chg=chV A.bk S.chg:=by
   unfold chV
   rw[List.flatMap_def,List.flatMap_def]
   congr 1
   refine List.map_congr_left λc hc=>?_
   unfold Cg.cells
   by_cases h0:c.kind=0
   ·rw[if_pos h0,if_pos h0,pid_app _ _ (by rw[hlen];exact(D.chg c hc).2.2 h0)]
   ·rw[if_neg h0,if_neg h0]
  rw[this];exact P.ch
theorem create_p{s:ByteArray}(P:PD h A S)(D:DOk S)(hs:s.size<=9223372036854775807)(hl:S.chg.length<=1000000000)(hQ:∀ h' A',A'.db=A.db->PD h' A' (kCreate S s).2->Tr2 A.own A'.own h h'->Q (.int .i64 (kCreate S s).1) h'):F21.T (some ⟨A.db,0,none⟩) s h Q:=by
 refine begin1 P D hs λh1 P1 T1=>⟨_,rfl,λe0=>?_,λe0=>?_⟩
 ·have hk:kCreate S s=kCreate2 s (dbegin S (nameOk s)).2:=kThen_0 e0
  have D1:=D.begin (nameOk s)
  have hup:=(begin_up e0).2.2
  have hl1:(dbegin S (nameOk s)).2.chg.length<=1000000000:=by rw[(begin_same S _).2.2.2.1];exact hl
  rw[hk] at hQ
  generalize (dbegin S (nameOk s)).2=S1 at P1 D1 hup hl1 hQ
  refine look_p P1 D1 (λhg=>⟨okPtr_none _ _,⟨λ_=>?_,λh=>absurd rfl h⟩⟩) (λi x hg hx=>⟨okPtr_none _ _,⟨λh=>(by cases h),λ_=>?_⟩⟩)
  ·obtain⟨u,w,f,p,hrig,hd⟩:=P1.dsk
   obtain⟨es,c0,hm,M⟩:=P1.now
   refine⟨A.db,0,rfl,some A.nb,at_of hd 1,es,c0,hm,?_⟩
   rw[M.len D1.now.s]
   refine⟨λhge=>?_,λhlt b hb=>?_⟩
   ·have e:kCreate2 s S1=(32,S1):=by unfold kCreate2;rw[hg,if_neg (by simp),if_pos hge]
    rw[e] at hQ
    exact hQ h1 A rfl P1 T1
   ·have e:kCreate2 s S1=kFalls S1 1 λS2=>(0,kDo (kNew S2) ⟨0,s,⟨#[]⟩,S2.fl.length⟩):=by unfold kCreate2;rw[hg,if_neg (by simp),if_neg hlt]
    rw[e] at hQ
    have K0:=Keep.new hb (.cells ⟨[.slice none 0 0,.int .i64 0]⟩ 95 (0,0))
    have hx:=new_at h1 b (.cells ⟨[.slice none 0 0,.int .i64 0]⟩ 95 (0,0))
    have hno:¬ A.own b:=λd=>by obtain⟨o,ho⟩:=P1.alive d;rw[hb] at ho;cases ho
    refine do_p (P1.keep K0) D1 hup (λh2 m e P2 T2=>⟨_,rfl,?_⟩) (λh2 e P2 T2=>.inr ⟨λh=>by simp at h,?_⟩)
    ·rw[kFalls_s e] at hQ
     exact hQ h2 A rfl P2 (T1.trans (Tr2.keepTr K0 T2))
    ·rw[kFalls_n e] at hQ
     have D2:=D1.falls (cost:=1) (by decide)
     have P3:=P2.newFile (x:=⟨b,⟨none,0,0⟩,⟨[],0⟩⟩) D2 (T2.keep _ _ hno hx) (Buf.nil _ _ _) hno λk hk=>(inS_nil k hk).elim
     have T3:Tr2 A.own (PA.own { A with X:=A.X++[⟨b,⟨none,0,0⟩,⟨[],0⟩⟩] }) h1 h2:=⟨λk x n e=>T2.keep k x n (K0 k x e),λk e=>K0.dom k (T2.dom k e),λk d=>by
      rcases d with d|d|d|d|d
      ·exact .inl (.inl d)
      ·exact .inl (.inr (.inl d))
      ·exact .inl (.inr (.inr (.inl d)))
      ·exact .inl (.inr (.inr (.inr (.inl d))))
      ·rcases ownX_snoc d with d|rfl|d
       ·exact .inl (.inr (.inr (.inr (.inr d))))
       ·exact .inr hb
       ·exact(inS_nil k d).elim⟩
     have hlen:A.bk.length=(dfalls S1 1).2.fl.length:=by unfold PA.bk;rw[length_map,<- P2.fl,length_map]
     refine chg_p (A:={ A with X:=A.X++[⟨b,⟨none,0,0⟩,⟨[],0⟩⟩] }) (S:=kNew (dfalls S1 1).2) (c:=⟨0,s,⟨#[]⟩,(dfalls S1 1).2.fl.length⟩) P3 D2.new (.inl rfl) ?_ (by show(dfalls S1 1).2.chg.length<=_;rw[(falls_same S1 1).2.2.2.1];exact hl1) λh3 A3 eA P4 T4=>⟨_,rfl,hQ h3 A3 eA P4 (T1.trans (T3.trans T4))⟩
     rw[if_pos rfl]
     have hbk:PA.bk { A with X:=A.X++[⟨b,⟨none,0,0⟩,⟨[],0⟩⟩] }=A.bk++[b]:=by unfold PA.bk;simp
     rw[hbk,<- hlen,pid_last]
  ·have e:kCreate2 s S1=(35,S1):=by unfold kCreate2;rw[hg];rfl
   rw[e] at hQ
   exact hQ h1 A rfl P1 T1
 ·have hk:kCreate S s=dbegin S (nameOk s):=kThen_1 e0
  rw[hk] at hQ
  exact hQ h1 A rfl P1 T1
theorem delete_p{s:ByteArray}(P:PD h A S)(D:DOk S)(hs:s.size<=9223372036854775807)(hl:S.chg.length<=1000000000)(hQ:∀ h' A',A'.db=A.db->PD h' A' (kDelete S s).2->Tr2 A.own A'.own h h'->Q (.int .i64 (kDelete S s).1) h'):F27.T (some ⟨A.db,0,none⟩) s h Q:=by
 refine begin1 P D hs λh1 P1 T1=>⟨_,rfl,λe0=>?_,λe0=>?_⟩
 ·have hk:kDelete S s=kDelete2 s (dbegin S (nameOk s)).2:=kThen_0 e0
  have D1:=D.begin (nameOk s)
  have hup:=(begin_up e0).2.2
  have hl1:(dbegin S (nameOk s)).2.chg.length<=1000000000:=by rw[(begin_same S _).2.2.2.1];exact hl
  rw[hk] at hQ
  generalize (dbegin S (nameOk s)).2=S1 at P1 D1 hup hl1 hQ
  refine look_p P1 D1 (λhg=>⟨okPtr_none _ _,⟨λ_=>?_,λh=>absurd rfl h⟩⟩) (λi x hg hx=>⟨okPtr_none _ _,⟨λh=>(by cases h),λ_=>?_⟩⟩)
  ·have e:kDelete2 s S1=(34,S1):=by unfold kDelete2;rw[hg]
   rw[e] at hQ
   exact hQ h1 A rfl P1 T1
  ·have e:kDelete2 s S1=kFalls S1 1 λS2=>(0,kDo S2 ⟨2,s,⟨#[]⟩,0⟩):=by unfold kDelete2;rw[hg]
   rw[e] at hQ
   refine do_p P1 D1 hup (λh2 m e P2 T2=>⟨_,rfl,?_⟩) (λh2 e P2 T2=>.inr ⟨λh=>by simp at h,?_⟩)
   ·rw[kFalls_s e] at hQ
    exact hQ h2 A rfl P2 (T1.trans T2)
   ·rw[kFalls_n e] at hQ
    refine chg_p (c:=⟨2,s,⟨#[]⟩,0⟩) P2 (D1.falls (by decide)) (.inr (.inr rfl)) rfl (by rw[(falls_same S1 1).2.2.2.1];exact hl1) λh3 A3 eA P3 T3=>⟨_,rfl,hQ h3 A3 eA P3 (T1.trans (T2.trans T3))⟩
 ·have hk:kDelete S s=dbegin S (nameOk s):=kThen_1 e0
  rw[hk] at hQ
  exact hQ h1 A rfl P1 T1
end
end Go.Eng.YtekflkpnpibneaaGreatDoor
end
section
namespace Go.Eng.YtekflkpnpibneaaGreatDoor
section
variable{h h':Hp}{A:PA}{S S':Dk}{Q:Value->Hp->Prop}
theorem PD.file(P:PD h A S){i:Nat}{x:FX}(hx:A.X[i]?=some x):S.fl[i]?=some x.f:=by rw[<- P.fl,getElem?_map,hx];rfl
theorem PD.set(P:PD h A S){i:Nat}{x:FX}(hx:A.X[i]?=some x){d':Sl}{f':Fil}{h1 h2:Hp}(U:Upd h h1 x.d d')(B:Buf h1 d' 1 5 (bl f'.data))(O:One x.b h1 h2)
  (hb:h2 x.b=some (.cells ⟨[.slice d'.a d'.n d'.c,.int .i64 (f'.sure:Int)]⟩ 95 (0,0))):PD h2 { A with X:=A.X.set i ⟨x.b,d',f'⟩ } { S with fl:=S.fl.set i f' }/\Tr2 A.own (PA.own { A with X:=A.X.set i ⟨x.b,d',f'⟩ }) h h2:=by
 obtain⟨F,C,T⟩:=P.fx.set (by decide) hx U B O hb
 have hbk:PA.bk { A with X:=A.X.set i ⟨x.b,d',f'⟩ }=A.bk:=by
  unfold PA.bk
  show(A.X.set i _).map _=_
  rw[List.map_set]
  apply List.ext_getElem?
  intro n
  rw[List.getElem?_set]
  split
  ·next hn=>
   subst hn
   split
   ·rw[getElem?_map,hx];rfl
   ·next hl=>rw[List.getElem?_eq_none (by omega)]
  ·rfl
 obtain⟨u,w,f,p,hrig,hd⟩:=P.dsk
 obtain⟨es,c0,hm,M⟩:=P.now
 obtain⟨es2,c2,hm2,M2⟩:=P.sure
 refine⟨⟨⟨u,w,f,p,hrig,C.keep _ _ hd (by simp[kd])⟩,⟨es,c0,C.keep _ _ hm (by simp[kd]),by rw[hbk];exact M⟩,⟨es2,c2,C.keep _ _ hm2 (by simp[kd]),by rw[hbk];exact M2⟩,P.ne,by rw[hbk];exact C.buf (by decide) P.ch,by show(A.X.set i _).map _=S.fl.set i _;rw[List.map_set,P.fl],F⟩,⟨λk y hk e=>?_,T.dom,λk d=>?_⟩⟩
 ·by_cases hX:ownX A.X k
  ·exact absurd (.inr (.inr (.inr (.inr hX)))) hk
  ·exact T.keep k y hX e
 ·rcases d with d|d|d|d|d
  ·exact .inl (.inl d)
  ·exact .inl (.inr (.inl d))
  ·exact .inl (.inr (.inr (.inl d)))
  ·exact .inl (.inr (.inr (.inr (.inl d))))
  ·rcases T.grow k d with d|d
   ·exact .inl (.inr (.inr (.inr (.inr d))))
   ·exact .inr d
theorem addTo_of{i:Nat}{f:Fil}{b:List UInt8}(hf:S.fl[i]?=some f):addTo S i b={ S with fl:=S.fl.set i ⟨f.data++b,f.sure⟩ }:=by unfold addTo;rw[hf]
theorem sureAll_of{i:Nat}{f:Fil}(hf:S.fl[i]?=some f):sureAll S i={ S with fl:=S.fl.set i ⟨f.data,f.data.length⟩ }:=by unfold sureAll;rw[hf]
theorem dlen_of{i:Nat}{f:Fil}(hf:S.fl[i]?=some f):dlen S i=f.data.length:=by unfold dlen;rw[hf]
theorem lay_bytes{i m:Nat}{x:FX}{v:List UInt8}(P:PD h A S)(hx:A.X[i]?=some x)(hm:v.length=m)(hs:x.f.data.length+m<=4294967296)
  {e:Int} (hQ:∀ h' A',A'.db=A.db->PD h' A' (addTo S i v)->Tr2 A.own A'.own h h'->Q (.int .i64 e) h') :
  ∃ l1:Sl,h.at x.b 0=some (.slice l1.a l1.n l1.c)/\appendD l1 5 1 1 [.int .u8 0] m (bl v) h λl2 h3=>∃ b5 o3,(some ⟨x.b,0,none⟩:Option Addr)=some ⟨b5,o3,none⟩/\h3.canW b5 o3 1/\Q (.int .i64 e) (h3.wr b5 o3 [.slice l2.a l2.n l2.c]):=by
 have hb:=P.fx.fb x (mem_of_getElem? hx)
 have B:=P.fx.fd x (mem_of_getElem? hx)
 have hn:x.d.n=x.f.data.length:=by have:=B.len;rw[bl_len] at this;omega
 refine⟨x.d,at_of hb 0,append_buf B rfl (by rw[bl_len];omega) (by omega) λd' h3 B3 hn' U=>?_⟩
 have hb3:=(Ck.of_upd B U).keep _ _ hb (by simp[kd])
 rw[<- bl_app] at B3
 obtain⟨P',T'⟩:=P.set hx (f':=⟨x.f.data++v,x.f.sure⟩) U B3 (one_wr hb3 (o:=0) (vs:=[.slice d'.a d'.n d'.c])) (wr_cells hb3)
 rw[<- addTo_of (P.file hx)] at P'
 exact⟨x.b,0,rfl,canW_new hb3 (by simp),hQ _ { A with X:=A.X.set i ⟨x.b,d',⟨x.f.data++v,x.f.sure⟩⟩ } rfl P' T'⟩
theorem sync_p{s:ByteArray}(P:PD h A S)(D:DOk S)(hs:s.size<=9223372036854775807)(hQ:∀ h' A',A'.db=A.db->PD h' A' (kSync S s).2->Tr2 A.own A'.own h h'->Q (.int .i64 (kSync S s).1) h'):F23.T (some ⟨A.db,0,none⟩) s h Q:=by
 refine begin1 P D hs λh1 P1 T1=>⟨_,rfl,λe0=>?_,λe0=>?_⟩
 ·have hk:kSync S s=kSync2 s (dbegin S (nameOk s)).2:=kThen_0 e0
  have D1:=D.begin (nameOk s)
  have hup:=(begin_up e0).2.2
  rw[hk] at hQ
  generalize (dbegin S (nameOk s)).2=S1 at P1 D1 hup hQ
  refine look_p P1 D1 (λhg=>⟨okPtr_none _ _,⟨λ_=>?_,λh=>absurd rfl h⟩⟩) (λi x hg hx=>⟨okPtr_none _ _,⟨λh=>(by cases h),λ_=>?_⟩⟩)
  ·have e:kSync2 s S1=(34,S1):=by unfold kSync2;rw[hg]
   rw[e] at hQ
   exact hQ h1 A rfl P1 T1
  ·have e:kSync2 s S1=kFalls S1 1 λS2=>(0,sureAll S2 i):=by unfold kSync2;rw[hg]
   rw[e] at hQ
   refine falls_p P1 D1 hup (by decide) (λh2 e P2 T2=>⟨0,false,⟨λh=>(by cases h),λ_=>⟨rfl,?_⟩⟩⟩) (λh2 m e _ _ P2 T2=>⟨m,true,⟨λ_=>⟨rfl,?_⟩,λh=>(by cases h)⟩⟩)
   ·rw[kFalls_n e] at hQ
    have hb:=P2.fx.fb x (mem_of_getElem? hx)
    have B:=P2.fx.fd x (mem_of_getElem? hx)
    have hn:x.d.n=x.f.data.length:=by have:=B.len;rw[bl_len] at this;omega
    refine⟨x.b,0,rfl,x.d,at_of hb 0,x.b,0,rfl,canW_new hb (by simp),?_⟩
    obtain⟨P',T'⟩:=P2.set hx (f':=⟨x.f.data,x.f.data.length⟩) (Upd.refl _ _) B (one_wr hb (o:=0+1) (vs:=[.int .i64 (x.d.n:Int)])) (by rw[wr_cells hb,hn];rfl)
    rw[<- sureAll_of (P2.file hx)] at P'
    exact hQ _ { A with X:=A.X.set i ⟨x.b,x.d,⟨x.f.data,x.f.data.length⟩⟩ } rfl P' (T1.trans (T2.trans T'))
   ·rw[kFalls_s e] at hQ
    exact hQ h2 A rfl P2 (T1.trans T2)
 ·have hk:kSync S s=dbegin S (nameOk s):=kThen_1 e0
  rw[hk] at hQ
  exact hQ h1 A rfl P1 T1
theorem read_p{s:ByteArray}(P:PD h A S)(D:DOk S)(hs:s.size<=9223372036854775807)(hQ:∀ h' r,Keep h h'->Buf h' r 1 5 (bl (kRead S s).2)->NewN h r->Q (.tuple ⟨[.slice r.a r.n r.c,.int .i64 (kRead S s).1]⟩) h'):F28.T (some ⟨A.db,0,none⟩) s h Q:=by
 obtain⟨u,w,f,p,hrig,hd⟩:=P.dsk
 refine⟨A.db,0,rfl,S.down,at_of hd 8,λe0=>?_,λe0=>name_spec hs λh1 K1=>⟨nameOk s,rfl,λe1=>?_,λe1=>?_⟩⟩
 ·have e:kRead S s=(30,[]):=by unfold kRead;rw[if_pos e0]
  rw[e] at hQ
  exact hQ h ⟨none,0,0⟩ (Keep.refl h) (Buf.nil _ _ _) (NewN.nil _)
 ·have P1:=P.keep K1
  refine look_p P1 D (λhg=>⟨okPtr_none _ _,⟨λ_=>?_,λh=>absurd rfl h⟩⟩) (λi x hg hx=>⟨okPtr_none _ _,⟨λh=>(by cases h),λ_=>?_⟩⟩)
  ·have e:kRead S s=(34,[]):=by unfold kRead;rw[if_neg (by rw[e0];simp),if_neg (by rw[e1];simp),hg]
   rw[e] at hQ
   exact hQ h1 ⟨none,0,0⟩ K1 (Buf.nil _ _ _) (NewN.nil _)
  ·have e:kRead S s=(0,x.f.data):=by unfold kRead;rw[if_neg (by rw[e0];simp),if_neg (by rw[e1];simp),hg];show(0,_)=_;rw[P1.file hx]
   rw[e] at hQ
   refine look_p P1 D (λhg'=>by rw[hg] at hg';cases hg') (λj y hg' hy=>?_)
   rw[hg] at hg';cases hg'
   rw[hx] at hy;cases hy
   have hb:=P1.fx.fb x (mem_of_getElem? hx)
   have B:=P1.fx.fd x (mem_of_getElem? hx)
   have hl:=(D.fl x.f (mem_of_getElem? (P1.file hx))).1
   refine⟨x.b,0,rfl,x.d,at_of hb 0,clone_bytes B.row B.cap (λha=>?_) (by omega) λh2 r K2 B2 N2=>⟨r,rfl,hQ h2 r (K1.trans K2) B2 (N2.mono K1.dom)⟩⟩
   rcases B.own with⟨_,hc⟩|⟨b,c,f,ha',_⟩
   ·have:=B.cap;omega
   ·rw[ha] at ha';cases ha'
 ·have e:kRead S s=(33,[]):=by unfold kRead;rw[if_neg (by rw[e0];simp),if_pos e1]
  rw[e] at hQ
  exact hQ h1 ⟨none,0,0⟩ K1 (Buf.nil _ _ _) (NewN.nil _)
theorem sum_le{l:List Nat}{B:Nat}(h:∀ x∈l,x<=B):l.sum<=l.length*B:=by
 induction l with
 |nil=>simp
 |cons x l ih=>
  have h1:=h x mem_cons_self
  have h2:=ih λy hy=>h y (mem_cons_of_mem _ hy)
  rw[List.sum_cons,length_cons,Nat.succ_mul];omega
theorem dlen_le(D:DOk S)(i:Nat):dlen S i<=2147483648:=by
 unfold dlen
 split
 ·next f hf=>exact(D.fl f (mem_of_getElem? hf)).1
 ·omega
theorem dtot_le(D:DOk S):dtot S<=18014398509481984:=by
 have h1:=sum_le (l:=S.now.map λx=>dlen S x.2) (B:=2147483648) λn hn=>by
  obtain⟨x,_,rfl⟩:=List.mem_map.1 hn
  exact dlen_le D _
 rw[length_map] at h1
 have:=D.len
 exact Nat.le_trans h1 (Nat.mul_le_mul_right 2147483648 this)
def vlen(h:Hp)(v:Value):Nat:=match v with
 |.pointer (some a)=>match h.at a.block 0 with|some (.slice _ n _)=>n|_=>0
 |_=>0
theorem vlen_pid(P:PD h A S){i:Nat}(hi:i<A.X.length):vlen h (pid A.bk i)=dlen S i:=by
 have hx:A.X[i]?=some A.X[i]:=getElem?_eq_getElem hi
 have hb:=P.fx.fb _ (mem_of_getElem? hx)
 have B:=P.fx.fd _ (mem_of_getElem? hx)
 have e:h.at A.X[i].b 0=some (.slice A.X[i].d.a A.X[i].d.n A.X[i].d.c):=at_of hb 0
 rw[pid_get hx]
 unfold vlen
 simp only[e]
 have:=B.len
 rw[bl_len] at this
 rw[dlen_of (P.file hx)]
 omega
theorem full_p{i:Nat}{x:FX}{n:Int}(P:PD h A S)(D:DOk S)(hx:A.X[i]?=some x)(h0:0<=n)(h1:n<=4294967296)(hQ:∀ h',Keep h h'->Q (.bool (dfull S i n)) h'):F95.T (some ⟨A.db,0,none⟩) (some ⟨x.b,0,none⟩) n h Q:=by
 obtain⟨u,w,f,p,hrig,hd⟩:=P.dsk
 obtain⟨es,c0,hm,M⟩:=P.now
 have hb:=P.fx.fb x (mem_of_getElem? hx)
 have B:=P.fx.fd x (mem_of_getElem? hx)
 have hn:x.d.n=x.f.data.length:=by have:=B.len;rw[bl_len] at this;omega
 have hl:=(D.fl x.f (mem_of_getElem? (P.file hx))).1
 have hdl:=dlen_of (P.file hx)
 have ht:=dtot_le D
 have hf:dfull S i n=(decide (2147483648<(x.d.n:Int)+n) || (decide (S.room≠0) && decide (S.room<n+(dtot S:Int)))):=by unfold dfull;rw[hdl,hn]
 refine⟨x.b,0,rfl,x.d,at_of hb 0,?_⟩
 rw[wrap_i64 (by omega) (by omega)]
 refine⟨λhgt=>?_,λhle=>⟨A.db,0,rfl,S.room,at_of hd 0,λhr=>?_,λhr=>⟨A.db,0,rfl,some A.nb,at_of hd 1,es,c0,hm,λb3 hb3=>?_⟩⟩⟩
 ·have:=hQ h (Keep.refl h)
  rw[hf,decide_eq_true hgt] at this
  exact this
 ·have:=hQ h (Keep.refl h)
  rw[hf,decide_eq_false hle,decide_eq_false (by omega:¬ S.room≠0)] at this
  exact this
 have hw:∀ e∈es.toList,∃ s j,e.key=.string s/\e.val=pid A.bk j/\j<A.X.length:=λe he=>by
  obtain⟨s,j,k1,k2,k3⟩:=M.mem e he
  refine⟨s,j,k1,k3,?_⟩
  have:=D.now.i _ (dget_mem k2)
  rw[<- P.fl,length_map] at this
  exact this
 have hsum:(es.toList.map λe=>vlen h e.val).sum=dtot S:=by
  have hp:=((M.perm D.now.s).map λkv=>vlen h kv.2).sum_nat
  rw[List.map_map,List.map_map] at hp
  have e1:((λkv:Value×Value=>vlen h kv.2) ∘ λe:MapEntry=>(e.key,e.val))=λe=>vlen h e.val:=rfl
  rw[e1] at hp
  rw[hp]
  unfold dtot
  congr 1
  refine List.map_congr_left λy hy=>?_
  have:=D.now.i y hy
  rw[<- P.fl,length_map] at this
  exact vlen_pid P this
 refine⟨λn2 h1=>∃ X Y:List MapEntry,es.toList.Perm (X++Y)/\h1=h.new b3 (.mapIter (some A.nb) c0 (X.map (·.born)).toArray c0)/\n2=n+((X.map λe=>vlen h e.val).sum:Int),
  λ_ h1=>match h1 b3 with|some (.mapIter _ _ sn _)=>es.size-sn.size|_=>0,⟨[],es.toList,List.Perm.refl _,rfl,by simp⟩,?_⟩
 rintro n2 h1 ⟨X,Y,hp,rfl,rfl⟩
 have hst:=M.st
 have hborn:∀ e∈es.toList,e.born<c0:=hst.1
 have hnd:((X++Y).map (·.born)).Nodup:=(hp.map _).nodup_iff.1 hst.2.1
 have hle:(X.map λe=>vlen h e.val).sum+(Y.map λe=>vlen h e.val).sum=dtot S:=by
  rw[<- hsum,(hp.map λe=>vlen h e.val).sum_nat,map_append,List.sum_append]
 have hnb:A.nb≠b3:=ne_of hm hb3
 have hlen:=hp.length_eq
 rw[length_append,Array.length_toList] at hlen
 refine⟨b3,some A.nb,c0,(X.map (·.born)).toArray,c0,es,c0,rfl,new_at _ _ _,?_,?_,?_,?_⟩
 ·show(h.new b3 _) A.nb=_
  rw[new_ne _ _ hnb];exact hm
 ·unfold nextOk
  rw[Bool.not_eq_true',Bool.and_eq_false_iff,Bool.and_eq_false_iff]
  by_cases hz:es.size=0
  ·exact .inl (.inr (by rw[Array.eq_empty_of_size_eq_zero hz];rfl))
  ·refine .inr (Bool.eq_false_iff.2 λhall=>?_)
   have hm0:es[0]∈es.toList:=by rw[Array.mem_toList_iff];exact Array.getElem_mem _
   have h1:=Array.all_eq_true.1 hall 0 (by omega)
   have h2:=hborn _ hm0
   rw[decide_eq_true_eq] at h1
   omega
 ·intro e he hns
  have hin:e∈X++Y:=hp.subset he
  have hY:e∈Y:=by
   rcases mem_append.1 hin with hX|hY
   ·exfalso
    have:(X.map (·.born)).toArray.contains e.born=true:=by simp only[List.contains_toArray,List.contains_iff_mem];exact mem_map_of_mem hX
    rw[this] at hns;cases hns
   ·exact hY
  obtain⟨Y1,Y2,rfl⟩:=List.append_of_mem hY
  obtain⟨s,j,k1,k2,k3⟩:=hw e he
  have hx2:A.X[j]?=some A.X[j]:=getElem?_eq_getElem k3
  have hb2:=P.fx.fb _ (mem_of_getElem? hx2)
  have hfind:es.find? (λe'=>e'.born == e.born)=some e:=by
   have hin:=hst.2.1
   cases hfe:es.find? (λe'=>e'.born == e.born) with
   |none=>
    have:=Array.find?_eq_none.1 hfe e (Array.mem_toList_iff.1 he)
    simp at this
   |some e'=>
    have h1:=Array.find?_some hfe
    have h2:=Array.mem_of_find?_eq_some hfe
    rw[beq_iff_eq] at h1
    have h3:=List.pairwise_map.1 hin
    obtain⟨i1,hi1⟩:=List.mem_iff_getElem?.1 he
    obtain⟨i2,hi2⟩:=List.mem_iff_getElem?.1 (Array.mem_toList_iff.2 h2)
    have l1:=(List.getElem?_eq_some_iff.1 hi1)
    have l2:=(List.getElem?_eq_some_iff.1 hi2)
    obtain⟨l1,l1'⟩:=l1
    obtain⟨l2,l2'⟩:=l2
    rcases Nat.lt_trichotomy i1 i2 with hlt|heq|hgt
    ·exact absurd (by rw[l1',l2',h1]) (List.pairwise_iff_getElem.1 h3 i1 i2 l1 l2 hlt)
    ·subst heq;rw[hi1] at hi2;rw[Option.some.inj hi2]
    ·exact absurd (by rw[l1',l2',h1]) (List.pairwise_iff_getElem.1 h3 i2 i1 l2 l1 hgt)
  have hpush:(X.map (·.born)).toArray.push e.born=((X++[e]).map (·.born)).toArray:=by simp
  have hnew:∀ o o',(h.new b3 o).new b3 o'=h.new b3 o':=λo o'=>new_new h b3 o o'
  have hv:vlen h e.val=A.X[j].d.n:=by
   rw[k2,pid_get hx2]
   have e1:h.at A.X[j].b 0=some (.slice A.X[j].d.a A.X[j].d.n A.X[j].d.c):=at_of hb2 0
   unfold vlen
   simp only[e1]
  have hbj:A.X[j].b≠b3:=ne_of hb2 hb3
  rw[hnew,hpush]
  rw[map_append,List.sum_append,map_cons,List.sum_cons] at hle
  refine⟨b3,A.nb,c0,((X++[e]).map (·.born)).toArray,es,c0,e.born,e,rfl,new_at _ _ _,by simp,by rw[new_ne _ _ hnb];exact hm,hfind,s,some ⟨A.X[j].b,0,none⟩,by rw[k1,k2,pid_get hx2],A.X[j].b,0,rfl,A.X[j].d,by unfold Hp.at;rw[new_ne _ _ hbj];exact at_of hb2 0,?_⟩
  rw[wrap_i64 (by omega) (by omega)]
  refine⟨⟨X++[e],Y1++Y2,hp.trans ?_,rfl,by rw[map_append,List.sum_append];simp[hv];omega⟩,?_⟩
  ·rw[List.append_assoc]
   exact List.Perm.append_left X List.perm_middle
  ·dsimp only
   rw[new_at,new_at]
   simp only[length_append,length_cons] at hlen
   simp only[List.size_toArray,length_map,length_append,length_singleton]
   omega
 ·intro hall
  have hY:Y=[]:=by
   rcases Y with _|⟨y,Y⟩
   ·rfl
   ·exfalso
    have hy:y∈es.toList:=hp.symm.subset (by simp)
    have h1:=hall y hy (hborn y hy)
    simp only[List.contains_toArray,List.contains_iff_mem] at h1
    rw[map_append,map_cons] at hnd
    exact(List.nodup_append.1 hnd).2.2 _ h1 _ mem_cons_self rfl
  subst hY
  rw[List.map_nil,List.sum_nil,Nat.add_zero] at hle
  have K:=Keep.new hb3 (.mapIter (some A.nb) c0 (X.map (·.born)).toArray c0)
  refine⟨A.db,0,rfl,S.room,at_of (K _ _ hd) 0,?_⟩
  rw[hle]
  have:=hQ _ K
  rw[hf,decide_eq_false ‹¬ (2147483648:Int)<(x.d.n:Int)+n›,decide_eq_true hr,Bool.false_or,Bool.true_and] at this
  exact⟨λh=>by rw[decide_eq_true h] at this;exact this,λh=>by rw[decide_eq_false h] at this;exact this⟩
theorem take_row{l:Sl}{v:List UInt8}{n:Int}(B:Buf h l 1 5 (bl v))(h0:0<=n)(h1:n<=(v.length:Int)):Sl.okCut l 0 n (l.c:Int)/\∃ vs,h.row ((Sl.cut l 1 0 n (l.c:Int)).a) (((Sl.cut l 1 0 n (l.c:Int)).n)*1) vs/\(∀ v∈vs,Value.oneCell' v=true)/\vs=bl (v.take n.toNat)/\(Sl.cut l 1 0 n (l.c:Int)).n=n.toNat:=by
 have hl:=B.len
 rw[bl_len] at hl
 have hc:=B.cap
 obtain⟨k,rfl⟩:=Int.eq_ofNat_of_zero_le h0
 refine⟨⟨by omega,by omega,by omega,by omega⟩,bl (v.take k),?_,bl_one _,by simp,by simp[Sl.cut]⟩
 have hn:(Sl.cut l 1 0 (k:Int) (l.c:Int)).n=k:=by simp[Sl.cut]
 rw[hn]
 refine⟨by rw[bl_len,length_take];omega,?_⟩
 by_cases hk:k=0
 ·exact .inl (by omega)
 ·obtain⟨b,o,ha,hat⟩:=row_get B.row (i:=0) (by omega)
  refine .inr ⟨b,o,?_,λj hj=>?_⟩
  ·have hcc:(l.c:Int).toNat≠(0:Int).toNat:=by omega
   show(if (l.c:Int).toNat=(0:Int).toNat then l.a else l.a.map (·.add ((0:Int).toNat*1)))=_
   rw[if_neg hcc,ha];rfl
  ·rw[hat j (by omega)]
   unfold bl
   rw[List.map_take,List.getElem?_take_of_lt (by omega)]
theorem append_p{s:ByteArray}{l:Sl}{v:List UInt8}(P:PD h A S)(D:DOk S)(hs:s.size<=9223372036854775807)(B:Buf h l 1 5 (bl v))(hd:∀ k,inS l k->¬ A.own k)(hv:v.length<=1073741824)
  (hQ:∀ h' A',A'.db=A.db->PD h' A' (kAppend S s v).2->Tr2 A.own A'.own h h'->Q (.int .i64 (kAppend S s v).1) h'):F22.T (some ⟨A.db,0,none⟩) s l h Q:=by
 obtain⟨u,w,f,p,hrig,hdk⟩:=P.dsk
 have hln:l.n=v.length:=by have:=B.len;rw[bl_len] at this;omega
 refine⟨A.db,0,rfl,p,at_of hdk ((0+4)+3),begin1 P D hs λh1 P1 T1=>⟨_,rfl,?_⟩⟩
 have D1:=D.begin (nameOk s)
 have B1:Buf h1 l 1 5 (bl v):=buf_mono B λk x hk e=>T1.keep k x (hd k hk) e
 have hd1:∀ k,inS l k->¬ A.own k:=hd
 refine look_p P1 D1 (λhg=>⟨λe31=>⟨okPtr_none _ _,⟨λ_=>?_,λh=>absurd rfl h⟩⟩,λn31=>⟨λe0=>⟨okPtr_none _ _,⟨λ_=>?_,λh=>absurd rfl h⟩⟩,λn0=>?_⟩⟩)
  (λi x hg hx=>⟨λe31=>⟨okPtr_none _ _,⟨λh=>(by cases h),λ_=>?_⟩⟩,λn31=>⟨λe0=>⟨okPtr_none _ _,⟨λh=>(by cases h),λ_=>?_⟩⟩,λn0=>?_⟩⟩)
 ·have hk:kAppend S s v=kPart s v (iMin S.part (v.length:Int)) (dbegin S (nameOk s)).2:=by unfold kAppend;rw[if_pos e31]
  have e:kAppend S s v=(31,(dbegin S (nameOk s)).2):=by rw[hk];unfold kPart;rw[hg]
  rw[e] at hQ
  rw[e31]
  exact hQ h1 A rfl P1 T1
 ·have hk:kAppend S s v=kAppend2 s v (dbegin S (nameOk s)).2:=by unfold kAppend;rw[if_neg n31,kThen_0 e0]
  have e:kAppend S s v=(34,(dbegin S (nameOk s)).2):=by rw[hk];unfold kAppend2;rw[hg]
  rw[e] at hQ
  exact hQ h1 A rfl P1 T1
 ·have hk:kAppend S s v=dbegin S (nameOk s):=by unfold kAppend;rw[if_neg n31,kThen_1 n0]
  rw[hk] at hQ
  exact hQ h1 A rfl P1 T1
 ·have hk:kAppend S s v=kPart s v (iMin S.part (v.length:Int)) (dbegin S (nameOk s)).2:=by unfold kAppend;rw[if_pos e31]
  have hpp:p=S.part:=(hrig (begin_31 e31).1).2.2.2
  have hpos:=D.pos
  have hmin:0<=iMin S.part (v.length:Int):=by unfold iMin;split<;>omega
  have hmin2:=(iMin_le S.part (v.length:Int)).2
  rw[hk] at hQ
  rw[e31,hpp,hln]
  generalize (dbegin S (nameOk s)).2=S1 at P1 D1 hQ hg
  generalize iMin S.part (v.length:Int)=n at hQ hmin hmin2
  refine full_p P1 D1 hx hmin (by omega) λh2 K2=>⟨_,rfl,λhf=>?_,λhf=>?_⟩
  ·have e:kPart s v n S1=(31,S1):=by unfold kPart;rw[hg];show(if _ then _ else _)=_;rw[if_pos hf]
   rw[e] at hQ
   exact hQ h2 A rfl (P1.keep K2) (T1.trKeep K2)
  ·have e:kPart s v n S1=(31,addTo S1 i (v.take n.toNat)):=by unfold kPart;rw[hg];show(if _ then _ else _)=_;rw[if_neg (by rw[hf];simp)]
   rw[e] at hQ
   obtain⟨hc,vs,hr,ho,rfl,hn⟩:=take_row (B1.keep K2) hmin hmin2
   have hlt:(v.take n.toNat).length=n.toNat:=by rw[length_take];omega
   have hfl:=(D1.fl _ (mem_of_getElem? (P1.file hx))).1
   obtain⟨l1,e2,e3⟩:=lay_bytes (Q:=Q) (e:=31) (P1.keep K2) hx hlt (by omega) λh3 A3 eA P3 T3=>hQ h3 A3 eA P3 ((T1.trKeep K2).trans T3)
   refine⟨x.b,0,rfl,l1,e2,hc,_,hr,ho,?_⟩
   rw[hn]
   exact e3
 ·have hk:kAppend S s v=kAppend2 s v (dbegin S (nameOk s)).2:=by unfold kAppend;rw[if_neg n31,kThen_0 e0]
  have e:kAppend S s v=kAppend3 i v (dbegin S (nameOk s)).2:=by rw[hk];unfold kAppend2;rw[hg]
  have hup:=(begin_up e0).2.2
  rw[e] at hQ
  rw[hln]
  generalize (dbegin S (nameOk s)).2=S1 at P1 D1 hQ hg hup
  refine full_p P1 D1 hx (by omega) (by omega) λh2 K2=>⟨_,rfl,λhf=>?_,λhf=>?_⟩
  ·have e:kAppend3 i v S1=(32,S1):=by unfold kAppend3;rw[if_pos hf]
   rw[e] at hQ
   exact hQ h2 A rfl (P1.keep K2) (T1.trKeep K2)
  ·rw[wrap_i64 (by omega) (by omega)]
   have e:kAppend3 i v S1=match (dfalls S1 (1+(v.length:Int))).1 with
    |some n=>(30,addTo (dfalls S1 (1+(v.length:Int))).2 i (v.take n.toNat))
    |none=>(0,addTo (dfalls S1 (1+(v.length:Int))).2 i v):=by unfold kAppend3;rw[if_neg (by rw[hf];simp)];rfl
   have hfl:=(D1.fl _ (mem_of_getElem? (P1.file hx))).1
   refine falls_p (P1.keep K2) D1 hup (by omega) (λh3 e' P3 T3=>⟨0,false,⟨λh=>(by cases h),λ_=>⟨rfl,?_⟩⟩⟩) (λh3 m e' hm0 hm1 P3 T3=>⟨m,true,⟨λ_=>⟨rfl,?_⟩,λh=>(by cases h)⟩⟩)
   ·rw[e,e'] at hQ
    have B3:Buf h3 l 1 5 (bl v):=buf_mono (B1.keep K2) λk x hk e=>T3.keep k x (hd k hk) e
    obtain⟨l1,e2,e3⟩:=lay_bytes (Q:=Q) (e:=0) P3 hx (m:=v.length) rfl (by omega) λh4 A4 eA P4 T4=>hQ h4 A4 eA P4 ((T1.trKeep K2).trans (T3.trans T4))
    exact⟨x.b,0,rfl,l1,e2,bl v,hln ▸ B3.row,bl_one _,e3⟩
   ·rw[e,e'] at hQ
    have B3:Buf h3 l 1 5 (bl v):=buf_mono (B1.keep K2) λk x hk e=>T3.keep k x (hd k hk) e
    have hmle:m<=(v.length:Int):=by omega
    obtain⟨hc,vs,hr,ho,rfl,hn⟩:=take_row B3 hm0 hmle
    have hlt:(v.take m.toNat).length=m.toNat:=by rw[length_take];omega
    obtain⟨l1,e2,e3⟩:=lay_bytes (Q:=Q) (e:=30) P3 hx hlt (by omega) λh4 A4 eA P4 T4=>hQ h4 A4 eA P4 ((T1.trKeep K2).trans (T3.trans T4))
    refine⟨x.b,0,rfl,l1,e2,hc,_,hr,ho,?_⟩
    rw[hn]
    exact e3
 ·have hk:kAppend S s v=dbegin S (nameOk s):=by unfold kAppend;rw[if_neg n31,kThen_1 n0]
  rw[hk] at hQ
  exact hQ h1 A rfl P1 T1
end
end Go.Eng.YtekflkpnpibneaaGreatDoor
end
section
namespace Go.Eng.YtekflkpnpibneaaGreatDoor
theorem buf_set{h:Hp}{s:Sl}{sz t k:Nat}{vs:List Value}(B:Buf h s sz t vs)(hk:k<vs.length):∃ b,s.a=some ⟨b,0,none⟩/\h.at b k=vs[k]?/\h.canW b k 1/\∀ v,Upd h (h.wr b k [v]) s s/\Buf (h.wr b k [v]) s sz t (vs.set k v):=by
 rcases B.own with⟨ha,hc⟩|⟨b,c,f,ha,hb,hsz,hf,ht⟩
 ·have h1:=B.len
  have h2:=B.cap
  have:s.n=0:=by omega
  rw[this,Nat.zero_mul] at h1
  omega
 ·have hlen:vs.length<=c.size:=by
   rw[B.len]
   exact Nat.le_trans (Nat.mul_le_mul_right _ B.cap) hsz
  have hget:c[k]?=vs[k]?:=by
   rw[<- ht,List.getElem?_take,if_pos hk,Array.getElem?_toList]
  refine⟨b,ha,by unfold Hp.at;rw[hb];exact hget,⟨c,t,f,hb,by omega,λj h1 h2=>hf j (by omega)⟩,λv=>⟨⟨λj x hj e=>?_,.inl rfl,λj e=>?_⟩,⟨by rw[List.length_set];exact B.len,B.cap,.inr ⟨b,(setL c.toList k [v]).toArray,f,ha,wr_cells hb,?_,?_,?_⟩⟩⟩⟩
  ·have hjb:j≠b:=λq=>hj 0 (by rw[q];exact ha)
   unfold Hp.wr
   rw[if_neg hjb]
   exact e
  ·unfold Hp.wr at e
   by_cases hjb:j=b
   ·rw[if_pos hjb,hb] at e;cases e
   ·rw[if_neg hjb] at e;exact e
  ·simp only[List.size_toArray,setL_length,Array.length_toList];exact hsz
  ·intro j hj
   simp only[List.size_toArray,setL_length,Array.length_toList] at hj
   exact hf j hj
  ·show(c.toList.set k v).take _=_
   rw[List.length_set,List.take_set,ht]
theorem cut_a(s:Sl)(k m:Int){sz:Nat}:(Sl.cut s sz 0 k m).a=s.a:=by
 unfold Sl.cut
 simp only[Int.toNat_zero,Nat.zero_mul]
 split
 ·rfl
 ·cases s.a with
  |none=>rfl
  |some a=>simp[Addr.add]
theorem buf_cut2{h:Hp}{s:Sl}{t:Nat}{vs:List Value}(B:Buf h s 1 t vs){k:Nat}(hk:k<=s.n):Buf h (Sl.cut s 1 0 (k:Int) (k:Int)) 1 t (vs.take k):=by
 have hn:(Sl.cut s 1 0 (k:Int) (k:Int)).n=k:=by simp[Sl.cut]
 have hc:(Sl.cut s 1 0 (k:Int) (k:Int)).c=k:=by simp[Sl.cut]
 have hl:=B.len
 have hcap:=B.cap
 refine⟨by rw[hn,length_take];omega,by rw[hn,hc];exact Nat.le_refl _,?_⟩
 rw[cut_a,hc]
 rcases B.own with h0|⟨b,c,f,ha,hb,hsz,hf,ht⟩
 ·exact .inl ⟨h0.1,by omega⟩
 ·refine .inr ⟨b,c,f,ha,hb,by omega,hf,?_⟩
  rw[length_take,<- ht,List.take_take]
  congr 1
  rw[ht]
theorem buf_nil{h:Hp}{s:Sl}{sz t:Nat}{vs:List Value}(B:Buf h s sz t vs)(ha:s.a=none):s.n=0:=by
 rcases B.own with⟨_,hc⟩|⟨b,c,f,ha',_⟩
 ·have:=B.cap;omega
 ·rw[ha] at ha';cases ha'
def fcell(x:Sl×FileR):List Value:=[.string x.2.nm,.slice x.1.a x.1.n x.1.c,.int .i64 (x.2.sure:Int)]
def fV(L:List (Sl×FileR)):List Value:=L.flatMap fcell
theorem fV_len(L:List (Sl×FileR)):(fV L).length=L.length*3:=by
 unfold fV
 induction L with
 |nil=>rfl
 |cons c l ih=>rw[List.flatMap_cons,length_append,ih,length_cons];show 3+_=_;omega
theorem fV_app(L M:List (Sl×FileR)):fV (L++M)=fV L++fV M:=by unfold fV;simp
theorem fV_cons(x:Sl×FileR)(M:List (Sl×FileR)):fV (x::M)=Value.string x.2.nm::.slice x.1.a x.1.n x.1.c::.int .i64 (x.2.sure:Int)::fV M:=rfl
structure FA(g h:Hp)(r:Sl)(L:List (Sl×FileR)):Prop where
 b:Buf h r 3 55 (fV L)
 n:NewN g r
 d:∀ x∈L,Buf h x.1 1 5 (bl x.2.data)/\NewN g x.1
 dj:L.Pairwise λx y=>Off x.1 y.1
theorem FA.mono{g g' h:Hp}{r:Sl}{L:List (Sl×FileR)}(F:FA g h r L)(d:∀ k,g k=none->g' k=none):FA g' h r L:=⟨F.b,F.n.mono d,λx hx=>⟨(F.d x hx).1,(F.d x hx).2.mono d⟩,F.dj⟩
theorem FA.keep{g h h':Hp}{r:Sl}{L:List (Sl×FileR)}(F:FA g h r L)(K:Keep h h'):FA g h' r L:=⟨F.b.keep K,F.n,λx hx=>⟨(F.d x hx).1.keep K,(F.d x hx).2⟩,F.dj⟩
theorem FA.len{g h:Hp}{r:Sl}{L:List (Sl×FileR)}(F:FA g h r L):r.n=L.length:=by have:=F.b.len;rw[fV_len] at this;omega
theorem set3a(a b c v:Value)(B:List Value):∀ A:List Value,(A++a::b::c::B).set (A.length+1) v=A++a::v::c::B
 |[]=>rfl
 |x::A=>by rw[length_cons,List.cons_append,List.set_cons_succ,set3a a b c v B A];rfl
theorem set3b(a b c v:Value)(B:List Value):∀ A:List Value,(A++a::b::c::B).set (A.length+2) v=A++a::b::v::B
 |[]=>rfl
 |x::A=>by rw[length_cons,List.cons_append,show A.length+1+2=A.length+2+1 from rfl,List.set_cons_succ,set3b a b c v B A];rfl
theorem get3(a b c:Value)(B:List Value):∀ A:List Value,(A++a::b::c::B)[A.length]?=some a/\(A++a::b::c::B)[A.length+1]?=some b/\(A++a::b::c::B)[A.length+2]?=some c
 |[]=>⟨rfl,rfl,rfl⟩
 |x::A=>get3 a b c B A
theorem rec_at{h:Hp}{r:Sl}{L1 L2:List (Sl×FileR)}{x:Sl×FileR}(B:Buf h r 3 55 (fV (L1++x::L2))):∃ b,r.a=some ⟨b,0,none⟩/\((0:Int)<=(L1.length:Int)/\(L1.length:Int)<(r.n:Int)) /\
  h.at b (0+(L1.length:Int).toNat*3)=some (.string x.2.nm)/\h.at b ((0+(L1.length:Int).toNat*3)+1)=some (.slice x.1.a x.1.n x.1.c)/\h.at b ((0+(L1.length:Int).toNat*3)+2)=some (.int .i64 (x.2.sure:Int)) /\
  h.canW b ((0+(L1.length:Int).toNat*3)+1) 1/\∀ s:Sl,(h.wr b ((0+(L1.length:Int).toNat*3)+1) [.slice s.a s.n s.c]).canW b ((0+(L1.length:Int).toNat*3)+2) 1 /\
   ∀ (n:Nat) (dt:List UInt8),Upd h ((h.wr b ((0+(L1.length:Int).toNat*3)+1) [.slice s.a s.n s.c]).wr b ((0+(L1.length:Int).toNat*3)+2) [.int .i64 (n:Int)]) r r/\Buf ((h.wr b ((0+(L1.length:Int).toNat*3)+1) [.slice s.a s.n s.c]).wr b ((0+(L1.length:Int).toNat*3)+2) [.int .i64 (n:Int)]) r 3 55 (fV (L1++(s,⟨x.2.nm,dt,n⟩)::L2)):=by
 have hl:=B.len
 have e0:0+(L1.length:Int).toNat*3=(fV L1).length:=by rw[fV_len];omega
 have hlt:(L1.length:Int)<(r.n:Int):=by rw[fV_len,length_append,length_cons] at hl;omega
 rw[e0]
 rw[fV_app,fV_cons] at B hl
 rw[length_append] at hl
 simp only[length_cons] at hl
 obtain⟨g0,g1,g2⟩:=get3 (.string x.2.nm) (.slice x.1.a x.1.n x.1.c) (.int .i64 (x.2.sure:Int)) (fV L2) (fV L1)
 have hlen:(fV L1++Value.string x.2.nm::.slice x.1.a x.1.n x.1.c::.int .i64 (x.2.sure:Int)::fV L2).length=(fV L1).length+(3+(fV L2).length):=by simp only[length_append,length_cons];omega
 obtain⟨b,ha,hb0,_,_⟩:=buf_set B (k:=(fV L1).length) (by omega)
 obtain⟨b1,ha1,hb1,hw1,hu1⟩:=buf_set B (k:=(fV L1).length+1) (by omega)
 obtain⟨b2,ha2,hb2,_,_⟩:=buf_set B (k:=(fV L1).length+2) (by omega)
 rw[ha] at ha1 ha2
 cases ha1;cases ha2
 refine⟨b,ha,⟨by omega,hlt⟩,hb0.trans g0,hb1.trans g1,hb2.trans g2,hw1,λs=>?_⟩
 obtain⟨U1,B1⟩:=hu1 (.slice s.a s.n s.c)
 rw[set3a] at B1
 obtain⟨b3,ha3,_,hw3,hu3⟩:=buf_set B1 (k:=(fV L1).length+2) (by simp only[length_append,length_cons];omega)
 rw[ha] at ha3
 cases ha3
 refine⟨hw3,λn dt=>?_⟩
 obtain⟨U3,B3⟩:=hu3 (.int .i64 (n:Int))
 rw[set3b] at B3
 exact⟨U1.trans U3,by rw[fV_app,fV_cons];exact B3⟩
theorem sorted_eq:∀ {us vs:List ByteArray},us.Perm vs->us.Pairwise Le->vs.Pairwise Le->us=vs
 |[],vs,p,_,_=>p.nil_eq
 |u::us,[],p,_,_=>absurd p.length_eq (by simp)
 |u::us,v::vs,p,hu,hv=>by
  have hu':=List.pairwise_cons.1 hu
  have hv':=List.pairwise_cons.1 hv
  have e:u=v:=by
   have h1:Le v u:=by
    rcases mem_cons.1 (p.subset mem_cons_self) with rfl|h
    ·exact Le.refl _
    ·exact hv'.1 _ h
   have h2:Le u v:=by
    rcases mem_cons.1 (p.symm.subset mem_cons_self) with rfl|h
    ·exact Le.refl _
    ·exact hu'.1 _ h
   rcases bl_tri u v with k|k|k
   ·exact absurd k h1
   ·exact absurd k h2
   ·exact k
  subst e
  rw[sorted_eq p.cons_inv hu'.2 hv'.2]
theorem clone_p{h:Hp}{K:Value->Hp->Prop}{mb c:Nat}{es:Array MapEntry}(hm:h mb=some (.map es c))(hK:∀ b1,h b1=none->K (.map (some b1)) (h.new b1 (.map es c))):F32.T (some mb) h K:=
 ⟨λh=>(by cases h),λb hb=>by cases hb;exact⟨es,c,hm,hK⟩⟩
def toldX(X:List FX)(x:ByteArray×Nat):FileR:=match X[x.2]? with|some y=>⟨x.1,y.f.data,y.f.sure⟩|none=>⟨x.1,[],0⟩
section
variable{h h':Hp}{A:PA}{S S':Dk}{Q:Value->Hp->Prop}
theorem PD.toldX(P:PD h A S)(x:ByteArray×Nat):toldX A.X x=fileR S x:=by
 unfold Go.Eng.YtekflkpnpibneaaGreatDoor.toldX fileR
 rw[<- P.fl,getElem?_map]
 cases A.X[x.2]?<;>rfl
theorem told_p{X:List FX}{mb c0:Nat}{es:Array MapEntry}{d:Dir}(hm:h mb=some (.map es c0))(M:SM es c0 d (pid (X.map (·.b))))(F:Fls 95 h X)(D:DirOk X.length d)(hl:d.length<=8388608)(hfl:∀ x∈X,x.f.data.length<=2147483648)
  (hQ:∀ h' r L,Keep h h'->FA h h' r L->L.map (·.2)=d.map (toldX X)->Q (.slice r.a r.n r.c) h'):F97.T (some mb) h Q:=by
 intro b hb
 have K0:=Keep.new hb (.cells ⟨[.map (some mb)]⟩ 86 (0,0))
 have hx:=new_at h b (.cells ⟨[.map (some mb)]⟩ 86 (0,0))
 have hm1:=K0 _ _ hm
 obtain⟨ks,hk,hp⟩:=M.keys D.s
 refine⟨_,rfl,rfl,b,mb,es,c0,ks,rfl,hx,hm1,⟨M.st,hk,λk hk'=>?_⟩,?_,λh2 s us K2 B2 N2 hpu hsu=>⟨s,rfl,?_⟩⟩
 ·obtain⟨x,hx,rfl⟩:=List.mem_map.1 (hp.subset hk')
  exact Nat.le_trans (D.k x hx) (by decide)
 ·have:=hp.length_eq
  rw[length_map] at this
  omega
 have hus:us=d.map (·.1):=sorted_eq (hpu.trans hp) hsu (List.pairwise_map.2 (D.s.imp λh=>Le.of h))
 subst hus
 have hsn:s.n=d.length:=by have:=B2.len;simp only[length_map] at this;omega
 refine⟨λl1 n h3=>∃ d1 d2 L,d=d1++d2/\n=(d1.length:Int)/\Keep h2 h3/\FA h2 h3 l1 L/\L.map (·.2)=d1.map (toldX X),λ_ n _=>d.length-n.toNat,⟨[],d,[],rfl,rfl,Keep.refl _,⟨Buf.nil _ _ _,NewN.nil _,λx hx=>(by cases hx),List.Pairwise.nil⟩,rfl⟩,?_⟩
 rintro l1 n h3 ⟨d1,d2,L,rfl,rfl,K3,F3,e3⟩
 rw[length_append] at hsn hl
 refine⟨λhlt=>?_,λhge=>?_⟩
 ·rcases d2 with _|⟨x,d2⟩
  ·exact absurd hlt (by simp at hsn;omega)
  rw[length_cons] at hsn hl
  have hmx:x∈d1++x::d2:=by simp
  obtain⟨b',o,ha,hlt',hat⟩:=strs_rd (l:=s) (A:=d1.map (·.1)) (B:=d2.map (·.1)) (s:=x.1) (by have:=(B2.keep K3).row;simpa using this)
  rw[length_map] at hlt' hat
  have hxl:=D.i x hmx
  have hX:X[x.2]?=some X[x.2]:=getElem?_eq_getElem hxl
  have hv:mget es (.string x.1) (.pointer none)=.pointer (some ⟨X[x.2].b,0,none⟩):=by
   rw[M.get,mem_dget D.s (i:=x.2) hmx]
   show pid _ _=_
   unfold pid
   rw[getElem?_map,hX];rfl
  have hm3:=K3 _ _ (K2 _ _ hm1)
  have FX3:Fls 95 h3 X:=F.mono λk y _ e=>K3 _ _ (K2 _ _ (K0 _ _ e))
  have hmX:=mem_of_getElem? hX
  have hb3:=FX3.fb _ hmX
  have B3:=FX3.fd _ hmX
  have ht:toldX X x=⟨x.1,X[x.2].f.data,X[x.2].f.sure⟩:=by unfold toldX;rw[hX]
  refine⟨b',o,ha,⟨by omega,by omega⟩,x.1,hat,es,c0,hm3,M.fit _,_,hv,X[x.2].b,0,rfl,X[x.2].d,at_of hb3 0,es,c0,hm3,M.fit _,_,hv,X[x.2].b,0,rfl,_,at_of hb3 1,?_⟩
  refine clone_bytes B3.row B3.cap (buf_nil B3) (Nat.le_trans (hfl _ hmX) (by decide)) λh4 l3 K4 B4 N4=>⟨l3,rfl,⟨es,c0,K4 _ _ hm3,M.fit _,hv⟩,at_of (K4 _ _ hb3) 1,?_⟩
  have hln:=F3.len
  have hLd:L.length=d1.length:=by have:=congrArg List.length e3;simpa using this
  refine append_buf (F3.b.keep K4) rfl rfl (by omega) λl4 h5 B5 hn5 U5=>?_
  have C5:=Ck.of_upd (F3.b.keep K4) U5
  obtain⟨K5,N5⟩:=NewN.upd (K3.trans K4) F3.n U5
  rw[inc_i (n:=100000000) (by omega) (by omega)]
  refine⟨⟨d1++[x],d2,L++[(l3,toldX X x)],by simp,by simp,K5,⟨?_,N5,λy hy=>?_,?_⟩,by simp[e3]⟩,by simp only[length_append,length_cons];omega⟩
  ·rw[fV_app,fV_cons,ht];exact B5
  ·rcases mem_append.1 hy with hy|hy
   ·exact⟨C5.buf (by decide) ((F3.d y hy).1.keep K4),(F3.d y hy).2⟩
   ·rw[mem_singleton.1 hy,ht]
    exact⟨C5.buf (by decide) B4,N4.mono K3.dom⟩
  ·refine List.pairwise_append.2 ⟨F3.dj,List.pairwise_singleton _ _,λy hy z hz=>?_⟩
   rw[mem_singleton.1 hz]
   exact(N4.off (F3.d y hy).1).1
 ·have hd2:d2=[]:=eq_nil_of_length_eq_zero (by omega)
  subst hd2
  rw[append_nil] at hQ
  exact hQ h3 l1 L (K0.trans (K2.trans K3)) (F3.mono λk e=>K0.dom k (K2.dom k e)) e3
theorem PD.xlen(P:PD h A S):A.X.length=S.fl.length:=by rw[<- P.fl,length_map]
theorem files_p(P:PD h A S)(D:DOk S)(hQ:∀ h' r L,Keep h h'->FA h h' r L->L.map (·.2)=dtold S S.now->Q (.slice r.a r.n r.c) h'):F24.T (some ⟨A.db,0,none⟩) h Q:=by
 obtain⟨u,w,f,p,hrig,hd⟩:=P.dsk
 obtain⟨es,c0,hm,M⟩:=P.now
 refine⟨A.db,0,rfl,some A.nb,at_of hd 1,told_p hm M P.fx (by rw[P.xlen];exact D.now) D.len (λx hx=>(D.fl x.f (by rw[<- P.fl];exact mem_map_of_mem hx)).1) λh1 r L K F e=>⟨r,rfl,hQ h1 r L K F ?_⟩⟩
 rw[e]
 exact List.map_congr_left λx _=>P.toldX x
theorem syncdir_p(P:PD h A S)(D:DOk S)(hQ:∀ h' A',A'.db=A.db->PD h' A' (kSyncDir S).2->Tr2 A.own A'.own h h'->Q (.int .i64 (kSyncDir S).1) h'):F63.T (some ⟨A.db,0,none⟩) h Q:=by
 unfold F63.T F63.G
 refine begin_p (l:=⟨none,0,0⟩) (ns:=[]) P D ⟨rfl,.inl rfl⟩ (by simp) (λs hs=>by cases hs) λh1 P1 T1=>⟨_,rfl,λe0=>?_,λe0=>?_⟩
 ·have e0:(dbegin S true).1=0:=e0
  have P1:PD h1 A (dbegin S true).2:=P1
  have hk:kSyncDir S=kFalls (dbegin S true).2 1 λS2=>(0,{ S2 with sure:=S2.now,chg:=[] }):=kThen_0 e0
  have D1:=D.begin true
  have hup:=(begin_up e0).2.2
  rw[hk] at hQ
  generalize (dbegin S true).2=S1 at P1 D1 hup hQ
  refine falls_p P1 D1 hup (by decide) (λh2 e P2 T2=>⟨0,false,⟨λh=>(by cases h),λ_=>⟨rfl,?_⟩⟩⟩) (λh2 m e _ _ P2 T2=>⟨m,true,⟨λ_=>⟨rfl,?_⟩,λh=>(by cases h)⟩⟩)
  ·rw[kFalls_n e] at hQ
   obtain⟨u,w,f,p,hrig,hd⟩:=P2.dsk
   obtain⟨es,c0,hm,M⟩:=P2.now
   refine⟨A.db,0,rfl,some A.nb,at_of hd 1,clone_p hm λb1 hb1=>⟨some b1,rfl,?_⟩⟩
   have K1:=Keep.new hb1 (.map es c0)
   have hx:=new_at h2 b1 (.map es c0)
   have P3:=P2.keep K1
   have hd1:=K1 _ _ hd
   have hd2:=wr_cells (o:=0+2) (vs:=[.map (some b1)]) hd1
   have C:Ck [93] (h2.new b1 (.map es c0)) _:=(Ck.wr (o:=0+2) (vs:=[.map (some b1)]) hd1).trans (Ck.wr (o:=0+3) (vs:=[.slice none 0 0]) hd2)
   refine⟨A.db,0,rfl,canW_new hd1 (by simp),A.db,0,rfl,canW_new hd2 (by simp[setL]),hQ _ ⟨A.db,A.nb,b1,⟨none,0,0⟩,A.X⟩ rfl ⟨⟨u,w,f,p,hrig,wr_cells hd2⟩,⟨es,c0,C.keep _ _ (K1 _ _ hm) (by simp[kd]),M⟩,⟨es,c0,C.keep _ _ hx (by simp[kd]),M⟩,ne_of hm hb1,Buf.nil _ _ _,P2.fl,P3.fx.mono λk y hk e=>?_⟩ ?_⟩
   ·obtain⟨c,t,e',ht⟩:=P3.fx.alive hk
    rw[e] at e';cases e'
    exact C.keep _ _ e (by rcases ht with ht|ht<;>simp[kd,ht])
   ·have O:=(one_wr (o:=0+2) (vs:=[.map (some b1)]) hd1).trans (one_wr (o:=0+3) (vs:=[.slice none 0 0]) hd2)
    refine T1.trans (T2.trans ⟨λk x n e=>O.keep k x (by rintro rfl;exact n (.inl rfl)) (K1 _ _ e),λk e=>K1.dom k (O.dom k e),λk d=>?_⟩)
    rcases d with d|d|d|d|d
    ·exact .inl (.inl d)
    ·exact .inl (.inr (.inl d))
    ·exact .inr (by rw[show k=b1 from d];exact hb1)
    ·exact(inS_nil k d).elim
    ·exact .inl (.inr (.inr (.inr (.inr d))))
  ·rw[kFalls_s e] at hQ
   exact hQ h2 A rfl P2 (T1.trans T2)
 ·have e0:¬ (dbegin S true).1=0:=e0
  have hk:kSyncDir S=dbegin S true:=kThen_1 e0
  rw[hk] at hQ
  exact hQ h1 A rfl P1 T1
end
end Go.Eng.YtekflkpnpibneaaGreatDoor
end
section
namespace Go.Eng.YtekflkpnpibneaaGreatDoor
theorem chV_at(bk:List Nat):∀ {l:List Cg} {k r:Nat} {c:Cg},l[k]?=some c->r<4->(chV bk l)[k*4+r]?=(Cg.cells bk c)[r]?
 |[],k,r,c,h,_=>by simp at h
 |x::l,0,r,c,h,hr=>by
  simp only[List.getElem?_cons_zero,Option.some.injEq] at h
  subst h
  show(Cg.cells bk x++chV bk l)[0*4+r]?=_
  rw[List.getElem?_append_left (by show _<4;omega)]
  congr 1;omega
 |x::l,k+1,r,c,h,hr=>by
  simp only[List.getElem?_cons_succ] at h
  show(Cg.cells bk x++chV bk l)[(k+1)*4+r]?=_
  rw[List.getElem?_append_right (by show 4<=_;omega),<- chV_at bk h hr]
  congr 1
  show(k+1)*4+r-4=_
  omega
theorem leftAll_snoc(keep:List Int)(f:FileR):∀ (i:Nat) (R:List FileR),leftAll keep i (R++[f])=leftAll keep i R++[leftOf keep (i+R.length) f]
 |i,[]=>rfl
 |i,r::R=>by
  show leftOf keep i r::leftAll keep (i+1) (R++[f])=_
  rw[leftAll_snoc keep f (i+1) R,length_cons,show i+1+R.length=i+(R.length+1) by omega]
  rfl
theorem leftAll_len(keep:List Int):∀ (i:Nat) (R:List FileR),(leftAll keep i R).length=R.length
 |i,[]=>rfl
 |i,r::R=>by show(leftAll keep (i+1) R).length+1=_;rw[leftAll_len keep (i+1) R];rfl
theorem dtold_ok{S:Dk}(D:DOk S){d:Dir}:∀ f∈dtold S d,f.data.length<=2147483648/\f.sure<=f.data.length:=by
 intro f hf
 obtain⟨x,hx,rfl⟩:=List.mem_map.1 hf
 unfold fileR
 split
 ·next y hy=>exact D.fl y (mem_of_getElem? hy)
 ·exact⟨Nat.zero_le _,Nat.le_refl _⟩
theorem leftOf_le{keep:List Int}{i:Nat}{f:FileR}(h:f.sure<=f.data.length):(leftOf keep i f).sure<=f.data.length:=by
 unfold leftOf
 dsimp only
 split
 ·next k hk=>
  have h1:=(iMin_le (iMax k 0) ((f.data.length:Int)-f.sure)).2
  show f.sure+(iMin (iMax k 0) ((f.data.length:Int)-f.sure)).toNat<=f.data.length
  generalize iMin (iMax k 0) ((f.data.length:Int)-f.sure)=z at h1 ⊢
  omega
 ·omega
theorem off_map{L1 L2:List (Sl×FileR)}{x y:Sl×FileR}(h:(L1++x::L2).Pairwise λx y=>Off x.1 y.1)(e:y.1.a=x.1.a):(L1++y::L2).Pairwise λx y=>Off x.1 y.1:=by
 have h1:((L1++x::L2).map λx=>x.1.a).Pairwise λa b=>∀ k o o',a=some ⟨k,o,none⟩->b≠some ⟨k,o',none⟩:=List.pairwise_map.2 h
 have h2:(L1++x::L2).map (λx=>x.1.a)=(L1++y::L2).map λx=>x.1.a:=by simp[e]
 rw[h2] at h1
 exact(List.pairwise_map (f:=λx:Sl×FileR=>x.1.a) (R:=λa b=>∀ k o o',a=some ⟨k,o,none⟩->b≠some ⟨k,o',none⟩)).1 h1
theorem fa_cut{g h:Hp}{r:Sl}{L1 L2:List (Sl×FileR)}{x:Sl×FileR}(F:FA g h r (L1++x::L2))(K:Keep g h):∃ b,r.a=some ⟨b,0,none⟩/\((0:Int)<=(L1.length:Int)/\(L1.length:Int)<(r.n:Int)) /\
  h.at b ((0+(L1.length:Int).toNat*3)+1)=some (.slice x.1.a x.1.n x.1.c)/\h.at b ((0+(L1.length:Int).toNat*3)+2)=some (.int .i64 (x.2.sure:Int))/\x.1.n=x.2.data.length /\
  ∀ n:Nat,n<=x.1.n->Sl.okCut x.1 0 (n:Int) (n:Int)/\h.canW b ((0+(L1.length:Int).toNat*3)+1) 1 /\
   (h.wr b ((0+(L1.length:Int).toNat*3)+1) [.slice (Sl.cut x.1 1 0 (n:Int) (n:Int)).a (Sl.cut x.1 1 0 (n:Int) (n:Int)).n (Sl.cut x.1 1 0 (n:Int) (n:Int)).c]).canW b ((0+(L1.length:Int).toNat*3)+2) 1 /\
   FA g ((h.wr b ((0+(L1.length:Int).toNat*3)+1) [.slice (Sl.cut x.1 1 0 (n:Int) (n:Int)).a (Sl.cut x.1 1 0 (n:Int) (n:Int)).n (Sl.cut x.1 1 0 (n:Int) (n:Int)).c]).wr b ((0+(L1.length:Int).toNat*3)+2) [.int .i64 (n:Int)]) r (L1++(Sl.cut x.1 1 0 (n:Int) (n:Int),⟨x.2.nm,x.2.data.take n,n⟩)::L2) /\
   Keep g ((h.wr b ((0+(L1.length:Int).toNat*3)+1) [.slice (Sl.cut x.1 1 0 (n:Int) (n:Int)).a (Sl.cut x.1 1 0 (n:Int) (n:Int)).n (Sl.cut x.1 1 0 (n:Int) (n:Int)).c]).wr b ((0+(L1.length:Int).toNat*3)+2) [.int .i64 (n:Int)]):=by
 obtain⟨b,ha,hr,h0,h1,h2,hw,hs⟩:=rec_at F.b
 have hx:x∈L1++x::L2:=by simp
 have Bx:=(F.d x hx).1
 have hn:x.1.n=x.2.data.length:=by have:=Bx.len;rw[bl_len] at this;omega
 refine⟨b,ha,hr,h1,h2,hn,λn hle=>⟨⟨by omega,by omega,by omega,by have:=Bx.cap;omega⟩,hw,?_⟩⟩
 obtain⟨hw2,hu⟩:=hs (Sl.cut x.1 1 0 (n:Int) (n:Int))
 obtain⟨U,B⟩:=hu n (x.2.data.take n)
 have C:=Ck.of_upd F.b U
 obtain⟨K',N'⟩:=NewN.upd K F.n U
 refine⟨hw2,⟨B,F.n,λy hy=>?_,off_map F.dj (cut_a _ _ _)⟩,K'⟩
 rcases mem_append.1 hy with hy|hy
 ·have:=F.d y (List.mem_append_left _ hy)
  exact⟨C.buf (by decide) this.1,this.2⟩
 ·rcases mem_cons.1 hy with rfl|hy
  ·refine⟨C.buf (by decide) ?_,?_⟩
   ·have:=buf_cut2 Bx hle
    unfold bl at this ⊢
    rw[List.map_take]
    exact this
   ·have:=(F.d x hx).2
    unfold NewN at this ⊢
    dsimp only
    rw[cut_a];exact this
  ·have:=F.d y (List.mem_append_right _ (mem_cons_of_mem _ hy))
   exact⟨C.buf (by decide) this.1,this.2⟩
section
variable{h h':Hp}{A:PA}{S S':Dk}{Q:Value->Hp->Prop}
theorem image_p{dir:Int}{l:Sl}{keep:List Int}(P:PD h A S)(D:DOk S)(hcl:S.chg.length<=1000000000)(hr:h.row l.a (l.n*1) (keep.map λk=>Value.int .i64 k))
  (hQ:∀ h' r L,Keep h h'->FA h h' r L->L.map (·.2)=kImage S dir keep->Q (.slice r.a r.n r.c) h'):F25.T (some ⟨A.db,0,none⟩) dir l h Q:=by
 obtain⟨u,w,f,p,hrig,hd⟩:=P.dsk
 obtain⟨es,c0,hm,M⟩:=P.sure
 have hcn:A.ch.n=S.chg.length:=by have:=P.ch.len;rw[chV_len] at this;omega
 have hln:l.n=keep.length:=by have:=hr.1;rw[length_map] at this;omega
 have hDs:=(D.rest dir)
 have hDl:(drest S dir).length<=8388608:=D.pre _
 refine⟨A.db,0,rfl,some A.sb,at_of hd 2,clone_p hm λb1 hb1=>⟨some b1,rfl,?_⟩⟩
 have K1:=Keep.new hb1 (.map es c0)
 refine⟨A.db,0,rfl,A.ch,at_of (K1 _ _ hd) 3,A.db,0,rfl,A.ch,at_of (K1 _ _ hd) 3,?_⟩
 have hK0:0<=iMin (iMax dir 0) (A.ch.n:Int):=by have:=iMax_0 dir;unfold iMin;split<;>omega
 have hK1:=(iMin_le (iMax dir 0) (A.ch.n:Int)).2
 have hKt:S.chg.take (iMin (iMax dir 0) (A.ch.n:Int)).toNat=S.chg.take dir.toNat:=by
  rw[List.take_eq_take_iff]
  unfold iMin iMax
  split<;>split<;>omega
 have hcap:=P.ch.cap
 generalize iMin (iMax dir 0) (A.ch.n:Int)=K at hK0 hK1 hKt ⊢
 have hca:(Sl.cut A.ch 4 0 K (A.ch.c:Int)).a=A.ch.a:=cut_a _ _ _
 have hcn2:(Sl.cut A.ch 4 0 K (A.ch.c:Int)).n=K.toNat:=by simp[Sl.cut]
 refine⟨⟨by omega,by omega,by omega,by omega⟩,?_⟩
 generalize Sl.cut A.ch 4 0 K (A.ch.c:Int)=cs at hca hcn2 ⊢
 refine⟨λn1 h2=>∃ (k:Nat) (es':Array MapEntry) (c':Nat),n1=(k:Int)/\k<=K.toNat/\h2=h.new b1 (.map es' c')/\SM es' c' ((S.chg.take k).foldl dlay S.sure) (pid A.bk),λn1 _=>K.toNat-n1.toNat,⟨0,es,c0,rfl,Nat.zero_le _,rfl,M⟩,?_⟩
 rintro n1 h2 ⟨k,es',c',rfl,hk,rfl,M'⟩
 have Dk:DirOk S.fl.length ((S.chg.take k).foldl dlay S.sure):=DirOk.fold _ D.sure λc hc=>D.chg c (List.mem_of_mem_take hc)
 refine⟨λhlt=>?_,λhge=>?_⟩
 ·have hkl:k<S.chg.length:=by omega
  have hget:S.chg[k]?=some S.chg[k]:=getElem?_eq_getElem hkl
  generalize S.chg[k]=c at hget
  obtain⟨b3,o3,ha3,hat⟩:=row_get P.ch.row (i:=k*4) (by omega)
  obtain⟨cc,ff,hal⟩:=buf_alive P.ch ⟨o3,ha3⟩
  have hat':∀ r,r<4->(h.new b1 (.map es' c')).at b3 ((o3+(k:Int).toNat*4)+r)=(Cg.cells A.bk c)[r]?:=λr hr=>by
   rw[at_new_ne (ne_of hal hb1),Int.toNat_natCast,Nat.add_assoc,hat _ (by omega),chV_at A.bk hget hr]
  obtain⟨p1,hp1⟩:∃ p1,(if c.kind=0 then pid A.bk c.id else .pointer none)=.pointer p1:=by
   split
   ·exact⟨_,rfl⟩
   ·exact⟨_,rfl⟩
  refine⟨b3,o3,hca.trans ha3,⟨by omega,hlt⟩,c.kind,hat' 0 (by omega),c.nm,hat' 1 (by omega),c.to,hat' 2 (by omega),p1,(hat' 3 (by omega)).trans (by show some _=_;rw[hp1]),?_⟩
  refine lay_p (new_at _ _ _) M' Dk.s (Lays.nth D.lays hget) (λk0=>by rw[if_pos k0] at hp1;exact hp1) λes2 c2 M2=>?_
  rw[inc_i (n:=9223372036854775807) (by omega) (by omega),new_new]
  refine⟨⟨k+1,es2,c2,rfl,by omega,rfl,?_⟩,by dsimp only;omega⟩
  rw[List.take_add_one,hget,List.foldl_append]
  exact M2
 ·have hkK:k=K.toNat:=by omega
  subst hkK
  rw[hKt] at M' Dk
  have K2:Keep h (h.new b1 (.map es' c')):=Keep.new hb1 _
  refine told_p (new_at _ _ _) M' (P.fx.mono λk x _ e=>K2 _ _ e) (by rw[P.xlen];exact hDs) hDl (λx hx=>(D.fl x.f (by rw[<- P.fl];exact mem_map_of_mem hx)).1) λh4 r L K4 F4 e4=>⟨r,rfl,?_⟩
  have e4':L.map (·.2)=dtold S (drest S dir):=e4.trans (List.map_congr_left λx _=>P.toldX x)
  have hok:=dtold_ok D (d:=drest S dir)
  have hRl:(dtold S (drest S dir)).length<=8388608:=by unfold dtold;rw[length_map];exact hDl
  unfold kImage at hQ
  generalize dtold S (drest S dir)=R at e4' hok hRl hQ
  have hLR:L.length=R.length:=by have:=congrArg List.length e4';simpa using this
  have hrn:r.n=R.length:=F4.len.trans hLR
  generalize h.new b1 (.map es' c')=h2 at K2 K4 F4
  refine⟨λn3 h5=>∃ L1 L2 R1 R2,n3=(L1.length:Int)/\R=R1++R2/\Keep h2 h5/\FA h2 h5 r (L1++L2)/\L1.map (·.2)=leftAll keep 0 R1/\L2.map (·.2)=R2,λn3 _=>R.length-n3.toNat,⟨[],L,[],R,rfl,rfl,K4,F4,rfl,e4'⟩,?_⟩
  rintro n3 h5 ⟨L1,L2,R1,R2,rfl,rfl,K5,F5,e5,e6⟩
  have hl1:L1.length=R1.length:=by have:=congrArg List.length e5;rw[leftAll_len] at this;simpa using this
  rw[length_append] at hrn hRl
  refine⟨λhlt=>?_,λhge=>?_⟩
  ·rcases R2 with _|⟨f,R2⟩
   ·exact absurd hlt (by simp at hrn;omega)
   rcases L2 with _|⟨x,L2⟩
   ·simp at e6
   rw[map_cons,List.cons.injEq] at e6
   obtain⟨rfl,e6⟩:=e6
   have hf:=hok x.2 (by simp)
   obtain⟨b,ha,hrg,h1,h2',hxn,hcut⟩:=fa_cut F5 K5
   have hstep:∀ (n:Nat),n=(leftOf keep L1.length x.2).sure->∀ h6,FA h2 h6 r (L1++(Sl.cut x.1 1 0 (n:Int) (n:Int),⟨x.2.nm,x.2.data.take n,n⟩)::L2)->Keep h2 h6 ->
     (∃ L1' L2' R1' R2',wrap .i64 ((L1.length:Int)+1)=(L1'.length:Int)/\R1++x.2::R2=R1'++R2'/\Keep h2 h6/\FA h2 h6 r (L1'++L2')/\L1'.map (·.2)=leftAll keep 0 R1'/\L2'.map (·.2)=R2')/\(R1++x.2::R2).length-(wrap .i64 ((L1.length:Int)+1)).toNat<(R1++x.2::R2).length-(L1.length:Int).toNat:=by
    rintro n hn h6 F6 K6
    simp only[length_cons] at hRl
    rw[inc_i (n:=100000000) (by omega) (by omega)]
    refine⟨⟨L1++[(Sl.cut x.1 1 0 (n:Int) (n:Int),⟨x.2.nm,x.2.data.take n,n⟩)],L2,R1++[x.2],R2,by simp,by simp,K6,by rw[List.append_assoc];exact F6,?_,e6⟩,by simp only[length_append,length_cons];omega⟩
    rw[leftAll_snoc,map_append,e5,Nat.zero_add,<- hl1]
    congr 1
    rw[hn]
    rfl
   refine⟨b,0,ha,hrg,(x.2.sure:Int),h2',λhpos=>?_,λhnp=>?_⟩
   ·have hml:L1.length % keep.length<keep.length:=Nat.mod_lt _ (by omega)
    have htm:Int.tmod (L1.length:Int) (l.n:Int)=((L1.length % keep.length:Nat):Int):=by rw[hln];rfl
    rw[htm]
    obtain⟨b5,o5,ha5,hat5⟩:=row_get hr (i:=L1.length % keep.length) (by omega)
    have hgk:keep[L1.length % keep.length]?=some keep[L1.length % keep.length]:=getElem?_eq_getElem hml
    have hsz:x.1.n=x.2.data.length:=hxn
    have hN0:(leftOf keep L1.length x.2).sure=x.2.sure+(iMin (iMax keep[L1.length % keep.length] 0) ((x.2.data.length:Int)-x.2.sure)).toNat:=by
     unfold leftOf
     dsimp only
     rw[hgk]
    have hN1:=leftOf_le (keep:=keep) (i:=L1.length) hf.2
    have hi0:0<=iMin (iMax keep[L1.length % keep.length] 0) ((x.2.data.length:Int)-x.2.sure):=by
     have:=iMax_0 keep[L1.length % keep.length]
     have:=hf.2
     unfold iMin;split<;>omega
    have hi1:=(iMin_le (iMax keep[L1.length % keep.length] 0) ((x.2.data.length:Int)-x.2.sure)).2
    refine⟨by omega,b5,o5,ha5,⟨by omega,by omega⟩,keep[L1.length % keep.length],?_,b,0,ha,hrg,x.1,h1,b,0,ha,hrg,x.1,h1,?_⟩
    ·rw[Int.toNat_natCast]
     have hk5:h5.row l.a (l.n*1) (keep.map λk=>Value.int .i64 k):=(K2.trans K5).row hr
     obtain⟨b6,o6,ha6,hat6⟩:=row_get hk5 (i:=L1.length % keep.length) (by omega)
     rw[ha5] at ha6
     cases ha6
     rw[hat6 _ (by omega),getElem?_map,hgk];rfl
    ·have hf2:=hf.2
     have hf1:=hf.1
     have hw1:wrap .i64 ((x.1.n:Int)-(x.2.sure:Int))=(x.2.data.length:Int)-x.2.sure:=by rw[wrap_i64 (by omega) (by omega),hsz]
     rw[hw1]
     have hw2:wrap .i64 ((x.2.sure:Int)+iMin (iMax keep[L1.length % keep.length] 0) ((x.2.data.length:Int)-x.2.sure))=((leftOf keep L1.length x.2).sure:Int):=by
      rw[wrap_i64 (by omega) (by omega),hN0];omega
     rw[hw2]
     obtain⟨c1,c2,c3,c4,c5⟩:=hcut (leftOf keep L1.length x.2).sure (by omega)
     exact⟨c1,b,0,ha,hrg,c2,b,0,ha,hrg,c3,hstep _ rfl _ c4 c5⟩
   ·have hN0:(leftOf keep L1.length x.2).sure=x.2.sure:=by
     unfold leftOf
     dsimp only
     rw[List.getElem?_eq_none (by omega)]
     rfl
    have hf2:=hf.2
    obtain⟨c1,c2,c3,c4,c5⟩:=hcut x.2.sure (by omega)
    exact⟨b,0,ha,hrg,x.1,h1,c1,b,0,ha,hrg,c2,b,0,ha,hrg,c3,hstep _ hN0.symm _ c4 c5⟩
  ·have hR2:R2=[]:=eq_nil_of_length_eq_zero (by omega)
   subst hR2
   have hL2:L2=[]:=by simpa using e6
   subst hL2
   rw[append_nil] at hQ F5
   exact hQ h5 r L1 (K2.trans K5) (F5.mono λk e=>K2.dom k e) e5
end
end Go.Eng.YtekflkpnpibneaaGreatDoor
end
section
namespace Go.Eng.YtekflkpnpibneaaGreatDoor
theorem putAll_app(l m:List FileR):∀ (i:Nat) (d:Dir),putAll i d (l++m)=putAll (i+l.length) (putAll i d l) m:=by
 induction l with
 |nil=>intro i d;rfl
 |cons f l ih=>
  intro i d
  show putAll (i+1) (dins d f.nm i) (l++m)=putAll (i+(l.length+1)) (putAll (i+1) (dins d f.nm i) l) m
  rw[ih,show i+1+l.length=i+(l.length+1) by omega]
theorem rawSum_app(l m:List RawF):rawSum (l++m)=rawSum l+rawSum m:=by unfold rawSum;rw[map_append,List.sum_append]
theorem rawSum_nn:∀ l:List RawF,0<=rawSum l
 |[]=>Int.le_refl _
 |f::l=>by have:=rawSum_nn l;show 0<=(f.data.length:Int)+rawSum l;omega
structure Bld(g h:Hp)(mb:Nat)(X:List FX)(d:Dir):Prop where
 mp:∃ es c,h mb=some (.map es c)/\SM es c d (pid (X.map (·.b)))
 mn:g mb=none
 fx:Fls 95 h X
 fn:∀ k,ownX X k->g k=none
 ix:DirOk X.length d
theorem Bld.keep{g h h':Hp}{mb:Nat}{X:List FX}{d:Dir}(W:Bld g h mb X d)(K:Keep h h'):Bld g h' mb X d:=by
 obtain⟨es,c,hm,M⟩:=W.mp
 exact⟨⟨es,c,K _ _ hm,M⟩,W.mn,W.fx.mono λk x _ e=>K _ _ e,W.fn,W.ix⟩
theorem bld_put{g h h1:Hp}{mb b4:Nat}{X:List FX}{d:Dir}{s:Sl}{f:Fil}{nm:ByteArray}(W:Bld g h mb X d)(hb4:h b4=none)(hg4:g b4=none)(hn:nm.size<=24)(B:Buf h s 1 5 (bl f.data))(NS:NewN g s)(no:∀ k,inS s k->¬ ownX X k)
  (hx:h1=h.new b4 (.cells ⟨[.slice s.a s.n s.c,.int .i64 (f.sure:Int)]⟩ 95 (0,0))) :
  ∃ es c,h1 mb=some (.map es c)/\keysFit (.string nm) es/\Bld g (h1.new mb (mPut es c (.string nm) (.pointer (some ⟨b4,0,none⟩)))) mb (X++[⟨b4,s,f⟩]) (dins d nm X.length):=by
 obtain⟨es,c,hm,M⟩:=W.mp
 have K4:Keep h h1:=by rw[hx];exact Keep.new hb4 _
 have hx4:h1 b4=some (.cells ⟨[.slice s.a s.n s.c,.int .i64 (f.sure:Int)]⟩ 95 (0,0)):=by rw[hx];exact new_at _ _ _
 have hm1:=K4 _ _ hm
 have hbk:(X++[(⟨b4,s,f⟩:FX)]).map (·.b)=X.map (·.b)++[b4]:=by simp
 have hbl:(X.map (·.b)).length=X.length:=length_map _
 have M1:SM es c d (pid (X.map (·.b)++[b4])):=M.congr λt i hi=>(pid_app _ _ (by rw[hbl];exact W.ix.i _ (dget_mem hi))).symm
 obtain⟨es',c',e1,e2⟩:=M1.put nm X.length
 have hv:pid (X.map (·.b)++[b4]) X.length=.pointer (some ⟨b4,0,none⟩):=by rw[<- hbl];exact pid_last _ _
 rw[hv] at e1
 refine⟨es,c,hm1,M.fit _,?_⟩
 rw[e1]
 have O:One mb h1 (h1.new mb (.map es' c')):=One.new _ (by rw[hm1];simp)
 have C:Ck [0] h1 (h1.new mb (.map es' c')):=Ck.put hm1
 have hne:mb≠b4:=ne_of hm hb4
 have n4:¬ ownX X b4:=λho=>by
  obtain⟨cc,tt,al,_⟩:=W.fx.alive ho
  rw[hb4] at al;cases al
 refine⟨⟨es',c',new_at _ _ _,by rw[hbk];exact e2⟩,W.mn,(W.fx.mono λk x hk e=>?_).snoc (O.keep _ _ (λe=>hne e.symm) hx4) (C.buf (by decide) (B.keep K4)) n4 no,λk hk=>?_,?_⟩
 ·obtain⟨cc,tt,al,_⟩:=W.fx.alive hk
  exact O.keep _ _ (ne_kd al hm (by simp[kd])) (K4 _ _ e)
 ·rcases ownX_snoc hk with hk|rfl|hk
  ·exact W.fn k hk
  ·exact hg4
  ·exact newN_in NS hk
 ·rw[length_append]
  exact(W.ix.mono (Nat.le_succ _)).ins hn (Nat.lt_succ_self _)
theorem leftAll_nm(keep:List Int):∀ (i:Nat) (R:List FileR),(leftAll keep i R).map (·.nm)=R.map (·.nm)
 |i,[]=>rfl
 |i,r::R=>by show r.nm::(leftAll keep (i+1) R).map (·.nm)=_;rw[leftAll_nm keep (i+1) R];rfl
theorem image_nm(S:Dk)(dir:Int)(keep:List Int):(kImage S dir keep).map (·.nm)=(drest S dir).map (·.1):=by
 unfold kImage dtold
 rw[leftAll_nm,List.map_map]
 refine List.map_congr_left λx _=>?_
 show(fileR S x).nm=_
 unfold fileR
 split<;>rfl
theorem image_ok{S:Dk}(D:DOk S)(dir:Int)(keep:List Int):(kImage S dir keep).length<=8388608/\(∀ f∈kImage S dir keep,f.nm.size<=24)/\∀ f∈kImage S dir keep,f.data.length<=2147483648/\f.sure=f.data.length:=by
 refine⟨?_,λf hf=>?_,?_⟩
 ·have:=congrArg List.length (image_nm S dir keep)
  rw[length_map,length_map] at this
  rw[this];exact D.pre _
 ·have h1:f.nm∈(kImage S dir keep).map (·.nm):=mem_map_of_mem hf
  rw[image_nm] at h1
  obtain⟨x,hx,e⟩:=List.mem_map.1 h1
  rw[<- e];exact(D.rest dir).k x hx
 ·have key:∀ (i:Nat) (R:List FileR),(∀ f∈R,f.data.length<=2147483648/\f.sure<=f.data.length)->∀ f∈leftAll keep i R,f.data.length<=2147483648/\f.sure=f.data.length:=by
   intro i R
   induction R generalizing i with
   |nil=>intro _ f hf;cases hf
   |cons r R ih=>
    intro hR f hf
    rcases mem_cons.1 hf with rfl|hf
    ·have hr:=hR r mem_cons_self
     have hl:=leftOf_le (keep:=keep) (i:=i) hr.2
     have e:(leftOf keep i r).data=r.data.take (leftOf keep i r).sure:=rfl
     rw[e,length_take]
     omega
    ·exact ih (i+1) (λf hf=>hR f (mem_cons_of_mem _ hf)) f hf
  exact key 0 _ (dtold_ok D)
theorem putAll_ok{n:Nat}:∀ (l:List FileR) (i:Nat) (d:Dir),DirOk n d->(∀ f∈l,f.nm.size<=24)->i+l.length<=n->DirOk n (putAll i d l)
 |[],i,d,D,_,_=>D
 |f::l,i,d,D,h,hn=>putAll_ok l (i+1) _ (D.ins (h f mem_cons_self) (by rw[length_cons] at hn;omega)) (λg hg=>h g (mem_cons_of_mem _ hg)) (by rw[length_cons] at hn;omega)
theorem putAll_len:∀ (l:List FileR) (i:Nat) (d:Dir),(putAll i d l).length<=d.length+l.length
 |[],i,d=>Nat.le_refl _
 |f::l,i,d=>by
  have h1:=putAll_len l (i+1) (dins d f.nm i)
  have h2:=dins_len (d:=d) f.nm i
  rw[length_cons]
  show(putAll (i+1) (dins d f.nm i) l).length<=_
  omega
theorem fresh_ok{room:Int}{l:List FileR}(hr:0<=room/\room<=9223372036854775807)(hl:l.length<=8388608)(hn:∀ f∈l,f.nm.size<=24)(hd:∀ f∈l,f.data.length<=2147483648/\f.sure<=f.data.length):DN 0 (fresh room l):=by
 have hlen:(l.map λf=>(⟨f.data,f.sure⟩:Fil)).length=l.length:=length_map _
 have h1:DirOk (l.map λf=>(⟨f.data,f.sure⟩:Fil)).length (putAll 0 [] l):=putAll_ok l 0 [] (DirOk.nil _) hn (by rw[hlen];omega)
 have h2:=putAll_len l 0 []
 rw[List.length_nil] at h2
 refine⟨⟨h1,h1,λf hf=>?_,λc hc=>(by cases hc),Nat.le_trans h2 (by omega),λk=>?_,rfl,hr,⟨Int.le_refl _,Int.le_refl _,Int.le_refl _,Int.le_refl _⟩,⟨show(0:Int)<=9223372036854775807 by decide,show(0:Int)<=9223372036854775807 by decide,show(0:Int)<=9223372036854775807 by decide,show(0:Int)<=9223372036854775807 by decide⟩⟩,Nat.le_refl _,by show(l.map _).length<=_;rw[hlen];omega⟩
 ·obtain⟨x,hx,rfl⟩:=List.mem_map.1 hf
  exact hd x hx
 ·show((List.take k []).foldl dlay _).length<=_
  rw[List.take_nil]
  exact Nat.le_trans h2 (by omega)
theorem DN.fall{n:Nat}{S:Dk}(D:DN n S)(dir:Int)(keep:List Int):DN n (kFall S dir keep):=by
 have h:=image_ok D.ok dir keep
 exact(fresh_ok D.ok.room h.1 h.2.1 λf hf=>⟨(h.2.2 f hf).1,Nat.le_of_eq (h.2.2 f hf).2⟩).mono (Nat.zero_le _)
section
variable{h h':Hp}{A:PA}{S S':Dk}{Q:Value->Hp->Prop}
theorem fall_p{dir:Int}{l:Sl}{keep:List Int}(P:PD h A S)(D:DOk S)(hcl:S.chg.length<=1000000000)(hr:h.row l.a (l.n*1) (keep.map λk=>Value.int .i64 k))
  (hQ:∀ h' A',A'.db=A.db->PD h' A' (kFall S dir keep)->Tr2 A.own A'.own h h'->Q (.tuple ⟨[]⟩) h'):F56.T (some ⟨A.db,0,none⟩) dir l h Q:=by
 have him:=image_ok D dir keep
 unfold F56.T F56.G
 refine image_p P D hcl hr λh1 r L K1 F1 e1=>⟨r,rfl,λb hb=>?_⟩
 unfold kFall at hQ
 generalize kImage S dir keep=R at e1 hQ him
 have hLR:L.length=R.length:=by have:=congrArg List.length e1;simpa using this
 have hrn:r.n=L.length:=F1.len
 obtain⟨u,w,f,p,hrig,hd⟩:=P.dsk
 have hd1:=K1 _ _ hd
 have K2:=Keep.new hb (.map #[] 0)
 have hb2:=new_at h1 b (.map #[] 0)
 have hd2:=K2 _ _ hd1
 have hd3:=wr_cells (o:=0+1) (vs:=[.map (some b)]) hd2
 have O3:=one_wr (o:=0+1) (vs:=[.map (some b)]) hd2
 have C3:Ck [93] (h1.new b (.map #[] 0)) ((h1.new b (.map #[] 0)).wr A.db (0+1) [.map (some b)]):=Ck.wr (o:=0+1) (vs:=[.map (some b)]) hd2
 refine⟨A.db,0,rfl,canW_new hd2 (by simp),?_⟩
 generalize (h1.new b (.map #[] 0)).wr A.db (0+1) [.map (some b)]=h2 at hd3 O3 C3 ⊢
 have hbn:h b=none:=K1.dom _ hb
 have hbdb:b≠A.db:=λe=>by rw[e,hd] at hbn;cases hbn
 refine⟨λn1 h3=>∃ L1 L2 X,L=L1++L2/\n1=(L1.length:Int)/\Bld h h3 b X (putAll 0 [] (L1.map (·.2)))/\X.map (·.d)=L1.map (·.1)/\X.map (·.f)=L1.map (λx=>⟨x.2.data,x.2.sure⟩)/\One A.db h h3/\h3 A.db=some (.cells ⟨[.int .i64 S.room,.map (some b),.map (some A.sb),.slice A.ch.a A.ch.n A.ch.c,.int .i64 u,.int .i64 w,.int .i64 f,.int .i64 p,.bool S.down]⟩ 91 (0,0))/\Buf h3 r 3 55 (fV L)/\∀ x∈L,Buf h3 x.1 1 5 (bl x.2.data),λn1 _=>L.length-n1.toNat,
  ⟨[],L,[],rfl,rfl,⟨⟨#[],0,O3.keep _ _ hbdb hb2,SM.empty _ _⟩,hbn,⟨λx hx=>(by cases hx),λx hx=>(by cases hx),λi j x y hx=>(by simp at hx)⟩,λk hk=>(by obtain⟨x,hx,_⟩:=hk;cases hx),DirOk.nil _⟩,rfl,rfl,⟨λk x n e=>O3.keep k x n (K2 _ _ (K1 _ _ e)),λk e=>K1.dom k (K2.dom k (O3.dom k e))⟩,hd3,C3.buf (by decide) (F1.b.keep K2),λx hx=>C3.buf (by decide) ((F1.d x hx).1.keep K2)⟩,?_⟩
 rintro n1 h3 ⟨L1,L2,X,rfl,rfl,W,hXd,hXf,O,hdb,Br,Bd⟩
 rw[length_append] at hrn hLR
 refine⟨λhlt=>?_,λhge=>?_⟩
 ·rcases L2 with _|⟨x,L2⟩
  ·exact absurd hlt (by simp at hrn;omega)
  rw[length_cons] at hrn hLR
  have hmx:x∈L1++x::L2:=by simp
  obtain⟨b2,ha2,hrg,h0,h1',h2',_⟩:=rec_at Br
  have hxR:x.2∈R:=by rw[<- e1];exact mem_map_of_mem hmx
  refine⟨b2,0,ha2,hrg,x.2.nm,h0,x.1,h1',(x.2.sure:Int),h2',A.db,0,rfl,some b,at_of hdb 1,λb4 hb4=>?_⟩
  have K4:=Keep.new hb4 (.cells ⟨[.slice x.1.a x.1.n x.1.c,.int .i64 (x.2.sure:Int)]⟩ 95 (0,0))
  have hXl:X.length=L1.length:=by have:=congrArg List.length hXd;simpa using this
  obtain⟨es1,c1,q1,q2,q3⟩:=bld_put W hb4 (O.dom _ hb4) (f:=⟨x.2.data,x.2.sure⟩) (nm:=x.2.nm) (him.2.1 _ hxR) (Bd x hmx) (F1.d x hmx).2 (λk hk ho=>by
   obtain⟨y,hy,hk2⟩:=ho
   rcases hk2 with rfl|hk2
   ·obtain⟨cc,ff,al⟩:=buf_alive (Bd x hmx) hk
    rw[W.fx.fb y hy] at al;cases al
   ·have hyd:y.d∈L1.map (·.1):=by rw[<- hXd];exact mem_map_of_mem hy
    obtain⟨z,hz,ez⟩:=List.mem_map.1 hyd
    have:=(List.pairwise_append.1 F1.dj).2.2 z hz x mem_cons_self
    rw[ez] at this
    obtain⟨o1,ho1⟩:=hk2
    obtain⟨o2,ho2⟩:=hk
    exact this k o1 o2 ho1 ho2) rfl
  have O5:=One.new (h:=h3.new b4 (.cells ⟨[.slice x.1.a x.1.n x.1.c,.int .i64 (x.2.sure:Int)]⟩ 95 (0,0))) (b:=b) (mPut es1 c1 (.string x.2.nm) (.pointer (some ⟨b4,0,none⟩))) (by rw[q1];simp)
  have C5:Ck [0] _ _:=O5.ck q1
  refine⟨at_of (K4 _ _ hdb) 1,b,es1,c1,rfl,q1,q2,?_⟩
  rw[inc_i (n:=100000000) (by omega) (by omega)]
  refine⟨⟨L1++[x],L2,X++[⟨b4,x.1,⟨x.2.data,x.2.sure⟩⟩],by simp,by simp,?_,by simp[hXd],by simp[hXf],⟨λk y n e=>?_,λk e=>O.dom k (K4.dom k (O5.dom k e))⟩,O5.keep _ _ (λe=>hbdb e.symm) (K4 _ _ hdb),C5.buf (by decide) (Br.keep K4),λy hy=>C5.buf (by decide) ((Bd y hy).keep K4)⟩,by simp only[length_append,length_cons];omega⟩
  ·rw[map_append,putAll_app,Nat.zero_add,length_map,<- hXl]
   exact q3
  ·exact O5.keep k y (λe'=>by rw[e',hbn] at e;cases e) (K4 _ _ (O.keep k y n e))
 ·have hL2:L2=[]:=eq_nil_of_length_eq_zero (by omega)
  subst hL2
  rw[append_nil] at e1
  obtain⟨es,c,hm,M⟩:=W.mp
  refine⟨A.db,0,rfl,some b,at_of hdb 1,clone_p hm λb' hb'=>⟨some b',rfl,?_⟩⟩
  have K5:=Keep.new hb' (.map es c)
  have hx':=new_at h3 b' (.map es c)
  have g0:=K5 _ _ hdb
  have g1:=wr_cells (o:=0+2) (vs:=[.map (some b')]) g0
  have g2:=wr_cells (o:=0+3) (vs:=[.slice none 0 0]) g1
  have g3:=wr_cells (o:=0+4) (vs:=[.int .i64 0,.int .i64 0,.int .i64 0,.int .i64 0]) g2
  have g4:=wr_cells (o:=0+8) (vs:=[.bool false]) g3
  have OO:=((one_wr (o:=0+2) (vs:=[.map (some b')]) g0).trans (one_wr (o:=0+3) (vs:=[.slice none 0 0]) g1)).trans ((one_wr (o:=0+4) (vs:=[.int .i64 0,.int .i64 0,.int .i64 0,.int .i64 0]) g2).trans (one_wr (o:=0+8) (vs:=[.bool false]) g3))
  refine⟨A.db,0,rfl,canW_new g0 (by simp),A.db,0,rfl,canW_new g1 (by simp[setL]),A.db,0,rfl,canW_new g2 (by simp[setL]),A.db,0,rfl,canW_new g3 (by simp[setL]),?_⟩
  have CC:=OO.ck g0
  generalize ((((h3.new b' (.map es c)).wr A.db (0+2) [.map (some b')]).wr A.db (0+3) [.slice none 0 0]).wr A.db (0+4) [.int .i64 0,.int .i64 0,.int .i64 0,.int .i64 0]).wr A.db (0+8) [.bool false]=h5 at g4 OO CC ⊢
  have W5:=W.keep K5
  have hfl:X.map (·.f)=(fresh S.room R).fl:=by rw[hXf,<- e1];unfold fresh;dsimp only;rw[List.map_map];rfl
  rw[e1] at M
  refine hQ h5 ⟨A.db,b,b',⟨none,0,0⟩,X⟩ rfl ⟨⟨0,0,0,0,λ_=>⟨rfl,rfl,rfl,rfl⟩,g4⟩,⟨es,c,CC.keep _ _ (K5 _ _ hm) (by simp[kd]),M⟩,⟨es,c,CC.keep _ _ hx' (by simp[kd]),M⟩,ne_of hm hb',Buf.nil _ _ _,hfl,W5.fx.mono λk y hk e=>?_⟩ ⟨λk y n e=>?_,λk e=>O.dom k (K5.dom k (OO.dom k e)),λk d=>?_⟩
  ·obtain⟨cc,tt,al,ht⟩:=W5.fx.alive hk
   rw[e] at al;cases al
   exact CC.keep _ _ e (by rcases ht with ht|ht<;>simp[kd,ht])
  ·have hk:k≠A.db:=by rintro rfl;exact n (.inl rfl)
   exact OO.keep k y hk (K5 _ _ (O.keep k y hk e))
  ·rcases d with d|d|d|d|d
   ·exact .inl (.inl d)
   ·exact .inr (by rw[show k=b from d];exact hbn)
   ·exact .inr (by rw[show k=b' from d];exact O.dom _ hb')
   ·exact(inS_nil k d).elim
   ·exact .inr (W.fn k d)
def rcell(x:Sl×RawF):List Value:=[.string x.2.nm,.slice x.1.a x.1.n x.1.c,.int .i64 x.2.sure]
def rV(L:List (Sl×RawF)):List Value:=L.flatMap rcell
theorem rV_len(L:List (Sl×RawF)):(rV L).length=L.length*3:=by
 unfold rV
 induction L with
 |nil=>rfl
 |cons c l ih=>rw[List.flatMap_cons,length_append,ih,length_cons];show 3+_=_;omega
structure RA(h:Hp)(l:Sl)(L:List (Sl×RawF)):Prop where
 b:h.row l.a (l.n*3) (rV L)
 d:∀ x∈L,h.row x.1.a (x.1.n*1) (bl x.2.data)/\x.1.n<=x.1.c/\(x.1.a=none->x.1.n=0)
theorem RA.keep{l:Sl}{L:List (Sl×RawF)}(R:RA h l L)(K:Keep h h'):RA h' l L:=⟨K.row R.b,λx hx=>⟨K.row (R.d x hx).1,(R.d x hx).2⟩⟩
theorem RA.len{l:Sl}{L:List (Sl×RawF)}(R:RA h l L):l.n=L.length:=by have:=R.b.1;rw[rV_len] at this;omega
theorem RA.at{l:Sl}{L1 L2:List (Sl×RawF)}{x:Sl×RawF}(R:RA h l (L1++x::L2)):∃ b o,l.a=some ⟨b,o,none⟩/\((0:Int)<=(L1.length:Int)/\(L1.length:Int)<(l.n:Int)) /\
  h.at b (o+(L1.length:Int).toNat*3)=some (.string x.2.nm)/\h.at b ((o+(L1.length:Int).toNat*3)+1)=some (.slice x.1.a x.1.n x.1.c)/\h.at b ((o+(L1.length:Int).toNat*3)+2)=some (.int .i64 x.2.sure):=by
 have hl:=R.len
 rw[length_append,length_cons] at hl
 obtain⟨b,o,ha,hat⟩:=row_get R.b (i:=L1.length*3) (by omega)
 have hv:rV (L1++x::L2)=rV L1++Value.string x.2.nm::.slice x.1.a x.1.n x.1.c::.int .i64 x.2.sure::rV L2:=by unfold rV;simp[rcell]
 obtain⟨g0,g1,g2⟩:=get3 (.string x.2.nm) (.slice x.1.a x.1.n x.1.c) (.int .i64 x.2.sure) (rV L2) (rV L1)
 rw[<- hv,rV_len] at g0 g1 g2
 rw[Int.toNat_natCast]
 exact⟨b,o,ha,⟨by omega,by omega⟩,(hat _ (by omega)).trans g0,by rw[Nat.add_assoc];exact(hat _ (by omega)).trans g1,by rw[Nat.add_assoc];exact(hat _ (by omega)).trans g2⟩
theorem new_p{room:Int}{l:Sl}{L:List (Sl×RawF)}(R:RA h l L)(hroom:room<=9223372036854775807)(hnm:∀ x∈L,x.2.nm.size<=9223372036854775807)
  (hQn:newOk room (L.map (·.2))=false->∀ h',Keep h h'->Q (.tuple ⟨[.pointer none,.int .i64 36]⟩) h')
  (hQs:newOk room (L.map (·.2))=true->∀ h' A',Keep h h'->(∀ k,A'.own k->h k=none)->PD h' A' (fresh room (L.map λx=>x.2.f))->Q (.tuple ⟨[.pointer (some ⟨A'.db,0,none⟩),.int .i64 0]⟩) h'):F7.T room l h Q:=by
 intro b hbn b1 hb1
 have hln:=R.len
 have K0:=Keep.new hbn (.map #[] 0)
 have hmb:=new_at h b (.map #[] 0)
 have Ka:=Keep.new hb1 (.cells ⟨[.int .i64 room,.map (some b),.map none,.slice none 0 0,.int .i64 0,.int .i64 0,.int .i64 0,.int .i64 0,.bool false]⟩ 91 (0,0))
 have hx1:=new_at (h.new b (.map #[] 0)) b1 (.cells ⟨[.int .i64 room,.map (some b),.map none,.slice none 0 0,.int .i64 0,.int .i64 0,.int .i64 0,.int .i64 0,.bool false]⟩ 91 (0,0))
 have hb1n:h b1=none:=K0.dom _ hb1
 have hb1b:b1≠b:=λe=>by rw[e,hmb] at hb1;cases hb1
 have hmb2:=Ka _ _ hmb
 generalize (h.new b (.map #[] 0)).new b1 (.cells ⟨[.int .i64 room,.map (some b),.map none,.slice none 0 0,.int .i64 0,.int .i64 0,.int .i64 0,.int .i64 0,.bool false]⟩ 91 (0,0))=h0 at Ka hx1 hmb2 ⊢
 refine⟨λhneg=>hQn (by unfold newOk;rw[decide_eq_false (by omega)];rfl) h0 (K0.trans Ka),λhpos=>⟨λhbig=>hQn (by unfold newOk;rw[length_map,decide_eq_false (by omega:¬ (L.length:Int)<=8388608)];simp) h0 (K0.trans Ka),λhsm=>?_⟩⟩
 refine⟨λall i h1=>∃ L1 L2 X,L=L1++L2/\i=(L1.length:Int)/\all=rawSum (L1.map (·.2))/\all<=(L1.length:Int)*2147483648/\0<=all/\Bld h h1 b X (putAll 0 [] (L1.map λx=>x.2.f))/\X.map (·.f)=L1.map (λx=>⟨x.2.f.data,x.2.f.sure⟩) /\
  rawOk 0 [] (L.map (·.2))=rawOk L1.length (putAll 0 [] (L1.map λx=>x.2.f)) (L2.map (·.2))/\(room=0\/all<=room)/\Keep h h1/\h1 b1=some (.cells ⟨[.int .i64 room,.map (some b),.map none,.slice none 0 0,.int .i64 0,.int .i64 0,.int .i64 0,.int .i64 0,.bool false]⟩ 91 (0,0)),λ_ i _=>L.length-i.toNat,
  ⟨[],L,[],rfl,rfl,rfl,Int.le_refl _,Int.le_refl _,⟨⟨#[],0,hmb2,SM.empty _ _⟩,hbn,⟨λx hx=>(by cases hx),λx hx=>(by cases hx),λi j x y hx=>(by simp at hx)⟩,λk hk=>(by obtain⟨x,hx,_⟩:=hk;cases hx),DirOk.nil _⟩,rfl,rfl,.inr (by omega),K0.trans Ka,hx1⟩,?_⟩
 rintro all i h1 ⟨L1,L2,X,rfl,rfl,hall,hle,hall0,W,hXf,hraw,hrm,K1,hb1'⟩
 rw[length_append] at hln
 refine⟨λhlt=>?_,λhge=>?_⟩
 ·rcases L2 with _|⟨x,L2⟩
  ·exact absurd hlt (by simp at hln;omega)
  rw[length_cons] at hln
  have hmx:x∈L1++x::L2:=by simp
  obtain⟨b2,o,ha,hrg,g0,g1,g2⟩:=(R.keep K1).at
  have hxr:=(R.keep K1).d x hmx
  have hxn:(x.1.n:Int)=(x.2.data.length:Int):=by have:=hxr.1.1;rw[bl_len] at this;omega
  have bad:x.2.ok (putAll 0 [] (L1.map λx=>x.2.f))=false->newOk room ((L1++x::L2).map (·.2))=false:=λhx=>by
   have:rawOk 0 [] ((L1++x::L2).map (·.2))=false:=by
    rw[hraw]
    show(x.2.ok _ && _)=false
    rw[hx];rfl
   unfold newOk
   rw[this];simp
  refine⟨b2,o,ha,hrg,x.2.nm,g0,x.1,g1,x.2.sure,g2,name_spec (hnm x hmx) λh2 K2=>⟨nameOk x.2.nm,rfl,λhnok=>?_,λhnok=>hQn (bad (by unfold RawF.ok;rw[hnok];rfl)) h2 (K1.trans K2)⟩⟩
  obtain⟨es,c,hm,M⟩:=W.mp
  have hm2:=K2 _ _ hm
  have hb2:=K2 _ _ hb1'
  refine⟨some b,at_of hb2 1,es,c,hm2,M.fit _,?_⟩
  rw[M.get]
  cases hg:dget (putAll 0 [] (L1.map λx=>x.2.f)) x.2.nm with
  |some j=>
   have hj:=W.ix.i _ (dget_mem hg)
   have hXj:X[j]?=some X[j]:=getElem?_eq_getElem hj
   refine⟨some ⟨X[j].b,0,none⟩,by show pid _ _=_;unfold pid;rw[getElem?_map,hXj];rfl,okPtr_none _ _,λh=>(by cases h),λ_=>hQn (bad (by unfold RawF.ok;rw[hg];simp)) h2 (K1.trans K2)⟩
  |none=>
   refine⟨none,rfl,okPtr_none _ _,λ_=>?_,λh=>absurd rfl h⟩
   rw[hxn]
   refine⟨λh31=>hQn (bad (by unfold RawF.ok;rw[decide_eq_false (by omega:¬ (x.2.data.length:Int)<=2147483648)];simp)) h2 (K1.trans K2),λh31=>⟨λhs0=>hQn (bad (by unfold RawF.ok;rw[decide_eq_false (by omega:¬ 0<=x.2.sure)];simp)) h2 (K1.trans K2),λhs0=>⟨λhs1=>hQn (bad (by unfold RawF.ok;rw[decide_eq_false (by omega:¬ x.2.sure<=(x.2.data.length:Int))];simp)) h2 (K1.trans K2),λhs1=>?_⟩⟩⟩
   have hxok:x.2.ok (putAll 0 [] (L1.map λx=>x.2.f))=true:=by
    unfold RawF.ok
    rw[hnok,hg,decide_eq_true (by omega:(x.2.data.length:Int)<=2147483648),decide_eq_true (by omega:0<=x.2.sure),decide_eq_true (by omega:x.2.sure<=(x.2.data.length:Int))];rfl
   rw[wrap_i64 (by omega) (by omega)]
   refine⟨λhr0=>?_,λhr0=>⟨λhover=>hQn ?_ h2 (K1.trans K2),λhfit=>?_⟩⟩
   ·have hroom':room=0\/all+(x.2.data.length:Int)<=room:=.inl hr0
    refine⟨some b,at_of hb2 1,?_⟩
    refine clone_bytes (h:=h2) (v:=x.2.data) (K2.row hxr.1) hxr.2.1 hxr.2.2 (by omega) λh3 l2 K3 B3 N3=>⟨l2,rfl,at_of (K3 _ _ hb2) 1,λb4 hb4=>?_⟩
    have K4:=Keep.new hb4 (.cells ⟨[.slice l2.a l2.n l2.c,.int .i64 x.2.sure]⟩ 95 (0,0))
    have hb5:=K4 _ _ (K3 _ _ hb2)
    have Kh3:Keep h h3:=K1.trans (K2.trans K3)
    have Wk:=(W.keep K2).keep K3
    have hs0:(x.2.f.sure:Int)=x.2.sure:=by show((x.2.sure.toNat:Nat):Int)=_;omega
    obtain⟨es1,c1,e1,e2,e3⟩:=bld_put Wk hb4 (Kh3.dom _ hb4) (f:=⟨x.2.f.data,x.2.f.sure⟩) (nm:=x.2.nm) (name_size hnok) B3 (N3.mono (λk e=>K1.dom k (K2.dom k e))) (λk hk ho=>by
     obtain⟨cc,tt,al,_⟩:=(W.keep K2).fx.alive ho
     rw[newN_in N3 hk] at al;cases al) (h1:=h3.new b4 (.cells ⟨[.slice l2.a l2.n l2.c,.int .i64 x.2.sure]⟩ 95 (0,0))) (by dsimp only;rw[hs0])
    refine⟨at_of hb5 1,b,es1,c1,rfl,e1,e2,?_⟩
    have O5:=One.new (h:=h3.new b4 (.cells ⟨[.slice l2.a l2.n l2.c,.int .i64 x.2.sure]⟩ 95 (0,0))) (b:=b) (mPut es1 c1 (.string x.2.nm) (.pointer (some ⟨b4,0,none⟩))) (by rw[e1];simp)
    rw[inc_i (n:=100000000) (by omega) (by omega)]
    refine⟨⟨L1++[x],L2,X++[⟨b4,l2,⟨x.2.f.data,x.2.f.sure⟩⟩],by simp,by simp,by rw[map_append,rawSum_app,<- hall];show _=_+((x.2.data.length:Int)+0);omega,by simp only[length_append,length_singleton];omega,by omega,?_,by simp[hXf,RawF.f],?_,hroom',(Kh3.trans K4).one O5 hbn,O5.keep _ _ hb1b hb5⟩,by simp only[length_append,length_cons];omega⟩
    ·rw[map_append,putAll_app,Nat.zero_add,length_map]
     have hXl:X.length=L1.length:=by have:=congrArg List.length hXf;simpa using this
     rw[<- hXl]
     exact e3
    ·rw[hraw]
     show(x.2.ok _ && rawOk _ _ _)=_
     rw[hxok,Bool.true_and,map_append,putAll_app,length_append,Nat.zero_add,length_map]
     rfl
   ·have hsum:rawSum ((L1++x::L2).map (·.2))=all+((x.2.data.length:Int)+rawSum (L2.map (·.2))):=by rw[map_append,rawSum_app,<- hall];rfl
    have:=rawSum_nn (L2.map (·.2))
    unfold newOk
    have hno:¬ all+((x.2.data.length:Int)+rawSum (L2.map (·.2)))<=room:=by omega
    rw[hsum,decide_eq_false hr0,decide_eq_false hno]
    simp
   ·have hroom':room=0\/all+(x.2.data.length:Int)<=room:=.inr (by omega)
    refine⟨some b,at_of hb2 1,?_⟩
    refine clone_bytes (h:=h2) (v:=x.2.data) (K2.row hxr.1) hxr.2.1 hxr.2.2 (by omega) λh3 l2 K3 B3 N3=>⟨l2,rfl,at_of (K3 _ _ hb2) 1,λb4 hb4=>?_⟩
    have K4:=Keep.new hb4 (.cells ⟨[.slice l2.a l2.n l2.c,.int .i64 x.2.sure]⟩ 95 (0,0))
    have hb5:=K4 _ _ (K3 _ _ hb2)
    have Kh3:Keep h h3:=K1.trans (K2.trans K3)
    have Wk:=(W.keep K2).keep K3
    have hs0:(x.2.f.sure:Int)=x.2.sure:=by show((x.2.sure.toNat:Nat):Int)=_;omega
    obtain⟨es1,c1,e1,e2,e3⟩:=bld_put Wk hb4 (Kh3.dom _ hb4) (f:=⟨x.2.f.data,x.2.f.sure⟩) (nm:=x.2.nm) (name_size hnok) B3 (N3.mono (λk e=>K1.dom k (K2.dom k e))) (λk hk ho=>by
     obtain⟨cc,tt,al,_⟩:=(W.keep K2).fx.alive ho
     rw[newN_in N3 hk] at al;cases al) (h1:=h3.new b4 (.cells ⟨[.slice l2.a l2.n l2.c,.int .i64 x.2.sure]⟩ 95 (0,0))) (by dsimp only;rw[hs0])
    refine⟨at_of hb5 1,b,es1,c1,rfl,e1,e2,?_⟩
    have O5:=One.new (h:=h3.new b4 (.cells ⟨[.slice l2.a l2.n l2.c,.int .i64 x.2.sure]⟩ 95 (0,0))) (b:=b) (mPut es1 c1 (.string x.2.nm) (.pointer (some ⟨b4,0,none⟩))) (by rw[e1];simp)
    rw[inc_i (n:=100000000) (by omega) (by omega)]
    refine⟨⟨L1++[x],L2,X++[⟨b4,l2,⟨x.2.f.data,x.2.f.sure⟩⟩],by simp,by simp,by rw[map_append,rawSum_app,<- hall];show _=_+((x.2.data.length:Int)+0);omega,by simp only[length_append,length_singleton];omega,by omega,?_,by simp[hXf,RawF.f],?_,hroom',(Kh3.trans K4).one O5 hbn,O5.keep _ _ hb1b hb5⟩,by simp only[length_append,length_cons];omega⟩
    ·rw[map_append,putAll_app,Nat.zero_add,length_map]
     have hXl:X.length=L1.length:=by have:=congrArg List.length hXf;simpa using this
     rw[<- hXl]
     exact e3
    ·rw[hraw]
     show(x.2.ok _ && rawOk _ _ _)=_
     rw[hxok,Bool.true_and,map_append,putAll_app,length_append,Nat.zero_add,length_map]
     rfl
 ·have hL2:L2=[]:=eq_nil_of_length_eq_zero (by omega)
  subst hL2
  rw[append_nil] at hraw hQs
  obtain⟨es,c,hm,M⟩:=W.mp
  refine⟨some b,at_of hb1' 1,clone_p hm λb' hb'=>⟨some b',rfl,?_⟩⟩
  have K5:=Keep.new hb' (.map es c)
  have hx':=new_at h1 b' (.map es c)
  have q0:=K5 _ _ hb1'
  have q1:=wr_cells (o:=2) (vs:=[.map (some b')]) q0
  have O:=one_wr (o:=2) (vs:=[.map (some b')]) q0
  have C:=O.ck q0
  refine⟨canW_new q0 (by simp),?_⟩
  generalize (h1.new b' (.map es c)).wr b1 2 [.map (some b')]=h5 at q1 O C ⊢
  have hok:newOk room (L1.map (·.2))=true:=by
   have hraw':rawOk 0 [] (L1.map (·.2))=true:=hraw
   unfold newOk
   rw[hraw',<- hall,length_map,decide_eq_true (by omega:0<=room),decide_eq_true (by simp at hln;omega:(L1.length:Int)<=8388608)]
   rcases hrm with h|h
   ·rw[decide_eq_true h];rfl
   ·rw[decide_eq_true h,Bool.or_true];rfl
  have W5:=W.keep K5
  refine hQs hok h5 ⟨b1,b,b',⟨none,0,0⟩,X⟩ ((K1.trans K5).one O hb1n) (λk d=>?_) ⟨⟨0,0,0,0,λ_=>⟨rfl,rfl,rfl,rfl⟩,q1⟩,⟨es,c,C.keep _ _ (K5 _ _ hm) (by simp[kd]),M⟩,⟨es,c,C.keep _ _ hx' (by simp[kd]),M⟩,ne_of hm hb',Buf.nil _ _ _,by rw[hXf];unfold fresh;dsimp only;rw[List.map_map];rfl,W5.fx.mono λk y hk e=>?_⟩
  ·rcases d with d|d|d|d|d
   ·rw[show k=b1 from d];exact hb1n
   ·rw[show k=b from d];exact hbn
   ·rw[show k=b' from d];exact K1.dom _ hb'
   ·exact(inS_nil k d).elim
   ·exact W.fn k d
  ·obtain⟨cc,tt,al,ht⟩:=W5.fx.alive hk
   rw[e] at al;cases al
   exact C.keep _ _ e (by rcases ht with ht|ht<;>simp[kd,ht])
end
end Go.Eng.YtekflkpnpibneaaGreatDoor
end
