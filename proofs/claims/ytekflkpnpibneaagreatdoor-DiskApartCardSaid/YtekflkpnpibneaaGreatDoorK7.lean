/-
  JOINED.
-/
import Derived.Test.YtekflkpnpibneaaGreatDoorK2
import Derived.Test.YtekflkpnpibneaaGreatDoorProg
import Derived.Test.YtekflkpnpibneaaGreatDoorK4
import Derived.Test.YtekflkpnpibneaaGreatDoorK6
set_option linter.unusedSimpArgs false
set_option linter.unusedVariables false
set_option maxRecDepth 100000
open Go.IntKind (wrap)
open List (length_append length_map getElem?_map map_append length_singleton map_cons mem_append_left mem_append_right mem_append mem_singleton append_nil)
section
open Go.Proofs
namespace Go.Eng.YtekflkpnpibneaaGreatDoor
def F111.an:List (Nat×Ann):=[(58,.loop [(5,.int .i64)] [])]
def F111.T(l l1:Sl):PT:=λh Q=>
 par ((l.n:Int)=(l1.n:Int)) (∃ (I:Int->Hp->Prop) (m:Int->Hp->Nat),I 0 h/\(∀ n:Int,∀ h1:Hp,I n h1->par (n<(l.n:Int)) (ix l.a n l.n λb o=>ldI .u8 h1 b (o+n.toNat) λn1=>ix l1.a n l1.n λb1 o1=>ldI .u8 h1 b1 (o1+n.toNat) λn2=>par (n1=n2) (I (wrap .i64 (n+1)) h1/\m (wrap .i64 (n+1)) h1<m n h1) (Q (.bool false) h1)) (Q (.bool true) h1))) (Q (.bool false) h)
theorem F111.den(V l l1):denF Tryz.prog [] [] V F111.an Tryz.f111 [.v (.slice l.a l.n l.c),.v (.slice l1.a l1.n l1.c)]=F111.T l l1:=by kernel_rfl
def F111.W(T111:Sl->Sl->PT)(args:List Value):PT:=match args with
 |[.slice l_a l_n l_c,.slice l1_a l1_n l1_c]=>T111 ⟨l_a,l_n,l_c⟩ ⟨l1_a,l1_n,l1_c⟩
 |_=>λ_ _=>False
def F111.V:List Value->PT:=F111.W F111.T
theorem F111.ok:FOk Tryz.prog 111 F111.V:=by
 refine⟨⟨_,Tryz.func111,rfl,rfl⟩,λ_=>?_⟩;unfold F111.V F111.W;split;exact denF_okE (GOk.nil) noV_ok Tryz.func111 (F111.den noV ⟨_,_,_⟩ ⟨_,_,_⟩);exact λ_ _ h=>h.elim
def F126.an:List (Nat×Ann):=[(58,.loop [(5,.int .i64)] [])]
def F126.G(T111:Sl->Sl->PT)(l l1:Sl):PT:=λh Q=>
 par ((l.n:Int)=(l1.n:Int)) (∃ (I:Int->Hp->Prop) (m:Int->Hp->Nat),I 0 h/\(∀ n:Int,∀ h1:Hp,I n h1->par (n<(l.n:Int)) (ix l.a n l.n λb o=>ldT h1 b (o+n.toNat*3) λs=>ldS h1 b ((o+n.toNat*3)+1) λl2=>ldI .i64 h1 b ((o+n.toNat*3)+2) λn1=>ix l1.a n l1.n λb1 o1=>ldT h1 b1 (o1+n.toNat*3) λs1=>ldS h1 b1 ((o1+n.toNat*3)+1) λl3=>ldI .i64 h1 b1 ((o1+n.toNat*3)+2) λn2=>par (s=s1) (par (n1=n2) (T111 l2 l3 h1 λr h2=>retB r (I (wrap .i64 (n+1)) h2/\m (wrap .i64 (n+1)) h2<m n h1) (Q (.bool false) h2)) (Q (.bool false) h1)) (Q (.bool false) h1)) (Q (.bool true) h1))) (Q (.bool false) h)
def F126.T:=F126.G F111.T
theorem F126.gen(V T111 l l1):denF Tryz.prog [6,7] [(111,F111.W T111)] V F126.an Tryz.f126 [.v (.slice l.a l.n l.c),.v (.slice l1.a l1.n l1.c)]=F126.G T111 l l1:=by kernel_rfl
def F126.W(T126:Sl->Sl->PT)(args:List Value):PT:=match args with
 |[.slice l_a l_n l_c,.slice l1_a l1_n l1_c]=>T126 ⟨l_a,l_n,l_c⟩ ⟨l1_a,l1_n,l1_c⟩
 |_=>λ_ _=>False
def F126.V:List Value->PT:=F126.W F126.T
theorem F126.ok:FOk Tryz.prog 126 F126.V:=by
 refine⟨⟨_,Tryz.func126,rfl,rfl⟩,λ_=>?_⟩;unfold F126.V F126.W;split;exact denF_okE (GOk.cons F111.ok (GOk.nil)) noV_ok Tryz.func126 (F126.gen noV F111.T ⟨_,_,_⟩ ⟨_,_,_⟩);exact λ_ _ h=>h.elim
def F109.an:List (Nat×Ann):=[]
def F109.T(p:Option Addr)(n:Int):PT:=λh Q=>
 dr p λb o=>ldB h b o (dr p λb1 o1=>ldI .i64 h b1 (o1+2) λn1=>Q (.int .i64 n1) h) ((3:Int)≠0/\par ((Int.tmod n 3)=0) (dr p λb2 o2=>ldI .i64 h b2 (o2+2) λn2=>Q (.int .i64 n2) h) ((3:Int)≠0/\par ((Int.tmod n 3)=1) (dr p λb3 o3=>ldI .i64 h b3 (o3+2) λn3=>(3:Int)≠0/\(8:Int)≠0/\Q (.int .i64 (wrap .i64 ((wrap .i64 (n3+1))+(Int.tmod (wrap .i64 (Int.tdiv n 3)) 8)))) h) (dr p λb4 o4=>ldI .i64 h b4 (o4+2) λn4=>Q (.int .i64 (wrap .i64 (n4+1))) h)))
theorem F109.den(V p n):denF Tryz.prog [] [] V F109.an Tryz.f109 [.v (.pointer p),.v (.int .i64 n)]=F109.T p n:=by kernel_rfl
def F109.W(T109:Option Addr->Int->PT)(args:List Value):PT:=match args with
 |[.pointer p,.int .i64 n]=>T109 p n
 |_=>λ_ _=>False
def F109.V:List Value->PT:=F109.W F109.T
theorem F109.ok:FOk Tryz.prog 109 F109.V:=by
 refine⟨⟨_,Tryz.func109,rfl,rfl⟩,λ_=>?_⟩;unfold F109.V F109.W;split;exact denF_okE (GOk.nil) noV_ok Tryz.func109 (F109.den noV _ _);exact λ_ _ h=>h.elim
def F139.an:List (Nat×Ann):=[(510,.loop [(6,.int .i64)] []),(65319,.join [] []),(130636,.order [0,1,2,3,4,5,6,7,8]),(1045098,.order [0,1,2,3,4,5,6,7,8,9,10,11,12,13]),(1045114,.loop [(9,.int .i64)] []),(1045118,.order [0,1,2,3,4,6,5,7,8,9,10,11,12]),(4180398,.order [0,1,2,3,4,5,6,7,8,9,10,11,12,13])]
def F139.G(T111:Sl->Sl->PT)(p:Option Addr):PT:=λh Q=>
 dr p λb o=>ldS h b (o+6) λl=>dr p λb1 o1=>ldS h b1 (o1+7) λl1=>dr p λb2 o2=>ldS h b2 (o2+9) λl2=>dr p λb3 o3=>ldS h b3 (o3+10) λl3=>par ((l.n:Int)=0) (Q (.tuple ⟨[]⟩) h) (dr p λb4 o4=>st h b4 (o4+6) 1 [.slice none 0 0] λh1=>dr p λb5 o5=>st h1 b5 (o5+7) 1 [.slice none 0 0] λh2=>dr p λb6 o6=>st h2 b6 (o6+9) 1 [.slice none 0 0] λh3=>dr p λb7 o7=>st h3 b7 (o7+10) 1 [.slice none 0 0] λh4=>∃ (I:Int->Hp->Prop) (m:Int->Hp->Nat),I 0 h4/\(∀ n:Int,∀ h5:Hp,I n h5->par (n<(l.n:Int)) (ix l.a n l.n λb8 o8=>ldS h5 b8 (o8+n.toNat) λl4=>ix l2.a n l2.n λb9 o9=>ldI .i64 h5 b9 (o9+n.toNat) λn1=>ix l3.a n l3.n λb10 o10=>ldI .i64 h5 b10 (o10+n.toNat) λn2=>dr p λb11 o11=>ldI .i64 h5 b11 (o11+2) λn3=>par (n3<n2) (dr p λb12 o12=>ldS h5 b12 (o12+6) λl5=>appendD l5 53 1 24 [.slice none 0 0] 1 [.slice l4.a l4.n l4.c] h5 λl6 h6=>dr p λb13 o13=>st h6 b13 (o13+6) 1 [.slice l6.a l6.n l6.c] λh7=>dr p λb14 o14=>ldS h7 b14 (o14+7) λl7=>ix l1.a n l1.n λb15 o15=>ldS h7 b15 (o15+n.toNat) λl8=>h7.at b14 (o14+7)=some (.slice l7.a l7.n l7.c)/\appendD l7 53 1 24 [.slice none 0 0] 1 [.slice l8.a l8.n l8.c] h7 λl9 h8=>dr p λb16 o16=>st h8 b16 (o16+7) 1 [.slice l9.a l9.n l9.c] λh9=>dr p λb17 o17=>ldS h9 b17 (o17+9) λl10=>appendD l10 3 1 8 [.int .i64 0] 1 [.int .i64 n1] h9 λl11 h10=>dr p λb18 o18=>st h10 b18 (o18+9) 1 [.slice l11.a l11.n l11.c] λh11=>dr p λb19 o19=>ldS h11 b19 (o19+10) λl12=>ix l3.a n l3.n λb20 o20=>ldI .i64 h11 b20 (o20+n.toNat) λn4=>h11.at b19 (o19+10)=some (.slice l12.a l12.n l12.c)/\appendD l12 3 1 8 [.int .i64 0] 1 [.int .i64 n4] h11 λl13 h12=>dr p λb21 o21=>st h12 b21 (o21+10) 1 [.slice l13.a l13.n l13.c] λh13=>I (wrap .i64 (n+1)) h13/\m (wrap .i64 (n+1)) h13<m n h5) (∃ J:Hp->Prop,(∀ h14:Hp,J h14->∃ (I1:Int->Hp->Prop) (m1:Int->Hp->Nat),I1 0 h14/\(∀ n5:Int,∀ h15:Hp,I1 n5 h15->par (n5<(l4.n:Int)) (ix l4.a n5 l4.n λb22 o22=>st h15 b22 (o22+n5.toNat) 1 [.int .u8 (wrap .u8 (wrap .i64 (n1+(wrap .i64 (3*n5)))))] λh16=>I1 (wrap .i64 (n5+1)) h16/\m1 (wrap .i64 (n5+1)) h16<m1 n5 h15) (dr p λb23 o23=>ldS h15 b23 (o23+4) λl14=>appendD l14 53 1 24 [.slice none 0 0] 1 [.slice l4.a l4.n l4.c] h15 λl15 h17=>dr p λb24 o24=>st h17 b24 (o24+4) 1 [.slice l15.a l15.n l15.c] λh18=>dr p λb25 o25=>ldS h18 b25 (o25+5) λl16=>nw h18 (.cells ⟨[]⟩ 5 (0,0)) λb26 h19=>h19.at b25 (o25+5)=some (.slice l16.a l16.n l16.c)/\∃ vs,h19.row l4.a (l4.n*1) vs/\(∀ v∈vs,Value.oneCell' v=true)/\appendD ⟨(some ⟨b26,0,none⟩),0,0⟩ 5 1 1 [.int .u8 0] l4.n vs h19 λl17 h20=>h20.at b25 (o25+5)=some (.slice l16.a l16.n l16.c)/\h20.at b25 (o25+5)=some (.slice l16.a l16.n l16.c)/\appendD l16 53 1 24 [.slice none 0 0] 1 [.slice l17.a l17.n l17.c] h20 λl18 h21=>dr p λb27 o26=>st h21 b27 (o26+5) 1 [.slice l18.a l18.n l18.c] λh22=>dr p λb28 o27=>ldS h22 b28 (o27+8) λl19=>appendD l19 53 1 24 [.slice none 0 0] 1 [.slice l4.a l4.n l4.c] h22 λl20 h23=>dr p λb29 o28=>st h23 b29 (o28+8) 1 [.slice l20.a l20.n l20.c] λh24=>dr p λb30 o29=>ldS h24 b30 (o29+11) λl21=>appendD l21 3 1 8 [.int .i64 0] 1 [.int .i64 n1] h24 λl22 h25=>dr p λb31 o30=>st h25 b31 (o30+11) 1 [.slice l22.a l22.n l22.c] λh26=>I (wrap .i64 (n+1)) h26/\m (wrap .i64 (n+1)) h26<m n h5)))/\(dr p λb32 o31=>ldB h5 b32 (o31+1) (dr p λb33 o32=>st h5 b33 (o32+1) 1 [.bool true] λh27=>J h27) (dr p λb34 o33=>ldB h5 b34 o33 (dr p λb35 o34=>st h5 b35 (o34+1) 1 [.bool false] λh28=>J h28) (ix l1.a n l1.n λb36 o35=>ldS h5 b36 (o35+n.toNat) λl23=>T111 l4 l23 h5 λr h29=>retB r (dr p λb37 o36=>st h29 b37 (o36+1) 1 [.bool false] λh30=>J h30) (dr p λb38 o37=>st h29 b38 (o37+1) 1 [.bool true] λh31=>J h31)))))) (Q (.tuple ⟨[]⟩) h5)))
def F139.T:=F139.G F111.T
theorem F139.gen(V T111 p):denF Tryz.prog [70,83,93,106,153,165,175,185] [(111,F111.W T111)] V F139.an Tryz.f139 [.v (.pointer p)]=F139.G T111 p:=by kernel_rfl
def F139.W(T139:Option Addr->PT)(args:List Value):PT:=match args with
 |[.pointer p]=>T139 p
 |_=>λ_ _=>False
def F139.V:List Value->PT:=F139.W F139.T
theorem F139.ok:FOk Tryz.prog 139 F139.V:=by
 refine⟨⟨_,Tryz.func139,rfl,rfl⟩,λ_=>?_⟩;unfold F139.V F139.W;split;exact denF_okE (GOk.cons F111.ok (GOk.nil)) noV_ok Tryz.func139 (F139.gen noV F111.T _);exact λ_ _ h=>h.elim
def F140.an:List (Nat×Ann):=[(63,.cut)]
def F140.T(p:Option Addr):PT:=λh Q=>
 dr p λb o=>ldS h b (o+15) λl=>dr p λb1 o1=>ldS h b1 (o1+16) λl1=>dr p λb2 o2=>ldS h b2 (o2+18) λl2=>dr p λb3 o3=>ldS h b3 (o3+19) λl3=>par ((l.n:Int)=0) (Q (.tuple ⟨[]⟩) h) (False)
theorem F140.den(V p):denF Tryz.prog [70,83,93,106,152,164,174,184] [] V F140.an Tryz.f140 [.v (.pointer p)]=F140.T p:=by kernel_rfl
def F140.W(T140:Option Addr->PT)(args:List Value):PT:=match args with
 |[.pointer p]=>T140 p
 |_=>λ_ _=>False
def F140.V:List Value->PT:=F140.W F140.T
theorem F140.ok:FOk Tryz.prog 140 F140.V:=by
 refine⟨⟨_,Tryz.func140,rfl,rfl⟩,λ_=>?_⟩;unfold F140.V F140.W;split;exact denF_okE (GOk.nil) noV_ok Tryz.func140 (F140.den noV _);exact λ_ _ h=>h.elim
def F141.an:List (Nat×Ann):=[(63,.cut)]
def F141.T(p:Option Addr):PT:=λh Q=>
 dr p λb o=>ldS h b (o+24) λl=>dr p λb1 o1=>ldS h b1 (o1+25) λl1=>dr p λb2 o2=>ldS h b2 (o2+27) λl2=>dr p λb3 o3=>ldS h b3 (o3+28) λl3=>par ((l.n:Int)=0) (Q (.tuple ⟨[]⟩) h) (False)
theorem F141.den(V p):denF Tryz.prog [70,83,93,106,153,165,175,185] [] V F141.an Tryz.f141 [.v (.pointer p)]=F141.T p:=by kernel_rfl
def F141.W(T141:Option Addr->PT)(args:List Value):PT:=match args with
 |[.pointer p]=>T141 p
 |_=>λ_ _=>False
def F141.V:List Value->PT:=F141.W F141.T
theorem F141.ok:FOk Tryz.prog 141 F141.V:=by
 refine⟨⟨_,Tryz.func141,rfl,rfl⟩,λ_=>?_⟩;unfold F141.V F141.W;split;exact denF_okE (GOk.nil) noV_ok Tryz.func141 (F141.den noV _);exact λ_ _ h=>h.elim
def F142.an:List (Nat×Ann):=[(63,.cut)]
def F142.T(p:Option Addr):PT:=λh Q=>
 dr p λb o=>ldS h b (o+33) λl=>dr p λb1 o1=>ldS h b1 (o1+34) λl1=>dr p λb2 o2=>ldS h b2 (o2+36) λl2=>dr p λb3 o3=>ldS h b3 (o3+37) λl3=>par ((l.n:Int)=0) (Q (.tuple ⟨[]⟩) h) (False)
theorem F142.den(V p):denF Tryz.prog [70,83,93,106,153,165,175,185] [] V F142.an Tryz.f142 [.v (.pointer p)]=F142.T p:=by kernel_rfl
def F142.W(T142:Option Addr->PT)(args:List Value):PT:=match args with
 |[.pointer p]=>T142 p
 |_=>λ_ _=>False
def F142.V:List Value->PT:=F142.W F142.T
theorem F142.ok:FOk Tryz.prog 142 F142.V:=by
 refine⟨⟨_,Tryz.func142,rfl,rfl⟩,λ_=>?_⟩;unfold F142.V F142.W;split;exact denF_okE (GOk.nil) noV_ok Tryz.func142 (F142.den noV _);exact λ_ _ h=>h.elim
def F143.an:List (Nat×Ann):=[(63,.cut)]
def F143.T(p:Option Addr):PT:=λh Q=>
 dr p λb o=>ldS h b (o+42) λl=>dr p λb1 o1=>ldS h b1 (o1+43) λl1=>dr p λb2 o2=>ldS h b2 (o2+45) λl2=>dr p λb3 o3=>ldS h b3 (o3+46) λl3=>par ((l.n:Int)=0) (Q (.tuple ⟨[]⟩) h) (False)
theorem F143.den(V p):denF Tryz.prog [70,83,93,106,154,166,176,186] [] V F143.an Tryz.f143 [.v (.pointer p)]=F143.T p:=by kernel_rfl
def F143.W(T143:Option Addr->PT)(args:List Value):PT:=match args with
 |[.pointer p]=>T143 p
 |_=>λ_ _=>False
def F143.V:List Value->PT:=F143.W F143.T
theorem F143.ok:FOk Tryz.prog 143 F143.V:=by
 refine⟨⟨_,Tryz.func143,rfl,rfl⟩,λ_=>?_⟩;unfold F143.V F143.W;split;exact denF_okE (GOk.nil) noV_ok Tryz.func143 (F143.den noV _);exact λ_ _ h=>h.elim
def F144.an:List (Nat×Ann):=[(63,.cut)]
def F144.T(p:Option Addr):PT:=λh Q=>
 dr p λb o=>ldS h b (o+51) λl=>dr p λb1 o1=>ldS h b1 (o1+52) λl1=>dr p λb2 o2=>ldS h b2 (o2+54) λl2=>dr p λb3 o3=>ldS h b3 (o3+55) λl3=>par ((l.n:Int)=0) (Q (.tuple ⟨[]⟩) h) (False)
theorem F144.den(V p):denF Tryz.prog [70,83,93,106,154,166,176,186] [] V F144.an Tryz.f144 [.v (.pointer p)]=F144.T p:=by kernel_rfl
def F144.W(T144:Option Addr->PT)(args:List Value):PT:=match args with
 |[.pointer p]=>T144 p
 |_=>λ_ _=>False
def F144.V:List Value->PT:=F144.W F144.T
theorem F144.ok:FOk Tryz.prog 144 F144.V:=by
 refine⟨⟨_,Tryz.func144,rfl,rfl⟩,λ_=>?_⟩;unfold F144.V F144.W;split;exact denF_okE (GOk.nil) noV_ok Tryz.func144 (F144.den noV _);exact λ_ _ h=>h.elim
def F145.an:List (Nat×Ann):=[(63,.cut)]
def F145.T(p:Option Addr):PT:=λh Q=>
 dr p λb o=>ldS h b (o+60) λl=>dr p λb1 o1=>ldS h b1 (o1+61) λl1=>dr p λb2 o2=>ldS h b2 (o2+63) λl2=>dr p λb3 o3=>ldS h b3 (o3+64) λl3=>par ((l.n:Int)=0) (Q (.tuple ⟨[]⟩) h) (False)
theorem F145.den(V p):denF Tryz.prog [70,83,93,106,154,166,176,186] [] V F145.an Tryz.f145 [.v (.pointer p)]=F145.T p:=by kernel_rfl
def F145.W(T145:Option Addr->PT)(args:List Value):PT:=match args with
 |[.pointer p]=>T145 p
 |_=>λ_ _=>False
def F145.V:List Value->PT:=F145.W F145.T
theorem F145.ok:FOk Tryz.prog 145 F145.V:=by
 refine⟨⟨_,Tryz.func145,rfl,rfl⟩,λ_=>?_⟩;unfold F145.V F145.W;split;exact denF_okE (GOk.nil) noV_ok Tryz.func145 (F145.den noV _);exact λ_ _ h=>h.elim
def F146.an:List (Nat×Ann):=[(63,.cut)]
def F146.T(p:Option Addr):PT:=λh Q=>
 dr p λb o=>ldS h b (o+69) λl=>dr p λb1 o1=>ldS h b1 (o1+70) λl1=>dr p λb2 o2=>ldS h b2 (o2+72) λl2=>dr p λb3 o3=>ldS h b3 (o3+73) λl3=>par ((l.n:Int)=0) (Q (.tuple ⟨[]⟩) h) (False)
theorem F146.den(V p):denF Tryz.prog [70,83,93,106,154,166,176,186] [] V F146.an Tryz.f146 [.v (.pointer p)]=F146.T p:=by kernel_rfl
def F146.W(T146:Option Addr->PT)(args:List Value):PT:=match args with
 |[.pointer p]=>T146 p
 |_=>λ_ _=>False
def F146.V:List Value->PT:=F146.W F146.T
theorem F146.ok:FOk Tryz.prog 146 F146.V:=by
 refine⟨⟨_,Tryz.func146,rfl,rfl⟩,λ_=>?_⟩;unfold F146.V F146.W;split;exact denF_okE (GOk.nil) noV_ok Tryz.func146 (F146.den noV _);exact λ_ _ h=>h.elim
def F147.an:List (Nat×Ann):=[(63,.cut)]
def F147.T(p:Option Addr):PT:=λh Q=>
 dr p λb o=>ldS h b (o+78) λl=>dr p λb1 o1=>ldS h b1 (o1+79) λl1=>dr p λb2 o2=>ldS h b2 (o2+81) λl2=>dr p λb3 o3=>ldS h b3 (o3+82) λl3=>par ((l.n:Int)=0) (Q (.tuple ⟨[]⟩) h) (False)
theorem F147.den(V p):denF Tryz.prog [70,83,93,106,153,165,175,185] [] V F147.an Tryz.f147 [.v (.pointer p)]=F147.T p:=by kernel_rfl
def F147.W(T147:Option Addr->PT)(args:List Value):PT:=match args with
 |[.pointer p]=>T147 p
 |_=>λ_ _=>False
def F147.V:List Value->PT:=F147.W F147.T
theorem F147.ok:FOk Tryz.prog 147 F147.V:=by
 refine⟨⟨_,Tryz.func147,rfl,rfl⟩,λ_=>?_⟩;unfold F147.V F147.W;split;exact denF_okE (GOk.nil) noV_ok Tryz.func147 (F147.den noV _);exact λ_ _ h=>h.elim
def F148.an:List (Nat×Ann):=[(63,.cut)]
def F148.T(p:Option Addr):PT:=λh Q=>
 dr p λb o=>ldS h b (o+87) λl=>dr p λb1 o1=>ldS h b1 (o1+88) λl1=>dr p λb2 o2=>ldS h b2 (o2+90) λl2=>dr p λb3 o3=>ldS h b3 (o3+91) λl3=>par ((l.n:Int)=0) (Q (.tuple ⟨[]⟩) h) (False)
theorem F148.den(V p):denF Tryz.prog [70,83,93,106,153,165,175,185] [] V F148.an Tryz.f148 [.v (.pointer p)]=F148.T p:=by kernel_rfl
def F148.W(T148:Option Addr->PT)(args:List Value):PT:=match args with
 |[.pointer p]=>T148 p
 |_=>λ_ _=>False
def F148.V:List Value->PT:=F148.W F148.T
theorem F148.ok:FOk Tryz.prog 148 F148.V:=by
 refine⟨⟨_,Tryz.func148,rfl,rfl⟩,λ_=>?_⟩;unfold F148.V F148.W;split;exact denF_okE (GOk.nil) noV_ok Tryz.func148 (F148.den noV _);exact λ_ _ h=>h.elim
def F149.an:List (Nat×Ann):=[(63,.cut)]
def F149.T(p:Option Addr):PT:=λh Q=>
 dr p λb o=>ldS h b (o+96) λl=>dr p λb1 o1=>ldS h b1 (o1+97) λl1=>dr p λb2 o2=>ldS h b2 (o2+99) λl2=>dr p λb3 o3=>ldS h b3 (o3+100) λl3=>par ((l.n:Int)=0) (Q (.tuple ⟨[]⟩) h) (False)
theorem F149.den(V p):denF Tryz.prog [70,83,93,106,153,165,175,185] [] V F149.an Tryz.f149 [.v (.pointer p)]=F149.T p:=by kernel_rfl
def F149.W(T149:Option Addr->PT)(args:List Value):PT:=match args with
 |[.pointer p]=>T149 p
 |_=>λ_ _=>False
def F149.V:List Value->PT:=F149.W F149.T
theorem F149.ok:FOk Tryz.prog 149 F149.V:=by
 refine⟨⟨_,Tryz.func149,rfl,rfl⟩,λ_=>?_⟩;unfold F149.V F149.W;split;exact denF_okE (GOk.nil) noV_ok Tryz.func149 (F149.den noV _);exact λ_ _ h=>h.elim
def F150.an:List (Nat×Ann):=[(63,.cut)]
def F150.T(p:Option Addr):PT:=λh Q=>
 dr p λb o=>ldS h b (o+105) λl=>dr p λb1 o1=>ldS h b1 (o1+106) λl1=>dr p λb2 o2=>ldS h b2 (o2+108) λl2=>dr p λb3 o3=>ldS h b3 (o3+109) λl3=>par ((l.n:Int)=0) (Q (.tuple ⟨[]⟩) h) (False)
theorem F150.den(V p):denF Tryz.prog [70,83,93,106,154,166,176,186] [] V F150.an Tryz.f150 [.v (.pointer p)]=F150.T p:=by kernel_rfl
def F150.W(T150:Option Addr->PT)(args:List Value):PT:=match args with
 |[.pointer p]=>T150 p
 |_=>λ_ _=>False
def F150.V:List Value->PT:=F150.W F150.T
theorem F150.ok:FOk Tryz.prog 150 F150.V:=by
 refine⟨⟨_,Tryz.func150,rfl,rfl⟩,λ_=>?_⟩;unfold F150.V F150.W;split;exact denF_okE (GOk.nil) noV_ok Tryz.func150 (F150.den noV _);exact λ_ _ h=>h.elim
def F151.an:List (Nat×Ann):=[(63,.cut)]
def F151.T(p:Option Addr):PT:=λh Q=>
 dr p λb o=>ldS h b (o+114) λl=>dr p λb1 o1=>ldS h b1 (o1+115) λl1=>dr p λb2 o2=>ldS h b2 (o2+117) λl2=>dr p λb3 o3=>ldS h b3 (o3+118) λl3=>par ((l.n:Int)=0) (Q (.tuple ⟨[]⟩) h) (False)
theorem F151.den(V p):denF Tryz.prog [70,83,93,106,155,167,177,187] [] V F151.an Tryz.f151 [.v (.pointer p)]=F151.T p:=by kernel_rfl
def F151.W(T151:Option Addr->PT)(args:List Value):PT:=match args with
 |[.pointer p]=>T151 p
 |_=>λ_ _=>False
def F151.V:List Value->PT:=F151.W F151.T
theorem F151.ok:FOk Tryz.prog 151 F151.V:=by
 refine⟨⟨_,Tryz.func151,rfl,rfl⟩,λ_=>?_⟩;unfold F151.V F151.W;split;exact denF_okE (GOk.nil) noV_ok Tryz.func151 (F151.den noV _);exact λ_ _ h=>h.elim
def F152.an:List (Nat×Ann):=[(63,.cut)]
def F152.T(p:Option Addr):PT:=λh Q=>
 dr p λb o=>ldS h b (o+123) λl=>dr p λb1 o1=>ldS h b1 (o1+124) λl1=>dr p λb2 o2=>ldS h b2 (o2+126) λl2=>dr p λb3 o3=>ldS h b3 (o3+127) λl3=>par ((l.n:Int)=0) (Q (.tuple ⟨[]⟩) h) (False)
theorem F152.den(V p):denF Tryz.prog [70,83,93,106,155,167,177,187] [] V F152.an Tryz.f152 [.v (.pointer p)]=F152.T p:=by kernel_rfl
def F152.W(T152:Option Addr->PT)(args:List Value):PT:=match args with
 |[.pointer p]=>T152 p
 |_=>λ_ _=>False
def F152.V:List Value->PT:=F152.W F152.T
theorem F152.ok:FOk Tryz.prog 152 F152.V:=by
 refine⟨⟨_,Tryz.func152,rfl,rfl⟩,λ_=>?_⟩;unfold F152.V F152.W;split;exact denF_okE (GOk.nil) noV_ok Tryz.func152 (F152.den noV _);exact λ_ _ h=>h.elim
def F153.an:List (Nat×Ann):=[(63,.cut)]
def F153.T(p:Option Addr):PT:=λh Q=>
 dr p λb o=>ldS h b (o+132) λl=>dr p λb1 o1=>ldS h b1 (o1+133) λl1=>dr p λb2 o2=>ldS h b2 (o2+135) λl2=>dr p λb3 o3=>ldS h b3 (o3+136) λl3=>par ((l.n:Int)=0) (Q (.tuple ⟨[]⟩) h) (False)
theorem F153.den(V p):denF Tryz.prog [70,83,93,106,155,167,177,187] [] V F153.an Tryz.f153 [.v (.pointer p)]=F153.T p:=by kernel_rfl
def F153.W(T153:Option Addr->PT)(args:List Value):PT:=match args with
 |[.pointer p]=>T153 p
 |_=>λ_ _=>False
def F153.V:List Value->PT:=F153.W F153.T
theorem F153.ok:FOk Tryz.prog 153 F153.V:=by
 refine⟨⟨_,Tryz.func153,rfl,rfl⟩,λ_=>?_⟩;unfold F153.V F153.W;split;exact denF_okE (GOk.nil) noV_ok Tryz.func153 (F153.den noV _);exact λ_ _ h=>h.elim
def F154.an:List (Nat×Ann):=[(510,.loop [(6,.int .i64)] []),(65319,.join [] []),(130636,.order [0,1,2,3,4,5,6,7,8]),(1045098,.order [0,1,2,3,4,5,6,7,8,9,10,11,12,13]),(1045114,.loop [(9,.int .i64)] []),(1045118,.order [0,1,2,3,4,6,5,7,8,9,10,11,12]),(4180398,.order [0,1,2,3,4,5,6,7,8,9,10,11,12,13])]
def F154.G(T126:Sl->Sl->PT)(p:Option Addr):PT:=λh Q=>
 dr p λb o=>ldS h b (o+141) λl=>dr p λb1 o1=>ldS h b1 (o1+142) λl1=>dr p λb2 o2=>ldS h b2 (o2+144) λl2=>dr p λb3 o3=>ldS h b3 (o3+145) λl3=>par ((l.n:Int)=0) (Q (.tuple ⟨[]⟩) h) (dr p λb4 o4=>st h b4 (o4+141) 1 [.slice none 0 0] λh1=>dr p λb5 o5=>st h1 b5 (o5+142) 1 [.slice none 0 0] λh2=>dr p λb6 o6=>st h2 b6 (o6+144) 1 [.slice none 0 0] λh3=>dr p λb7 o7=>st h3 b7 (o7+145) 1 [.slice none 0 0] λh4=>∃ (I:Int->Hp->Prop) (m:Int->Hp->Nat),I 0 h4/\(∀ n:Int,∀ h5:Hp,I n h5->par (n<(l.n:Int)) (ix l.a n l.n λb8 o8=>ldS h5 b8 (o8+n.toNat) λl4=>ix l2.a n l2.n λb9 o9=>ldI .i64 h5 b9 (o9+n.toNat) λn1=>ix l3.a n l3.n λb10 o10=>ldI .i64 h5 b10 (o10+n.toNat) λn2=>dr p λb11 o11=>ldI .i64 h5 b11 (o11+2) λn3=>par (n3<n2) (dr p λb12 o12=>ldS h5 b12 (o12+141) λl5=>appendD l5 22 1 24 [.slice none 0 0] 1 [.slice l4.a l4.n l4.c] h5 λl6 h6=>dr p λb13 o13=>st h6 b13 (o13+141) 1 [.slice l6.a l6.n l6.c] λh7=>dr p λb14 o14=>ldS h7 b14 (o14+142) λl7=>ix l1.a n l1.n λb15 o15=>ldS h7 b15 (o15+n.toNat) λl8=>h7.at b14 (o14+142)=some (.slice l7.a l7.n l7.c)/\appendD l7 22 1 24 [.slice none 0 0] 1 [.slice l8.a l8.n l8.c] h7 λl9 h8=>dr p λb16 o16=>st h8 b16 (o16+142) 1 [.slice l9.a l9.n l9.c] λh9=>dr p λb17 o17=>ldS h9 b17 (o17+144) λl10=>appendD l10 3 1 8 [.int .i64 0] 1 [.int .i64 n1] h9 λl11 h10=>dr p λb18 o18=>st h10 b18 (o18+144) 1 [.slice l11.a l11.n l11.c] λh11=>dr p λb19 o19=>ldS h11 b19 (o19+145) λl12=>ix l3.a n l3.n λb20 o20=>ldI .i64 h11 b20 (o20+n.toNat) λn4=>h11.at b19 (o19+145)=some (.slice l12.a l12.n l12.c)/\appendD l12 3 1 8 [.int .i64 0] 1 [.int .i64 n4] h11 λl13 h12=>dr p λb21 o21=>st h12 b21 (o21+145) 1 [.slice l13.a l13.n l13.c] λh13=>I (wrap .i64 (n+1)) h13/\m (wrap .i64 (n+1)) h13<m n h5) (∃ J:Hp->Prop,(∀ h14:Hp,J h14->∃ (I1:Int->Hp->Prop) (m1:Int->Hp->Nat),I1 0 h14/\(∀ n5:Int,∀ h15:Hp,I1 n5 h15->par (n5<(l4.n:Int)) (ix l4.a n5 l4.n λb22 o22=>st h15 b22 (o22+n5.toNat*3) 3 [.string ⟨#[]⟩,.slice none 0 0,.int .i64 (wrap .i64 (n1+(wrap .i64 (3*n5))))] λh16=>I1 (wrap .i64 (n5+1)) h16/\m1 (wrap .i64 (n5+1)) h16<m1 n5 h15) (dr p λb23 o23=>ldS h15 b23 (o23+139) λl14=>appendD l14 22 1 24 [.slice none 0 0] 1 [.slice l4.a l4.n l4.c] h15 λl15 h17=>dr p λb24 o24=>st h17 b24 (o24+139) 1 [.slice l15.a l15.n l15.c] λh18=>dr p λb25 o25=>ldS h18 b25 (o25+140) λl16=>nw h18 (.cells ⟨[]⟩ 55 (0,0)) λb26 h19=>h19.at b25 (o25+140)=some (.slice l16.a l16.n l16.c)/\∃ vs,h19.row l4.a (l4.n*3) vs/\(∀ v∈vs,Value.oneCell' v=true)/\appendD ⟨(some ⟨b26,0,none⟩),0,0⟩ 55 3 48 [.string ⟨#[]⟩,.slice none 0 0,.int .i64 0] l4.n vs h19 λl17 h20=>h20.at b25 (o25+140)=some (.slice l16.a l16.n l16.c)/\h20.at b25 (o25+140)=some (.slice l16.a l16.n l16.c)/\appendD l16 22 1 24 [.slice none 0 0] 1 [.slice l17.a l17.n l17.c] h20 λl18 h21=>dr p λb27 o26=>st h21 b27 (o26+140) 1 [.slice l18.a l18.n l18.c] λh22=>dr p λb28 o27=>ldS h22 b28 (o27+143) λl19=>appendD l19 22 1 24 [.slice none 0 0] 1 [.slice l4.a l4.n l4.c] h22 λl20 h23=>dr p λb29 o28=>st h23 b29 (o28+143) 1 [.slice l20.a l20.n l20.c] λh24=>dr p λb30 o29=>ldS h24 b30 (o29+146) λl21=>appendD l21 3 1 8 [.int .i64 0] 1 [.int .i64 n1] h24 λl22 h25=>dr p λb31 o30=>st h25 b31 (o30+146) 1 [.slice l22.a l22.n l22.c] λh26=>I (wrap .i64 (n+1)) h26/\m (wrap .i64 (n+1)) h26<m n h5)))/\(dr p λb32 o31=>ldB h5 b32 (o31+1) (dr p λb33 o32=>st h5 b33 (o32+1) 1 [.bool true] λh27=>J h27) (dr p λb34 o33=>ldB h5 b34 o33 (dr p λb35 o34=>st h5 b35 (o34+1) 1 [.bool false] λh28=>J h28) (ix l1.a n l1.n λb36 o35=>ldS h5 b36 (o35+n.toNat) λl23=>T126 l4 l23 h5 λr h29=>retB r (dr p λb37 o36=>st h29 b37 (o36+1) 1 [.bool false] λh30=>J h30) (dr p λb38 o37=>st h29 b38 (o37+1) 1 [.bool true] λh31=>J h31)))))) (Q (.tuple ⟨[]⟩) h5)))
def F154.T:=F154.G F126.T
theorem F154.gen(V T126 p):denF Tryz.prog [70,83,93,106,153,165,175,185] [(126,F126.W T126)] V F154.an Tryz.f154 [.v (.pointer p)]=F154.G T126 p:=by kernel_rfl
def F154.W(T154:Option Addr->PT)(args:List Value):PT:=match args with
 |[.pointer p]=>T154 p
 |_=>λ_ _=>False
def F154.V:List Value->PT:=F154.W F154.T
theorem F154.ok:FOk Tryz.prog 154 F154.V:=by
 refine⟨⟨_,Tryz.func154,rfl,rfl⟩,λ_=>?_⟩;unfold F154.V F154.W;split;exact denF_okE (GOk.cons F126.ok (GOk.nil)) noV_ok Tryz.func154 (F154.gen noV F126.T _);exact λ_ _ h=>h.elim
def F155.an:List (Nat×Ann):=[(63,.cut)]
def F155.T(p:Option Addr):PT:=λh Q=>
 dr p λb o=>ldS h b (o+150) λl=>dr p λb1 o1=>ldS h b1 (o1+151) λl1=>dr p λb2 o2=>ldS h b2 (o2+153) λl2=>dr p λb3 o3=>ldS h b3 (o3+154) λl3=>par ((l.n:Int)=0) (Q (.tuple ⟨[]⟩) h) (False)
theorem F155.den(V p):denF Tryz.prog [70,83,93,106,153,165,175,185] [] V F155.an Tryz.f155 [.v (.pointer p)]=F155.T p:=by kernel_rfl
def F155.W(T155:Option Addr->PT)(args:List Value):PT:=match args with
 |[.pointer p]=>T155 p
 |_=>λ_ _=>False
def F155.V:List Value->PT:=F155.W F155.T
theorem F155.ok:FOk Tryz.prog 155 F155.V:=by
 refine⟨⟨_,Tryz.func155,rfl,rfl⟩,λ_=>?_⟩;unfold F155.V F155.W;split;exact denF_okE (GOk.nil) noV_ok Tryz.func155 (F155.den noV _);exact λ_ _ h=>h.elim
def F156.an:List (Nat×Ann):=[(63,.cut)]
def F156.T(p:Option Addr):PT:=λh Q=>
 dr p λb o=>ldS h b (o+159) λl=>dr p λb1 o1=>ldS h b1 (o1+160) λl1=>dr p λb2 o2=>ldS h b2 (o2+162) λl2=>dr p λb3 o3=>ldS h b3 (o3+163) λl3=>par ((l.n:Int)=0) (Q (.tuple ⟨[]⟩) h) (False)
theorem F156.den(V p):denF Tryz.prog [70,83,93,106,154,166,176,186] [] V F156.an Tryz.f156 [.v (.pointer p)]=F156.T p:=by kernel_rfl
def F156.W(T156:Option Addr->PT)(args:List Value):PT:=match args with
 |[.pointer p]=>T156 p
 |_=>λ_ _=>False
def F156.V:List Value->PT:=F156.W F156.T
theorem F156.ok:FOk Tryz.prog 156 F156.V:=by
 refine⟨⟨_,Tryz.func156,rfl,rfl⟩,λ_=>?_⟩;unfold F156.V F156.W;split;exact denF_okE (GOk.nil) noV_ok Tryz.func156 (F156.den noV _);exact λ_ _ h=>h.elim
def F157.an:List (Nat×Ann):=[(63,.cut)]
def F157.T(p:Option Addr):PT:=λh Q=>
 dr p λb o=>ldS h b (o+168) λl=>dr p λb1 o1=>ldS h b1 (o1+169) λl1=>dr p λb2 o2=>ldS h b2 (o2+171) λl2=>dr p λb3 o3=>ldS h b3 (o3+172) λl3=>par ((l.n:Int)=0) (Q (.tuple ⟨[]⟩) h) (False)
theorem F157.den(V p):denF Tryz.prog [70,83,93,106,153,165,175,185] [] V F157.an Tryz.f157 [.v (.pointer p)]=F157.T p:=by kernel_rfl
def F157.W(T157:Option Addr->PT)(args:List Value):PT:=match args with
 |[.pointer p]=>T157 p
 |_=>λ_ _=>False
def F157.V:List Value->PT:=F157.W F157.T
theorem F157.ok:FOk Tryz.prog 157 F157.V:=by
 refine⟨⟨_,Tryz.func157,rfl,rfl⟩,λ_=>?_⟩;unfold F157.V F157.W;split;exact denF_okE (GOk.nil) noV_ok Tryz.func157 (F157.den noV _);exact λ_ _ h=>h.elim
def F158.an:List (Nat×Ann):=[(10,.loop [(2,.int .i64)] []),(2639,.order [0,1,2,3,4,6,5,7,8,9,10,11,12]),(5274,.loop [(4,.sl),(5,.int .i64)] [])]
def F158.T(p:Option Addr):PT:=λh Q=>
 ∃ (I:Int->Hp->Prop) (m:Int->Hp->Nat),I 0 h/\(∀ n:Int,∀ h1:Hp,I n h1->dr p λb o=>ldS h1 b (o+8) λl=>par (n<(l.n:Int)) (dr p λb1 o1=>ldS h1 b1 (o1+11) λl1=>ix l1.a n l1.n λb2 o2=>ldI .i64 h1 b2 (o2+n.toNat) λn1=>dr p λb3 o3=>ldS h1 b3 (o3+8) λl2=>ix l2.a n l2.n λb4 o4=>ldS h1 b4 (o4+n.toNat) λl3=>∃ (I1:Sl->Int->Hp->Prop) (m1:Sl->Int->Hp->Nat),I1 l3 0 h1/\(∀ l4:Sl,∀ n2:Int,∀ h2:Hp,I1 l4 n2 h2->par (n2<150) (appendD l4 5 1 1 [.int .u8 0] 1 [.int .u8 (wrap .u8 (wrap .i64 ((wrap .i64 (n1+6))+(wrap .i64 (5*n2)))))] h2 λl5 h3=>I1 l5 (wrap .i64 (n2+1)) h3/\m1 l5 (wrap .i64 (n2+1)) h3<m1 l4 n2 h2) (dr p λb5 o5=>ldS h2 b5 (o5+4) λl6=>appendD l6 53 1 24 [.slice none 0 0] 1 [.slice l4.a l4.n l4.c] h2 λl7 h4=>dr p λb6 o6=>st h4 b6 (o6+4) 1 [.slice l7.a l7.n l7.c] λh5=>dr p λb7 o7=>ldS h5 b7 (o7+5) λl8=>nw h5 (.cells ⟨[]⟩ 5 (0,0)) λb8 h6=>h6.at b7 (o7+5)=some (.slice l8.a l8.n l8.c)/\∃ vs,h6.row l4.a (l4.n*1) vs/\(∀ v∈vs,Value.oneCell' v=true)/\appendD ⟨(some ⟨b8,0,none⟩),0,0⟩ 5 1 1 [.int .u8 0] l4.n vs h6 λl9 h7=>h7.at b7 (o7+5)=some (.slice l8.a l8.n l8.c)/\h7.at b7 (o7+5)=some (.slice l8.a l8.n l8.c)/\appendD l8 53 1 24 [.slice none 0 0] 1 [.slice l9.a l9.n l9.c] h7 λl10 h8=>dr p λb9 o8=>st h8 b9 (o8+5) 1 [.slice l10.a l10.n l10.c] λh9=>I (wrap .i64 (n+1)) h9/\m (wrap .i64 (n+1)) h9<m n h1))) (dr p λb10 o9=>st h1 b10 (o9+8) 1 [.slice none 0 0] λh10=>dr p λb11 o10=>st h10 b11 (o10+11) 1 [.slice none 0 0] λh11=>Q (.tuple ⟨[]⟩) h11))
theorem F158.den(V p):denF Tryz.prog [40,48,60] [] V F158.an Tryz.f158 [.v (.pointer p)]=F158.T p:=by kernel_rfl
def F158.W(T158:Option Addr->PT)(args:List Value):PT:=match args with
 |[.pointer p]=>T158 p
 |_=>λ_ _=>False
def F158.V:List Value->PT:=F158.W F158.T
theorem F158.ok:FOk Tryz.prog 158 F158.V:=by
 refine⟨⟨_,Tryz.func158,rfl,rfl⟩,λ_=>?_⟩;unfold F158.V F158.W;split;exact denF_okE (GOk.nil) noV_ok Tryz.func158 (F158.den noV _);exact λ_ _ h=>h.elim
def F159.an:List (Nat×Ann):=[(10,.loop [(2,.int .i64)] []),(41,.cut)]
def F159.T(p:Option Addr):PT:=λh Q=>
 ∃ (I:Int->Hp->Prop) (m:Int->Hp->Nat),I 0 h/\(∀ n:Int,∀ h1:Hp,I n h1->dr p λb o=>ldS h1 b (o+17) λl=>par (n<(l.n:Int)) (False) (dr p λb1 o1=>st h1 b1 (o1+17) 1 [.slice none 0 0] λh2=>dr p λb2 o2=>st h2 b2 (o2+20) 1 [.slice none 0 0] λh3=>Q (.tuple ⟨[]⟩) h3))
theorem F159.den(V p):denF Tryz.prog [39,47,59] [] V F159.an Tryz.f159 [.v (.pointer p)]=F159.T p:=by kernel_rfl
def F159.W(T159:Option Addr->PT)(args:List Value):PT:=match args with
 |[.pointer p]=>T159 p
 |_=>λ_ _=>False
def F159.V:List Value->PT:=F159.W F159.T
theorem F159.ok:FOk Tryz.prog 159 F159.V:=by
 refine⟨⟨_,Tryz.func159,rfl,rfl⟩,λ_=>?_⟩;unfold F159.V F159.W;split;exact denF_okE (GOk.nil) noV_ok Tryz.func159 (F159.den noV _);exact λ_ _ h=>h.elim
def F160.an:List (Nat×Ann):=[(10,.loop [(2,.int .i64)] []),(41,.cut)]
def F160.T(p:Option Addr):PT:=λh Q=>
 ∃ (I:Int->Hp->Prop) (m:Int->Hp->Nat),I 0 h/\(∀ n:Int,∀ h1:Hp,I n h1->dr p λb o=>ldS h1 b (o+26) λl=>par (n<(l.n:Int)) (False) (dr p λb1 o1=>st h1 b1 (o1+26) 1 [.slice none 0 0] λh2=>dr p λb2 o2=>st h2 b2 (o2+29) 1 [.slice none 0 0] λh3=>Q (.tuple ⟨[]⟩) h3))
theorem F160.den(V p):denF Tryz.prog [40,48,60] [] V F160.an Tryz.f160 [.v (.pointer p)]=F160.T p:=by kernel_rfl
def F160.W(T160:Option Addr->PT)(args:List Value):PT:=match args with
 |[.pointer p]=>T160 p
 |_=>λ_ _=>False
def F160.V:List Value->PT:=F160.W F160.T
theorem F160.ok:FOk Tryz.prog 160 F160.V:=by
 refine⟨⟨_,Tryz.func160,rfl,rfl⟩,λ_=>?_⟩;unfold F160.V F160.W;split;exact denF_okE (GOk.nil) noV_ok Tryz.func160 (F160.den noV _);exact λ_ _ h=>h.elim
def F161.an:List (Nat×Ann):=[(10,.loop [(2,.int .i64)] []),(41,.cut)]
def F161.T(p:Option Addr):PT:=λh Q=>
 ∃ (I:Int->Hp->Prop) (m:Int->Hp->Nat),I 0 h/\(∀ n:Int,∀ h1:Hp,I n h1->dr p λb o=>ldS h1 b (o+35) λl=>par (n<(l.n:Int)) (False) (dr p λb1 o1=>st h1 b1 (o1+35) 1 [.slice none 0 0] λh2=>dr p λb2 o2=>st h2 b2 (o2+38) 1 [.slice none 0 0] λh3=>Q (.tuple ⟨[]⟩) h3))
theorem F161.den(V p):denF Tryz.prog [40,48,60] [] V F161.an Tryz.f161 [.v (.pointer p)]=F161.T p:=by kernel_rfl
def F161.W(T161:Option Addr->PT)(args:List Value):PT:=match args with
 |[.pointer p]=>T161 p
 |_=>λ_ _=>False
def F161.V:List Value->PT:=F161.W F161.T
theorem F161.ok:FOk Tryz.prog 161 F161.V:=by
 refine⟨⟨_,Tryz.func161,rfl,rfl⟩,λ_=>?_⟩;unfold F161.V F161.W;split;exact denF_okE (GOk.nil) noV_ok Tryz.func161 (F161.den noV _);exact λ_ _ h=>h.elim
def F162.an:List (Nat×Ann):=[(10,.loop [(2,.int .i64)] []),(41,.cut)]
def F162.T(p:Option Addr):PT:=λh Q=>
 ∃ (I:Int->Hp->Prop) (m:Int->Hp->Nat),I 0 h/\(∀ n:Int,∀ h1:Hp,I n h1->dr p λb o=>ldS h1 b (o+44) λl=>par (n<(l.n:Int)) (False) (dr p λb1 o1=>st h1 b1 (o1+44) 1 [.slice none 0 0] λh2=>dr p λb2 o2=>st h2 b2 (o2+47) 1 [.slice none 0 0] λh3=>Q (.tuple ⟨[]⟩) h3))
theorem F162.den(V p):denF Tryz.prog [41,49,61] [] V F162.an Tryz.f162 [.v (.pointer p)]=F162.T p:=by kernel_rfl
def F162.W(T162:Option Addr->PT)(args:List Value):PT:=match args with
 |[.pointer p]=>T162 p
 |_=>λ_ _=>False
def F162.V:List Value->PT:=F162.W F162.T
theorem F162.ok:FOk Tryz.prog 162 F162.V:=by
 refine⟨⟨_,Tryz.func162,rfl,rfl⟩,λ_=>?_⟩;unfold F162.V F162.W;split;exact denF_okE (GOk.nil) noV_ok Tryz.func162 (F162.den noV _);exact λ_ _ h=>h.elim
def F163.an:List (Nat×Ann):=[(10,.loop [(2,.int .i64)] []),(41,.cut)]
def F163.T(p:Option Addr):PT:=λh Q=>
 ∃ (I:Int->Hp->Prop) (m:Int->Hp->Nat),I 0 h/\(∀ n:Int,∀ h1:Hp,I n h1->dr p λb o=>ldS h1 b (o+53) λl=>par (n<(l.n:Int)) (False) (dr p λb1 o1=>st h1 b1 (o1+53) 1 [.slice none 0 0] λh2=>dr p λb2 o2=>st h2 b2 (o2+56) 1 [.slice none 0 0] λh3=>Q (.tuple ⟨[]⟩) h3))
theorem F163.den(V p):denF Tryz.prog [41,49,61] [] V F163.an Tryz.f163 [.v (.pointer p)]=F163.T p:=by kernel_rfl
def F163.W(T163:Option Addr->PT)(args:List Value):PT:=match args with
 |[.pointer p]=>T163 p
 |_=>λ_ _=>False
def F163.V:List Value->PT:=F163.W F163.T
theorem F163.ok:FOk Tryz.prog 163 F163.V:=by
 refine⟨⟨_,Tryz.func163,rfl,rfl⟩,λ_=>?_⟩;unfold F163.V F163.W;split;exact denF_okE (GOk.nil) noV_ok Tryz.func163 (F163.den noV _);exact λ_ _ h=>h.elim
def F164.an:List (Nat×Ann):=[(10,.loop [(2,.int .i64)] []),(41,.cut)]
def F164.T(p:Option Addr):PT:=λh Q=>
 ∃ (I:Int->Hp->Prop) (m:Int->Hp->Nat),I 0 h/\(∀ n:Int,∀ h1:Hp,I n h1->dr p λb o=>ldS h1 b (o+62) λl=>par (n<(l.n:Int)) (False) (dr p λb1 o1=>st h1 b1 (o1+62) 1 [.slice none 0 0] λh2=>dr p λb2 o2=>st h2 b2 (o2+65) 1 [.slice none 0 0] λh3=>Q (.tuple ⟨[]⟩) h3))
theorem F164.den(V p):denF Tryz.prog [41,49,61] [] V F164.an Tryz.f164 [.v (.pointer p)]=F164.T p:=by kernel_rfl
def F164.W(T164:Option Addr->PT)(args:List Value):PT:=match args with
 |[.pointer p]=>T164 p
 |_=>λ_ _=>False
def F164.V:List Value->PT:=F164.W F164.T
theorem F164.ok:FOk Tryz.prog 164 F164.V:=by
 refine⟨⟨_,Tryz.func164,rfl,rfl⟩,λ_=>?_⟩;unfold F164.V F164.W;split;exact denF_okE (GOk.nil) noV_ok Tryz.func164 (F164.den noV _);exact λ_ _ h=>h.elim
def F165.an:List (Nat×Ann):=[(10,.loop [(2,.int .i64)] []),(41,.cut)]
def F165.T(p:Option Addr):PT:=λh Q=>
 ∃ (I:Int->Hp->Prop) (m:Int->Hp->Nat),I 0 h/\(∀ n:Int,∀ h1:Hp,I n h1->dr p λb o=>ldS h1 b (o+71) λl=>par (n<(l.n:Int)) (False) (dr p λb1 o1=>st h1 b1 (o1+71) 1 [.slice none 0 0] λh2=>dr p λb2 o2=>st h2 b2 (o2+74) 1 [.slice none 0 0] λh3=>Q (.tuple ⟨[]⟩) h3))
theorem F165.den(V p):denF Tryz.prog [41,49,61] [] V F165.an Tryz.f165 [.v (.pointer p)]=F165.T p:=by kernel_rfl
def F165.W(T165:Option Addr->PT)(args:List Value):PT:=match args with
 |[.pointer p]=>T165 p
 |_=>λ_ _=>False
def F165.V:List Value->PT:=F165.W F165.T
theorem F165.ok:FOk Tryz.prog 165 F165.V:=by
 refine⟨⟨_,Tryz.func165,rfl,rfl⟩,λ_=>?_⟩;unfold F165.V F165.W;split;exact denF_okE (GOk.nil) noV_ok Tryz.func165 (F165.den noV _);exact λ_ _ h=>h.elim
def F166.an:List (Nat×Ann):=[(10,.loop [(2,.int .i64)] []),(41,.cut)]
def F166.T(p:Option Addr):PT:=λh Q=>
 ∃ (I:Int->Hp->Prop) (m:Int->Hp->Nat),I 0 h/\(∀ n:Int,∀ h1:Hp,I n h1->dr p λb o=>ldS h1 b (o+80) λl=>par (n<(l.n:Int)) (False) (dr p λb1 o1=>st h1 b1 (o1+80) 1 [.slice none 0 0] λh2=>dr p λb2 o2=>st h2 b2 (o2+83) 1 [.slice none 0 0] λh3=>Q (.tuple ⟨[]⟩) h3))
theorem F166.den(V p):denF Tryz.prog [40,48,60] [] V F166.an Tryz.f166 [.v (.pointer p)]=F166.T p:=by kernel_rfl
def F166.W(T166:Option Addr->PT)(args:List Value):PT:=match args with
 |[.pointer p]=>T166 p
 |_=>λ_ _=>False
def F166.V:List Value->PT:=F166.W F166.T
theorem F166.ok:FOk Tryz.prog 166 F166.V:=by
 refine⟨⟨_,Tryz.func166,rfl,rfl⟩,λ_=>?_⟩;unfold F166.V F166.W;split;exact denF_okE (GOk.nil) noV_ok Tryz.func166 (F166.den noV _);exact λ_ _ h=>h.elim
def F167.an:List (Nat×Ann):=[(10,.loop [(2,.int .i64)] []),(41,.cut)]
def F167.T(p:Option Addr):PT:=λh Q=>
 ∃ (I:Int->Hp->Prop) (m:Int->Hp->Nat),I 0 h/\(∀ n:Int,∀ h1:Hp,I n h1->dr p λb o=>ldS h1 b (o+89) λl=>par (n<(l.n:Int)) (False) (dr p λb1 o1=>st h1 b1 (o1+89) 1 [.slice none 0 0] λh2=>dr p λb2 o2=>st h2 b2 (o2+92) 1 [.slice none 0 0] λh3=>Q (.tuple ⟨[]⟩) h3))
theorem F167.den(V p):denF Tryz.prog [40,48,60] [] V F167.an Tryz.f167 [.v (.pointer p)]=F167.T p:=by kernel_rfl
def F167.W(T167:Option Addr->PT)(args:List Value):PT:=match args with
 |[.pointer p]=>T167 p
 |_=>λ_ _=>False
def F167.V:List Value->PT:=F167.W F167.T
theorem F167.ok:FOk Tryz.prog 167 F167.V:=by
 refine⟨⟨_,Tryz.func167,rfl,rfl⟩,λ_=>?_⟩;unfold F167.V F167.W;split;exact denF_okE (GOk.nil) noV_ok Tryz.func167 (F167.den noV _);exact λ_ _ h=>h.elim
def F168.an:List (Nat×Ann):=[(10,.loop [(2,.int .i64)] []),(41,.cut)]
def F168.T(p:Option Addr):PT:=λh Q=>
 ∃ (I:Int->Hp->Prop) (m:Int->Hp->Nat),I 0 h/\(∀ n:Int,∀ h1:Hp,I n h1->dr p λb o=>ldS h1 b (o+98) λl=>par (n<(l.n:Int)) (False) (dr p λb1 o1=>st h1 b1 (o1+98) 1 [.slice none 0 0] λh2=>dr p λb2 o2=>st h2 b2 (o2+101) 1 [.slice none 0 0] λh3=>Q (.tuple ⟨[]⟩) h3))
theorem F168.den(V p):denF Tryz.prog [40,48,60] [] V F168.an Tryz.f168 [.v (.pointer p)]=F168.T p:=by kernel_rfl
def F168.W(T168:Option Addr->PT)(args:List Value):PT:=match args with
 |[.pointer p]=>T168 p
 |_=>λ_ _=>False
def F168.V:List Value->PT:=F168.W F168.T
theorem F168.ok:FOk Tryz.prog 168 F168.V:=by
 refine⟨⟨_,Tryz.func168,rfl,rfl⟩,λ_=>?_⟩;unfold F168.V F168.W;split;exact denF_okE (GOk.nil) noV_ok Tryz.func168 (F168.den noV _);exact λ_ _ h=>h.elim
def F169.an:List (Nat×Ann):=[(10,.loop [(2,.int .i64)] []),(41,.cut)]
def F169.T(p:Option Addr):PT:=λh Q=>
 ∃ (I:Int->Hp->Prop) (m:Int->Hp->Nat),I 0 h/\(∀ n:Int,∀ h1:Hp,I n h1->dr p λb o=>ldS h1 b (o+107) λl=>par (n<(l.n:Int)) (False) (dr p λb1 o1=>st h1 b1 (o1+107) 1 [.slice none 0 0] λh2=>dr p λb2 o2=>st h2 b2 (o2+110) 1 [.slice none 0 0] λh3=>Q (.tuple ⟨[]⟩) h3))
theorem F169.den(V p):denF Tryz.prog [41,49,61] [] V F169.an Tryz.f169 [.v (.pointer p)]=F169.T p:=by kernel_rfl
def F169.W(T169:Option Addr->PT)(args:List Value):PT:=match args with
 |[.pointer p]=>T169 p
 |_=>λ_ _=>False
def F169.V:List Value->PT:=F169.W F169.T
theorem F169.ok:FOk Tryz.prog 169 F169.V:=by
 refine⟨⟨_,Tryz.func169,rfl,rfl⟩,λ_=>?_⟩;unfold F169.V F169.W;split;exact denF_okE (GOk.nil) noV_ok Tryz.func169 (F169.den noV _);exact λ_ _ h=>h.elim
def F170.an:List (Nat×Ann):=[(10,.loop [(2,.int .i64)] []),(41,.cut)]
def F170.T(p:Option Addr):PT:=λh Q=>
 ∃ (I:Int->Hp->Prop) (m:Int->Hp->Nat),I 0 h/\(∀ n:Int,∀ h1:Hp,I n h1->dr p λb o=>ldS h1 b (o+116) λl=>par (n<(l.n:Int)) (False) (dr p λb1 o1=>st h1 b1 (o1+116) 1 [.slice none 0 0] λh2=>dr p λb2 o2=>st h2 b2 (o2+119) 1 [.slice none 0 0] λh3=>Q (.tuple ⟨[]⟩) h3))
theorem F170.den(V p):denF Tryz.prog [42,50,62] [] V F170.an Tryz.f170 [.v (.pointer p)]=F170.T p:=by kernel_rfl
def F170.W(T170:Option Addr->PT)(args:List Value):PT:=match args with
 |[.pointer p]=>T170 p
 |_=>λ_ _=>False
def F170.V:List Value->PT:=F170.W F170.T
theorem F170.ok:FOk Tryz.prog 170 F170.V:=by
 refine⟨⟨_,Tryz.func170,rfl,rfl⟩,λ_=>?_⟩;unfold F170.V F170.W;split;exact denF_okE (GOk.nil) noV_ok Tryz.func170 (F170.den noV _);exact λ_ _ h=>h.elim
def F171.an:List (Nat×Ann):=[(10,.loop [(2,.int .i64)] []),(41,.cut)]
def F171.T(p:Option Addr):PT:=λh Q=>
 ∃ (I:Int->Hp->Prop) (m:Int->Hp->Nat),I 0 h/\(∀ n:Int,∀ h1:Hp,I n h1->dr p λb o=>ldS h1 b (o+125) λl=>par (n<(l.n:Int)) (False) (dr p λb1 o1=>st h1 b1 (o1+125) 1 [.slice none 0 0] λh2=>dr p λb2 o2=>st h2 b2 (o2+128) 1 [.slice none 0 0] λh3=>Q (.tuple ⟨[]⟩) h3))
theorem F171.den(V p):denF Tryz.prog [42,50,62] [] V F171.an Tryz.f171 [.v (.pointer p)]=F171.T p:=by kernel_rfl
def F171.W(T171:Option Addr->PT)(args:List Value):PT:=match args with
 |[.pointer p]=>T171 p
 |_=>λ_ _=>False
def F171.V:List Value->PT:=F171.W F171.T
theorem F171.ok:FOk Tryz.prog 171 F171.V:=by
 refine⟨⟨_,Tryz.func171,rfl,rfl⟩,λ_=>?_⟩;unfold F171.V F171.W;split;exact denF_okE (GOk.nil) noV_ok Tryz.func171 (F171.den noV _);exact λ_ _ h=>h.elim
def F172.an:List (Nat×Ann):=[(10,.loop [(2,.int .i64)] []),(41,.cut)]
def F172.T(p:Option Addr):PT:=λh Q=>
 ∃ (I:Int->Hp->Prop) (m:Int->Hp->Nat),I 0 h/\(∀ n:Int,∀ h1:Hp,I n h1->dr p λb o=>ldS h1 b (o+134) λl=>par (n<(l.n:Int)) (False) (dr p λb1 o1=>st h1 b1 (o1+134) 1 [.slice none 0 0] λh2=>dr p λb2 o2=>st h2 b2 (o2+137) 1 [.slice none 0 0] λh3=>Q (.tuple ⟨[]⟩) h3))
theorem F172.den(V p):denF Tryz.prog [42,50,62] [] V F172.an Tryz.f172 [.v (.pointer p)]=F172.T p:=by kernel_rfl
def F172.W(T172:Option Addr->PT)(args:List Value):PT:=match args with
 |[.pointer p]=>T172 p
 |_=>λ_ _=>False
def F172.V:List Value->PT:=F172.W F172.T
theorem F172.ok:FOk Tryz.prog 172 F172.V:=by
 refine⟨⟨_,Tryz.func172,rfl,rfl⟩,λ_=>?_⟩;unfold F172.V F172.W;split;exact denF_okE (GOk.nil) noV_ok Tryz.func172 (F172.den noV _);exact λ_ _ h=>h.elim
def F173.an:List (Nat×Ann):=[(10,.loop [(2,.int .i64)] []),(2639,.order [0,1,2,3,4,6,5,7,8,9,10,11,12]),(5274,.loop [(4,.sl),(5,.int .i64)] [])]
def F173.T(p:Option Addr):PT:=λh Q=>
 ∃ (I:Int->Hp->Prop) (m:Int->Hp->Nat),I 0 h/\(∀ n:Int,∀ h1:Hp,I n h1->dr p λb o=>ldS h1 b (o+143) λl=>par (n<(l.n:Int)) (dr p λb1 o1=>ldS h1 b1 (o1+146) λl1=>ix l1.a n l1.n λb2 o2=>ldI .i64 h1 b2 (o2+n.toNat) λn1=>dr p λb3 o3=>ldS h1 b3 (o3+143) λl2=>ix l2.a n l2.n λb4 o4=>ldS h1 b4 (o4+n.toNat) λl3=>∃ (I1:Sl->Int->Hp->Prop) (m1:Sl->Int->Hp->Nat),I1 l3 0 h1/\(∀ l4:Sl,∀ n2:Int,∀ h2:Hp,I1 l4 n2 h2->par (n2<30) (appendD l4 55 3 48 [.string ⟨#[]⟩,.slice none 0 0,.int .i64 0] 1 [.string ⟨#[]⟩,.slice none 0 0,.int .i64 (wrap .i64 ((wrap .i64 (n1+6))+(wrap .i64 (5*n2))))] h2 λl5 h3=>I1 l5 (wrap .i64 (n2+1)) h3/\m1 l5 (wrap .i64 (n2+1)) h3<m1 l4 n2 h2) (dr p λb5 o5=>ldS h2 b5 (o5+139) λl6=>appendD l6 22 1 24 [.slice none 0 0] 1 [.slice l4.a l4.n l4.c] h2 λl7 h4=>dr p λb6 o6=>st h4 b6 (o6+139) 1 [.slice l7.a l7.n l7.c] λh5=>dr p λb7 o7=>ldS h5 b7 (o7+140) λl8=>nw h5 (.cells ⟨[]⟩ 55 (0,0)) λb8 h6=>h6.at b7 (o7+140)=some (.slice l8.a l8.n l8.c)/\∃ vs,h6.row l4.a (l4.n*3) vs/\(∀ v∈vs,Value.oneCell' v=true)/\appendD ⟨(some ⟨b8,0,none⟩),0,0⟩ 55 3 48 [.string ⟨#[]⟩,.slice none 0 0,.int .i64 0] l4.n vs h6 λl9 h7=>h7.at b7 (o7+140)=some (.slice l8.a l8.n l8.c)/\h7.at b7 (o7+140)=some (.slice l8.a l8.n l8.c)/\appendD l8 22 1 24 [.slice none 0 0] 1 [.slice l9.a l9.n l9.c] h7 λl10 h8=>dr p λb9 o8=>st h8 b9 (o8+140) 1 [.slice l10.a l10.n l10.c] λh9=>I (wrap .i64 (n+1)) h9/\m (wrap .i64 (n+1)) h9<m n h1))) (dr p λb10 o9=>st h1 b10 (o9+143) 1 [.slice none 0 0] λh10=>dr p λb11 o10=>st h10 b11 (o10+146) 1 [.slice none 0 0] λh11=>Q (.tuple ⟨[]⟩) h11))
theorem F173.den(V p):denF Tryz.prog [40,48,60] [] V F173.an Tryz.f173 [.v (.pointer p)]=F173.T p:=by kernel_rfl
def F173.W(T173:Option Addr->PT)(args:List Value):PT:=match args with
 |[.pointer p]=>T173 p
 |_=>λ_ _=>False
def F173.V:List Value->PT:=F173.W F173.T
theorem F173.ok:FOk Tryz.prog 173 F173.V:=by
 refine⟨⟨_,Tryz.func173,rfl,rfl⟩,λ_=>?_⟩;unfold F173.V F173.W;split;exact denF_okE (GOk.nil) noV_ok Tryz.func173 (F173.den noV _);exact λ_ _ h=>h.elim
def F174.an:List (Nat×Ann):=[(10,.loop [(2,.int .i64)] []),(41,.cut)]
def F174.T(p:Option Addr):PT:=λh Q=>
 ∃ (I:Int->Hp->Prop) (m:Int->Hp->Nat),I 0 h/\(∀ n:Int,∀ h1:Hp,I n h1->dr p λb o=>ldS h1 b (o+152) λl=>par (n<(l.n:Int)) (False) (dr p λb1 o1=>st h1 b1 (o1+152) 1 [.slice none 0 0] λh2=>dr p λb2 o2=>st h2 b2 (o2+155) 1 [.slice none 0 0] λh3=>Q (.tuple ⟨[]⟩) h3))
theorem F174.den(V p):denF Tryz.prog [40,48,60] [] V F174.an Tryz.f174 [.v (.pointer p)]=F174.T p:=by kernel_rfl
def F174.W(T174:Option Addr->PT)(args:List Value):PT:=match args with
 |[.pointer p]=>T174 p
 |_=>λ_ _=>False
def F174.V:List Value->PT:=F174.W F174.T
theorem F174.ok:FOk Tryz.prog 174 F174.V:=by
 refine⟨⟨_,Tryz.func174,rfl,rfl⟩,λ_=>?_⟩;unfold F174.V F174.W;split;exact denF_okE (GOk.nil) noV_ok Tryz.func174 (F174.den noV _);exact λ_ _ h=>h.elim
def F175.an:List (Nat×Ann):=[(10,.loop [(2,.int .i64)] []),(41,.cut)]
def F175.T(p:Option Addr):PT:=λh Q=>
 ∃ (I:Int->Hp->Prop) (m:Int->Hp->Nat),I 0 h/\(∀ n:Int,∀ h1:Hp,I n h1->dr p λb o=>ldS h1 b (o+161) λl=>par (n<(l.n:Int)) (False) (dr p λb1 o1=>st h1 b1 (o1+161) 1 [.slice none 0 0] λh2=>dr p λb2 o2=>st h2 b2 (o2+164) 1 [.slice none 0 0] λh3=>Q (.tuple ⟨[]⟩) h3))
theorem F175.den(V p):denF Tryz.prog [41,49,61] [] V F175.an Tryz.f175 [.v (.pointer p)]=F175.T p:=by kernel_rfl
def F175.W(T175:Option Addr->PT)(args:List Value):PT:=match args with
 |[.pointer p]=>T175 p
 |_=>λ_ _=>False
def F175.V:List Value->PT:=F175.W F175.T
theorem F175.ok:FOk Tryz.prog 175 F175.V:=by
 refine⟨⟨_,Tryz.func175,rfl,rfl⟩,λ_=>?_⟩;unfold F175.V F175.W;split;exact denF_okE (GOk.nil) noV_ok Tryz.func175 (F175.den noV _);exact λ_ _ h=>h.elim
def F176.an:List (Nat×Ann):=[(10,.loop [(2,.int .i64)] []),(41,.cut)]
def F176.T(p:Option Addr):PT:=λh Q=>
 ∃ (I:Int->Hp->Prop) (m:Int->Hp->Nat),I 0 h/\(∀ n:Int,∀ h1:Hp,I n h1->dr p λb o=>ldS h1 b (o+170) λl=>par (n<(l.n:Int)) (False) (dr p λb1 o1=>st h1 b1 (o1+170) 1 [.slice none 0 0] λh2=>dr p λb2 o2=>st h2 b2 (o2+173) 1 [.slice none 0 0] λh3=>Q (.tuple ⟨[]⟩) h3))
theorem F176.den(V p):denF Tryz.prog [40,48,60] [] V F176.an Tryz.f176 [.v (.pointer p)]=F176.T p:=by kernel_rfl
def F176.W(T176:Option Addr->PT)(args:List Value):PT:=match args with
 |[.pointer p]=>T176 p
 |_=>λ_ _=>False
def F176.V:List Value->PT:=F176.W F176.T
theorem F176.ok:FOk Tryz.prog 176 F176.V:=by
 refine⟨⟨_,Tryz.func176,rfl,rfl⟩,λ_=>?_⟩;unfold F176.V F176.W;split;exact denF_okE (GOk.nil) noV_ok Tryz.func176 (F176.den noV _);exact λ_ _ h=>h.elim
def F133.an:List (Nat×Ann):=[]
def F133.G(T139 T140 T141 T142 T143 T144 T145 T146 T147 T148 T149 T150 T151 T152 T153 T154 T155 T156 T157:Option Addr->PT)(p:Option Addr):PT:=λh Q=>
 T139 p h λr h1=>T140 p h1 λr1 h2=>T141 p h2 λr2 h3=>T142 p h3 λr3 h4=>T143 p h4 λr4 h5=>T144 p h5 λr5 h6=>T145 p h6 λr6 h7=>T146 p h7 λr7 h8=>T147 p h8 λr8 h9=>T148 p h9 λr9 h10=>T149 p h10 λr10 h11=>T150 p h11 λr11 h12=>T151 p h12 λr12 h13=>T152 p h13 λr13 h14=>T153 p h14 λr14 h15=>T154 p h15 λr15 h16=>T155 p h16 λr16 h17=>T156 p h17 λr17 h18=>T157 p h18 λr18 h19=>Q (.tuple ⟨[]⟩) h19
def F133.T:=F133.G F139.T F140.T F141.T F142.T F143.T F144.T F145.T F146.T F147.T F148.T F149.T F150.T F151.T F152.T F153.T F154.T F155.T F156.T F157.T
theorem F133.gen(V T139 T140 T141 T142 T143 T144 T145 T146 T147 T148 T149 T150 T151 T152 T153 T154 T155 T156 T157 p):denF Tryz.prog [] [(139,F139.W T139),(140,F140.W T140),(141,F141.W T141),(142,F142.W T142),(143,F143.W T143),(144,F144.W T144),(145,F145.W T145),(146,F146.W T146),(147,F147.W T147),(148,F148.W T148),(149,F149.W T149),(150,F150.W T150),(151,F151.W T151),(152,F152.W T152),(153,F153.W T153),(154,F154.W T154),(155,F155.W T155),(156,F156.W T156),(157,F157.W T157)] V F133.an Tryz.f133 [.v (.pointer p)]=F133.G T139 T140 T141 T142 T143 T144 T145 T146 T147 T148 T149 T150 T151 T152 T153 T154 T155 T156 T157 p:=by kernel_rfl
def F133.W(T133:Option Addr->PT)(args:List Value):PT:=match args with
 |[.pointer p]=>T133 p
 |_=>λ_ _=>False
def F133.V:List Value->PT:=F133.W F133.T
theorem F133.ok:FOk Tryz.prog 133 F133.V:=by
 refine⟨⟨_,Tryz.func133,rfl,rfl⟩,λ_=>?_⟩;unfold F133.V F133.W;split;exact denF_okE (GOk.cons F139.ok (GOk.cons F140.ok (GOk.cons F141.ok (GOk.cons F142.ok (GOk.cons F143.ok (GOk.cons F144.ok (GOk.cons F145.ok (GOk.cons F146.ok (GOk.cons F147.ok (GOk.cons F148.ok (GOk.cons F149.ok (GOk.cons F150.ok (GOk.cons F151.ok (GOk.cons F152.ok (GOk.cons F153.ok (GOk.cons F154.ok (GOk.cons F155.ok (GOk.cons F156.ok (GOk.cons F157.ok (GOk.nil)))))))))))))))))))) noV_ok Tryz.func133 (F133.gen noV F139.T F140.T F141.T F142.T F143.T F144.T F145.T F146.T F147.T F148.T F149.T F150.T F151.T F152.T F153.T F154.T F155.T F156.T F157.T _);exact λ_ _ h=>h.elim
def F134.an:List (Nat×Ann):=[]
def F134.G(T158 T159 T160 T161 T162 T163 T164 T165 T166 T167 T168 T169 T170 T171 T172 T173 T174 T175 T176:Option Addr->PT)(p:Option Addr):PT:=λh Q=>
 T158 p h λr h1=>T159 p h1 λr1 h2=>T160 p h2 λr2 h3=>T161 p h3 λr3 h4=>T162 p h4 λr4 h5=>T163 p h5 λr5 h6=>T164 p h6 λr6 h7=>T165 p h7 λr7 h8=>T166 p h8 λr8 h9=>T167 p h9 λr9 h10=>T168 p h10 λr10 h11=>T169 p h11 λr11 h12=>T170 p h12 λr12 h13=>T171 p h13 λr13 h14=>T172 p h14 λr14 h15=>T173 p h15 λr15 h16=>T174 p h16 λr16 h17=>T175 p h17 λr17 h18=>T176 p h18 λr18 h19=>Q (.tuple ⟨[]⟩) h19
def F134.T:=F134.G F158.T F159.T F160.T F161.T F162.T F163.T F164.T F165.T F166.T F167.T F168.T F169.T F170.T F171.T F172.T F173.T F174.T F175.T F176.T
theorem F134.gen(V T158 T159 T160 T161 T162 T163 T164 T165 T166 T167 T168 T169 T170 T171 T172 T173 T174 T175 T176 p):denF Tryz.prog [] [(158,F158.W T158),(159,F159.W T159),(160,F160.W T160),(161,F161.W T161),(162,F162.W T162),(163,F163.W T163),(164,F164.W T164),(165,F165.W T165),(166,F166.W T166),(167,F167.W T167),(168,F168.W T168),(169,F169.W T169),(170,F170.W T170),(171,F171.W T171),(172,F172.W T172),(173,F173.W T173),(174,F174.W T174),(175,F175.W T175),(176,F176.W T176)] V F134.an Tryz.f134 [.v (.pointer p)]=F134.G T158 T159 T160 T161 T162 T163 T164 T165 T166 T167 T168 T169 T170 T171 T172 T173 T174 T175 T176 p:=by kernel_rfl
def F134.W(T134:Option Addr->PT)(args:List Value):PT:=match args with
 |[.pointer p]=>T134 p
 |_=>λ_ _=>False
def F134.V:List Value->PT:=F134.W F134.T
theorem F134.ok:FOk Tryz.prog 134 F134.V:=by
 refine⟨⟨_,Tryz.func134,rfl,rfl⟩,λ_=>?_⟩;unfold F134.V F134.W;split;exact denF_okE (GOk.cons F158.ok (GOk.cons F159.ok (GOk.cons F160.ok (GOk.cons F161.ok (GOk.cons F162.ok (GOk.cons F163.ok (GOk.cons F164.ok (GOk.cons F165.ok (GOk.cons F166.ok (GOk.cons F167.ok (GOk.cons F168.ok (GOk.cons F169.ok (GOk.cons F170.ok (GOk.cons F171.ok (GOk.cons F172.ok (GOk.cons F173.ok (GOk.cons F174.ok (GOk.cons F175.ok (GOk.cons F176.ok (GOk.nil)))))))))))))))))))) noV_ok Tryz.func134 (F134.gen noV F158.T F159.T F160.T F161.T F162.T F163.T F164.T F165.T F166.T F167.T F168.T F169.T F170.T F171.T F172.T F173.T F174.T F175.T F176.T _);exact λ_ _ h=>h.elim
def F110.an:List (Nat×Ann):=[]
def F110.G(T133 T134:Option Addr->PT)(p:Option Addr):PT:=λh Q=>
 dr p λb o=>ldI .i64 h b (o+3) λn=>dr p λb1 o1=>st h b1 (o1+3) 1 [.int .i64 (wrap .i64 (n-1))] λh1=>dr p λb2 o2=>ldI .i64 h1 b2 (o2+3) λn1=>par ((0:Int)<n1) (Q (.tuple ⟨[]⟩) h1) (T133 p h1 λr h2=>T134 p h2 λr1 h3=>dr p λb3 o3=>ldI .i64 h3 b3 (o3+2) λn2=>dr p λb4 o4=>st h3 b4 (o4+2) 1 [.int .i64 (wrap .i64 (n2+1))] λh4=>Q (.tuple ⟨[]⟩) h4)
def F110.T:=F110.G F133.T F134.T
theorem F110.gen(V T133 T134 p):denF Tryz.prog [] [(133,F133.W T133),(134,F134.W T134)] V F110.an Tryz.f110 [.v (.pointer p)]=F110.G T133 T134 p:=by kernel_rfl
def F110.W(T110:Option Addr->PT)(args:List Value):PT:=match args with
 |[.pointer p]=>T110 p
 |_=>λ_ _=>False
def F110.V:List Value->PT:=F110.W F110.T
theorem F110.ok:FOk Tryz.prog 110 F110.V:=by
 refine⟨⟨_,Tryz.func110,rfl,rfl⟩,λ_=>?_⟩;unfold F110.V F110.W;split;exact denF_okE (GOk.cons F133.ok (GOk.cons F134.ok (GOk.nil))) noV_ok Tryz.func110 (F110.gen noV F133.T F134.T _);exact λ_ _ h=>h.elim
def F73.an:List (Nat×Ann):=[(14,.order [0,1,2,3,4,6,5,7,8,9,10,11,12]),(62,.order [0,1,2,3,4,5,6,7,8,9,10,11,12,13,14,15])]
def F73.G(T109:Option Addr->Int->PT)(T110:Option Addr->PT)(p:Option Addr)(l:Sl)(n:Int):PT:=λh Q=>
 dr p λb o=>ldI .i64 h b (o+3) λn1=>dr p λb1 o1=>st h b1 (o1+3) 1 [.int .i64 (wrap .i64 (n1+1))] λh1=>dr p λb2 o2=>ldS h1 b2 (o2+6) λl1=>appendD l1 53 1 24 [.slice none 0 0] 1 [.slice l.a l.n l.c] h1 λl2 h2=>dr p λb3 o3=>st h2 b3 (o3+6) 1 [.slice l2.a l2.n l2.c] λh3=>dr p λb4 o4=>ldS h3 b4 (o4+7) λl3=>nw h3 (.cells ⟨[]⟩ 5 (0,0)) λb5 h4=>h4.at b4 (o4+7)=some (.slice l3.a l3.n l3.c)/\∃ vs,h4.row l.a (l.n*1) vs/\(∀ v∈vs,Value.oneCell' v=true)/\appendD ⟨(some ⟨b5,0,none⟩),0,0⟩ 5 1 1 [.int .u8 0] l.n vs h4 λl4 h5=>h5.at b4 (o4+7)=some (.slice l3.a l3.n l3.c)/\h5.at b4 (o4+7)=some (.slice l3.a l3.n l3.c)/\appendD l3 53 1 24 [.slice none 0 0] 1 [.slice l4.a l4.n l4.c] h5 λl5 h6=>dr p λb6 o5=>st h6 b6 (o5+7) 1 [.slice l5.a l5.n l5.c] λh7=>dr p λb7 o6=>ldS h7 b7 (o6+9) λl6=>appendD l6 3 1 8 [.int .i64 0] 1 [.int .i64 n] h7 λl7 h8=>dr p λb8 o7=>st h8 b8 (o7+9) 1 [.slice l7.a l7.n l7.c] λh9=>dr p λb9 o8=>ldS h9 b9 (o8+10) λl8=>dr p λb10 o9=>ldI .i64 h9 b10 (o9+12) λn2=>T109 p n2 h9 λr h10=>retI .i64 r λn3=>h10.at b9 (o8+10)=some (.slice l8.a l8.n l8.c)/\h10.at b9 (o8+10)=some (.slice l8.a l8.n l8.c)/\appendD l8 3 1 8 [.int .i64 0] 1 [.int .i64 n3] h10 λl9 h11=>dr p λb11 o10=>st h11 b11 (o10+10) 1 [.slice l9.a l9.n l9.c] λh12=>dr p λb12 o11=>ldI .i64 h12 b12 (o11+12) λn4=>dr p λb13 o12=>st h12 b13 (o12+12) 1 [.int .i64 (wrap .i64 (n4+1))] λh13=>T110 p h13 λr1 h14=>Q (.tuple ⟨[]⟩) h14
def F73.T:=F73.G F109.T F110.T
theorem F73.gen(V T109 T110 p l n):denF Tryz.prog [19,31,41,56] [(109,F109.W T109),(110,F110.W T110)] V F73.an Tryz.f73 [.v (.pointer p),.v (.slice l.a l.n l.c),.v (.int .i64 n)]=F73.G T109 T110 p l n:=by kernel_rfl
def F73.W(T73:Option Addr->Sl->Int->PT)(args:List Value):PT:=match args with
 |[.pointer p,.slice l_a l_n l_c,.int .i64 n]=>T73 p ⟨l_a,l_n,l_c⟩ n
 |_=>λ_ _=>False
def F73.V:List Value->PT:=F73.W F73.T
theorem F73.ok:FOk Tryz.prog 73 F73.V:=by
 refine⟨⟨_,Tryz.func73,rfl,rfl⟩,λ_=>?_⟩;unfold F73.V F73.W;split;exact denF_okE (GOk.cons F109.ok (GOk.cons F110.ok (GOk.nil))) noV_ok Tryz.func73 (F73.gen noV F109.T F110.T _ ⟨_,_,_⟩ _);exact λ_ _ h=>h.elim
def F71.an:List (Nat×Ann):=[(26,.loop [(6,.int .i64)] []),(30,.order [0,1,2,3,4,6,5,7,8,9,10,11,12]),(126,.order [0,1,2,3,4,5,6,7,8,9,10,11,12,13,14,15])]
def F71.G(T73:Option Addr->Sl->Int->PT)(T109:Option Addr->Int->PT)(T110:Option Addr->PT)(p:Option Addr)(l:Sl)(n:Int):PT:=λh Q=>
 dr p λb o=>ldI .i64 h b (o+3) λn1=>dr p λb1 o1=>st h b1 (o1+3) 1 [.int .i64 (wrap .i64 (n1+1))] λh1=>∃ (I:Int->Hp->Prop) (m:Int->Hp->Nat),I 0 h1/\(∀ n2:Int,∀ h2:Hp,I n2 h2->par (n2<(l.n:Int)) (ix l.a n2 l.n λb2 o2=>ldS h2 b2 ((o2+n2.toNat*3)+1) λl1=>T73 p l1 (wrap .i64 ((wrap .i64 (n+(wrap .i64 (7*n2))))+1)) h2 λr h3=>I (wrap .i64 (n2+1)) h3/\m (wrap .i64 (n2+1)) h3<m n2 h2) (dr p λb3 o3=>ldS h2 b3 (o3+141) λl2=>appendD l2 22 1 24 [.slice none 0 0] 1 [.slice l.a l.n l.c] h2 λl3 h4=>dr p λb4 o4=>st h4 b4 (o4+141) 1 [.slice l3.a l3.n l3.c] λh5=>dr p λb5 o5=>ldS h5 b5 (o5+142) λl4=>nw h5 (.cells ⟨[]⟩ 55 (0,0)) λb6 h6=>h6.at b5 (o5+142)=some (.slice l4.a l4.n l4.c)/\∃ vs,h6.row l.a (l.n*3) vs/\(∀ v∈vs,Value.oneCell' v=true)/\appendD ⟨(some ⟨b6,0,none⟩),0,0⟩ 55 3 48 [.string ⟨#[]⟩,.slice none 0 0,.int .i64 0] l.n vs h6 λl5 h7=>h7.at b5 (o5+142)=some (.slice l4.a l4.n l4.c)/\h7.at b5 (o5+142)=some (.slice l4.a l4.n l4.c)/\appendD l4 22 1 24 [.slice none 0 0] 1 [.slice l5.a l5.n l5.c] h7 λl6 h8=>dr p λb7 o6=>st h8 b7 (o6+142) 1 [.slice l6.a l6.n l6.c] λh9=>dr p λb8 o7=>ldS h9 b8 (o7+144) λl7=>appendD l7 3 1 8 [.int .i64 0] 1 [.int .i64 n] h9 λl8 h10=>dr p λb9 o8=>st h10 b9 (o8+144) 1 [.slice l8.a l8.n l8.c] λh11=>dr p λb10 o9=>ldS h11 b10 (o9+145) λl9=>dr p λb11 o10=>ldI .i64 h11 b11 (o10+147) λn3=>T109 p n3 h11 λr1 h12=>retI .i64 r1 λn4=>h12.at b10 (o9+145)=some (.slice l9.a l9.n l9.c)/\h12.at b10 (o9+145)=some (.slice l9.a l9.n l9.c)/\appendD l9 3 1 8 [.int .i64 0] 1 [.int .i64 n4] h12 λl10 h13=>dr p λb12 o11=>st h13 b12 (o11+145) 1 [.slice l10.a l10.n l10.c] λh14=>dr p λb13 o12=>ldI .i64 h14 b13 (o12+147) λn5=>dr p λb14 o13=>st h14 b14 (o13+147) 1 [.int .i64 (wrap .i64 (n5+1))] λh15=>T110 p h15 λr2 h16=>Q (.tuple ⟨[]⟩) h16))
def F71.T:=F71.G F73.T F109.T F110.T
theorem F71.gen(V T73 T109 T110 p l n):denF Tryz.prog [40,52,62,77] [(73,F73.W T73),(109,F109.W T109),(110,F110.W T110)] V F71.an Tryz.f71 [.v (.pointer p),.v (.slice l.a l.n l.c),.v (.int .i64 n)]=F71.G T73 T109 T110 p l n:=by kernel_rfl
def F71.W(T71:Option Addr->Sl->Int->PT)(args:List Value):PT:=match args with
 |[.pointer p,.slice l_a l_n l_c,.int .i64 n]=>T71 p ⟨l_a,l_n,l_c⟩ n
 |_=>λ_ _=>False
def F71.V:List Value->PT:=F71.W F71.T
theorem F71.ok:FOk Tryz.prog 71 F71.V:=by
 refine⟨⟨_,Tryz.func71,rfl,rfl⟩,λ_=>?_⟩;unfold F71.V F71.W;split;exact denF_okE (GOk.cons F73.ok (GOk.cons F109.ok (GOk.cons F110.ok (GOk.nil)))) noV_ok Tryz.func71 (F71.gen noV F73.T F109.T F110.T _ ⟨_,_,_⟩ _);exact λ_ _ h=>h.elim
def F74.an:List (Nat×Ann):=[(26,.loop [(3,.int .i64)] []),(58,.loop [(4,.int .i64)] []),(840,.order [0,1,2,3,4,5,6,7,8,9,10,11,12,13,14,15]),(1864,.order [0,1,2,3,4,5,6,7,8,9,10,11,12,13,14,15])]
def F74.G(T111:Sl->Sl->PT)(p:Option Addr):PT:=λh Q=>
 ∃ (I:Int->Hp->Prop) (m:Int->Hp->Nat),I 0 h/\(∀ n:Int,∀ h1:Hp,I n h1->dr p λb o=>ldS h1 b (o+4) λl=>par (n<(l.n:Int)) (dr p λb1 o1=>ldS h1 b1 (o1+4) λl1=>ix l1.a n l1.n λb2 o2=>ldS h1 b2 (o2+n.toNat) λl2=>dr p λb3 o3=>ldS h1 b3 (o3+5) λl3=>ix l3.a n l3.n λb4 o4=>ldS h1 b4 (o4+n.toNat) λl4=>T111 l2 l4 h1 λr h2=>retB r (I (wrap .i64 (n+1)) h2/\m (wrap .i64 (n+1)) h2<m n h1) (Q (.bool false) h2)) (∃ (I1:Int->Hp->Prop) (m1:Int->Hp->Nat),I1 0 h1/\(∀ n1:Int,∀ h3:Hp,I1 n1 h3->dr p λb5 o5=>ldS h3 b5 (o5+6) λl5=>par (n1<(l5.n:Int)) (dr p λb6 o6=>ldS h3 b6 (o6+6) λl6=>ix l6.a n1 l6.n λb7 o7=>ldS h3 b7 (o7+n1.toNat) λl7=>dr p λb8 o8=>ldS h3 b8 (o8+7) λl8=>ix l8.a n1 l8.n λb9 o9=>ldS h3 b9 (o9+n1.toNat) λl9=>T111 l7 l9 h3 λr1 h4=>retB r1 (I1 (wrap .i64 (n1+1)) h4/\m1 (wrap .i64 (n1+1)) h4<m1 n1 h3) (Q (.bool false) h4)) (Q (.bool true) h3))))
def F74.T:=F74.G F111.T
theorem F74.gen(V T111 p):denF Tryz.prog [] [(111,F111.W T111)] V F74.an Tryz.f74 [.v (.pointer p)]=F74.G T111 p:=by kernel_rfl
def F74.W(T74:Option Addr->PT)(args:List Value):PT:=match args with
 |[.pointer p]=>T74 p
 |_=>λ_ _=>False
def F74.V:List Value->PT:=F74.W F74.T
theorem F74.ok:FOk Tryz.prog 74 F74.V:=by
 refine⟨⟨_,Tryz.func74,rfl,rfl⟩,λ_=>?_⟩;unfold F74.V F74.W;split;exact denF_okE (GOk.cons F111.ok (GOk.nil)) noV_ok Tryz.func74 (F74.gen noV F111.T _);exact λ_ _ h=>h.elim
def F75.an:List (Nat×Ann):=[(26,.loop [(3,.int .i64)] []),(58,.loop [(4,.int .i64)] []),(105,.cut),(233,.cut)]
def F75.T(p:Option Addr):PT:=λh Q=>
 ∃ (I:Int->Hp->Prop) (m:Int->Hp->Nat),I 0 h/\(∀ n:Int,∀ h1:Hp,I n h1->dr p λb o=>ldS h1 b (o+13) λl=>par (n<(l.n:Int)) (False) (∃ (I1:Int->Hp->Prop) (m1:Int->Hp->Nat),I1 0 h1/\(∀ n1:Int,∀ h2:Hp,I1 n1 h2->dr p λb1 o1=>ldS h2 b1 (o1+15) λl1=>par (n1<(l1.n:Int)) (False) (Q (.bool true) h2))))
theorem F75.den(V p):denF Tryz.prog [] [] V F75.an Tryz.f75 [.v (.pointer p)]=F75.T p:=by kernel_rfl
def F75.W(T75:Option Addr->PT)(args:List Value):PT:=match args with
 |[.pointer p]=>T75 p
 |_=>λ_ _=>False
def F75.V:List Value->PT:=F75.W F75.T
theorem F75.ok:FOk Tryz.prog 75 F75.V:=by
 refine⟨⟨_,Tryz.func75,rfl,rfl⟩,λ_=>?_⟩;unfold F75.V F75.W;split;exact denF_okE (GOk.nil) noV_ok Tryz.func75 (F75.den noV _);exact λ_ _ h=>h.elim
def F76.an:List (Nat×Ann):=[(26,.loop [(3,.int .i64)] []),(58,.loop [(4,.int .i64)] []),(105,.cut),(233,.cut)]
def F76.T(p:Option Addr):PT:=λh Q=>
 ∃ (I:Int->Hp->Prop) (m:Int->Hp->Nat),I 0 h/\(∀ n:Int,∀ h1:Hp,I n h1->dr p λb o=>ldS h1 b (o+22) λl=>par (n<(l.n:Int)) (False) (∃ (I1:Int->Hp->Prop) (m1:Int->Hp->Nat),I1 0 h1/\(∀ n1:Int,∀ h2:Hp,I1 n1 h2->dr p λb1 o1=>ldS h2 b1 (o1+24) λl1=>par (n1<(l1.n:Int)) (False) (Q (.bool true) h2))))
theorem F76.den(V p):denF Tryz.prog [] [] V F76.an Tryz.f76 [.v (.pointer p)]=F76.T p:=by kernel_rfl
def F76.W(T76:Option Addr->PT)(args:List Value):PT:=match args with
 |[.pointer p]=>T76 p
 |_=>λ_ _=>False
def F76.V:List Value->PT:=F76.W F76.T
theorem F76.ok:FOk Tryz.prog 76 F76.V:=by
 refine⟨⟨_,Tryz.func76,rfl,rfl⟩,λ_=>?_⟩;unfold F76.V F76.W;split;exact denF_okE (GOk.nil) noV_ok Tryz.func76 (F76.den noV _);exact λ_ _ h=>h.elim
def F77.an:List (Nat×Ann):=[(26,.loop [(3,.int .i64)] []),(58,.loop [(4,.int .i64)] []),(105,.cut),(233,.cut)]
def F77.T(p:Option Addr):PT:=λh Q=>
 ∃ (I:Int->Hp->Prop) (m:Int->Hp->Nat),I 0 h/\(∀ n:Int,∀ h1:Hp,I n h1->dr p λb o=>ldS h1 b (o+31) λl=>par (n<(l.n:Int)) (False) (∃ (I1:Int->Hp->Prop) (m1:Int->Hp->Nat),I1 0 h1/\(∀ n1:Int,∀ h2:Hp,I1 n1 h2->dr p λb1 o1=>ldS h2 b1 (o1+33) λl1=>par (n1<(l1.n:Int)) (False) (Q (.bool true) h2))))
theorem F77.den(V p):denF Tryz.prog [] [] V F77.an Tryz.f77 [.v (.pointer p)]=F77.T p:=by kernel_rfl
def F77.W(T77:Option Addr->PT)(args:List Value):PT:=match args with
 |[.pointer p]=>T77 p
 |_=>λ_ _=>False
def F77.V:List Value->PT:=F77.W F77.T
theorem F77.ok:FOk Tryz.prog 77 F77.V:=by
 refine⟨⟨_,Tryz.func77,rfl,rfl⟩,λ_=>?_⟩;unfold F77.V F77.W;split;exact denF_okE (GOk.nil) noV_ok Tryz.func77 (F77.den noV _);exact λ_ _ h=>h.elim
def F78.an:List (Nat×Ann):=[(26,.loop [(3,.int .i64)] []),(58,.loop [(4,.int .i64)] []),(105,.cut),(233,.cut)]
def F78.T(p:Option Addr):PT:=λh Q=>
 ∃ (I:Int->Hp->Prop) (m:Int->Hp->Nat),I 0 h/\(∀ n:Int,∀ h1:Hp,I n h1->dr p λb o=>ldS h1 b (o+40) λl=>par (n<(l.n:Int)) (False) (∃ (I1:Int->Hp->Prop) (m1:Int->Hp->Nat),I1 0 h1/\(∀ n1:Int,∀ h2:Hp,I1 n1 h2->dr p λb1 o1=>ldS h2 b1 (o1+42) λl1=>par (n1<(l1.n:Int)) (False) (Q (.bool true) h2))))
theorem F78.den(V p):denF Tryz.prog [] [] V F78.an Tryz.f78 [.v (.pointer p)]=F78.T p:=by kernel_rfl
def F78.W(T78:Option Addr->PT)(args:List Value):PT:=match args with
 |[.pointer p]=>T78 p
 |_=>λ_ _=>False
def F78.V:List Value->PT:=F78.W F78.T
theorem F78.ok:FOk Tryz.prog 78 F78.V:=by
 refine⟨⟨_,Tryz.func78,rfl,rfl⟩,λ_=>?_⟩;unfold F78.V F78.W;split;exact denF_okE (GOk.nil) noV_ok Tryz.func78 (F78.den noV _);exact λ_ _ h=>h.elim
def F79.an:List (Nat×Ann):=[(26,.loop [(3,.int .i64)] []),(58,.loop [(4,.int .i64)] []),(105,.cut),(233,.cut)]
def F79.T(p:Option Addr):PT:=λh Q=>
 ∃ (I:Int->Hp->Prop) (m:Int->Hp->Nat),I 0 h/\(∀ n:Int,∀ h1:Hp,I n h1->dr p λb o=>ldS h1 b (o+49) λl=>par (n<(l.n:Int)) (False) (∃ (I1:Int->Hp->Prop) (m1:Int->Hp->Nat),I1 0 h1/\(∀ n1:Int,∀ h2:Hp,I1 n1 h2->dr p λb1 o1=>ldS h2 b1 (o1+51) λl1=>par (n1<(l1.n:Int)) (False) (Q (.bool true) h2))))
theorem F79.den(V p):denF Tryz.prog [] [] V F79.an Tryz.f79 [.v (.pointer p)]=F79.T p:=by kernel_rfl
def F79.W(T79:Option Addr->PT)(args:List Value):PT:=match args with
 |[.pointer p]=>T79 p
 |_=>λ_ _=>False
def F79.V:List Value->PT:=F79.W F79.T
theorem F79.ok:FOk Tryz.prog 79 F79.V:=by
 refine⟨⟨_,Tryz.func79,rfl,rfl⟩,λ_=>?_⟩;unfold F79.V F79.W;split;exact denF_okE (GOk.nil) noV_ok Tryz.func79 (F79.den noV _);exact λ_ _ h=>h.elim
def F80.an:List (Nat×Ann):=[(26,.loop [(3,.int .i64)] []),(58,.loop [(4,.int .i64)] []),(105,.cut),(233,.cut)]
def F80.T(p:Option Addr):PT:=λh Q=>
 ∃ (I:Int->Hp->Prop) (m:Int->Hp->Nat),I 0 h/\(∀ n:Int,∀ h1:Hp,I n h1->dr p λb o=>ldS h1 b (o+58) λl=>par (n<(l.n:Int)) (False) (∃ (I1:Int->Hp->Prop) (m1:Int->Hp->Nat),I1 0 h1/\(∀ n1:Int,∀ h2:Hp,I1 n1 h2->dr p λb1 o1=>ldS h2 b1 (o1+60) λl1=>par (n1<(l1.n:Int)) (False) (Q (.bool true) h2))))
theorem F80.den(V p):denF Tryz.prog [] [] V F80.an Tryz.f80 [.v (.pointer p)]=F80.T p:=by kernel_rfl
def F80.W(T80:Option Addr->PT)(args:List Value):PT:=match args with
 |[.pointer p]=>T80 p
 |_=>λ_ _=>False
def F80.V:List Value->PT:=F80.W F80.T
theorem F80.ok:FOk Tryz.prog 80 F80.V:=by
 refine⟨⟨_,Tryz.func80,rfl,rfl⟩,λ_=>?_⟩;unfold F80.V F80.W;split;exact denF_okE (GOk.nil) noV_ok Tryz.func80 (F80.den noV _);exact λ_ _ h=>h.elim
def F81.an:List (Nat×Ann):=[(26,.loop [(3,.int .i64)] []),(58,.loop [(4,.int .i64)] []),(105,.cut),(233,.cut)]
def F81.T(p:Option Addr):PT:=λh Q=>
 ∃ (I:Int->Hp->Prop) (m:Int->Hp->Nat),I 0 h/\(∀ n:Int,∀ h1:Hp,I n h1->dr p λb o=>ldS h1 b (o+67) λl=>par (n<(l.n:Int)) (False) (∃ (I1:Int->Hp->Prop) (m1:Int->Hp->Nat),I1 0 h1/\(∀ n1:Int,∀ h2:Hp,I1 n1 h2->dr p λb1 o1=>ldS h2 b1 (o1+69) λl1=>par (n1<(l1.n:Int)) (False) (Q (.bool true) h2))))
theorem F81.den(V p):denF Tryz.prog [] [] V F81.an Tryz.f81 [.v (.pointer p)]=F81.T p:=by kernel_rfl
def F81.W(T81:Option Addr->PT)(args:List Value):PT:=match args with
 |[.pointer p]=>T81 p
 |_=>λ_ _=>False
def F81.V:List Value->PT:=F81.W F81.T
theorem F81.ok:FOk Tryz.prog 81 F81.V:=by
 refine⟨⟨_,Tryz.func81,rfl,rfl⟩,λ_=>?_⟩;unfold F81.V F81.W;split;exact denF_okE (GOk.nil) noV_ok Tryz.func81 (F81.den noV _);exact λ_ _ h=>h.elim
def F82.an:List (Nat×Ann):=[(26,.loop [(3,.int .i64)] []),(58,.loop [(4,.int .i64)] []),(105,.cut),(233,.cut)]
def F82.T(p:Option Addr):PT:=λh Q=>
 ∃ (I:Int->Hp->Prop) (m:Int->Hp->Nat),I 0 h/\(∀ n:Int,∀ h1:Hp,I n h1->dr p λb o=>ldS h1 b (o+76) λl=>par (n<(l.n:Int)) (False) (∃ (I1:Int->Hp->Prop) (m1:Int->Hp->Nat),I1 0 h1/\(∀ n1:Int,∀ h2:Hp,I1 n1 h2->dr p λb1 o1=>ldS h2 b1 (o1+78) λl1=>par (n1<(l1.n:Int)) (False) (Q (.bool true) h2))))
theorem F82.den(V p):denF Tryz.prog [] [] V F82.an Tryz.f82 [.v (.pointer p)]=F82.T p:=by kernel_rfl
def F82.W(T82:Option Addr->PT)(args:List Value):PT:=match args with
 |[.pointer p]=>T82 p
 |_=>λ_ _=>False
def F82.V:List Value->PT:=F82.W F82.T
theorem F82.ok:FOk Tryz.prog 82 F82.V:=by
 refine⟨⟨_,Tryz.func82,rfl,rfl⟩,λ_=>?_⟩;unfold F82.V F82.W;split;exact denF_okE (GOk.nil) noV_ok Tryz.func82 (F82.den noV _);exact λ_ _ h=>h.elim
def F83.an:List (Nat×Ann):=[(26,.loop [(3,.int .i64)] []),(58,.loop [(4,.int .i64)] []),(105,.cut),(233,.cut)]
def F83.T(p:Option Addr):PT:=λh Q=>
 ∃ (I:Int->Hp->Prop) (m:Int->Hp->Nat),I 0 h/\(∀ n:Int,∀ h1:Hp,I n h1->dr p λb o=>ldS h1 b (o+85) λl=>par (n<(l.n:Int)) (False) (∃ (I1:Int->Hp->Prop) (m1:Int->Hp->Nat),I1 0 h1/\(∀ n1:Int,∀ h2:Hp,I1 n1 h2->dr p λb1 o1=>ldS h2 b1 (o1+87) λl1=>par (n1<(l1.n:Int)) (False) (Q (.bool true) h2))))
theorem F83.den(V p):denF Tryz.prog [] [] V F83.an Tryz.f83 [.v (.pointer p)]=F83.T p:=by kernel_rfl
def F83.W(T83:Option Addr->PT)(args:List Value):PT:=match args with
 |[.pointer p]=>T83 p
 |_=>λ_ _=>False
def F83.V:List Value->PT:=F83.W F83.T
theorem F83.ok:FOk Tryz.prog 83 F83.V:=by
 refine⟨⟨_,Tryz.func83,rfl,rfl⟩,λ_=>?_⟩;unfold F83.V F83.W;split;exact denF_okE (GOk.nil) noV_ok Tryz.func83 (F83.den noV _);exact λ_ _ h=>h.elim
def F84.an:List (Nat×Ann):=[(26,.loop [(3,.int .i64)] []),(58,.loop [(4,.int .i64)] []),(105,.cut),(233,.cut)]
def F84.T(p:Option Addr):PT:=λh Q=>
 ∃ (I:Int->Hp->Prop) (m:Int->Hp->Nat),I 0 h/\(∀ n:Int,∀ h1:Hp,I n h1->dr p λb o=>ldS h1 b (o+94) λl=>par (n<(l.n:Int)) (False) (∃ (I1:Int->Hp->Prop) (m1:Int->Hp->Nat),I1 0 h1/\(∀ n1:Int,∀ h2:Hp,I1 n1 h2->dr p λb1 o1=>ldS h2 b1 (o1+96) λl1=>par (n1<(l1.n:Int)) (False) (Q (.bool true) h2))))
theorem F84.den(V p):denF Tryz.prog [] [] V F84.an Tryz.f84 [.v (.pointer p)]=F84.T p:=by kernel_rfl
def F84.W(T84:Option Addr->PT)(args:List Value):PT:=match args with
 |[.pointer p]=>T84 p
 |_=>λ_ _=>False
def F84.V:List Value->PT:=F84.W F84.T
theorem F84.ok:FOk Tryz.prog 84 F84.V:=by
 refine⟨⟨_,Tryz.func84,rfl,rfl⟩,λ_=>?_⟩;unfold F84.V F84.W;split;exact denF_okE (GOk.nil) noV_ok Tryz.func84 (F84.den noV _);exact λ_ _ h=>h.elim
def F85.an:List (Nat×Ann):=[(26,.loop [(3,.int .i64)] []),(58,.loop [(4,.int .i64)] []),(105,.cut),(233,.cut)]
def F85.T(p:Option Addr):PT:=λh Q=>
 ∃ (I:Int->Hp->Prop) (m:Int->Hp->Nat),I 0 h/\(∀ n:Int,∀ h1:Hp,I n h1->dr p λb o=>ldS h1 b (o+103) λl=>par (n<(l.n:Int)) (False) (∃ (I1:Int->Hp->Prop) (m1:Int->Hp->Nat),I1 0 h1/\(∀ n1:Int,∀ h2:Hp,I1 n1 h2->dr p λb1 o1=>ldS h2 b1 (o1+105) λl1=>par (n1<(l1.n:Int)) (False) (Q (.bool true) h2))))
theorem F85.den(V p):denF Tryz.prog [] [] V F85.an Tryz.f85 [.v (.pointer p)]=F85.T p:=by kernel_rfl
def F85.W(T85:Option Addr->PT)(args:List Value):PT:=match args with
 |[.pointer p]=>T85 p
 |_=>λ_ _=>False
def F85.V:List Value->PT:=F85.W F85.T
theorem F85.ok:FOk Tryz.prog 85 F85.V:=by
 refine⟨⟨_,Tryz.func85,rfl,rfl⟩,λ_=>?_⟩;unfold F85.V F85.W;split;exact denF_okE (GOk.nil) noV_ok Tryz.func85 (F85.den noV _);exact λ_ _ h=>h.elim
def F86.an:List (Nat×Ann):=[(26,.loop [(3,.int .i64)] []),(58,.loop [(4,.int .i64)] []),(105,.cut),(233,.cut)]
def F86.T(p:Option Addr):PT:=λh Q=>
 ∃ (I:Int->Hp->Prop) (m:Int->Hp->Nat),I 0 h/\(∀ n:Int,∀ h1:Hp,I n h1->dr p λb o=>ldS h1 b (o+112) λl=>par (n<(l.n:Int)) (False) (∃ (I1:Int->Hp->Prop) (m1:Int->Hp->Nat),I1 0 h1/\(∀ n1:Int,∀ h2:Hp,I1 n1 h2->dr p λb1 o1=>ldS h2 b1 (o1+114) λl1=>par (n1<(l1.n:Int)) (False) (Q (.bool true) h2))))
theorem F86.den(V p):denF Tryz.prog [] [] V F86.an Tryz.f86 [.v (.pointer p)]=F86.T p:=by kernel_rfl
def F86.W(T86:Option Addr->PT)(args:List Value):PT:=match args with
 |[.pointer p]=>T86 p
 |_=>λ_ _=>False
def F86.V:List Value->PT:=F86.W F86.T
theorem F86.ok:FOk Tryz.prog 86 F86.V:=by
 refine⟨⟨_,Tryz.func86,rfl,rfl⟩,λ_=>?_⟩;unfold F86.V F86.W;split;exact denF_okE (GOk.nil) noV_ok Tryz.func86 (F86.den noV _);exact λ_ _ h=>h.elim
def F87.an:List (Nat×Ann):=[(26,.loop [(3,.int .i64)] []),(58,.loop [(4,.int .i64)] []),(105,.cut),(233,.cut)]
def F87.T(p:Option Addr):PT:=λh Q=>
 ∃ (I:Int->Hp->Prop) (m:Int->Hp->Nat),I 0 h/\(∀ n:Int,∀ h1:Hp,I n h1->dr p λb o=>ldS h1 b (o+121) λl=>par (n<(l.n:Int)) (False) (∃ (I1:Int->Hp->Prop) (m1:Int->Hp->Nat),I1 0 h1/\(∀ n1:Int,∀ h2:Hp,I1 n1 h2->dr p λb1 o1=>ldS h2 b1 (o1+123) λl1=>par (n1<(l1.n:Int)) (False) (Q (.bool true) h2))))
theorem F87.den(V p):denF Tryz.prog [] [] V F87.an Tryz.f87 [.v (.pointer p)]=F87.T p:=by kernel_rfl
def F87.W(T87:Option Addr->PT)(args:List Value):PT:=match args with
 |[.pointer p]=>T87 p
 |_=>λ_ _=>False
def F87.V:List Value->PT:=F87.W F87.T
theorem F87.ok:FOk Tryz.prog 87 F87.V:=by
 refine⟨⟨_,Tryz.func87,rfl,rfl⟩,λ_=>?_⟩;unfold F87.V F87.W;split;exact denF_okE (GOk.nil) noV_ok Tryz.func87 (F87.den noV _);exact λ_ _ h=>h.elim
def F88.an:List (Nat×Ann):=[(26,.loop [(3,.int .i64)] []),(58,.loop [(4,.int .i64)] []),(105,.cut),(233,.cut)]
def F88.T(p:Option Addr):PT:=λh Q=>
 ∃ (I:Int->Hp->Prop) (m:Int->Hp->Nat),I 0 h/\(∀ n:Int,∀ h1:Hp,I n h1->dr p λb o=>ldS h1 b (o+130) λl=>par (n<(l.n:Int)) (False) (∃ (I1:Int->Hp->Prop) (m1:Int->Hp->Nat),I1 0 h1/\(∀ n1:Int,∀ h2:Hp,I1 n1 h2->dr p λb1 o1=>ldS h2 b1 (o1+132) λl1=>par (n1<(l1.n:Int)) (False) (Q (.bool true) h2))))
theorem F88.den(V p):denF Tryz.prog [] [] V F88.an Tryz.f88 [.v (.pointer p)]=F88.T p:=by kernel_rfl
def F88.W(T88:Option Addr->PT)(args:List Value):PT:=match args with
 |[.pointer p]=>T88 p
 |_=>λ_ _=>False
def F88.V:List Value->PT:=F88.W F88.T
theorem F88.ok:FOk Tryz.prog 88 F88.V:=by
 refine⟨⟨_,Tryz.func88,rfl,rfl⟩,λ_=>?_⟩;unfold F88.V F88.W;split;exact denF_okE (GOk.nil) noV_ok Tryz.func88 (F88.den noV _);exact λ_ _ h=>h.elim
def F89.an:List (Nat×Ann):=[(26,.loop [(3,.int .i64)] []),(58,.loop [(4,.int .i64)] []),(840,.order [0,1,2,3,4,5,6,7,8,9,10,11,12,13,14,15]),(1864,.order [0,1,2,3,4,5,6,7,8,9,10,11,12,13,14,15])]
def F89.G(T126:Sl->Sl->PT)(p:Option Addr):PT:=λh Q=>
 ∃ (I:Int->Hp->Prop) (m:Int->Hp->Nat),I 0 h/\(∀ n:Int,∀ h1:Hp,I n h1->dr p λb o=>ldS h1 b (o+139) λl=>par (n<(l.n:Int)) (dr p λb1 o1=>ldS h1 b1 (o1+139) λl1=>ix l1.a n l1.n λb2 o2=>ldS h1 b2 (o2+n.toNat) λl2=>dr p λb3 o3=>ldS h1 b3 (o3+140) λl3=>ix l3.a n l3.n λb4 o4=>ldS h1 b4 (o4+n.toNat) λl4=>T126 l2 l4 h1 λr h2=>retB r (I (wrap .i64 (n+1)) h2/\m (wrap .i64 (n+1)) h2<m n h1) (Q (.bool false) h2)) (∃ (I1:Int->Hp->Prop) (m1:Int->Hp->Nat),I1 0 h1/\(∀ n1:Int,∀ h3:Hp,I1 n1 h3->dr p λb5 o5=>ldS h3 b5 (o5+141) λl5=>par (n1<(l5.n:Int)) (dr p λb6 o6=>ldS h3 b6 (o6+141) λl6=>ix l6.a n1 l6.n λb7 o7=>ldS h3 b7 (o7+n1.toNat) λl7=>dr p λb8 o8=>ldS h3 b8 (o8+142) λl8=>ix l8.a n1 l8.n λb9 o9=>ldS h3 b9 (o9+n1.toNat) λl9=>T126 l7 l9 h3 λr1 h4=>retB r1 (I1 (wrap .i64 (n1+1)) h4/\m1 (wrap .i64 (n1+1)) h4<m1 n1 h3) (Q (.bool false) h4)) (Q (.bool true) h3))))
def F89.T:=F89.G F126.T
theorem F89.gen(V T126 p):denF Tryz.prog [] [(126,F126.W T126)] V F89.an Tryz.f89 [.v (.pointer p)]=F89.G T126 p:=by kernel_rfl
def F89.W(T89:Option Addr->PT)(args:List Value):PT:=match args with
 |[.pointer p]=>T89 p
 |_=>λ_ _=>False
def F89.V:List Value->PT:=F89.W F89.T
theorem F89.ok:FOk Tryz.prog 89 F89.V:=by
 refine⟨⟨_,Tryz.func89,rfl,rfl⟩,λ_=>?_⟩;unfold F89.V F89.W;split;exact denF_okE (GOk.cons F126.ok (GOk.nil)) noV_ok Tryz.func89 (F89.gen noV F126.T _);exact λ_ _ h=>h.elim
def F90.an:List (Nat×Ann):=[(26,.loop [(3,.int .i64)] []),(58,.loop [(4,.int .i64)] []),(105,.cut),(233,.cut)]
def F90.T(p:Option Addr):PT:=λh Q=>
 ∃ (I:Int->Hp->Prop) (m:Int->Hp->Nat),I 0 h/\(∀ n:Int,∀ h1:Hp,I n h1->dr p λb o=>ldS h1 b (o+148) λl=>par (n<(l.n:Int)) (False) (∃ (I1:Int->Hp->Prop) (m1:Int->Hp->Nat),I1 0 h1/\(∀ n1:Int,∀ h2:Hp,I1 n1 h2->dr p λb1 o1=>ldS h2 b1 (o1+150) λl1=>par (n1<(l1.n:Int)) (False) (Q (.bool true) h2))))
theorem F90.den(V p):denF Tryz.prog [] [] V F90.an Tryz.f90 [.v (.pointer p)]=F90.T p:=by kernel_rfl
def F90.W(T90:Option Addr->PT)(args:List Value):PT:=match args with
 |[.pointer p]=>T90 p
 |_=>λ_ _=>False
def F90.V:List Value->PT:=F90.W F90.T
theorem F90.ok:FOk Tryz.prog 90 F90.V:=by
 refine⟨⟨_,Tryz.func90,rfl,rfl⟩,λ_=>?_⟩;unfold F90.V F90.W;split;exact denF_okE (GOk.nil) noV_ok Tryz.func90 (F90.den noV _);exact λ_ _ h=>h.elim
def F91.an:List (Nat×Ann):=[(26,.loop [(3,.int .i64)] []),(58,.loop [(4,.int .i64)] []),(105,.cut),(233,.cut)]
def F91.T(p:Option Addr):PT:=λh Q=>
 ∃ (I:Int->Hp->Prop) (m:Int->Hp->Nat),I 0 h/\(∀ n:Int,∀ h1:Hp,I n h1->dr p λb o=>ldS h1 b (o+157) λl=>par (n<(l.n:Int)) (False) (∃ (I1:Int->Hp->Prop) (m1:Int->Hp->Nat),I1 0 h1/\(∀ n1:Int,∀ h2:Hp,I1 n1 h2->dr p λb1 o1=>ldS h2 b1 (o1+159) λl1=>par (n1<(l1.n:Int)) (False) (Q (.bool true) h2))))
theorem F91.den(V p):denF Tryz.prog [] [] V F91.an Tryz.f91 [.v (.pointer p)]=F91.T p:=by kernel_rfl
def F91.W(T91:Option Addr->PT)(args:List Value):PT:=match args with
 |[.pointer p]=>T91 p
 |_=>λ_ _=>False
def F91.V:List Value->PT:=F91.W F91.T
theorem F91.ok:FOk Tryz.prog 91 F91.V:=by
 refine⟨⟨_,Tryz.func91,rfl,rfl⟩,λ_=>?_⟩;unfold F91.V F91.W;split;exact denF_okE (GOk.nil) noV_ok Tryz.func91 (F91.den noV _);exact λ_ _ h=>h.elim
def F92.an:List (Nat×Ann):=[(26,.loop [(3,.int .i64)] []),(58,.loop [(4,.int .i64)] []),(105,.cut),(233,.cut)]
def F92.T(p:Option Addr):PT:=λh Q=>
 ∃ (I:Int->Hp->Prop) (m:Int->Hp->Nat),I 0 h/\(∀ n:Int,∀ h1:Hp,I n h1->dr p λb o=>ldS h1 b (o+166) λl=>par (n<(l.n:Int)) (False) (∃ (I1:Int->Hp->Prop) (m1:Int->Hp->Nat),I1 0 h1/\(∀ n1:Int,∀ h2:Hp,I1 n1 h2->dr p λb1 o1=>ldS h2 b1 (o1+168) λl1=>par (n1<(l1.n:Int)) (False) (Q (.bool true) h2))))
theorem F92.den(V p):denF Tryz.prog [] [] V F92.an Tryz.f92 [.v (.pointer p)]=F92.T p:=by kernel_rfl
def F92.W(T92:Option Addr->PT)(args:List Value):PT:=match args with
 |[.pointer p]=>T92 p
 |_=>λ_ _=>False
def F92.V:List Value->PT:=F92.W F92.T
theorem F92.ok:FOk Tryz.prog 92 F92.V:=by
 refine⟨⟨_,Tryz.func92,rfl,rfl⟩,λ_=>?_⟩;unfold F92.V F92.W;split;exact denF_okE (GOk.nil) noV_ok Tryz.func92 (F92.den noV _);exact λ_ _ h=>h.elim
def F19.an:List (Nat×Ann):=[]
def F19.G(T74 T75 T76 T77 T78 T79 T80 T81 T82 T83 T84 T85 T86 T87 T88 T89 T90 T91 T92:Option Addr->PT)(p:Option Addr):PT:=λh Q=>
 dr p λb o=>ldB h b (o+1) (Q (.bool false) h) (T74 p h λr h1=>retB r (T75 p h1 λr1 h2=>retB r1 (T76 p h2 λr2 h3=>retB r2 (T77 p h3 λr3 h4=>retB r3 (T78 p h4 λr4 h5=>retB r4 (T79 p h5 λr5 h6=>retB r5 (T80 p h6 λr6 h7=>retB r6 (T81 p h7 λr7 h8=>retB r7 (T82 p h8 λr8 h9=>retB r8 (T83 p h9 λr9 h10=>retB r9 (T84 p h10 λr10 h11=>retB r10 (T85 p h11 λr11 h12=>retB r11 (T86 p h12 λr12 h13=>retB r12 (T87 p h13 λr13 h14=>retB r13 (T88 p h14 λr14 h15=>retB r14 (T89 p h15 λr15 h16=>retB r15 (T90 p h16 λr16 h17=>retB r16 (T91 p h17 λr17 h18=>retB r17 (T92 p h18 λr18 h19=>retB r18 (Q (.bool true) h19) (Q (.bool false) h19)) (Q (.bool false) h18)) (Q (.bool false) h17)) (Q (.bool false) h16)) (Q (.bool false) h15)) (Q (.bool false) h14)) (Q (.bool false) h13)) (Q (.bool false) h12)) (Q (.bool false) h11)) (Q (.bool false) h10)) (Q (.bool false) h9)) (Q (.bool false) h8)) (Q (.bool false) h7)) (Q (.bool false) h6)) (Q (.bool false) h5)) (Q (.bool false) h4)) (Q (.bool false) h3)) (Q (.bool false) h2)) (Q (.bool false) h1))
def F19.T:=F19.G F74.T F75.T F76.T F77.T F78.T F79.T F80.T F81.T F82.T F83.T F84.T F85.T F86.T F87.T F88.T F89.T F90.T F91.T F92.T
theorem F19.gen(V T74 T75 T76 T77 T78 T79 T80 T81 T82 T83 T84 T85 T86 T87 T88 T89 T90 T91 T92 p):denF Tryz.prog [] [(74,F74.W T74),(75,F75.W T75),(76,F76.W T76),(77,F77.W T77),(78,F78.W T78),(79,F79.W T79),(80,F80.W T80),(81,F81.W T81),(82,F82.W T82),(83,F83.W T83),(84,F84.W T84),(85,F85.W T85),(86,F86.W T86),(87,F87.W T87),(88,F88.W T88),(89,F89.W T89),(90,F90.W T90),(91,F91.W T91),(92,F92.W T92)] V F19.an Tryz.f19 [.v (.pointer p)]=F19.G T74 T75 T76 T77 T78 T79 T80 T81 T82 T83 T84 T85 T86 T87 T88 T89 T90 T91 T92 p:=by kernel_rfl
def F19.W(T19:Option Addr->PT)(args:List Value):PT:=match args with
 |[.pointer p]=>T19 p
 |_=>λ_ _=>False
def F19.V:List Value->PT:=F19.W F19.T
theorem F19.ok:FOk Tryz.prog 19 F19.V:=by
 refine⟨⟨_,Tryz.func19,rfl,rfl⟩,λ_=>?_⟩;unfold F19.V F19.W;split;exact denF_okE (GOk.cons F74.ok (GOk.cons F75.ok (GOk.cons F76.ok (GOk.cons F77.ok (GOk.cons F78.ok (GOk.cons F79.ok (GOk.cons F80.ok (GOk.cons F81.ok (GOk.cons F82.ok (GOk.cons F83.ok (GOk.cons F84.ok (GOk.cons F85.ok (GOk.cons F86.ok (GOk.cons F87.ok (GOk.cons F88.ok (GOk.cons F89.ok (GOk.cons F90.ok (GOk.cons F91.ok (GOk.cons F92.ok (GOk.nil)))))))))))))))))))) noV_ok Tryz.func19 (F19.gen noV F74.T F75.T F76.T F77.T F78.T F79.T F80.T F81.T F82.T F83.T F84.T F85.T F86.T F87.T F88.T F89.T F90.T F91.T F92.T _);exact λ_ _ h=>h.elim
end Go.Eng.YtekflkpnpibneaaGreatDoor
end
section
open Go.Proofs
namespace Go.Eng.YtekflkpnpibneaaGreatDoor
def F72.an:List (Nat×Ann):=[]
def F72.T(n:Int):PT:=λh Q=>
 Q (.int .i64 (wrap .i64 (3+(wrap .i64 (53*n))))) h
theorem F72.den(V n):denF Tryz.prog [] [] V F72.an Tryz.f72 [.v (.int .i64 n)]=F72.T n:=by kernel_rfl
def F72.W(T72:Int->PT)(args:List Value):PT:=match args with
 |[.int .i64 n]=>T72 n
 |_=>λ_ _=>False
def F72.V:List Value->PT:=F72.W F72.T
theorem F72.ok:FOk Tryz.prog 72 F72.V:=by
 refine⟨⟨_,Tryz.func72,rfl,rfl⟩,λ_=>?_⟩;unfold F72.V F72.W;split;exact denF_okE (GOk.nil) noV_ok Tryz.func72 (F72.den noV _);exact λ_ _ h=>h.elim
def F18.an:List (Nat×Ann):=[(6,.order [0,1,2,3,5,6,7,8,4,9,10,11]),(510,.orderL [0,1,2,3,6,7,8,9,4,5,10,11,12,13] [4,10]),(65530,.loop [(13,.int .i64)] []),(2096968,.order [0,1,2,3,4,5,6,7,8,9,10,11,12,13,14]),(4193938,.order [0,1,2,3,4,5,6,7,8,9,10,11,12,13,14]),(8387878,.order [0,1,2,3,4,5,6,7,8,9,10,11,12,13,14])]
def F18.G(T9 T15:Sl->Sl->PT)(T24:Option Addr->PT)(T25:Option Addr->Int->Sl->PT)(T28:Option Addr->ByteArray->PT)(T55:Option Addr->Int->Sl->PT)(T65:Option Addr->ByteArray->PT)(T66:Option Addr->PT)(T71:Option Addr->Sl->Int->PT)(T72:Int->PT)(T73:Option Addr->Sl->Int->PT)(p p1:Option Addr)(n:Int):PT:=λh Q=>
 dr p λb o=>ldP h b o λp2=>dr p λb1 o1=>ldP h b1 o1 λp3=>T24 p2 h λr h1=>retS r λl=>h1.at b1 o1=some (.pointer p3)/\T24 p3 h1 λr1 h2=>retS r1 λl1=>dr p λb2 o2=>ldP h2 b2 (o2+1) λp4=>T66 p4 h2 λr2 h3=>retS r2 λl2=>T9 l l2 h3 λr3 h4=>retB r3 (T72 (wrap .i64 (8*n)) h4 λr4 h5=>retI .i64 r4 λn1=>T71 p1 l n1 h5 λr5 h6=>T9 l1 l2 h6 λr6 h7=>retB r6 (T72 (wrap .i64 ((wrap .i64 (8*n))+1)) h7 λr7 h8=>retI .i64 r7 λn2=>T71 p1 l1 n2 h8 λr8 h9=>dr p λb3 o3=>ldP h9 b3 o3 λp5=>dr p λb4 o4=>ldP h9 b4 o4 λp6=>nw h9 (.cells ⟨[.int .i64 1]⟩ 3 (0,0)) λb5 h10=>h10.at b3 o3=some (.pointer p5)/\h10.at b4 o4=some (.pointer p6)/\T25 p5 2 ⟨(some ⟨b5,0,none⟩),1,1⟩ h10 λr9 h11=>retS r9 λl3=>h11.at b4 o4=some (.pointer p6)/\nw h11 (.cells ⟨[.int .i64 1]⟩ 3 (0,0)) λb6 h12=>h12.at b4 o4=some (.pointer p6)/\T25 p6 2 ⟨(some ⟨b6,0,none⟩),1,1⟩ h12 λr10 h13=>retS r10 λl4=>dr p λb7 o5=>ldP h13 b7 (o5+1) λp7=>nw h13 (.cells ⟨[.int .i64 1]⟩ 3 (0,0)) λb8 h14=>T55 p7 2 ⟨(some ⟨b8,0,none⟩),1,1⟩ h14 λr11 h15=>retS r11 λl5=>T9 l3 l5 h15 λr12 h16=>retB r12 (T72 (wrap .i64 ((wrap .i64 (8*n))+2)) h16 λr13 h17=>retI .i64 r13 λn3=>T71 p1 l3 n3 h17 λr14 h18=>T9 l4 l5 h18 λr15 h19=>retB r15 (∃ (I:Int->Hp->Prop) (m:Int->Hp->Nat),I 0 h19/\(∀ n4:Int,∀ h20:Hp,I n4 h20->par (n4<(l2.n:Int)) (par (n4<3) (dr p λb9 o6=>ldP h20 b9 o6 λp8=>ix l2.a n4 l2.n λb10 o7=>ldT h20 b10 (o7+n4.toNat*3) λs=>T28 p8 s h20 λr16 h21=>∃ l6:Sl,∃ n5:Int,r16=.tuple ⟨[.slice l6.a l6.n l6.c,.int .i64 n5]⟩/\dr p λb11 o8=>ldP h21 b11 o8 λp9=>ix l2.a n4 l2.n λb12 o9=>ldT h21 b12 (o9+n4.toNat*3) λs1=>T28 p9 s1 h21 λr17 h22=>∃ l7:Sl,∃ n6:Int,r17=.tuple ⟨[.slice l7.a l7.n l7.c,.int .i64 n6]⟩/\dr p λb13 o10=>ldP h22 b13 (o10+1) λp10=>ix l2.a n4 l2.n λb14 o11=>ldT h22 b14 (o11+n4.toNat*3) λs2=>T65 p10 s2 h22 λr18 h23=>∃ l8:Sl,∃ n7:Int,r18=.tuple ⟨[.slice l8.a l8.n l8.c,.int .i64 n7]⟩/\par (n5=n7) (par (n5=n6) (T15 l6 l8 h23 λr19 h24=>retB r19 (T72 (wrap .i64 ((wrap .i64 ((wrap .i64 (8*n))+3))+n4)) h24 λr20 h25=>retI .i64 r20 λn8=>T73 p1 l6 n8 h25 λr21 h26=>T15 l7 l8 h26 λr22 h27=>retB r22 (I (wrap .i64 (n4+1)) h27/\m (wrap .i64 (n4+1)) h27<m n4 h20) (Q (.bool false) h27)) (Q (.bool false) h24)) (Q (.bool false) h23)) (Q (.bool false) h23)) (Q (.bool true) h20)) (Q (.bool true) h20))) (Q (.bool false) h19)) (Q (.bool false) h16)) (Q (.bool false) h7)) (Q (.bool false) h4)
theorem F18.gen(V T9 T15 T24 T25 T28 T55 T65 T66 T71 T72 T73 p p1 n):denF Tryz.prog [] [(9,F9.W T9),(15,F15.W T15),(24,F24.W T24),(25,F25.W T25),(28,F28.W T28),(55,F55.W T55),(65,F65.W T65),(66,F66.W T66),(71,F71.W T71),(72,F72.W T72),(73,F73.W T73)] V F18.an Tryz.f18 [.v (.pointer p),.v (.pointer p1),.v (.int .i64 n)]=F18.G T9 T15 T24 T25 T28 T55 T65 T66 T71 T72 T73 p p1 n:=by kernel_rfl
def F18.W(T18:Option Addr->Option Addr->Int->PT)(args:List Value):PT:=match args with
 |[.pointer p,.pointer p1,.int .i64 n]=>T18 p p1 n
 |_=>λ_ _=>False
def F14.an:List (Nat×Ann):=[(426,.order [0,1,2,3,4,5,6,7,9,10,11,12,13,14,15,8,16,17,18]),(1722,.order [0,1,2,3,4,5,6,7,9,10,11,12,13,14,15,8,16,17,18]),(6906,.order [0,1,2,3,4,5,6,7,8]),(13814,.order [0,1,2,3,4,5,6,7])]
def F14.G(T9:Sl->Sl->PT)(T17:Option Addr->Int->ByteArray->ByteArray->Sl->Int->Int->Int->Sl->PT)(T22:Option Addr->ByteArray->Sl->PT)(T25:Option Addr->Int->Sl->PT)(T54:Option Addr->ByteArray->Sl->PT)(T55 T56 T57:Option Addr->Int->Sl->PT)(p:Option Addr)(n:Int)(s s1:ByteArray)(l:Sl)(n1 n2 n3:Int)(l1:Sl):PT:=λh Q=>
 par (n=2) (∃ vs,h.row l.a (l.n*1) vs/\(∀ v∈vs,Value.oneCell' v=true)/\appendD ⟨none,0,0⟩ 5 1 1 [.int .u8 0] l.n vs h λl2 h1=>dr p λb o=>ldP h1 b o λp1=>dr p λb1 o1=>ldP h1 b1 (o1+1) λp2=>T22 p1 s l h1 λr h2=>retI .i64 r λn4=>h2.at b1 (o1+1)=some (.pointer p2)/\T54 p2 s l2 h2 λr1 h3=>retI .i64 r1 λn5=>par (n4=n5) (Q (.bool true) h3) (Q (.bool false) h3)) (par (n=9) (∃ vs1,h.row l1.a (l1.n*1) vs1/\(∀ v∈vs1,Value.oneCell' v=true)/\appendD ⟨none,0,0⟩ 3 1 8 [.int .i64 0] l1.n vs1 h λl3 h4=>dr p λb2 o2=>ldP h4 b2 o2 λp3=>dr p λb3 o3=>ldP h4 b3 (o3+1) λp4=>T25 p3 n1 l1 h4 λr2 h5=>retS r2 λl4=>h5.at b3 (o3+1)=some (.pointer p4)/\T55 p4 n1 l3 h5 λr3 h6=>retS r3 λl5=>T9 l4 l5 h6 λr4 h7=>retB r4 (Q (.bool true) h7) (Q (.bool false) h7)) (par (n=10) (∃ vs2,h.row l1.a (l1.n*1) vs2/\(∀ v∈vs2,Value.oneCell' v=true)/\appendD ⟨none,0,0⟩ 3 1 8 [.int .i64 0] l1.n vs2 h λl6 h8=>dr p λb4 o4=>ldP h8 b4 o4 λp5=>T56 p5 n1 l1 h8 λr5 h9=>dr p λb5 o5=>ldP h9 b5 (o5+1) λp6=>T57 p6 n1 l6 h9 λr6 h10=>Q (.bool true) h10) (T17 p n s s1 l n1 n2 n3 l1 h λr7 h11=>retB r7 (Q (.bool true) h11) (Q (.bool false) h11))))
def F14.T:=F14.G F9.T F17.T F22.T F25.T F54.T F55.T F56.T F57.T
theorem F14.gen(V T9 T17 T22 T25 T54 T55 T56 T57 p n s s1 l n1 n2 n3 l1):denF Tryz.prog [3] [(9,F9.W T9),(17,F17.W T17),(22,F22.W T22),(25,F25.W T25),(54,F54.W T54),(55,F55.W T55),(56,F56.W T56),(57,F57.W T57)] V F14.an Tryz.f14 [.v (.pointer p),.v (.agg ⟨[.int .i64 n,.string s,.string s1,.slice l.a l.n l.c,.int .i64 n1,.int .i64 n2,.int .i64 n3,.slice l1.a l1.n l1.c]⟩)]=F14.G T9 T17 T22 T25 T54 T55 T56 T57 p n s s1 l n1 n2 n3 l1:=by kernel_rfl
def F14.W(T14:Option Addr->Int->ByteArray->ByteArray->Sl->Int->Int->Int->Sl->PT)(args:List Value):PT:=match args with
 |[.pointer p,.agg ⟨[.int .i64 n,.string s,.string s1,.slice l_a l_n l_c,.int .i64 n1,.int .i64 n2,.int .i64 n3,.slice l1_a l1_n l1_c]⟩]=>T14 p n s s1 ⟨l_a,l_n,l_c⟩ n1 n2 n3 ⟨l1_a,l1_n,l1_c⟩
 |_=>λ_ _=>False
def F14.V:List Value->PT:=F14.W F14.T
theorem F14.ok:FOk Tryz.prog 14 F14.V:=by
 refine⟨⟨_,Tryz.func14,rfl,rfl⟩,λ_=>?_⟩;unfold F14.V F14.W;split;exact denF_okE (GOk.cons F9.ok (GOk.cons F17.ok (GOk.cons F22.ok (GOk.cons F25.ok (GOk.cons F54.ok (GOk.cons F55.ok (GOk.cons F56.ok (GOk.cons F57.ok (GOk.nil))))))))) noV_ok Tryz.func14 (F14.gen noV F9.T F17.T F22.T F25.T F54.T F55.T F56.T F57.T _ _ _ _ ⟨_,_,_⟩ _ _ _ ⟨_,_,_⟩);exact λ_ _ h=>h.elim
def F3.an:List (Nat×Ann):=[(255,.join [] []),(8186,.loop [(14,.int .i64)] []),(262138,.loop [(20,.int .i64)] []),(523922,.loop [(15,.int .i64)] []),(8382756,.order [0,1,2,3,4,5,6,7,8,9,10,11,12,13,14,15,16]),(268429628,.order [0,1,2,3,4,5,6,7,8,9,10,11,12,13,14,15,16,17,18,19,20,21,22,23,24,25,26,27,28,29,30]),(1073718522,.loop [(23,.int .i64)] []),(17179496356,.order [0,1,2,3,4,5,6,7,8,9,10])]
def F3.G(T4:PT)(T5:Sl->Sl->PT)(T6:Option Addr->Sl->PT)(T7 T8:Int->Sl->PT)(T9:Sl->Sl->PT)(T10:Option Addr->PT)(T11:Int->Sl->PT)(T12 T13:Option Addr->Sl->PT)(T14:Option Addr->Int->ByteArray->ByteArray->Sl->Int->Int->Int->Sl->PT)(T15 T16:Sl->Sl->PT)(T17:Option Addr->Int->ByteArray->ByteArray->Sl->Int->Int->Int->Sl->PT)(T18:Option Addr->Option Addr->Int->PT)(T19:Option Addr->PT)(n:Int)(l l1:Sl):PT:=λh Q=>
 T4 h λr h1=>retB r (T5 l l1 h1 λr1 h2=>retB r1 (par ((60:Int)<(l1.n:Int)) (Q (.bool true) h2) (nw h2 (.cells ⟨[.slice none 0 0,.slice none 0 0,.slice none 0 0,.slice none 0 0,.slice none 0 0,.slice none 0 0,.slice none 0 0,.slice none 0 0,.slice none 0 0,.slice none 0 0,.slice none 0 0,.slice none 0 0,.slice none 0 0,.slice none 0 0,.slice none 0 0,.slice none 0 0,.slice none 0 0,.slice none 0 0,.slice none 0 0,.slice none 0 0,.slice none 0 0,.slice none 0 0,.slice none 0 0,.slice none 0 0,.slice none 0 0,.slice none 0 0,.slice none 0 0,.slice none 0 0]⟩ 43 (0,0)) λb h3=>T6 (some ⟨b,0,none⟩) l h3 λr2 h4=>retS r2 λl2=>T7 n l2 h4 λr3 h5=>∃ p:Option Addr,∃ n1:Int,r3=.tuple ⟨[.pointer p,.int .i64 n1]⟩/\T8 n l h5 λr4 h6=>∃ p1:Option Addr,∃ n2:Int,r4=.tuple ⟨[.pointer p1,.int .i64 n2]⟩/\∃ J:Hp->Prop,(∀ h7:Hp,J h7->okPtr h7 p none/\par ((p:Option Addr)=none) (Q (.bool true) h7) (∃ (I:Int->Hp->Prop) (m:Int->Hp->Nat),I 0 h7/\(∀ n3:Int,∀ h8:Hp,I n3 h8->par (n3<(l2.n:Int)) (∃ (I1:Int->Hp->Prop) (m1:Int->Hp->Nat),I1 0 h8/\(∀ n4:Int,∀ h9:Hp,I1 n4 h9->ix l2.a n3 l2.n λb1 o=>ldS h9 b1 ((o+n3.toNat*3)+1) λl3=>par (n4<(l3.n:Int)) (ix l2.a n3 l2.n λb2 o1=>ldS h9 b2 ((o1+n3.toNat*3)+1) λl4=>ix l2.a n3 l2.n λb3 o2=>ldS h9 b3 ((o2+n3.toNat*3)+1) λl5=>ix l5.a n4 l5.n λb4 o3=>ldI .u8 h9 b4 (o3+n4.toNat) λn5=>ix l4.a n4 l4.n λb5 o4=>st h9 b5 (o4+n4.toNat) 1 [.int .u8 (wrap .u8 (n5+1))] λh10=>I1 (wrap .i64 (n4+1)) h10/\m1 (wrap .i64 (n4+1)) h10<m1 n4 h9) (I (wrap .i64 (n3+1)) h9/\m (wrap .i64 (n3+1)) h9<m n3 h8))) (nw h8 (.cells ⟨[.pointer p,.pointer p1]⟩ 58 (0,0)) λb6 h11=>T11 n l h11 λr5 h12=>∃ p2:Option Addr,∃ b7:Bool,parB b7 (r5=.tuple ⟨[.pointer p2,.bool true]⟩/\okPtr h12 p2 none/\par ((p2:Option Addr)=none) (Q (.bool false) h12) (nw h12 (.cells ⟨[.bool false,.bool false,.int .i64 0,.int .i64 0,.slice none 0 0,.slice none 0 0,.slice none 0 0,.slice none 0 0,.slice none 0 0,.slice none 0 0,.slice none 0 0,.slice none 0 0,.int .i64 0,.slice none 0 0,.slice none 0 0,.slice none 0 0,.slice none 0 0,.slice none 0 0,.slice none 0 0,.slice none 0 0,.slice none 0 0,.int .i64 0,.slice none 0 0,.slice none 0 0,.slice none 0 0,.slice none 0 0,.slice none 0 0,.slice none 0 0,.slice none 0 0,.slice none 0 0,.int .i64 0,.slice none 0 0,.slice none 0 0,.slice none 0 0,.slice none 0 0,.slice none 0 0,.slice none 0 0,.slice none 0 0,.slice none 0 0,.int .i64 0,.slice none 0 0,.slice none 0 0,.slice none 0 0,.slice none 0 0,.slice none 0 0,.slice none 0 0,.slice none 0 0,.slice none 0 0,.int .i64 0,.slice none 0 0,.slice none 0 0,.slice none 0 0,.slice none 0 0,.slice none 0 0,.slice none 0 0,.slice none 0 0,.slice none 0 0,.int .i64 0,.slice none 0 0,.slice none 0 0,.slice none 0 0,.slice none 0 0,.slice none 0 0,.slice none 0 0,.slice none 0 0,.slice none 0 0,.int .i64 0,.slice none 0 0,.slice none 0 0,.slice none 0 0,.slice none 0 0,.slice none 0 0,.slice none 0 0,.slice none 0 0,.slice none 0 0,.int .i64 0,.slice none 0 0,.slice none 0 0,.slice none 0 0,.slice none 0 0,.slice none 0 0,.slice none 0 0,.slice none 0 0,.slice none 0 0,.int .i64 0,.slice none 0 0,.slice none 0 0,.slice none 0 0,.slice none 0 0,.slice none 0 0,.slice none 0 0,.slice none 0 0,.slice none 0 0,.int .i64 0,.slice none 0 0,.slice none 0 0,.slice none 0 0,.slice none 0 0,.slice none 0 0,.slice none 0 0,.slice none 0 0,.slice none 0 0,.int .i64 0,.slice none 0 0,.slice none 0 0,.slice none 0 0,.slice none 0 0,.slice none 0 0,.slice none 0 0,.slice none 0 0,.slice none 0 0,.int .i64 0,.slice none 0 0,.slice none 0 0,.slice none 0 0,.slice none 0 0,.slice none 0 0,.slice none 0 0,.slice none 0 0,.slice none 0 0,.int .i64 0,.slice none 0 0,.slice none 0 0,.slice none 0 0,.slice none 0 0,.slice none 0 0,.slice none 0 0,.slice none 0 0,.slice none 0 0,.int .i64 0,.slice none 0 0,.slice none 0 0,.slice none 0 0,.slice none 0 0,.slice none 0 0,.slice none 0 0,.slice none 0 0,.slice none 0 0,.int .i64 0,.slice none 0 0,.slice none 0 0,.slice none 0 0,.slice none 0 0,.slice none 0 0,.slice none 0 0,.slice none 0 0,.slice none 0 0,.int .i64 0,.slice none 0 0,.slice none 0 0,.slice none 0 0,.slice none 0 0,.slice none 0 0,.slice none 0 0,.slice none 0 0,.slice none 0 0,.int .i64 0,.slice none 0 0,.slice none 0 0,.slice none 0 0,.slice none 0 0,.slice none 0 0,.slice none 0 0,.slice none 0 0,.slice none 0 0,.int .i64 0,.slice none 0 0,.slice none 0 0,.slice none 0 0,.slice none 0 0,.slice none 0 0,.slice none 0 0,.slice none 0 0,.slice none 0 0,.int .i64 0]⟩ 68 (0,0)) λb8 h13=>∃ (I2:Int->Hp->Prop) (m2:Int->Hp->Nat),I2 0 h13/\(∀ n6:Int,∀ h14:Hp,I2 n6 h14->par (n6<(l1.n:Int)) (ix l1.a n6 l1.n λb9 o5=>ldI .i64 h14 b9 (o5+n6.toNat*8) λn7=>ldT h14 b9 ((o5+n6.toNat*8)+1) λs=>ldT h14 b9 ((o5+n6.toNat*8)+2) λs1=>ldS h14 b9 ((o5+n6.toNat*8)+3) λl6=>ldI .i64 h14 b9 ((o5+n6.toNat*8)+4) λn8=>ldI .i64 h14 b9 ((o5+n6.toNat*8)+5) λn9=>ldI .i64 h14 b9 ((o5+n6.toNat*8)+6) λn10=>ldS h14 b9 ((o5+n6.toNat*8)+7) λl7=>nw h14 (.cells ⟨[.slice none 0 0,.slice none 0 0,.slice none 0 0,.slice none 0 0,.slice none 0 0,.slice none 0 0,.slice none 0 0,.slice none 0 0,.slice none 0 0,.slice none 0 0,.slice none 0 0,.slice none 0 0,.slice none 0 0,.slice none 0 0,.slice none 0 0,.slice none 0 0,.slice none 0 0,.slice none 0 0,.slice none 0 0,.slice none 0 0,.slice none 0 0,.slice none 0 0,.slice none 0 0,.slice none 0 0,.slice none 0 0,.slice none 0 0,.slice none 0 0,.slice none 0 0]⟩ 43 (0,0)) λb10 h15=>ix l1.a n6 l1.n λb11 o6=>ldS h15 b11 ((o6+n6.toNat*8)+3) λl8=>T12 (some ⟨b10,0,none⟩) l8 h15 λr6 h16=>retS r6 λl9=>ix l1.a n6 l1.n λb12 o7=>ldS h16 b12 ((o7+n6.toNat*8)+7) λl10=>T13 (some ⟨b10,0,none⟩) l10 h16 λr7 h17=>retS r7 λl11=>T14 (some ⟨b6,0,none⟩) n7 s s1 l9 n8 n9 n10 l11 h17 λr8 h18=>retB r8 (T10 (some ⟨b10,0,none⟩) h18 λr9 h19=>retB r9 (ix l1.a n6 l1.n λb13 o8=>ldS h19 b13 ((o8+n6.toNat*8)+3) λl12=>T15 l9 l12 h19 λr10 h20=>retB r10 (ix l1.a n6 l1.n λb14 o9=>ldS h20 b14 ((o9+n6.toNat*8)+7) λl13=>T16 l11 l13 h20 λr11 h21=>retB r11 (∃ (I3:Int->Hp->Prop) (m3:Int->Hp->Nat),I3 0 h21/\(∀ n11:Int,∀ h22:Hp,I3 n11 h22->par (n11<(l9.n:Int)) (ix l9.a n11 l9.n λb15 o10=>ldI .u8 h22 b15 (o10+n11.toNat) λn12=>ix l9.a n11 l9.n λb16 o11=>st h22 b16 (o11+n11.toNat) 1 [.int .u8 (wrap .u8 (n12+7))] λh23=>I3 (wrap .i64 (n11+1)) h23/\m3 (wrap .i64 (n11+1)) h23<m3 n11 h22) (ix l1.a n6 l1.n λb17 o12=>ldI .i64 h22 b17 (o12+n6.toNat*8) λn13=>ldT h22 b17 ((o12+n6.toNat*8)+1) λs2=>ldT h22 b17 ((o12+n6.toNat*8)+2) λs3=>ldS h22 b17 ((o12+n6.toNat*8)+3) λl14=>ldI .i64 h22 b17 ((o12+n6.toNat*8)+4) λn14=>ldI .i64 h22 b17 ((o12+n6.toNat*8)+5) λn15=>ldI .i64 h22 b17 ((o12+n6.toNat*8)+6) λn16=>ldS h22 b17 ((o12+n6.toNat*8)+7) λl15=>T17 p2 n13 s2 s3 l14 n14 n15 n16 l15 h22 λr12 h24=>retB r12 (T18 (some ⟨b6,0,none⟩) (some ⟨b8,0,none⟩) (wrap .i64 (2*n6)) h24 λr13 h25=>retB r13 (T18 p2 (some ⟨b8,0,none⟩) (wrap .i64 ((wrap .i64 (2*n6))+1)) h25 λr14 h26=>retB r14 (T18 (some ⟨b6,0,none⟩) (some ⟨b8,0,none⟩) (wrap .i64 (2*n6)) h26 λr15 h27=>retB r15 (I2 (wrap .i64 (n6+1)) h27/\m2 (wrap .i64 (n6+1)) h27<m2 n6 h14) (Q (.bool false) h27)) (Q (.bool false) h26)) (Q (.bool false) h25)) (Q (.bool false) h24)))) (Q (.bool false) h21)) (Q (.bool false) h20)) (Q (.bool false) h19)) (Q (.bool false) h18)) (T19 (some ⟨b8,0,none⟩) h14 λr16 h28=>retB r16 (Q (.bool true) h28) (Q (.bool false) h28))))) (r5=.tuple ⟨[.pointer p2,.bool false]⟩/\okPtr h12 p2 none/\par ((p2:Option Addr)=none) (Q (.bool false) h12) (Q (.bool false) h12))))))/\(par (n1=n2) (okPtr h6 p none/\par ((p:Option Addr)=none) (okPtr h6 p1 none/\par ((p1:Option Addr)=none) (par ((true:Bool)=true) (T9 l2 l h6 λr17 h29=>retB r17 (T10 (some ⟨b,0,none⟩) h29 λr18 h30=>retB r18 (J h30) (Q (.bool false) h30)) (Q (.bool false) h29)) (Q (.bool false) h6)) (par ((true:Bool)=false) (T9 l2 l h6 λr19 h31=>retB r19 (T10 (some ⟨b,0,none⟩) h31 λr20 h32=>retB r20 (J h32) (Q (.bool false) h32)) (Q (.bool false) h31)) (Q (.bool false) h6))) (okPtr h6 p1 none/\par ((p1:Option Addr)=none) (par ((false:Bool)=true) (T9 l2 l h6 λr21 h33=>retB r21 (T10 (some ⟨b,0,none⟩) h33 λr22 h34=>retB r22 (J h34) (Q (.bool false) h34)) (Q (.bool false) h33)) (Q (.bool false) h6)) (par ((false:Bool)=false) (T9 l2 l h6 λr23 h35=>retB r23 (T10 (some ⟨b,0,none⟩) h35 λr24 h36=>retB r24 (J h36) (Q (.bool false) h36)) (Q (.bool false) h35)) (Q (.bool false) h6)))) (Q (.bool false) h6)))) (Q (.bool true) h2)) (Q (.bool false) h1)
theorem F3.gen(V T4 T5 T6 T7 T8 T9 T10 T11 T12 T13 T14 T15 T16 T17 T18 T19 n l l1):denF Tryz.prog [21] [(4,F4.W T4),(5,F5.W T5),(6,F6.W T6),(7,F7.W T7),(8,F8.W T8),(9,F9.W T9),(10,F10.W T10),(11,F11.W T11),(12,F12.W T12),(13,F13.W T13),(14,F14.W T14),(15,F15.W T15),(16,F16.W T16),(17,F17.W T17),(18,F18.W T18),(19,F19.W T19)] V F3.an Tryz.f3 [.v (.int .i64 n),.v (.slice l.a l.n l.c),.v (.slice l1.a l1.n l1.c)]=F3.G T4 T5 T6 T7 T8 T9 T10 T11 T12 T13 T14 T15 T16 T17 T18 T19 n l l1:=by kernel_rfl
def F3.W(T3:Int->Sl->Sl->PT)(args:List Value):PT:=match args with
 |[.int .i64 n,.slice l_a l_n l_c,.slice l1_a l1_n l1_c]=>T3 n ⟨l_a,l_n,l_c⟩ ⟨l1_a,l1_n,l1_c⟩
 |_=>λ_ _=>False
end Go.Eng.YtekflkpnpibneaaGreatDoor
end
section
namespace Go.Eng.YtekflkpnpibneaaGreatDoor
open Go.Eng
theorem buf_pre{h:Hp}{s:Sl}{sz t n c:Nat}{A B:List Value}(Bf:Buf h s sz t (A++B))(hA:A.length=n*sz)(hn:n<=c)(hc:c<=s.c):Buf h ⟨s.a,n,c⟩ sz t A:=by
 refine⟨hA,hn,?_⟩
 rcases Bf.own with⟨ha,h0⟩|⟨b,cs,f,ha,hb,h3,h4,h5⟩
 ·exact .inl ⟨ha,by show c=0;omega⟩
 ·refine .inr ⟨b,cs,f,ha,hb,Nat.le_trans (Nat.mul_le_mul_right _ hc) h3,h4,?_⟩
  have e:cs.toList.take A.length=(cs.toList.take (A++B).length).take A.length:=by rw[List.take_take,length_append];congr 1;omega
  rw[e,h5,List.take_left' rfl]
section
variable{g h h':Hp}{A:PA}{B:RB}{S:Dk}{Q:Value->Hp->Prop}{pb:Nat}
theorem lends_s{n:Nat}{kind:Int}{s t:ByteArray}{l l1:Sl}{v:List UInt8}{a b c:Int}{keep:List Int}(X:PR g h pb A B S)(D:DN n S)(hn:n<=100000000)(hs:s.size<=9223372036854775807)(ht:t.size<=9223372036854775807)
  (hB:Buf g l 1 5 (bl v)) (hvl:v.length<=1073741824) (hkeep:g.row l1.a (l1.n*1) (keep.map λk=>Value.int .i64 k)) (hkl:keep.length<=1000000000)
  (hQ:∀ h' A' B',PR g h' pb A' B' (kStep S ⟨kind,s,t,v,a,b,c,keep⟩)->Q (.bool true) h'):F14.T (some ⟨pb,0,none⟩) kind s t l a b c l1 h Q:=by
 have hcl:S.chg.length<=1000000000:=by have:=D.c;omega
 have hfl:S.fl.length<=1000000000:=by have:=D.f;omega
 have hln:l.n=v.length:=by have:=hB.len;rw[bl_len] at this;omega
 have hln1:l1.n=keep.length:=by have:=hkeep.1;rw[length_map] at this;omega
 have nl:∀ k,inS l k->¬ A.own k:=λk hk ho=>by
  obtain⟨_,_,e⟩:=buf_alive hB hk
  rw[X.na k ho] at e;cases e
 generalize hS':kStep S ⟨kind,s,t,v,a,b,c,keep⟩=S' at hQ
 unfold F14.T F14.G
 refine⟨λhk=>?_,λhk2=>⟨λhk=>?_,λhk9=>⟨λhk=>?_,λhk10=>?_⟩⟩⟩
 ·subst hk
  have hS2:(kAppend S s v).2=S':=by rw[<- hS'];unfold kStep;simp
  subst hS2
  refine copy_any (X.K.row hB.row) (bl_one _) rfl (by omega) λh1 l2 K1 B1 N1=>?_
  have X1:=X.keep K1
  have nd:∀ k,inS l2 k->¬ A.own k/\¬ B.own k:=λk hk=>⟨λho=>(by obtain⟨o,e⟩:=X.P.alive ho;rw[newN_in N1 hk] at e;cases e),λho=>(by obtain⟨o,e⟩:=X.R.alive ho;rw[newN_in N1 hk] at e;cases e)⟩
  refine⟨pb,0,rfl,some ⟨A.db,0,none⟩,at_of X1.pbe 0,pb,0,rfl,some ⟨B.db,0,none⟩,at_of X1.pbe 1,append_p X1.P D.ok hs (hB.keep X1.K) nl hvl λh6 A' eA P' T=>⟨_,rfl,at_of (T.keep _ _ X1.np X1.pbe) 1,?_⟩⟩
  obtain⟨R',cl⟩:=X1.step eA P' T
  have B6:Buf h6 l2 1 5 (bl v):=buf_mono B1 λk x hk e=>T.keep k x (nd k hk).1 e
  exact append_r R' D.ok B6.row B6.cap (λk h0 hk=>(nd k hk).2) hvl λh7 B' eB R2 T2=>⟨_,rfl,λ_=>hQ _ _ _ (cl eB R2 T2).1,λhne=>absurd rfl hne⟩
 ·subst hk
  have hS2:S=S':=by rw[<- hS'];unfold kStep;simp
  subst hS2
  refine copy_any (X.K.row hkeep) (ints_one _) rfl (by omega) λh1 l3 K1 B1 N1=>?_
  have X1:=X.keep K1
  refine⟨pb,0,rfl,some ⟨A.db,0,none⟩,at_of X1.pbe 0,pb,0,rfl,some ⟨B.db,0,none⟩,at_of X1.pbe 1,image_p X1.P D.ok hcl (X1.K.row hkeep) λh6 r6 L6 K6 F6 e6=>⟨r6,rfl,at_of (K6 _ _ X1.pbe) 1,image_r (X1.R.keep K6) D.ok hcl (B1.keep K6).row λh7 r7 L7 K7 F7 e7=>⟨r7,rfl,sameF (F6.keep K7) F7 (e6.trans e7.symm) ⟨true,rfl,λ_=>?_,λh=>(by cases h)⟩ (by have h1:=congrArg List.length e6;have h2:=(image_ok D.ok a keep).1;simp only[length_map] at h1;omega)⟩⟩⟩
  exact hQ h7 A B (X1.keep (K6.trans K7))
 ·subst hk
  have hS2:kFall S a keep=S':=by rw[<- hS'];unfold kStep;simp
  subst hS2
  refine copy_any (X.K.row hkeep) (ints_one _) rfl (by omega) λh1 l3 K1 B1 N1=>?_
  have X1:=X.keep K1
  have nk:∀ k,inS l3 k->¬ A.own k/\¬ B.own k:=λk hk=>⟨λho=>(by obtain⟨o,e⟩:=X.P.alive ho;rw[newN_in N1 hk] at e;cases e),λho=>(by obtain⟨o,e⟩:=X.R.alive ho;rw[newN_in N1 hk] at e;cases e)⟩
  refine⟨pb,0,rfl,some ⟨A.db,0,none⟩,at_of X1.pbe 0,fall_p X1.P D.ok hcl (X1.K.row hkeep) λh6 A' eA P' T=>?_⟩
  obtain⟨R',cl⟩:=X1.step eA P' T
  have B6:=buf_mono B1 λk x hk e=>T.keep k x (nk k hk).1 e
  exact⟨pb,0,rfl,some ⟨B.db,0,none⟩,at_of (T.keep _ _ X1.np X1.pbe) 1,fall_r R' D.ok hcl B6.row λh7 B' eB R2 T2=>hQ _ _ _ (cl eB R2 T2).1⟩
 ·refine does_p X D hn hs ht hB.row hB.cap hvl hkeep hkl λh' A' B' X'=>⟨true,rfl,λ_=>?_,λq=>Bool.noConfusion q⟩
  rw[hS'] at X'
  exact hQ h' A' B' X'
end
end Go.Eng.YtekflkpnpibneaaGreatDoor
end
section
namespace Go.Eng
def hun(a b:Hp):Hp:=λk=>match a k with|some x=>some x|none=>b k
def Dj(a b:Hp):Prop:=∀ k,a k=none\/b k=none
theorem hun_l{a b:Hp}{k:Nat}{x:Obj}(e:a k=some x):hun a b k=some x:=by unfold hun;rw[e]
theorem hun_r{a b:Hp}{k:Nat}(e:a k=none):hun a b k=b k:=by unfold hun;rw[e]
def Fr(T:PT):PT:=λh Q=>∃ h1 f Q1,Dj h1 f/\h=hun h1 f/\T h1 Q1/\∀ v h1',Dj h1' f->Q1 v h1'->Q v (hun h1' f)
theorem Impl.fr{P:Program}{f:Nat}{args:List Value}{T:PT}(I:Impl P f args T):Impl P f args (Fr T):=by
 rintro h Q ⟨h1,f1,Q1,dj,rfl,hT,hQ⟩ fr w O
 have O1:Own (hun f1 fr) h1 w:=by
  refine⟨λb o e=>O.hh b o (hun_l e),λb o e=>?_,λb=>?_⟩
  ·cases h2:f1 b with
   |some x=>
    rw[hun_l h2] at e;cases e
    refine O.hh b _ ?_
    rw[hun_r ((dj b).resolve_right (by rw[h2];simp)),h2]
   |none=>rw[hun_r h2] at e;exact O.ff b o e
  ·rcases dj b with h2|h2
   ·exact .inl h2
   ·rcases O.dj b with h3|h3
    ·left
     cases h4:h1 b with
     |none=>rfl
     |some x=>rw[hun_l h4] at h3;cases h3
    ·right;rw[hun_r h2];exact h3
 refine(I h1 _ hT (hun f1 fr) w O1).mono ?_
 rintro e w' ⟨v,h1',rfl,O',W,hq⟩
 have dj':Dj h1' f1:=λk=>by
  rcases O'.dj k with h2|h2
  ·exact .inl h2
  ·right
   cases h4:f1 k with
   |none=>rfl
   |some x=>rw[hun_l h4] at h2;cases h2
 refine⟨v,hun h1' f1,rfl,⟨λb o e=>?_,λb o e=>?_,λb=>?_⟩,W,hQ _ _ dj' hq⟩
 ·cases h2:h1' b with
  |some x=>rw[hun_l h2] at e;cases e;exact O'.hh b _ h2
  |none=>rw[hun_r h2] at e;exact O'.ff b o (hun_l e)
 ·cases h2:f1 b with
  |none=>exact O'.ff b o (by rw[hun_r h2];exact e)
  |some x=>
   rcases O.dj b with h3|h3
   ·cases h4:h1 b with
    |none=>rw[hun_r h4,h2] at h3;cases h3
    |some y=>rw[hun_l h4] at h3;cases h3
   ·rw[e] at h3;cases h3
 ·rcases O.dj b with h3|h3
  ·rcases O'.dj b with h2|h2
   ·left;rw[hun_r h2]
    cases h4:h1 b with
    |none=>rw[hun_r h4] at h3;exact h3
    |some y=>rw[hun_l h4] at h3;cases h3
   ·right
    cases h4:f1 b with
    |none=>rw[hun_r h4] at h2;exact h2
    |some x=>rw[hun_l h4] at h2;cases h2
  ·exact .inr h3
abbrev Lb:=Nat->Nat
def on(h:Hp)(z:Lb)(i:Nat):Hp:=λb=>if z b=i then h b else none
def off(h:Hp)(z:Lb)(i:Nat):Hp:=λb=>if z b=i then none else h b
def lab(h:Hp)(z:Lb)(i:Nat):Lb:=λb=>match h b with|none=>i|some _=>z b
def rl(z:Lb)(b i:Nat):Lb:=λk=>if k=b then i else z k
def emp:Hp:=λ_=>none
section
variable{h h':Hp}{z:Lb}{i j b:Nat}{x:Obj}
theorem on_i(e:z b=i):on h z i b=h b:=if_pos e
theorem on_n(e:z b≠i):on h z i b=none:=if_neg e
theorem off_i(e:z b=i):off h z i b=none:=if_pos e
theorem off_n(e:z b≠i):off h z i b=h b:=if_neg e
theorem on_s(e:on h z i b=some x):z b=i/\h b=some x:=by
 by_cases hz:z b=i
 ·rw[on_i hz] at e;exact⟨hz,e⟩
 ·rw[on_n hz] at e;cases e
theorem off_s(e:off h z i b=some x):z b≠i/\h b=some x:=by
 by_cases hz:z b=i
 ·rw[off_i hz] at e;cases e
 ·rw[off_n hz] at e;exact⟨hz,e⟩
theorem on_k:Keep (on h z i) h:=λ_ _ e=>(on_s e).2
theorem off_k:Keep (off h z i) h:=λ_ _ e=>(off_s e).2
theorem lab_n(e:h b=none):lab h z i b=i:=by unfold lab;rw[e]
theorem lab_s(e:h b=some x):lab h z i b=z b:=by unfold lab;rw[e]
theorem hun_on:hun (on h z i) (off h z i)=h:=by
 funext k
 by_cases hz:z k=i
 ·cases e:h k with
  |some y=>exact hun_l (by rw[on_i hz,e])
  |none=>rw[hun_r (by rw[on_i hz,e]),off_i hz]
 ·rw[hun_r (on_n hz),off_n hz]
theorem dj_on:Dj (on h z i) (off h z i):=λk=>by
 by_cases hz:z k=i
 ·exact .inr (off_i hz)
 ·exact .inl (on_n hz)
theorem on_lab(K:Keep (off h z i) h')(hj:j≠i):on h' (lab h z i) j=on h z j:=by
 funext k
 cases e:h k with
 |none=>
  rw[on_n (by rw[lab_n e];exact Ne.symm hj)]
  by_cases hz:z k=j
  ·rw[on_i hz,e]
  ·rw[on_n hz]
 |some y=>
  by_cases hz:z k=j
  ·rw[on_i (by rw[lab_s e];exact hz),on_i hz,e]
   exact K k y (by rw[off_n (by rw[hz];exact hj)];exact e)
  ·rw[on_n (by rw[lab_s e];exact hz),on_n hz]
theorem Fr.part{T:PT}{Q:Value->Hp->Prop}(h:Hp)(z:Lb)(i:Nat)(Q1:Value->Hp->Prop)(hT:T (on h z i) Q1)(hQ:∀ v h',Keep (off h z i) h'->Q1 v (on h' (lab h z i) i)->Q v h'):Fr T h Q:=by
 refine⟨on h z i,off h z i,Q1,dj_on,hun_on.symm,hT,λv h1 dj hq=>hQ v _ (λk x e=>?_) ?_⟩
 ·rw[hun_r ((dj k).resolve_right (by rw[e];simp)),e]
 ·have e:on (hun h1 (off h z i)) (lab h z i) i=h1:=by
   funext k
   cases e1:h1 k with
   |some y=>
    have o:=(dj k).resolve_left (by rw[e1];simp)
    have hl:lab h z i k=i:=by
     cases e2:h k with
     |none=>exact lab_n e2
     |some w=>
      rw[lab_s e2]
      apply Classical.byContradiction
      intro hne
      rw[off_n hne,e2] at o;cases o
    rw[on_i hl,hun_l e1]
   |none=>
    by_cases hl:lab h z i k=i
    ·rw[on_i hl,hun_r e1]
     cases e2:h k with
     |none=>unfold off;split<;>simp[e2]
     |some w=>rw[lab_s e2] at hl;exact off_i hl
    ·exact on_n hl
  rw[e];exact hq
end
end Go.Eng
end
section
namespace Go.Eng.YtekflkpnpibneaaGreatDoor
open Go.Proofs
def F71.TF:=λ(x0) (x1) (x2)=>Fr (F71.T x0 x1 x2)
theorem F71.okF:FOk Tryz.prog 71 (F71.W F71.TF):=by
 refine⟨F71.ok.1,λargs=>?_⟩
 unfold F71.W
 split
 ·exact(F71.ok.2 _).fr
 ·exact λ_ _ h=>h.elim
def F73.TF:=λ(x0) (x1) (x2)=>Fr (F73.T x0 x1 x2)
theorem F73.okF:FOk Tryz.prog 73 (F73.W F73.TF):=by
 refine⟨F73.ok.1,λargs=>?_⟩
 unfold F73.W
 split
 ·exact(F73.ok.2 _).fr
 ·exact λ_ _ h=>h.elim
def F19.TF:=λ(x0)=>Fr (F19.T x0)
theorem F19.okF:FOk Tryz.prog 19 (F19.W F19.TF):=by
 refine⟨F19.ok.1,λargs=>?_⟩
 unfold F19.W
 split
 ·exact(F19.ok.2 _).fr
 ·exact λ_ _ h=>h.elim
def F18.TF:=F18.G F9.T F15.T F24.T F25.T F28.T F55.T F65.T F66.T F71.TF F72.T F73.TF
theorem F18.okF:FOk Tryz.prog 18 (F18.W F18.TF):=by
 refine⟨⟨_,Tryz.func18,rfl,rfl⟩,λ_=>?_⟩;unfold F18.W;split;exact denF_okE (GOk.cons F9.ok (GOk.cons F15.ok (GOk.cons F24.ok (GOk.cons F25.ok (GOk.cons F28.ok (GOk.cons F55.ok (GOk.cons F65.ok (GOk.cons F66.ok (GOk.cons F71.okF (GOk.cons F72.ok (GOk.cons F73.okF (GOk.nil)))))))))))) noV_ok Tryz.func18 (F18.gen noV F9.T F15.T F24.T F25.T F28.T F55.T F65.T F66.T F71.TF F72.T F73.TF _ _ _);exact λ_ _ h=>h.elim
def F3.TF:=F3.G F4.T F5.T F6.T F7.T F8.T F9.T F10.T F11.T F12.T F13.T F14.T F15.T F16.T F17.T F18.TF F19.TF
theorem F3.okF:FOk Tryz.prog 3 (F3.W F3.TF):=by
 refine⟨⟨_,Tryz.func3,rfl,rfl⟩,λ_=>?_⟩;unfold F3.W;split;exact denF_okE (GOk.cons F4.ok (GOk.cons F5.ok (GOk.cons F6.ok (GOk.cons F7.ok (GOk.cons F8.ok (GOk.cons F9.ok (GOk.cons F10.ok (GOk.cons F11.ok (GOk.cons F12.ok (GOk.cons F13.ok (GOk.cons F14.ok (GOk.cons F15.ok (GOk.cons F16.ok (GOk.cons F17.ok (GOk.cons F18.okF (GOk.cons F19.okF (GOk.nil))))))))))))))))) noV_ok Tryz.func3 (F3.gen noV F4.T F5.T F6.T F7.T F8.T F9.T F10.T F11.T F12.T F13.T F14.T F15.T F16.T F17.T F18.TF F19.TF _ ⟨_,_,_⟩ ⟨_,_,_⟩);exact λ_ _ h=>h.elim
end Go.Eng.YtekflkpnpibneaaGreatDoor
end
section
namespace Go.Eng
structure OutK(m:Mem)(cs:List Value)(c s tL:Nat)(v0 v1 v4 v7:List Value)(l nt:Sl)(mark:Int)(m':Mem)(cs':List Value):Prop where
 a0:∃ A,m' (kA c 0)=some ⟨A,1,tL,v0++[slv l]⟩/\cs'[s+0]?=some (slv A)
 a1:∃ A,m' (kA c 1)=some ⟨A,1,tL,v1++[slv nt]⟩/\cs'[s+1]?=some (slv A)
 a4:∃ A,m' (kA c 4)=some ⟨A,1,tL,v4++[slv l]⟩/\cs'[s+4]?=some (slv A)
 a7:∃ A,m' (kA c 7)=some ⟨A,1,3,v7++[.int .i64 mark]⟩/\cs'[s+7]?=some (slv A)
 rest:∀ i,i≠s+0->i≠s+1->i≠s+4->i≠s+7->cs'[i]?=cs[i]?
 mem:∀ j,j≠kB->j≠kA c 0->j≠kA c 1->j≠kA c 4->j≠kA c 7->m' j=m j
section
variable{g h:Hp}{m:Mem}{pb R tB t s c tL sz bytes:Nat}{cs zs vs v0 v1 v4 v7:List Value}{l A0 A1 A4 A7:Sl}{mark:Int}{K:Hp->Prop}
theorem out_k{k:Key}(O:Mine g h m)(hb:m kB=some (bkF pb R tB cs))(hk:m kT=none)(hl:m k=some ⟨l,sz,t,vs⟩)(hkB:k≠kB)(hkA:∀ f,k≠kA c f)
  (m0:m (kA c 0)=some ⟨A0,1,tL,v0⟩) (e0:cs[s+0]?=some (slv A0)) (m1:m (kA c 1)=some ⟨A1,1,tL,v1⟩) (e1:cs[s+1]?=some (slv A1))
  (m4:m (kA c 4)=some ⟨A4,1,tL,v4⟩) (e4:cs[s+4]?=some (slv A4)) (m7:m (kA c 7)=some ⟨A7,1,3,v7⟩) (e7:cs[s+7]?=some (slv A7))
  (l0:v0.length<=1000000000000) (l1:v1.length<=1000000000000) (l4:v4.length<=1000000000000) (l7:v7.length<=1000000000000) (hone:∀ v∈vs,Value.oneCell' v=true) (hz:zs.length=sz) (hn:l.n*bytes<=140737488355328)
  (hK:∀ h' g' m' cs' nt,Keep g g'->Mine g' h' m'->m' kB=some (bkF pb R tB cs')->OutK m cs c s tL v0 v1 v4 v7 l nt mark m' cs'->g'.row nt.a (nt.n*sz) vs->nt.n=l.n->K h') :
  dr (some ⟨pb,0,none⟩) λb23 o23=>ldS h b23 (o23+(s+0)) λl14=>appendD l14 tL 1 24 [.slice none 0 0] 1 [.slice l.a l.n l.c] h λl15 h17=>dr (some ⟨pb,0,none⟩) λb24 o24=>st h17 b24 (o24+(s+0)) 1 [.slice l15.a l15.n l15.c] λh18=>dr (some ⟨pb,0,none⟩) λb25 o25=>ldS h18 b25 (o25+(s+1)) λl16=>nw h18 (.cells ⟨[]⟩ t (0,0)) λb26 h19=>h19.at b25 (o25+(s+1))=some (.slice l16.a l16.n l16.c)/\∃ vs,h19.row l.a (l.n*sz) vs/\(∀ v∈vs,Value.oneCell' v=true)/\appendD ⟨(some ⟨b26,0,none⟩),0,0⟩ t sz bytes zs l.n vs h19 λl17 h20=>h20.at b25 (o25+(s+1))=some (.slice l16.a l16.n l16.c)/\h20.at b25 (o25+(s+1))=some (.slice l16.a l16.n l16.c)/\appendD l16 tL 1 24 [.slice none 0 0] 1 [.slice l17.a l17.n l17.c] h20 λl18 h21=>dr (some ⟨pb,0,none⟩) λb27 o26=>st h21 b27 (o26+(s+1)) 1 [.slice l18.a l18.n l18.c] λh22=>dr (some ⟨pb,0,none⟩) λb28 o27=>ldS h22 b28 (o27+(s+4)) λl19=>appendD l19 tL 1 24 [.slice none 0 0] 1 [.slice l.a l.n l.c] h22 λl20 h23=>dr (some ⟨pb,0,none⟩) λb29 o28=>st h23 b29 (o28+(s+4)) 1 [.slice l20.a l20.n l20.c] λh24=>dr (some ⟨pb,0,none⟩) λb30 o29=>ldS h24 b30 (o29+(s+7)) λl21=>appendD l21 3 1 8 [.int .i64 0] 1 [.int .i64 mark] h24 λl22 h25=>dr (some ⟨pb,0,none⟩) λb31 o30=>st h25 b31 (o30+(s+7)) 1 [.slice l22.a l22.n l22.c] λh26=>K h26:=by
 refine⟨pb,0,rfl,A0,O.cell hb e0,?_⟩
 refine app_f (v:=slv l) O hb m0 e0 (by omega) λh2 B0 M2 cs2 O2 hb2 p2 n2 q2 g2=>?_
 have f1:cs2[s+1]?=some (slv A1):=by rw[g2 _ (by omega)];exact e1
 refine⟨pb,0,rfl,A1,O2.cell hb2 f1,?_⟩
 have hl2:M2 k=some ⟨l,sz,t,vs⟩:=by rw[n2 _ hkB (hkA 0)];exact hl
 refine copy_f (λh' K'=>keep_at K' (O2.cell hb2 f1)) O2 (by rw[n2 _ (λe=>by cases e) (λe=>by cases e)];exact hk) (O2.buf _ _ hl2).row hone hz hn λnt h5 g' Kg O3 rnt hnt K5=>?_
 refine⟨O3.cell hb2 f1,O3.cell hb2 f1,?_⟩
 refine app_f (v:=slv nt) O3 hb2 (by rw[n2 _ (kA_kB _ _) (kA_ne (by decide))];exact m1) f1 (by omega) λh7 B1 M3 cs3 O4 hb3 p3 n3 q3 g3=>?_
 have f4:cs3[s+4]?=some (slv A4):=by rw[g3 _ (by omega),g2 _ (by omega)];exact e4
 refine⟨pb,0,rfl,A4,O4.cell hb3 f4,?_⟩
 refine app_f (v:=slv l) O4 hb3 (by rw[n3 _ (kA_kB _ _) (kA_ne (by decide)),n2 _ (kA_kB _ _) (kA_ne (by decide))];exact m4) f4 (by omega) λh9 B4 M4 cs4 O5 hb4 p4 n4 q4 g4=>?_
 have f7:cs4[s+7]?=some (slv A7):=by rw[g4 _ (by omega),g3 _ (by omega),g2 _ (by omega)];exact e7
 refine⟨pb,0,rfl,A7,O5.cell hb4 f7,?_⟩
 refine app_f (v:=.int .i64 mark) O5 hb4 (by rw[n4 _ (kA_kB _ _) (kA_ne (by decide)),n3 _ (kA_kB _ _) (kA_ne (by decide)),n2 _ (kA_kB _ _) (kA_ne (by decide))];exact m7) f7 (by omega) λh12 B7 M7 cs7 O6 hb7 p7 n7 q7 g7=>?_
 refine hK _ g' M7 cs7 nt Kg O6 hb7 ⟨⟨B0,?_,?_⟩,⟨B1,?_,?_⟩,⟨B4,?_,?_⟩,⟨B7,p7,q7⟩,λi h0 h1 h4 h7=>?_,λj hB h0 h1 h4 h7=>?_⟩ rnt hnt
 ·rw[n7 _ (kA_kB _ _) (kA_ne (by decide)),n4 _ (kA_kB _ _) (kA_ne (by decide)),n3 _ (kA_kB _ _) (kA_ne (by decide))];exact p2
 ·rw[g7 _ (by omega),g4 _ (by omega),g3 _ (by omega)];exact q2
 ·rw[n7 _ (kA_kB _ _) (kA_ne (by decide)),n4 _ (kA_kB _ _) (kA_ne (by decide))];exact p3
 ·rw[g7 _ (by omega),g4 _ (by omega)];exact q3
 ·rw[n7 _ (kA_kB _ _) (kA_ne (by decide))];exact p4
 ·rw[g7 _ (by omega)];exact q4
 ·rw[g7 _ h7,g4 _ h4,g3 _ h1,g2 _ h0]
 ·rw[n7 _ hB h7,n4 _ hB h4,n3 _ hB h1,n2 _ hB h0]
end
end Go.Eng
end
section
namespace Go.Eng
structure WaitK(m:Mem)(cs:List Value)(c s tL:Nat)(v2 v3 v5 v6:List Value)(l nt:Sl)(mark due:Int)(m':Mem)(cs':List Value):Prop where
 a2:∃ A,m' (kA c 2)=some ⟨A,1,tL,v2++[slv l]⟩/\cs'[s+2]?=some (slv A)
 a3:∃ A,m' (kA c 3)=some ⟨A,1,tL,v3++[slv nt]⟩/\cs'[s+3]?=some (slv A)
 a5:∃ A,m' (kA c 5)=some ⟨A,1,3,v5++[.int .i64 mark]⟩/\cs'[s+5]?=some (slv A)
 a6:∃ A,m' (kA c 6)=some ⟨A,1,3,v6++[.int .i64 due]⟩/\cs'[s+6]?=some (slv A)
 rest:∀ i,i≠s+2->i≠s+3->i≠s+5->i≠s+6->cs'[i]?=cs[i]?
 mem:∀ j,j≠kB->j≠kA c 2->j≠kA c 3->j≠kA c 5->j≠kA c 6->m' j=m j
section
variable{g h:Hp}{m:Mem}{pb R tB s c tL i:Nat}{cs v2 v3 v5 v6 o3 o6:List Value}{l nt L1 L3 A2 A3 A5 A6:Sl}{mark due:Int}{K:Hp->Prop}
theorem wait_k(O:Mine g h m)(hb:m kB=some (bkF pb R tB cs))
  (m2:m (kA c 2)=some ⟨A2,1,tL,v2⟩) (e2:cs[s+2]?=some (slv A2)) (m3:m (kA c 3)=some ⟨A3,1,tL,v3⟩) (e3:cs[s+3]?=some (slv A3))
  (m5:m (kA c 5)=some ⟨A5,1,3,v5⟩) (e5:cs[s+5]?=some (slv A5)) (m6:m (kA c 6)=some ⟨A6,1,3,v6⟩) (e6:cs[s+6]?=some (slv A6))
  (q3:m (kO c 3)=some ⟨L1,1,tL,o3⟩) (x3:o3[i]?=some (slv nt)) (q6:m (kO c 6)=some ⟨L3,1,3,o6⟩) (x6:o6[i]?=some (.int .i64 due))
  (l2:v2.length<=1000000000000) (l3:v3.length<=1000000000000) (l5:v5.length<=1000000000000) (l6:v6.length<=1000000000000)
  (hK:∀ h' m' cs',Mine g h' m'->m' kB=some (bkF pb R tB cs')->WaitK m cs c s tL v2 v3 v5 v6 l nt mark due m' cs'->K h') :
  dr (some ⟨pb,0,none⟩) λb12 o12=>ldS h b12 (o12+(s+2)) λl5=>appendD l5 tL 1 24 [.slice none 0 0] 1 [.slice l.a l.n l.c] h λl6 h6=>dr (some ⟨pb,0,none⟩) λb13 o13=>st h6 b13 (o13+(s+2)) 1 [.slice l6.a l6.n l6.c] λh7=>dr (some ⟨pb,0,none⟩) λb14 o14=>ldS h7 b14 (o14+(s+3)) λl7=>ix L1.a (i:Int) L1.n λb15 o15=>ldS h7 b15 (o15+(i:Int).toNat) λl8=>h7.at b14 (o14+(s+3))=some (.slice l7.a l7.n l7.c)/\appendD l7 tL 1 24 [.slice none 0 0] 1 [.slice l8.a l8.n l8.c] h7 λl9 h8=>dr (some ⟨pb,0,none⟩) λb16 o16=>st h8 b16 (o16+(s+3)) 1 [.slice l9.a l9.n l9.c] λh9=>dr (some ⟨pb,0,none⟩) λb17 o17=>ldS h9 b17 (o17+(s+5)) λl10=>appendD l10 3 1 8 [.int .i64 0] 1 [.int .i64 mark] h9 λl11 h10=>dr (some ⟨pb,0,none⟩) λb18 o18=>st h10 b18 (o18+(s+5)) 1 [.slice l11.a l11.n l11.c] λh11=>dr (some ⟨pb,0,none⟩) λb19 o19=>ldS h11 b19 (o19+(s+6)) λl12=>ix L3.a (i:Int) L3.n λb20 o20=>ldI .i64 h11 b20 (o20+(i:Int).toNat) λn4=>h11.at b19 (o19+(s+6))=some (.slice l12.a l12.n l12.c)/\appendD l12 3 1 8 [.int .i64 0] 1 [.int .i64 n4] h11 λl13 h12=>dr (some ⟨pb,0,none⟩) λb21 o21=>st h12 b21 (o21+(s+6)) 1 [.slice l13.a l13.n l13.c] λh13=>K h13:=by
 have oA:∀ f e,kO c f≠kA c e:=λf e=>kO_kA _ _ _ _
 refine⟨pb,0,rfl,A2,O.cell hb e2,?_⟩
 refine app_f (v:=slv l) O hb m2 e2 (by omega) λh2 B2 M2 cs2 O2 hb2 p2 n2 z2 g2=>?_
 have f3:cs2[s+3]?=some (slv A3):=by rw[g2 _ (by omega)];exact e3
 have k3:M2 (kO c 3)=some ⟨L1,1,tL,o3⟩:=by rw[n2 _ (kO_kB _ _) (oA _ _)];exact q3
 have i3:i<o3.length:=(List.getElem?_eq_some_iff.1 x3).1
 have t3:L1.n=o3.length:=by have:=(O2.buf _ _ k3).len;simp only[Nat.mul_one] at this;omega
 obtain⟨b15,ha15,c15⟩:=buf_at (O2.buf _ _ k3) (k:=i) i3
 dsimp only at ha15 c15
 rw[x3] at c15
 refine⟨pb,0,rfl,A3,O2.cell hb2 f3,b15,0,ha15,⟨by omega,by omega⟩,nt,by rw[Int.toNat_natCast];exact c15,O2.cell hb2 f3,?_⟩
 refine app_f (v:=slv nt) O2 hb2 (by rw[n2 _ (kA_kB _ _) (kA_ne (by decide))];exact m3) f3 (by omega) λh3 B3 M3 cs3 O3 hb3 p3 n3 z3 g3=>?_
 have f5:cs3[s+5]?=some (slv A5):=by rw[g3 _ (by omega),g2 _ (by omega)];exact e5
 refine⟨pb,0,rfl,A5,O3.cell hb3 f5,?_⟩
 refine app_f (v:=.int .i64 mark) O3 hb3 (by rw[n3 _ (kA_kB _ _) (kA_ne (by decide)),n2 _ (kA_kB _ _) (kA_ne (by decide))];exact m5) f5 (by omega) λh5 B5 M5 cs5 O5 hb5 p5 n5 z5 g5=>?_
 have f6:cs5[s+6]?=some (slv A6):=by rw[g5 _ (by omega),g3 _ (by omega),g2 _ (by omega)];exact e6
 have k6:M5 (kO c 6)=some ⟨L3,1,3,o6⟩:=by rw[n5 _ (kO_kB _ _) (oA _ _),n3 _ (kO_kB _ _) (oA _ _),n2 _ (kO_kB _ _) (oA _ _)];exact q6
 have i6:i<o6.length:=(List.getElem?_eq_some_iff.1 x6).1
 have t6:L3.n=o6.length:=by have:=(O5.buf _ _ k6).len;simp only[Nat.mul_one] at this;omega
 obtain⟨b20,ha20,c20⟩:=buf_at (O5.buf _ _ k6) (k:=i) i6
 dsimp only at ha20 c20
 rw[x6] at c20
 refine⟨pb,0,rfl,A6,O5.cell hb5 f6,b20,0,ha20,⟨by omega,by omega⟩,due,by rw[Int.toNat_natCast];exact c20,O5.cell hb5 f6,?_⟩
 refine app_f (v:=.int .i64 due) O5 hb5 (by rw[n5 _ (kA_kB _ _) (kA_ne (by decide)),n3 _ (kA_kB _ _) (kA_ne (by decide)),n2 _ (kA_kB _ _) (kA_ne (by decide))];exact m6) f6 (by omega) λh6 B6 M6 cs6 O6 hb6 p6 n6 z6 g6=>?_
 refine hK _ M6 cs6 O6 hb6 ⟨⟨B2,?_,?_⟩,⟨B3,?_,?_⟩,⟨B5,?_,?_⟩,⟨B6,p6,z6⟩,λi h0 h1 h4 h7=>?_,λj hB h0 h1 h4 h7=>?_⟩
 ·rw[n6 _ (kA_kB _ _) (kA_ne (by decide)),n5 _ (kA_kB _ _) (kA_ne (by decide)),n3 _ (kA_kB _ _) (kA_ne (by decide))];exact p2
 ·rw[g6 _ (by omega),g5 _ (by omega),g3 _ (by omega)];exact z2
 ·rw[n6 _ (kA_kB _ _) (kA_ne (by decide)),n5 _ (kA_kB _ _) (kA_ne (by decide))];exact p3
 ·rw[g6 _ (by omega),g5 _ (by omega)];exact z3
 ·rw[n6 _ (kA_kB _ _) (kA_ne (by decide))];exact p5
 ·rw[g6 _ (by omega)];exact z5
 ·rw[g6 _ h7,g5 _ h4,g3 _ h1,g2 _ h0]
 ·rw[n6 _ hB h7,n5 _ hB h4,n3 _ hB h1,n2 _ hB h0]
end
end Go.Eng
end
section
namespace Go.Eng
theorem kO_ne{c d f e:Nat}(h:f≠e):kO c f≠kO d e:=λq=>h (by cases q;rfl)
def NoO(m:Mem)(c:Nat):Prop:=m (kO c 2)=none/\m (kO c 3)=none/\m (kO c 5)=none/\m (kO c 6)=none
def WOk(g:Hp)(m:Mem)(KD:Nat->Value->Prop)(c sz t bytes:Nat)(w:WL):Prop:=m (kL c w.id)=some ⟨w.s,sz,t,w.vs⟩/\Cols KD sz w.vs/\(w.s.n+150)*bytes<=140737488355328/\g.row w.nt.a (w.nt.n*sz) w.vs/\w.s.n=w.nt.n
theorem WOk.keep{g g':Hp}{m m':Mem}{KD:Nat->Value->Prop}{c sz t bytes:Nat}{w:WL}(W:WOk g m KD c sz t bytes w)(K:Keep g g')(e:m' (kL c w.id)=m (kL c w.id)):WOk g' m' KD c sz t bytes w:=⟨by rw[e];exact W.1,W.2.1,W.2.2.1,K.row W.2.2.2.1,W.2.2.2.2⟩
def FrOk(g:Hp)(m:Mem)(KD:Nat->Value->Prop)(c sz t bytes:Nat)(f:FR):Prop:=m (kL c f.id)=some ⟨f.s,sz,t,f.fv⟩/\Cols KD sz f.fv/\(f.s.n+150)*bytes<=140737488355328/\g.row f.td.a (f.td.n*sz) f.fv/\f.s.n=f.td.n
theorem FrOk.keep{g g':Hp}{m m':Mem}{KD:Nat->Value->Prop}{c sz t bytes:Nat}{w:FR}(W:FrOk g m KD c sz t bytes w)(K:Keep g g')(e:m' (kL c w.id)=m (kL c w.id)):FrOk g' m' KD c sz t bytes w:=⟨by rw[e];exact W.1,W.2.1,W.2.2.1,K.row W.2.2.2.1,W.2.2.2.2⟩
structure KE(g:Hp)(m:Mem)(cs:List Value)(KD:Nat->Value->Prop)(c s tL sz t bytes:Nat)(kept:List WL)(fr:List FR)(outs:List (Sl×Sl)):Prop where
 a0:∃ A,m (kA c 0)=some ⟨A,1,tL,outs.map λp=>slv p.1⟩/\cs[s+0]?=some (slv A)
 a1:∃ A,m (kA c 1)=some ⟨A,1,tL,outs.map λp=>slv p.2⟩/\cs[s+1]?=some (slv A)
 a2:∃ A,m (kA c 2)=some ⟨A,1,tL,kept.map λw=>slv w.s⟩/\cs[s+2]?=some (slv A)
 a3:∃ A,m (kA c 3)=some ⟨A,1,tL,kept.map λw=>slv w.nt⟩/\cs[s+3]?=some (slv A)
 a4:∃ A,m (kA c 4)=some ⟨A,1,tL,fr.map λf=>slv f.s⟩/\cs[s+4]?=some (slv A)
 a5:∃ A,m (kA c 5)=some ⟨A,1,3,kept.map λw=>.int .i64 w.mark⟩/\cs[s+5]?=some (slv A)
 a6:∃ A,m (kA c 6)=some ⟨A,1,3,kept.map λw=>.int .i64 w.due⟩/\cs[s+6]?=some (slv A)
 a7:∃ A,m (kA c 7)=some ⟨A,1,3,fr.map λf=>.int .i64 f.mark⟩/\cs[s+7]?=some (slv A)
 f:∀ f∈fr,FrOk g m KD c sz t bytes f
 o:∀ p∈outs,Fz g KD sz p\/∃ f∈fr,p=(f.s,f.td)
theorem KE.cong{g g':Hp}{m m':Mem}{KD:Nat->Value->Prop}{cs cs':List Value}{c s tL sz t bytes:Nat}{kept:List WL}{fr:List FR}{outs:List (Sl×Sl)}(E:KE g m cs KD c s tL sz t bytes kept fr outs)(K:Keep g g')(hA:∀ f,m' (kA c f)=m (kA c f))(hL:∀ f∈fr,m' (kL c f.id)=m (kL c f.id))(hc:∀ f,f<8->cs'[s+f]?=cs[s+f]?):KE g' m' cs' KD c s tL sz t bytes kept fr outs:=
 ⟨by rw[hA,hc _ (by decide)];exact E.a0,by rw[hA,hc _ (by decide)];exact E.a1,by rw[hA,hc _ (by decide)];exact E.a2,by rw[hA,hc _ (by decide)];exact E.a3,by rw[hA,hc _ (by decide)];exact E.a4,by rw[hA,hc _ (by decide)];exact E.a5,by rw[hA,hc _ (by decide)];exact E.a6,by rw[hA,hc _ (by decide)];exact E.a7,λf hf=>(E.f f hf).keep K (hL f hf),λp hp=>(E.o p hp).imp (Fz.keep K) id⟩
structure LS(g:Hp)(m:Mem)(cs:List Value)(KD:Nat->Value->Prop)(pb R tB c s tL sz t bytes:Nat)(now:Bool)(turn:Int)(L0 L1 L2 L3:Sl)(ws rm kept:List WL)(fr:List FR)(outs:List (Sl×Sl)):Prop where
 hb:m kB=some (bkF pb R tB cs)
 kt:m kT=none
 c0:cs[0]?=some (.bool now)
 c1:cs[1]?=some (.bool false)
 c2:cs[2]?=some (.int .i64 turn)
 E:KE g m cs KD c s tL sz t bytes kept fr outs
 W:∀ w∈rm++kept,WOk g m KD c sz t bytes w
 nd:((rm.map (·.id)++kept.map (·.id))++fr.map (·.id)).Nodup
 o2:m (kO c 2)=some ⟨L0,1,tL,ws.map λw=>slv w.s⟩
 o3:m (kO c 3)=some ⟨L1,1,tL,ws.map λw=>slv w.nt⟩
 o5:m (kO c 5)=some ⟨L2,1,3,ws.map λw=>.int .i64 w.mark⟩
 o6:m (kO c 6)=some ⟨L3,1,3,ws.map λw=>.int .i64 w.due⟩
@[reducible] def markT(pb s tL t sz bytes:Nat)(zs:List Value)(OF:Int->Nat)(WR:Int->Int->Hp->(List Value->Hp->Prop)->Prop)(S:Sl->Sl->Hp->(Value->Hp->Prop)->Prop)(h:Hp)(Q:Value->Hp->Prop):Prop:=
 dr (some ⟨pb,0,none⟩) λb o=>ldS h b (o+(s+2)) λl=>dr (some ⟨pb,0,none⟩) λb1 o1=>ldS h b1 (o1+(s+3)) λl1=>dr (some ⟨pb,0,none⟩) λb2 o2=>ldS h b2 (o2+(s+5)) λl2=>dr (some ⟨pb,0,none⟩) λb3 o3=>ldS h b3 (o3+(s+6)) λl3=>par ((l.n:Int)=0) (Q (.tuple ⟨[]⟩) h) (dr (some ⟨pb,0,none⟩) λb4 o4=>st h b4 (o4+(s+2)) 1 [.slice none 0 0] λh1=>dr (some ⟨pb,0,none⟩) λb5 o5=>st h1 b5 (o5+(s+3)) 1 [.slice none 0 0] λh2=>dr (some ⟨pb,0,none⟩) λb6 o6=>st h2 b6 (o6+(s+5)) 1 [.slice none 0 0] λh3=>dr (some ⟨pb,0,none⟩) λb7 o7=>st h3 b7 (o7+(s+6)) 1 [.slice none 0 0] λh4=>∃ (I:Int->Hp->Prop) (m:Int->Hp->Nat),I 0 h4/\(∀ n:Int,∀ h5:Hp,I n h5->par (n<(l.n:Int)) (ix l.a n l.n λb8 o8=>ldS h5 b8 (o8+n.toNat) λl4=>ix l2.a n l2.n λb9 o9=>ldI .i64 h5 b9 (o9+n.toNat) λn1=>ix l3.a n l3.n λb10 o10=>ldI .i64 h5 b10 (o10+n.toNat) λn2=>dr (some ⟨pb,0,none⟩) λb11 o11=>ldI .i64 h5 b11 (o11+2) λn3=>par (n3<n2) (dr (some ⟨pb,0,none⟩) λb12 o12=>ldS h5 b12 (o12+(s+2)) λl5=>appendD l5 tL 1 24 [.slice none 0 0] 1 [.slice l4.a l4.n l4.c] h5 λl6 h6=>dr (some ⟨pb,0,none⟩) λb13 o13=>st h6 b13 (o13+(s+2)) 1 [.slice l6.a l6.n l6.c] λh7=>dr (some ⟨pb,0,none⟩) λb14 o14=>ldS h7 b14 (o14+(s+3)) λl7=>ix l1.a n l1.n λb15 o15=>ldS h7 b15 (o15+n.toNat) λl8=>h7.at b14 (o14+(s+3))=some (.slice l7.a l7.n l7.c)/\appendD l7 tL 1 24 [.slice none 0 0] 1 [.slice l8.a l8.n l8.c] h7 λl9 h8=>dr (some ⟨pb,0,none⟩) λb16 o16=>st h8 b16 (o16+(s+3)) 1 [.slice l9.a l9.n l9.c] λh9=>dr (some ⟨pb,0,none⟩) λb17 o17=>ldS h9 b17 (o17+(s+5)) λl10=>appendD l10 3 1 8 [.int .i64 0] 1 [.int .i64 n1] h9 λl11 h10=>dr (some ⟨pb,0,none⟩) λb18 o18=>st h10 b18 (o18+(s+5)) 1 [.slice l11.a l11.n l11.c] λh11=>dr (some ⟨pb,0,none⟩) λb19 o19=>ldS h11 b19 (o19+(s+6)) λl12=>ix l3.a n l3.n λb20 o20=>ldI .i64 h11 b20 (o20+n.toNat) λn4=>h11.at b19 (o19+(s+6))=some (.slice l12.a l12.n l12.c)/\appendD l12 3 1 8 [.int .i64 0] 1 [.int .i64 n4] h11 λl13 h12=>dr (some ⟨pb,0,none⟩) λb21 o21=>st h12 b21 (o21+(s+6)) 1 [.slice l13.a l13.n l13.c] λh13=>I (wrap .i64 (n+1)) h13/\m (wrap .i64 (n+1)) h13<m n h5) (∃ J:Hp->Prop,(∀ h14:Hp,J h14->∃ (I1:Int->Hp->Prop) (m1:Int->Hp->Nat),I1 0 h14/\(∀ n5:Int,∀ h15:Hp,I1 n5 h15->par (n5<(l4.n:Int)) (WR n1 n5 h15 λus h16=>ix l4.a n5 l4.n λb22 o22=>st h16 b22 (o22+OF n5) sz us λh17=>I1 (wrap .i64 (n5+1)) h17/\m1 (wrap .i64 (n5+1)) h17<m1 n5 h15) (dr (some ⟨pb,0,none⟩) λb23 o23=>ldS h15 b23 (o23+(s+0)) λl14=>appendD l14 tL 1 24 [.slice none 0 0] 1 [.slice l4.a l4.n l4.c] h15 λl15 h17=>dr (some ⟨pb,0,none⟩) λb24 o24=>st h17 b24 (o24+(s+0)) 1 [.slice l15.a l15.n l15.c] λh18=>dr (some ⟨pb,0,none⟩) λb25 o25=>ldS h18 b25 (o25+(s+1)) λl16=>nw h18 (.cells ⟨[]⟩ t (0,0)) λb26 h19=>h19.at b25 (o25+(s+1))=some (.slice l16.a l16.n l16.c)/\∃ vs,h19.row l4.a (l4.n*sz) vs/\(∀ v∈vs,Value.oneCell' v=true)/\appendD ⟨(some ⟨b26,0,none⟩),0,0⟩ t sz bytes zs l4.n vs h19 λl17 h20=>h20.at b25 (o25+(s+1))=some (.slice l16.a l16.n l16.c)/\h20.at b25 (o25+(s+1))=some (.slice l16.a l16.n l16.c)/\appendD l16 tL 1 24 [.slice none 0 0] 1 [.slice l17.a l17.n l17.c] h20 λl18 h21=>dr (some ⟨pb,0,none⟩) λb27 o26=>st h21 b27 (o26+(s+1)) 1 [.slice l18.a l18.n l18.c] λh22=>dr (some ⟨pb,0,none⟩) λb28 o27=>ldS h22 b28 (o27+(s+4)) λl19=>appendD l19 tL 1 24 [.slice none 0 0] 1 [.slice l4.a l4.n l4.c] h22 λl20 h23=>dr (some ⟨pb,0,none⟩) λb29 o28=>st h23 b29 (o28+(s+4)) 1 [.slice l20.a l20.n l20.c] λh24=>dr (some ⟨pb,0,none⟩) λb30 o29=>ldS h24 b30 (o29+(s+7)) λl21=>appendD l21 3 1 8 [.int .i64 0] 1 [.int .i64 n1] h24 λl22 h25=>dr (some ⟨pb,0,none⟩) λb31 o30=>st h25 b31 (o30+(s+7)) 1 [.slice l22.a l22.n l22.c] λh26=>I (wrap .i64 (n+1)) h26/\m (wrap .i64 (n+1)) h26<m n h5)))/\(dr (some ⟨pb,0,none⟩) λb32 o31=>ldB h5 b32 (o31+1) (dr (some ⟨pb,0,none⟩) λb33 o32=>st h5 b33 (o32+1) 1 [.bool true] λh27=>J h27) (dr (some ⟨pb,0,none⟩) λb34 o33=>ldB h5 b34 (o33+0) (dr (some ⟨pb,0,none⟩) λb35 o34=>st h5 b35 (o34+1) 1 [.bool false] λh28=>J h28) (ix l1.a n l1.n λb36 o35=>ldS h5 b36 (o35+n.toNat) λl23=>S l4 l23 h5 λr h29=>retB r (dr (some ⟨pb,0,none⟩) λb37 o36=>st h29 b37 (o36+1) 1 [.bool false] λh30=>J h30) (dr (some ⟨pb,0,none⟩) λb38 o37=>st h29 b38 (o37+1) 1 [.bool true] λh31=>J h31)))))) (Q (.tuple ⟨[]⟩) h5)))
section
variable{g h:Hp}{m:Mem}{pb R tB t s c tL tA sz bytes:Nat}{cs zs us:List Value}{A:Sl}{outs:List (Sl×Sl)}{ws:List WL}{fr0:List FR}{Q:Value->Hp->Prop}{K:Hp->Prop}{KD:Nat->Value->Prop}
theorem take_f{f:Nat}(O:Mine g h m)(hb:m kB=some (bkF pb R tB cs))(ha:m (kA c f)=some ⟨A,1,tA,us⟩)(hc:cs[s+f]?=some (slv A))(hn:m (kO c f)=none)
  (hK:∀ h' m' cs',Mine g h' m'->m' kB=some (bkF pb R tB cs')->m' (kA c f)=some ⟨⟨none,0,0⟩,1,tA,[]⟩->m' (kO c f)=some ⟨A,1,tA,us⟩->(∀ j,j≠kB->j≠kA c f->j≠kO c f->m' j=m j)->cs'[s+f]?=some (.slice none 0 0)->(∀ i,i≠s+f->cs'[i]?=cs[i]?)->K h') :
  dr (some ⟨pb,0,none⟩) λb o=>st h b (o+(s+f)) 1 [.slice none 0 0] λh'=>K h':=by
 obtain⟨w1,O1⟩:=O.setCell hb hc (.slice none 0 0)
 refine⟨pb,0,rfl,w1,?_⟩
 have O2:=O1.move (k:=kA c f) (k':=kO c f) (by rw[put_ne _ _ (kA_kB _ _)];exact ha) (by rw[put_ne _ _ (kO_kB _ _)];exact hn)
 have O3:=O2.nil (k:=kA c f) (by rw[put_ne _ _ (Ne.symm (kO_kA _ _ _ _)),del_self]) 1 tA
 refine hK _ _ _ O3 ?_ (put_self _ _ _) ?_ (λj h1 h2 h3=>?_) (List.getElem?_set_self (List.getElem?_eq_some_iff.1 hc).1) λi hi=>List.getElem?_set_ne (Ne.symm hi)
 ·rw[put_ne _ _ (Ne.symm (kA_kB _ _)),put_ne _ _ (Ne.symm (kO_kB _ _)),del_ne _ (Ne.symm (kA_kB _ _)),put_self]
 ·rw[put_ne _ _ (kO_kA _ _ _ _),put_self]
 ·rw[put_ne _ _ h2,put_ne _ _ h3,del_ne _ h2,put_ne _ _ h1]
theorem mark_k{RY:Hp->Prop}{S:Sl->Sl->Hp->(Value->Hp->Prop)->Prop}{OF:Int->Nat}{WR:Int->Int->Hp->(List Value->Hp->Prop)->Prop}{now:Bool}{turn:Int}(hS:∀ l l' (h:Hp) vs K,Cols KD sz vs->h.row l.a (l.n*sz) vs->h.row l'.a (l'.n*sz) vs->l.n=l'.n->l.n<=140737488355328->RY h->K (.bool true) h->S l l' h K)
  (hsz:0<sz) (hOF:∀ i:Nat,OF (i:Int)=i*sz) (hWR:∀ a i h' K,Keep g h'->(∀ h'' us,Keep h' h''->us.length=sz->Cols KD sz us->K us h'')->WR a i h' K) (hKD:∀ c v,KD c v->Value.oneCell' v=true) (hz:zs.length=sz) (hs:4<=s) (hby:0<bytes)
  (O:Mine g h m) (hb:m kB=some (bkF pb R tB cs)) (kt:m kT=none) (ko:NoO m c) (c0:cs[0]?=some (.bool now)) (c1:cs[1]?=some (.bool false)) (c2:cs[2]?=some (.int .i64 turn))
  (E:KE g m cs KD c s tL sz t bytes ws fr0 outs) (W:∀ w∈ws,WOk g m KD c sz t bytes w) (nd:(ws.map (·.id)++fr0.map (·.id)).Nodup) (lw:ws.length<=100000000000) (lf:fr0.length<=100000000000) (lo:outs.length<=100000000000)
  (hRY:∀ h' g' m',Keep g g'->Mine g' h' m'->(∀ j,j≠kB->(∀ f,j≠kA c f)->(∀ f,j≠kO c f)->(∀ w∈ws,j≠kL c w.id)->m' j=m j)->RY h')
  (hQ:∀ h' g' m' cs' kept fr outs',Keep g g'->Mine g' h' m'->m' kB=some (bkF pb R tB cs')->m' kT=none->NoO m' c->KE g' m' cs' KD c s tL sz t bytes kept fr outs'->(∀ w∈kept,WOk g' m' KD c sz t bytes w)->(kept.map (·.id)++fr.map (·.id)).Nodup->(∀ i,i∈kept.map (·.id)++fr.map (·.id)->i∈ws.map (·.id)++fr0.map (·.id))->kept.length+fr.length=ws.length+fr0.length->outs'.length+fr0.length=outs.length+fr.length->(∀ w∈ws,w∈kept\/∃ p∈outs',p.1=w.s)->(∀ p∈outs,p∈outs')->(∀ j,j≠kB->(∀ f,j≠kA c f)->(∀ f,j≠kO c f)->(∀ w∈ws,j≠kL c w.id)->m' j=m j)->(∀ i,(∀ f,f<8->i≠s+f)->cs'[i]?=cs[i]?)->Q (.tuple ⟨[]⟩) h') :
  markT pb s tL t sz bytes zs OF WR S h Q:=by
 obtain⟨A2,m2,e2⟩:=E.a2
 obtain⟨A3,m3,e3⟩:=E.a3
 obtain⟨A5,m5,e5⟩:=E.a5
 obtain⟨A6,m6,e6⟩:=E.a6
 have n2:A2.n=ws.length:=by have:=(O.buf _ _ m2).len;simp only[length_map,Nat.mul_one] at this;omega
 refine⟨pb,0,rfl,A2,O.cell hb e2,pb,0,rfl,A3,O.cell hb e3,pb,0,rfl,A5,O.cell hb e5,pb,0,rfl,A6,O.cell hb e6,λh0=>?_,λh0=>?_⟩
 ·have:ws=[]:=List.eq_nil_of_length_eq_zero (by omega)
  subst this
  exact hQ h g m cs [] fr0 outs (Keep.refl g) O hb kt ko E (λw hw=>by cases hw) nd (λi hi=>hi) rfl rfl (λw hw=>by cases hw) (λ_ h=>h) (λ_ _ _ _ _=>rfl) (λ_ _=>rfl)
 refine take_f O hb m2 e2 ko.1 λh1 M1 cs1 O1 hb1 p1 q1 r1 x1 y1=>?_
 refine take_f (f:=3) O1 hb1 (by rw[r1 _ (kA_kB _ _) (kA_ne (by decide)) (Ne.symm (kO_kA _ _ _ _))];exact m3) (by rw[y1 _ (by omega)];exact e3) (by rw[r1 _ (kO_kB _ _) (kO_kA _ _ _ _) (kO_ne (by decide))];exact ko.2.1) λh2 M2 cs2 O2 hb2 p2 q2 r2 x2 y2=>?_
 refine take_f (f:=5) O2 hb2 (by rw[r2 _ (kA_kB _ _) (kA_ne (by decide)) (Ne.symm (kO_kA _ _ _ _)),r1 _ (kA_kB _ _) (kA_ne (by decide)) (Ne.symm (kO_kA _ _ _ _))];exact m5) (by rw[y2 _ (by omega),y1 _ (by omega)];exact e5) (by rw[r2 _ (kO_kB _ _) (kO_kA _ _ _ _) (kO_ne (by decide)),r1 _ (kO_kB _ _) (kO_kA _ _ _ _) (kO_ne (by decide))];exact ko.2.2.1) λh3 M3 cs3 O3 hb3 p3 q3 r3 x3 y3=>?_
 refine take_f (f:=6) O3 hb3 (by rw[r3 _ (kA_kB _ _) (kA_ne (by decide)) (Ne.symm (kO_kA _ _ _ _)),r2 _ (kA_kB _ _) (kA_ne (by decide)) (Ne.symm (kO_kA _ _ _ _)),r1 _ (kA_kB _ _) (kA_ne (by decide)) (Ne.symm (kO_kA _ _ _ _))];exact m6) (by rw[y3 _ (by omega),y2 _ (by omega),y1 _ (by omega)];exact e6) (by rw[r3 _ (kO_kB _ _) (kO_kA _ _ _ _) (kO_ne (by decide)),r2 _ (kO_kB _ _) (kO_kA _ _ _ _) (kO_ne (by decide)),r1 _ (kO_kB _ _) (kO_kA _ _ _ _) (kO_ne (by decide))];exact ko.2.2.2) λh4 M4 cs4 O4 hb4 p4 q4 r4 x4 y4=>?_
 have mem4:∀ j,j≠kB->(∀ f,j≠kA c f)->(∀ f,j≠kO c f)->M4 j=m j:=λj h1 h2 h3=>by rw[r4 _ h1 (h2 _) (h3 _),r3 _ h1 (h2 _) (h3 _),r2 _ h1 (h2 _) (h3 _),r1 _ h1 (h2 _) (h3 _)]
 have memA:∀ f,f≠2->f≠3->f≠5->f≠6->M4 (kA c f)=m (kA c f):=λf h2 h3 h5 h6=>by rw[r4 _ (kA_kB _ _) (kA_ne h6) (Ne.symm (kO_kA _ _ _ _)),r3 _ (kA_kB _ _) (kA_ne h5) (Ne.symm (kO_kA _ _ _ _)),r2 _ (kA_kB _ _) (kA_ne h3) (Ne.symm (kO_kA _ _ _ _)),r1 _ (kA_kB _ _) (kA_ne h2) (Ne.symm (kO_kA _ _ _ _))]
 have cell4:∀ i,i≠s+2->i≠s+3->i≠s+5->i≠s+6->cs4[i]?=cs[i]?:=λi h2 h3 h5 h6=>by rw[y4 _ h6,y3 _ h5,y2 _ h3,y1 _ h2]
 have L0:LS g M4 cs4 KD pb R tB c s tL sz t bytes now turn A2 A3 A5 A6 ws ws [] fr0 outs:=by
  refine⟨hb4,by rw[mem4 _ (λe=>by cases e) (λ_ e=>by cases e) (λ_ e=>by cases e)];exact kt,by rw[cell4 _ (by omega) (by omega) (by omega) (by omega)];exact c0,by rw[cell4 _ (by omega) (by omega) (by omega) (by omega)];exact c1,by rw[cell4 _ (by omega) (by omega) (by omega) (by omega)];exact c2,⟨?_,?_,?_,?_,?_,?_,?_,?_,λf hf=>(E.f f hf).keep (Keep.refl g) (mem4 _ (kL_kB _ _) (λ_=>kL_kA _ _ _ _) (λ_=>Ne.symm (kO_kL _ _ _ _))),E.o⟩,λw hw=>?_,by rw[List.map_nil,append_nil];exact nd,?_,?_,?_,q4⟩
  ·rw[memA 0 (by decide) (by decide) (by decide) (by decide),cell4 _ (by omega) (by omega) (by omega) (by omega)];exact E.a0
  ·rw[memA 1 (by decide) (by decide) (by decide) (by decide),cell4 _ (by omega) (by omega) (by omega) (by omega)];exact E.a1
  ·exact⟨_,by rw[r4 _ (kA_kB _ _) (kA_ne (by decide)) (Ne.symm (kO_kA _ _ _ _)),r3 _ (kA_kB _ _) (kA_ne (by decide)) (Ne.symm (kO_kA _ _ _ _)),r2 _ (kA_kB _ _) (kA_ne (by decide)) (Ne.symm (kO_kA _ _ _ _))];exact p1,by rw[y4 _ (by omega),y3 _ (by omega),y2 _ (by omega)];exact x1⟩
  ·exact⟨_,by rw[r4 _ (kA_kB _ _) (kA_ne (by decide)) (Ne.symm (kO_kA _ _ _ _)),r3 _ (kA_kB _ _) (kA_ne (by decide)) (Ne.symm (kO_kA _ _ _ _))];exact p2,by rw[y4 _ (by omega),y3 _ (by omega)];exact x2⟩
  ·rw[memA 4 (by decide) (by decide) (by decide) (by decide),cell4 _ (by omega) (by omega) (by omega) (by omega)];exact E.a4
  ·exact⟨_,by rw[r4 _ (kA_kB _ _) (kA_ne (by decide)) (Ne.symm (kO_kA _ _ _ _))];exact p3,by rw[y4 _ (by omega)];exact x3⟩
  ·exact⟨_,p4,x4⟩
  ·rw[memA 7 (by decide) (by decide) (by decide) (by decide),cell4 _ (by omega) (by omega) (by omega) (by omega)];exact E.a7
  ·rw[append_nil] at hw
   exact(W w hw).keep (Keep.refl g) (mem4 _ (kL_kB _ _) (λ_=>kL_kA _ _ _ _) (λ_=>Ne.symm (kO_kL _ _ _ _)))
  ·rw[r4 _ (kO_kB _ _) (kO_kA _ _ _ _) (kO_ne (by decide)),r3 _ (kO_kB _ _) (kO_kA _ _ _ _) (kO_ne (by decide)),r2 _ (kO_kB _ _) (kO_kA _ _ _ _) (kO_ne (by decide))];exact q1
  ·rw[r4 _ (kO_kB _ _) (kO_kA _ _ _ _) (kO_ne (by decide)),r3 _ (kO_kB _ _) (kO_kA _ _ _ _) (kO_ne (by decide))];exact q2
  ·rw[r4 _ (kO_kB _ _) (kO_kA _ _ _ _) (kO_ne (by decide))];exact q3
 clear r1 r2 r3 r4 y1 y2 y3 y4 p1 p2 p3 p4 q1 q2 q3 q4 x1 x2 x3 x4
 refine⟨λn h5=>∃ (D rm kept:List WL) (fr:List FR) (g':Hp) (m':Mem) (cs':List Value) (outs':List (Sl×Sl)),ws=D++rm/\n=(D.length:Int)/\Keep g g'/\Mine g' h5 m'/\LS g' m' cs' KD pb R tB c s tL sz t bytes now turn A2 A3 A5 A6 ws rm kept fr outs'/\kept.length+fr.length=D.length+fr0.length/\outs'.length+fr0.length=outs.length+fr.length/\((∀ w∈D,w∈kept\/∃ p∈outs',p.1=w.s)/\∀ p∈outs,p∈outs')/\(∀ i,i∈kept.map (·.id)++fr.map (·.id)->i∈D.map (·.id)++fr0.map (·.id))/\(∀ j,j≠kB->(∀ f,j≠kA c f)->(∀ f,j≠kO c f)->(∀ w∈ws,j≠kL c w.id)->m' j=m j)/\(∀ i,(∀ f,f<8->i≠s+f)->cs'[i]?=cs[i]?),λn _=>ws.length-n.toNat,⟨[],ws,[],fr0,g,M4,cs4,outs,rfl,rfl,Keep.refl g,O4,L0,by simp,rfl,⟨λw hw=>(by cases hw),λ_ h=>h⟩,λi hi=>hi,λj h1 h2 h3 _=>mem4 j h1 h2 h3,λi hi=>cell4 i (hi 2 (by decide)) (hi 3 (by decide)) (hi 5 (by decide)) (hi 6 (by decide))⟩,?_⟩
 rintro n h5 ⟨D,rm,kept,fr,g',m',cs',outs',e,rfl,Kg,O5,L,hkf,hlo,hio,hid,hmem,hrest⟩
 have eL:=congrArg List.length e
 rw[length_append] at eL
 refine⟨λhlt=>?_,λhge=>?_⟩
 ·rcases rm with _|⟨w,rm⟩
  ·exact absurd hlt (by simp at eL;omega)
  rw[List.length_cons] at eL
  have hD:D.length<ws.length:=by omega
  have gw:ws[D.length]?=some w:=by rw[e,List.getElem?_append_right (Nat.le_refl _),Nat.sub_self];rfl
  have wmem:w∈ws:=by rw[e];simp
  have n5:A5.n=ws.length:=by have:=(O5.buf _ _ L.o5).len;simp only[length_map,Nat.mul_one] at this;omega
  have n6:A6.n=ws.length:=by have:=(O5.buf _ _ L.o6).len;simp only[length_map,Nat.mul_one] at this;omega
  have n3:A3.n=ws.length:=by have:=(O5.buf _ _ L.o3).len;simp only[length_map,Nat.mul_one] at this;omega
  obtain⟨b8,ha8,k8⟩:=buf_at (O5.buf _ _ L.o2) (k:=D.length) (by rw[length_map];exact hD)
  obtain⟨b9,ha9,k9⟩:=buf_at (O5.buf _ _ L.o5) (k:=D.length) (by rw[length_map];exact hD)
  obtain⟨b10,ha10,k10⟩:=buf_at (O5.buf _ _ L.o6) (k:=D.length) (by rw[length_map];exact hD)
  dsimp only at ha8 ha9 ha10 k8 k9 k10
  rw[getElem?_map,gw] at k8 k9 k10
  obtain⟨w1,w2,w3,w4,w5⟩:=L.W w (by simp)
  obtain⟨A0,x0,y0⟩:=L.E.a0
  obtain⟨A1,x1,y1⟩:=L.E.a1
  obtain⟨B2,x2,y2⟩:=L.E.a2
  obtain⟨B3,x3,y3⟩:=L.E.a3
  obtain⟨A4,x4,y4⟩:=L.E.a4
  obtain⟨B5,x5,y5⟩:=L.E.a5
  obtain⟨B6,x6,y6⟩:=L.E.a6
  obtain⟨A7,x7,y7⟩:=L.E.a7
  have ndc:=L.nd
  rw[map_cons,List.cons_append,List.cons_append,List.nodup_cons] at ndc
  have nrm:∀ v∈rm,v.id≠w.id:=λv hv q=>ndc.1 (by rw[<- q];exact mem_append_left _ (mem_append_left _ (List.mem_map_of_mem (f:=λx:WL=>x.id) hv)))
  have nke:∀ v∈kept,v.id≠w.id:=λv hv q=>ndc.1 (by rw[<- q];exact mem_append_left _ (mem_append_right _ (List.mem_map_of_mem (f:=λx:WL=>x.id) hv)))
  have nfr:∀ v∈fr,v.id≠w.id:=λv hv q=>ndc.1 (by rw[<- q];exact mem_append_right _ (List.mem_map_of_mem (f:=λx:FR=>x.id) hv))
  refine⟨b8,0,ha8,⟨by omega,by omega⟩,w.s,by rw[Int.toNat_natCast];exact k8,b9,0,ha9,⟨by omega,by omega⟩,w.mark,by rw[Int.toNat_natCast];exact k9,b10,0,ha10,⟨by omega,by omega⟩,w.due,by rw[Int.toNat_natCast];exact k10,pb,0,rfl,turn,O5.cell L.hb L.c2,λhdue=>?_,λhdue=>?_⟩
  ·refine wait_k (l:=w.s) (nt:=w.nt) (mark:=w.mark) (due:=w.due) O5 L.hb x2 y2 x3 y3 x5 y5 x6 y6 L.o3 (by rw[getElem?_map,gw];rfl) L.o6 (by rw[getElem?_map,gw];rfl) (by rw[length_map];omega) (by rw[length_map];omega) (by rw[length_map];omega) (by rw[length_map];omega) λh6 m6 cs6 O6 hb6 X=>?_
   rw[nx_i (n:=1000000000000) (by omega) (by omega)]
   have XL:∀ i,m6 (kL c i)=m' (kL c i):=λi=>X.mem _ (kL_kB _ _) (kL_kA _ _ _ _) (kL_kA _ _ _ _) (kL_kA _ _ _ _) (kL_kA _ _ _ _)
   have XO:∀ i,m6 (kO c i)=m' (kO c i):=λi=>X.mem _ (kO_kB _ _) (kO_kA _ _ _ _) (kO_kA _ _ _ _) (kO_kA _ _ _ _) (kO_kA _ _ _ _)
   have XA:∀ f,f≠2->f≠3->f≠5->f≠6->m6 (kA c f)=m' (kA c f):=λf h2 h3 h5 h6=>X.mem _ (kA_kB _ _) (kA_ne h2) (kA_ne h3) (kA_ne h5) (kA_ne h6)
   refine⟨⟨D++[w],rm,kept++[w],fr,g',m6,cs6,outs',by rw[e];simp,by simp,Kg,O6,⟨hb6,?_,?_,?_,?_,⟨?_,?_,?_,?_,?_,?_,?_,?_,λf hf=>(L.E.f f hf).keep (Keep.refl g') (XL _),L.E.o⟩,λv hv=>?_,?_,by rw[XO];exact L.o2,by rw[XO];exact L.o3,by rw[XO];exact L.o5,by rw[XO];exact L.o6⟩,by rw[length_append,length_append,length_singleton];omega,hlo,⟨λv hv=>?_,hio.2⟩,λi hi=>?_,λj h1 h2 h3 h4=>?_,λi hi=>?_⟩,by dsimp only;omega⟩
   ·rw[X.mem _ (λe=>by cases e) (λe=>by cases e) (λe=>by cases e) (λe=>by cases e) (λe=>by cases e)];exact L.kt
   ·rw[X.rest _ (by omega) (by omega) (by omega) (by omega)];exact L.c0
   ·rw[X.rest _ (by omega) (by omega) (by omega) (by omega)];exact L.c1
   ·rw[X.rest _ (by omega) (by omega) (by omega) (by omega)];exact L.c2
   ·rw[XA _ (by decide) (by decide) (by decide) (by decide),X.rest _ (by omega) (by omega) (by omega) (by omega)];exact L.E.a0
   ·rw[XA _ (by decide) (by decide) (by decide) (by decide),X.rest _ (by omega) (by omega) (by omega) (by omega)];exact L.E.a1
   ·rw[map_append];exact X.a2
   ·rw[map_append];exact X.a3
   ·rw[XA _ (by decide) (by decide) (by decide) (by decide),X.rest _ (by omega) (by omega) (by omega) (by omega)];exact L.E.a4
   ·rw[map_append];exact X.a5
   ·rw[map_append];exact X.a6
   ·rw[XA _ (by decide) (by decide) (by decide) (by decide),X.rest _ (by omega) (by omega) (by omega) (by omega)];exact L.E.a7
   ·refine(L.W v ?_).keep (Keep.refl g') (XL _)
    simp only[mem_append,List.mem_cons,List.not_mem_nil,or_false] at hv ⊢
    rcases hv with hv|hv|hv
    ·exact .inl (.inr hv)
    ·exact .inr hv
    ·exact .inl (.inl hv)
   ·rw[map_append,show rm.map (·.id)++(kept.map (·.id)++List.map (·.id) [w])++fr.map (·.id)=(rm.map (·.id)++kept.map (·.id))++w.id::fr.map (·.id) by simp]
    exact(List.perm_middle.nodup_iff).2 (List.nodup_cons.2 ndc)
   ·rcases mem_append.1 hv with hv|hv
    ·exact(hio.1 v hv).imp (λq=>mem_append_left _ q) id
    ·exact .inl (mem_append_right _ hv)
   ·simp only[map_append,mem_append,map_cons,List.map_nil] at hi hid ⊢
    rcases hi with(hi|hi)|hi
    ·exact(hid i (.inl hi)).elim (λq=>.inl (.inl q)) .inr
    ·exact .inl (.inr hi)
    ·exact(hid i (.inr hi)).elim (λq=>.inl (.inl q)) .inr
   ·rw[X.mem _ h1 (h2 _) (h2 _) (h2 _) (h2 _)]
    exact hmem j h1 h2 h3 h4
   ·rw[X.rest _ (hi 2 (by decide)) (hi 3 (by decide)) (hi 5 (by decide)) (hi 6 (by decide))]
    exact hrest i hi
  ·obtain⟨st1,O5'⟩:=O5.setCell L.hb L.c1 (.bool false)
   rw[set_same L.c1,put_same L.hb] at O5'
   refine⟨λh14=>Mine g' h14 m',λh14 O14=>?_,pb,0,rfl,false,O5.cell L.hb L.c1,λq=>Bool.noConfusion q,λ_=>⟨pb,0,rfl,now,O5.cell L.hb L.c0,λ_=>⟨pb,0,rfl,st1,O5'⟩,λ_=>?_⟩⟩
   ·have hn:w.s.n*bytes<=140737488355328:=Nat.le_trans (Nat.mul_le_mul_right _ (by omega)) w3
    refine fill_k (OF:=OF) (WR:=WR w.mark) O14 w1 hsz hOF (λi h' K k=>hWR w.mark i h' K (Kg.trans k)) w2 (Nat.le_trans (Nat.le_mul_of_pos_right _ hby) hn) λh15 us O15 hus=>?_
    have pA:∀ f,(m'.put (kL c w.id) ⟨w.s,sz,t,us⟩) (kA c f)=m' (kA c f):=λf=>put_ne _ _ (Ne.symm (kL_kA _ _ _ _))
    refine out_k (mark:=w.mark) O15 (by rw[put_ne _ _ (Ne.symm (kL_kB _ _))];exact L.hb) (by rw[put_ne _ _ (λe=>by cases e)];exact L.kt) (put_self _ _ _) (kL_kB _ _) (λ_=>kL_kA _ _ _ _) (by rw[pA];exact x0) y0 (by rw[pA];exact x1) y1 (by rw[pA];exact x4) y4 (by rw[pA];exact x7) y7 (by rw[length_map];omega) (by rw[length_map];omega) (by rw[length_map];omega) (by rw[length_map];omega) (hus.one hKD) hz hn λh16 g2 m2 cs2 nt Kg2 O16 hb16 X rnt hnt=>?_
    rw[nx_i (n:=1000000000000) (by omega) (by omega)]
    have XL:∀ i,m2 (kL c i)=(m'.put (kL c w.id) ⟨w.s,sz,t,us⟩) (kL c i):=λi=>X.mem _ (kL_kB _ _) (kL_kA _ _ _ _) (kL_kA _ _ _ _) (kL_kA _ _ _ _) (kL_kA _ _ _ _)
    have XL':∀ i,i≠w.id->m2 (kL c i)=m' (kL c i):=λi hi=>by rw[XL,put_ne _ _ (λq=>hi (by unfold kL at q;simpa using q))]
    have XO:∀ i,m2 (kO c i)=m' (kO c i):=λi=>by rw[X.mem _ (kO_kB _ _) (kO_kA _ _ _ _) (kO_kA _ _ _ _) (kO_kA _ _ _ _) (kO_kA _ _ _ _),put_ne _ _ (kO_kL _ _ _ _)]
    have XA:∀ f,f≠0->f≠1->f≠4->f≠7->m2 (kA c f)=m' (kA c f):=λf h2 h3 h5 h6=>by rw[X.mem _ (kA_kB _ _) (kA_ne h2) (kA_ne h3) (kA_ne h5) (kA_ne h6),pA]
    refine⟨⟨D++[w],rm,kept,fr++[⟨w.id,w.s,nt,us,w.mark⟩],g2,m2,cs2,outs'++[(w.s,nt)],by rw[e];simp,by simp,Kg.trans Kg2,O16,⟨hb16,?_,?_,?_,?_,⟨?_,?_,?_,?_,?_,?_,?_,?_,λf hf=>?_,λp hp=>?_⟩,λv hv=>?_,?_,by rw[XO];exact L.o2,by rw[XO];exact L.o3,by rw[XO];exact L.o5,by rw[XO];exact L.o6⟩,by rw[length_append,length_append,length_singleton,length_singleton];omega,by rw[length_append,length_append,length_singleton,length_singleton];omega,⟨λv hv=>?_,λp hp=>mem_append_left _ (hio.2 p hp)⟩,λi hi=>?_,λj h1 h2 h3 h4=>?_,λi hi=>?_⟩,by dsimp only;omega⟩
    ·rw[X.mem _ (λe=>by cases e) (λe=>by cases e) (λe=>by cases e) (λe=>by cases e) (λe=>by cases e),put_ne _ _ (λe=>by cases e)];exact L.kt
    ·rw[X.rest _ (by omega) (by omega) (by omega) (by omega)];exact L.c0
    ·rw[X.rest _ (by omega) (by omega) (by omega) (by omega)];exact L.c1
    ·rw[X.rest _ (by omega) (by omega) (by omega) (by omega)];exact L.c2
    ·rw[map_append];exact X.a0
    ·rw[map_append];exact X.a1
    ·rw[XA _ (by decide) (by decide) (by decide) (by decide),X.rest _ (by omega) (by omega) (by omega) (by omega)];exact L.E.a2
    ·rw[XA _ (by decide) (by decide) (by decide) (by decide),X.rest _ (by omega) (by omega) (by omega) (by omega)];exact L.E.a3
    ·rw[map_append];exact X.a4
    ·rw[XA _ (by decide) (by decide) (by decide) (by decide),X.rest _ (by omega) (by omega) (by omega) (by omega)];exact L.E.a5
    ·rw[XA _ (by decide) (by decide) (by decide) (by decide),X.rest _ (by omega) (by omega) (by omega) (by omega)];exact L.E.a6
    ·rw[map_append];exact X.a7
    ·rcases mem_append.1 hf with hf|hf
     ·exact(L.E.f f hf).keep Kg2 (XL' _ (nfr f hf))
     ·rw[mem_singleton] at hf
      subst hf
      exact⟨by rw[XL];exact put_self _ _ _,hus,w3,rnt,hnt.symm⟩
    ·rcases mem_append.1 hp with hp|hp
     ·rcases L.E.o p hp with h|⟨f,hf,ep⟩
      ·exact .inl (h.keep Kg2)
      ·exact .inr ⟨f,mem_append_left _ hf,ep⟩
     ·rw[mem_singleton] at hp
      exact .inr ⟨_,mem_append_right _ (mem_singleton.2 rfl),hp⟩
    ·have hv':v.id≠w.id:=(mem_append.1 hv).elim (nrm v) (nke v)
     exact(L.W v (by rw[List.cons_append];exact List.mem_cons_of_mem _ hv)).keep Kg2 (XL' _ hv')
    ·rw[map_append,show rm.map (·.id)++kept.map (·.id)++(fr.map (·.id)++List.map (·.id) [(⟨w.id,w.s,nt,us,w.mark⟩:FR)])=((rm.map (·.id)++kept.map (·.id))++fr.map (·.id))++w.id::[] by simp]
     refine(List.perm_middle.nodup_iff).2 ?_
     rw[append_nil]
     exact List.nodup_cons.2 ndc
    ·rcases mem_append.1 hv with hv|hv
     ·exact(hio.1 v hv).imp id λ⟨p,hp,e⟩=>⟨p,mem_append_left _ hp,e⟩
     ·rw[mem_singleton] at hv
      subst hv
      exact .inr ⟨_,mem_append_right _ (mem_singleton.2 rfl),rfl⟩
    ·simp only[map_append,mem_append,map_cons,List.map_nil] at hi hid ⊢
     rcases hi with hi|hi|hi
     ·exact(hid i (.inl hi)).elim (λq=>.inl (.inl q)) .inr
     ·exact(hid i (.inr hi)).elim (λq=>.inl (.inl q)) .inr
     ·exact .inl (.inr hi)
    ·rw[X.mem _ h1 (h2 _) (h2 _) (h2 _) (h2 _),put_ne _ _ (h4 w wmem)]
     exact hmem j h1 h2 h3 h4
    ·rw[X.rest _ (hi 0 (by decide)) (hi 1 (by decide)) (hi 4 (by decide)) (hi 7 (by decide))]
     exact hrest i hi
   ·obtain⟨b36,ha36,k36⟩:=buf_at (O5.buf _ _ L.o3) (k:=D.length) (by rw[length_map];exact hD)
    dsimp only at ha36 k36
    rw[getElem?_map,gw] at k36
    refine⟨b36,0,ha36,⟨by omega,by omega⟩,w.nt,by rw[Int.toNat_natCast];exact k36,hS _ _ _ w.vs _ w2 (O5.buf _ _ w1).row (O5.keep.row w4) w5 (Nat.le_trans (Nat.le_add_right _ 150) (Nat.le_trans (Nat.le_mul_of_pos_right _ hby) w3)) (hRY _ _ _ Kg O5 hmem) ⟨true,rfl,λ_=>⟨pb,0,rfl,st1,O5'⟩,λq=>Bool.noConfusion q⟩⟩
 ·have hR:rm=[]:=List.eq_nil_of_length_eq_zero (by omega)
  subst hR
  rw[append_nil] at e
  subst e
  have O6:=(((O5.del (kO c 2)).del (kO c 3)).del (kO c 5)).del (kO c 6)
  have dk:∀ j,(∀ f,j≠kO c f)->((((m'.del (kO c 2)).del (kO c 3)).del (kO c 5)).del (kO c 6)) j=m' j:=λj hj=>by rw[del_ne _ (hj _),del_ne _ (hj _),del_ne _ (hj _),del_ne _ (hj _)]
  have nd:=L.nd
  simp only[List.map_nil,List.nil_append] at nd
  refine hQ h5 g' _ cs' kept fr outs' Kg O6 (by rw[dk _ (λf=>Ne.symm (kO_kB _ _))];exact L.hb) (by rw[dk _ (λf e=>by cases e)];exact L.kt) ?_ (L.E.cong (Keep.refl g') (λf=>dk _ (λ_=>Ne.symm (kO_kA _ _ _ _))) (λf _=>dk _ (λ_=>Ne.symm (kO_kL _ _ _ _))) (λ_ _=>rfl)) (λw hw=>(L.W w (by simpa using hw)).keep (Keep.refl g') (dk _ (λ_=>Ne.symm (kO_kL _ _ _ _)))) nd hid hkf hlo hio.1 hio.2 (λj h1 h2 h3 h4=>by rw[dk j h3];exact hmem j h1 h2 h3 h4) hrest
  exact⟨by rw[del_ne _ (kO_ne (by decide)),del_ne _ (kO_ne (by decide)),del_ne _ (kO_ne (by decide)),del_self],by rw[del_ne _ (kO_ne (by decide)),del_ne _ (kO_ne (by decide)),del_self],by rw[del_ne _ (kO_ne (by decide)),del_self],del_self _ _⟩
end
end Go.Eng
end
