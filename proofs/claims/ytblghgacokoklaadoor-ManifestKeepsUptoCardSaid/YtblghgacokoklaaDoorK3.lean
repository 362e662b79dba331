/-
  JOINED.
-/
import Derived.Test.YtblghgacokoklaaDoorK2
import Derived.Test.YtblghgacokoklaaDoorProg
set_option linter.unusedSimpArgs false
set_option linter.unusedVariables false
set_option maxRecDepth 100000
open Go.IntKind (wrap)
open List (length_append length_cons length_singleton length_take length_nil mem_cons append_nil)
section
open Go.Proofs
namespace Go.Eng.YtblghgacokoklaaDoor
def F62.T(n n1 n2:Int)(l l1 l2:Sl):PT:=λh Q=>
 ∃ (I:Int->Hp->Prop) (m:Int->Hp->Nat),I 0 h/\(∀ n3:Int,∀ h1:Hp,I n3 h1->par (n3<(l.n:Int)) (∃ b o,(l.a:Option Addr)=some ⟨b,o,none⟩/\((0:Int)<=n3/\n3<(l.n:Int))/\∃ n4:Int,h1.at b (o+n3.toNat*2)=some (.int .i64 n4)/\∃ n5:Int,h1.at b ((o+n3.toNat*2)+1)=some (.int .u64 n5)/\par (n4<0) (Q (.bool false) h1) (par ((5:Int)<=n4) (Q (.bool false) h1) (I (wrap .i64 (n3+1)) h1/\m (wrap .i64 (n3+1)) h1<m n3 h1))) (∃ (I1:Int->Hp->Prop) (m1:Int->Hp->Nat),I1 0 h1/\(∀ n6:Int,∀ h2:Hp,I1 n6 h2->par (n6<(l1.n:Int)) (∃ b1 o1,(l1.a:Option Addr)=some ⟨b1,o1,none⟩/\((0:Int)<=n6/\n6<(l1.n:Int))/\∃ n7:Int,h2.at b1 (o1+n6.toNat*7)=some (.int .i64 n7)/\∃ n8:Int,h2.at b1 ((o1+n6.toNat*7)+1)=some (.int .u64 n8)/\∃ n9:Int,h2.at b1 ((o1+n6.toNat*7)+2)=some (.int .i64 n9)/\∃ n10:Int,h2.at b1 ((o1+n6.toNat*7)+3)=some (.int .i64 n10)/\∃ n11:Int,h2.at b1 ((o1+n6.toNat*7)+4)=some (.int .i64 n11)/\∃ s:ByteArray,h2.at b1 ((o1+n6.toNat*7)+5)=some (.string s)/\∃ s1:ByteArray,h2.at b1 ((o1+n6.toNat*7)+6)=some (.string s1)/\par (n7<0) (Q (.bool false) h2) (par ((5:Int)<=n7) (Q (.bool false) h2) (par ((iMin (iMin n9 n10) n11)<0) (Q (.bool false) h2) (par ((64:Int)<(iMax (s.size:Int) (s1.size:Int))) (Q (.bool false) h2) (I1 (wrap .i64 (n6+1)) h2/\m1 (wrap .i64 (n6+1)) h2<m1 n6 h2))))) (∃ (I2:Int->Hp->Prop) (m2:Int->Hp->Nat),I2 0 h2/\(∀ n12:Int,∀ h3:Hp,I2 n12 h3->par (n12<(l2.n:Int)) (∃ b2 o2,(l2.a:Option Addr)=some ⟨b2,o2,none⟩/\((0:Int)<=n12/\n12<(l2.n:Int))/\∃ s2:ByteArray,h3.at b2 (o2+n12.toNat)=some (.string s2)/\par ((64:Int)<(s2.size:Int)) (Q (.bool false) h3) (I2 (wrap .i64 (n12+1)) h3/\m2 (wrap .i64 (n12+1)) h3<m2 n12 h3)) (par ((l2.n:Int)<=5) (Q (.bool true) h3) (Q (.bool false) h3)))))))
theorem F62.den(V n n1 n2 l l1 l2):denF Tryd.prog [1,4,6,7] [] V [(26,.loop [(13,.int .i64)] []),(58,.loop [(29,.int .i64)] []),(122,.loop [(67,.int .i64)] [])] Tryd.f62 [.v (.agg ⟨[.int .u64 n,.int .u64 n1,.int .u64 n2,.slice l.a l.n l.c,.slice l1.a l1.n l1.c,.slice l2.a l2.n l2.c]⟩)]=F62.T n n1 n2 l l1 l2:=by kernel_rfl
def F62.W(T62:Int->Int->Int->Sl->Sl->Sl->PT)(args:List Value):PT:=match args with
 |[.agg ⟨[.int .u64 n,.int .u64 n1,.int .u64 n2,.slice l_a l_n l_c,.slice l1_a l1_n l1_c,.slice l2_a l2_n l2_c]⟩]=>T62 n n1 n2 ⟨l_a,l_n,l_c⟩ ⟨l1_a,l1_n,l1_c⟩ ⟨l2_a,l2_n,l2_c⟩
 |_=>λ_ _=>False
def F62.V:List Value->PT:=F62.W F62.T
theorem F62.ok:FOk Tryd.prog 62 F62.V:=by
 refine⟨⟨_,Tryd.func62,rfl,rfl⟩,λ_=>?_⟩;unfold F62.V F62.W;split;exact denF_okE (GOk.nil) noV_ok Tryd.func62 (F62.den noV _ _ _ ⟨_,_,_⟩ ⟨_,_,_⟩ ⟨_,_,_⟩);exact λ_ _ h=>h.elim
def F88.T(l:Sl)(n:Int):PT:=λh Q=>
 ((0:Int)<=(l.n:Int)/\(l.n:Int)<=(wrap .i64 ((l.n:Int)+n))/\1*(wrap .i64 ((l.n:Int)+n))<=281474976710656)/\∀ b,h b=none->∃ vs,(h.new b (.cells (Builtin.zeroCells (List.toArray [.int .u8 0]) ((wrap .i64 ((l.n:Int)+n)):Int).toNat) 5 (0,0))).row l.a ((Nat.min l.n (((l.n:Int):Int).toNat))*1) vs/\(∀ v∈vs,Value.oneCell' v=true)/\(h.new b (.cells (Builtin.zeroCells (List.toArray [.int .u8 0]) ((wrap .i64 ((l.n:Int)+n)):Int).toNat) 5 (0,0))).canWA (some ⟨b,0,none⟩) vs.length/\Q (.slice (some ⟨b,0,none⟩) ((l.n:Int):Int).toNat ((wrap .i64 ((l.n:Int)+n)):Int).toNat) ((h.new b (.cells (Builtin.zeroCells (List.toArray [.int .u8 0]) ((wrap .i64 ((l.n:Int)+n)):Int).toNat) 5 (0,0))).wrA (some ⟨b,0,none⟩) vs)
theorem F88.den(V l n):denF Tryd.prog [] [] V [] Tryd.f88 [.v (.slice l.a l.n l.c),.v (.int .i64 n)]=F88.T l n:=by kernel_rfl
def F88.W(T88:Sl->Int->PT)(args:List Value):PT:=match args with
 |[.slice l_a l_n l_c,.int .i64 n]=>T88 ⟨l_a,l_n,l_c⟩ n
 |_=>λ_ _=>False
def F88.V:List Value->PT:=F88.W F88.T
theorem F88.ok:FOk Tryd.prog 88 F88.V:=by
 refine⟨⟨_,Tryd.func88,rfl,rfl⟩,λ_=>?_⟩;unfold F88.V F88.W;split;exact denF_okE (GOk.nil) noV_ok Tryd.func88 (F88.den noV ⟨_,_,_⟩ _);exact λ_ _ h=>h.elim
def F81.T(l:Sl)(n:Int):PT:=λh Q=>
 ∃ (I:Sl->Int->Hp->Prop) (m:Sl->Int->Hp->Nat),I l n h/\(∀ l1:Sl,∀ n1:Int,∀ h1:Hp,I l1 n1 h1->par ((128:Int)<=n1) (appendD l1 5 1 1 [.int .u8 0] 1 [.int .u8 (bitsI .or .u8 (wrap .u8 n1) 128)] h1 λl2 h2=>(0:Int)<=7/\I l2 (shrI .u64 n1 7) h2/\m l2 (shrI .u64 n1 7) h2<m l1 n1 h1) (appendD l1 5 1 1 [.int .u8 0] 1 [.int .u8 (wrap .u8 n1)] h1 λl3 h3=>Q (.slice l3.a l3.n l3.c) h3))
theorem F81.den(V l n):denF Tryd.prog [11,18] [] V [(12,.loop [(0,.sl),(1,.int .u64)] [])] Tryd.f81 [.v (.slice l.a l.n l.c),.v (.int .u64 n)]=F81.T l n:=by kernel_rfl
def F81.W(T81:Sl->Int->PT)(args:List Value):PT:=match args with
 |[.slice l_a l_n l_c,.int .u64 n]=>T81 ⟨l_a,l_n,l_c⟩ n
 |_=>λ_ _=>False
def F81.V:List Value->PT:=F81.W F81.T
theorem F81.ok:FOk Tryd.prog 81 F81.V:=by
 refine⟨⟨_,Tryd.func81,rfl,rfl⟩,λ_=>?_⟩;unfold F81.V F81.W;split;exact denF_okE (GOk.nil) noV_ok Tryd.func81 (F81.den noV ⟨_,_,_⟩ _);exact λ_ _ h=>h.elim
@[reducible] def F120.G(T81 T88:Sl->Int->PT)(l:Sl)(n:Int):PT:=λh Q=>
 T88 l 10 h λr h1=>∃ l1:Sl,r=.slice l1.a l1.n l1.c/\T81 l1 n h1 λr1 h2=>∃ l2:Sl,r1=.slice l2.a l2.n l2.c/\Q (.slice l2.a l2.n l2.c) h2
def F120.T:=F120.G F81.T F88.T
theorem F120.gen(V T81 T88 l n):denF Tryd.prog [] [(81,F81.W T81),(88,F88.W T88)] V [] Tryd.f120 [.v (.slice l.a l.n l.c),.v (.int .u64 n)]=F120.G T81 T88 l n:=by kernel_rfl
def F120.W(T120:Sl->Int->PT)(args:List Value):PT:=match args with
 |[.slice l_a l_n l_c,.int .u64 n]=>T120 ⟨l_a,l_n,l_c⟩ n
 |_=>λ_ _=>False
def F120.V:List Value->PT:=F120.W F120.T
theorem F120.ok:FOk Tryd.prog 120 F120.V:=by
 refine⟨⟨_,Tryd.func120,rfl,rfl⟩,λ_=>?_⟩;unfold F120.V F120.W;split;exact denF_okE (GOk.cons F81.ok (GOk.cons F88.ok (GOk.nil))) noV_ok Tryd.func120 (F120.gen noV F81.T F88.T ⟨_,_,_⟩ _);exact λ_ _ h=>h.elim
@[reducible] def F95.G(T120:Sl->Int->PT)(l l1:Sl):PT:=λh Q=>
 ∃ (I:Sl->Int->Hp->Prop) (m:Sl->Int->Hp->Nat),I l 0 h/\(∀ l2:Sl,∀ n:Int,∀ h1:Hp,I l2 n h1->par (n<(l1.n:Int)) (∃ b o,(l1.a:Option Addr)=some ⟨b,o,none⟩/\((0:Int)<=n/\n<(l1.n:Int))/\∃ n1:Int,h1.at b (o+n.toNat)=some (.int .u64 n1)/\T120 ⟨none,0,0⟩ n1 h1 λr h2=>∃ l3:Sl,r=.slice l3.a l3.n l3.c/\∃ vs,h2.row l3.a (l3.n*1) vs/\(∀ v∈vs,Value.oneCell' v=true)/\appendD l2 5 1 1 [.int .u8 0] l3.n vs h2 λl4 h3=>I l4 (wrap .i64 (n+1)) h3/\m l4 (wrap .i64 (n+1)) h3<m l2 n h1) (Q (.slice l2.a l2.n l2.c) h1))
def F95.T:=F95.G F120.T
theorem F95.gen(V T120 l l1):denF Tryd.prog [] [(120,F120.W T120)] V [(26,.loop [(0,.sl),(9,.int .i64)] [])] Tryd.f95 [.v (.slice l.a l.n l.c),.v (.slice l1.a l1.n l1.c)]=F95.G T120 l l1:=by kernel_rfl
def F95.W(T95:Sl->Sl->PT)(args:List Value):PT:=match args with
 |[.slice l_a l_n l_c,.slice l1_a l1_n l1_c]=>T95 ⟨l_a,l_n,l_c⟩ ⟨l1_a,l1_n,l1_c⟩
 |_=>λ_ _=>False
def F95.V:List Value->PT:=F95.W F95.T
theorem F95.ok:FOk Tryd.prog 95 F95.V:=by
 refine⟨⟨_,Tryd.func95,rfl,rfl⟩,λ_=>?_⟩;unfold F95.V F95.W;split;exact denF_okE (GOk.cons F120.ok (GOk.nil)) noV_ok Tryd.func95 (F95.gen noV F120.T ⟨_,_,_⟩ ⟨_,_,_⟩);exact λ_ _ h=>h.elim
@[reducible] def F121.G(T81 T88:Sl->Int->PT)(l:Sl)(s:ByteArray):PT:=λh Q=>
 T88 l (wrap .i64 (10+(s.size:Int))) h λr h1=>∃ l1:Sl,r=.slice l1.a l1.n l1.c/\T81 l1 (wrap .u64 (s.size:Int)) h1 λr1 h2=>∃ l2:Sl,r1=.slice l2.a l2.n l2.c/\appendD l2 5 1 1 [.int .u8 0] s.size (bytesV s) h2 λl3 h3=>Q (.slice l3.a l3.n l3.c) h3
def F121.T:=F121.G F81.T F88.T
theorem F121.gen(V T81 T88 l s):denF Tryd.prog [] [(81,F81.W T81),(88,F88.W T88)] V [] Tryd.f121 [.v (.slice l.a l.n l.c),.v (.string s)]=F121.G T81 T88 l s:=by kernel_rfl
def F121.W(T121:Sl->ByteArray->PT)(args:List Value):PT:=match args with
 |[.slice l_a l_n l_c,.string s]=>T121 ⟨l_a,l_n,l_c⟩ s
 |_=>λ_ _=>False
def F121.V:List Value->PT:=F121.W F121.T
theorem F121.ok:FOk Tryd.prog 121 F121.V:=by
 refine⟨⟨_,Tryd.func121,rfl,rfl⟩,λ_=>?_⟩;unfold F121.V F121.W;split;exact denF_okE (GOk.cons F81.ok (GOk.cons F88.ok (GOk.nil))) noV_ok Tryd.func121 (F121.gen noV F81.T F88.T ⟨_,_,_⟩ _);exact λ_ _ h=>h.elim
@[reducible] def F96.G(T121:Sl->ByteArray->PT)(l:Sl)(s:ByteArray):PT:=λh Q=>
 T121 ⟨none,0,0⟩ s h λr h1=>∃ l1:Sl,r=.slice l1.a l1.n l1.c/\∃ vs,h1.row l1.a (l1.n*1) vs/\(∀ v∈vs,Value.oneCell' v=true)/\appendD l 5 1 1 [.int .u8 0] l1.n vs h1 λl2 h2=>Q (.slice l2.a l2.n l2.c) h2
def F96.T:=F96.G F121.T
theorem F96.gen(V T121 l s):denF Tryd.prog [] [(121,F121.W T121)] V [] Tryd.f96 [.v (.slice l.a l.n l.c),.v (.string s)]=F96.G T121 l s:=by kernel_rfl
def F96.W(T96:Sl->ByteArray->PT)(args:List Value):PT:=match args with
 |[.slice l_a l_n l_c,.string s]=>T96 ⟨l_a,l_n,l_c⟩ s
 |_=>λ_ _=>False
def F96.V:List Value->PT:=F96.W F96.T
theorem F96.ok:FOk Tryd.prog 96 F96.V:=by
 refine⟨⟨_,Tryd.func96,rfl,rfl⟩,λ_=>?_⟩;unfold F96.V F96.W;split;exact denF_okE (GOk.cons F121.ok (GOk.nil)) noV_ok Tryd.func96 (F96.gen noV F121.T ⟨_,_,_⟩ _);exact λ_ _ h=>h.elim
def F63.Tt(n n1 n2:Int)(l l1 l2:Sl):PT:=λh Q=>
 ∀ b,h b=none->∃ b1 o,((some ⟨b,0,none⟩):Option Addr)=some ⟨b1,o,none⟩/\((0:Int)<=0/\0<(1:Int))/\(h.new b (.cells ⟨[.int .u8 0]⟩ 5 (0,0))).canW b1 (o+(0:Int).toNat) 1/\∀ b2,((h.new b (.cells ⟨[.int .u8 0]⟩ 5 (0,0))).wr b1 (o+(0:Int).toNat) [.int .u8 1]) b2=none->F95.T ⟨(some ⟨b,0,none⟩),1,1⟩ ⟨(some ⟨b2,0,none⟩),4,4⟩ (((h.new b (.cells ⟨[.int .u8 0]⟩ 5 (0,0))).wr b1 (o+(0:Int).toNat) [.int .u8 1]).new b2 (.cells ⟨[.int .u64 n,.int .u64 n1,.int .u64 n2,.int .u64 (wrap .u64 (l.n:Int))]⟩ 22 (0,0))) λr h1=>∃ l3:Sl,r=.slice l3.a l3.n l3.c/\∃ (I:Sl->Int->Hp->Prop) (m:Sl->Int->Hp->Nat),I l3 0 h1/\(∀ l4:Sl,∀ n3:Int,∀ h2:Hp,I l4 n3 h2->par (n3<(l.n:Int)) (∃ b3 o1,(l.a:Option Addr)=some ⟨b3,o1,none⟩/\((0:Int)<=n3/\n3<(l.n:Int))/\∃ n4:Int,h2.at b3 (o1+n3.toNat*2)=some (.int .i64 n4)/\∃ n5:Int,h2.at b3 ((o1+n3.toNat*2)+1)=some (.int .u64 n5)/\∀ b4,h2 b4=none->F95.T l4 ⟨(some ⟨b4,0,none⟩),2,2⟩ (h2.new b4 (.cells ⟨[.int .u64 (wrap .u64 n4),.int .u64 n5]⟩ 22 (0,0))) λr1 h3=>∃ l5:Sl,r1=.slice l5.a l5.n l5.c/\I l5 (wrap .i64 (n3+1)) h3/\m l5 (wrap .i64 (n3+1)) h3<m l4 n3 h2) (∀ b5,h2 b5=none->F95.T l4 ⟨(some ⟨b5,0,none⟩),1,1⟩ (h2.new b5 (.cells ⟨[.int .u64 (wrap .u64 (l1.n:Int))]⟩ 22 (0,0))) λr2 h4=>∃ l6:Sl,r2=.slice l6.a l6.n l6.c/\∃ (I1:Sl->Int->Hp->Prop) (m1:Sl->Int->Hp->Nat),I1 l6 0 h4/\(∀ l7:Sl,∀ n6:Int,∀ h5:Hp,I1 l7 n6 h5->par (n6<(l1.n:Int)) (∃ b6 o2,(l1.a:Option Addr)=some ⟨b6,o2,none⟩/\((0:Int)<=n6/\n6<(l1.n:Int))/\∃ n7:Int,h5.at b6 (o2+n6.toNat*7)=some (.int .i64 n7)/\∃ n8:Int,h5.at b6 ((o2+n6.toNat*7)+1)=some (.int .u64 n8)/\∃ n9:Int,h5.at b6 ((o2+n6.toNat*7)+2)=some (.int .i64 n9)/\∃ n10:Int,h5.at b6 ((o2+n6.toNat*7)+3)=some (.int .i64 n10)/\∃ n11:Int,h5.at b6 ((o2+n6.toNat*7)+4)=some (.int .i64 n11)/\∃ s:ByteArray,h5.at b6 ((o2+n6.toNat*7)+5)=some (.string s)/\∃ s1:ByteArray,h5.at b6 ((o2+n6.toNat*7)+6)=some (.string s1)/\∀ b7,h5 b7=none->F95.T l7 ⟨(some ⟨b7,0,none⟩),5,5⟩ (h5.new b7 (.cells ⟨[.int .u64 (wrap .u64 n7),.int .u64 n8,.int .u64 (wrap .u64 n9),.int .u64 (wrap .u64 n10),.int .u64 (wrap .u64 n11)]⟩ 22 (0,0))) λr3 h6=>∃ l8:Sl,r3=.slice l8.a l8.n l8.c/\F96.T l8 s h6 λr4 h7=>∃ l9:Sl,r4=.slice l9.a l9.n l9.c/\F96.T l9 s1 h7 λr5 h8=>∃ l10:Sl,r5=.slice l10.a l10.n l10.c/\I1 l10 (wrap .i64 (n6+1)) h8/\m1 l10 (wrap .i64 (n6+1)) h8<m1 l7 n6 h5) (∀ b8,h5 b8=none->F95.T l7 ⟨(some ⟨b8,0,none⟩),1,1⟩ (h5.new b8 (.cells ⟨[.int .u64 (wrap .u64 (l2.n:Int))]⟩ 22 (0,0))) λr6 h9=>∃ l11:Sl,r6=.slice l11.a l11.n l11.c/\∃ (I2:Sl->Int->Hp->Prop) (m2:Sl->Int->Hp->Nat),I2 l11 0 h9/\(∀ l12:Sl,∀ n12:Int,∀ h10:Hp,I2 l12 n12 h10->par (n12<(l2.n:Int)) (∃ b9 o3,(l2.a:Option Addr)=some ⟨b9,o3,none⟩/\((0:Int)<=n12/\n12<(l2.n:Int))/\∃ s2:ByteArray,h10.at b9 (o3+n12.toNat)=some (.string s2)/\F96.T l12 s2 h10 λr7 h11=>∃ l13:Sl,r7=.slice l13.a l13.n l13.c/\I2 l13 (wrap .i64 (n12+1)) h11/\m2 l13 (wrap .i64 (n12+1)) h11<m2 l12 n12 h10) (Q (.slice l12.a l12.n l12.c) h10))))))
theorem F63.gent(V:Value->List Value->PT)(T95:Sl->Sl->PT)(T96:Sl->ByteArray->PT)(n:Int)(n1:Int)(n2:Int)(l:Sl)(l1:Sl)(l2:Sl):denF Tryd.prog [2,7,9,10] [(95,F95.W T95),(96,F96.W T96)] V [(250,.loop [(5,.sl),(33,.int .i64)] []),(1018,.loop [(5,.sl),(56,.int .i64)] []),(4090,.loop [(5,.sl),(97,.int .i64)] []),(260711,.order [0,1,2,4,5,3,6,7])] Tryd.f63 [.v (.agg ⟨[.int .u64 n,.int .u64 n1,.int .u64 n2,.slice l.a l.n l.c,.slice l1.a l1.n l1.c,.slice l2.a l2.n l2.c]⟩),.v (.bool true)]=λh Q=>
 ∀ b,h b=none->∃ b1 o,((some ⟨b,0,none⟩):Option Addr)=some ⟨b1,o,none⟩/\((0:Int)<=0/\0<(1:Int))/\(h.new b (.cells ⟨[.int .u8 0]⟩ 5 (0,0))).canW b1 (o+(0:Int).toNat) 1/\∀ b2,((h.new b (.cells ⟨[.int .u8 0]⟩ 5 (0,0))).wr b1 (o+(0:Int).toNat) [.int .u8 1]) b2=none->T95 ⟨(some ⟨b,0,none⟩),1,1⟩ ⟨(some ⟨b2,0,none⟩),4,4⟩ (((h.new b (.cells ⟨[.int .u8 0]⟩ 5 (0,0))).wr b1 (o+(0:Int).toNat) [.int .u8 1]).new b2 (.cells ⟨[.int .u64 n,.int .u64 n1,.int .u64 n2,.int .u64 (wrap .u64 (l.n:Int))]⟩ 22 (0,0))) λr h1=>∃ l3:Sl,r=.slice l3.a l3.n l3.c/\∃ (I:Sl->Int->Hp->Prop) (m:Sl->Int->Hp->Nat),I l3 0 h1/\(∀ l4:Sl,∀ n3:Int,∀ h2:Hp,I l4 n3 h2->par (n3<(l.n:Int)) (∃ b3 o1,(l.a:Option Addr)=some ⟨b3,o1,none⟩/\((0:Int)<=n3/\n3<(l.n:Int))/\∃ n4:Int,h2.at b3 (o1+n3.toNat*2)=some (.int .i64 n4)/\∃ n5:Int,h2.at b3 ((o1+n3.toNat*2)+1)=some (.int .u64 n5)/\∀ b4,h2 b4=none->T95 l4 ⟨(some ⟨b4,0,none⟩),2,2⟩ (h2.new b4 (.cells ⟨[.int .u64 (wrap .u64 n4),.int .u64 n5]⟩ 22 (0,0))) λr1 h3=>∃ l5:Sl,r1=.slice l5.a l5.n l5.c/\I l5 (wrap .i64 (n3+1)) h3/\m l5 (wrap .i64 (n3+1)) h3<m l4 n3 h2) (∀ b5,h2 b5=none->T95 l4 ⟨(some ⟨b5,0,none⟩),1,1⟩ (h2.new b5 (.cells ⟨[.int .u64 (wrap .u64 (l1.n:Int))]⟩ 22 (0,0))) λr2 h4=>∃ l6:Sl,r2=.slice l6.a l6.n l6.c/\∃ (I1:Sl->Int->Hp->Prop) (m1:Sl->Int->Hp->Nat),I1 l6 0 h4/\(∀ l7:Sl,∀ n6:Int,∀ h5:Hp,I1 l7 n6 h5->par (n6<(l1.n:Int)) (∃ b6 o2,(l1.a:Option Addr)=some ⟨b6,o2,none⟩/\((0:Int)<=n6/\n6<(l1.n:Int))/\∃ n7:Int,h5.at b6 (o2+n6.toNat*7)=some (.int .i64 n7)/\∃ n8:Int,h5.at b6 ((o2+n6.toNat*7)+1)=some (.int .u64 n8)/\∃ n9:Int,h5.at b6 ((o2+n6.toNat*7)+2)=some (.int .i64 n9)/\∃ n10:Int,h5.at b6 ((o2+n6.toNat*7)+3)=some (.int .i64 n10)/\∃ n11:Int,h5.at b6 ((o2+n6.toNat*7)+4)=some (.int .i64 n11)/\∃ s:ByteArray,h5.at b6 ((o2+n6.toNat*7)+5)=some (.string s)/\∃ s1:ByteArray,h5.at b6 ((o2+n6.toNat*7)+6)=some (.string s1)/\∀ b7,h5 b7=none->T95 l7 ⟨(some ⟨b7,0,none⟩),5,5⟩ (h5.new b7 (.cells ⟨[.int .u64 (wrap .u64 n7),.int .u64 n8,.int .u64 (wrap .u64 n9),.int .u64 (wrap .u64 n10),.int .u64 (wrap .u64 n11)]⟩ 22 (0,0))) λr3 h6=>∃ l8:Sl,r3=.slice l8.a l8.n l8.c/\T96 l8 s h6 λr4 h7=>∃ l9:Sl,r4=.slice l9.a l9.n l9.c/\T96 l9 s1 h7 λr5 h8=>∃ l10:Sl,r5=.slice l10.a l10.n l10.c/\I1 l10 (wrap .i64 (n6+1)) h8/\m1 l10 (wrap .i64 (n6+1)) h8<m1 l7 n6 h5) (∀ b8,h5 b8=none->T95 l7 ⟨(some ⟨b8,0,none⟩),1,1⟩ (h5.new b8 (.cells ⟨[.int .u64 (wrap .u64 (l2.n:Int))]⟩ 22 (0,0))) λr6 h9=>∃ l11:Sl,r6=.slice l11.a l11.n l11.c/\∃ (I2:Sl->Int->Hp->Prop) (m2:Sl->Int->Hp->Nat),I2 l11 0 h9/\(∀ l12:Sl,∀ n12:Int,∀ h10:Hp,I2 l12 n12 h10->par (n12<(l2.n:Int)) (∃ b9 o3,(l2.a:Option Addr)=some ⟨b9,o3,none⟩/\((0:Int)<=n12/\n12<(l2.n:Int))/\∃ s2:ByteArray,h10.at b9 (o3+n12.toNat)=some (.string s2)/\T96 l12 s2 h10 λr7 h11=>∃ l13:Sl,r7=.slice l13.a l13.n l13.c/\I2 l13 (wrap .i64 (n12+1)) h11/\m2 l13 (wrap .i64 (n12+1)) h11<m2 l12 n12 h10) (Q (.slice l12.a l12.n l12.c) h10)))))):=by kernel_rfl
def F63.Tf(n n1 n2:Int)(l l1 l2:Sl):PT:=λh Q=>
 ∀ b,h b=none->∀ b1,(h.new b (.cells ⟨[.int .u8 0]⟩ 5 (0,0))) b1=none->F95.T ⟨(some ⟨b,0,none⟩),1,1⟩ ⟨(some ⟨b1,0,none⟩),4,4⟩ ((h.new b (.cells ⟨[.int .u8 0]⟩ 5 (0,0))).new b1 (.cells ⟨[.int .u64 n,.int .u64 n1,.int .u64 n2,.int .u64 (wrap .u64 (l.n:Int))]⟩ 22 (0,0))) λr h1=>∃ l3:Sl,r=.slice l3.a l3.n l3.c/\∃ (I:Sl->Int->Hp->Prop) (m:Sl->Int->Hp->Nat),I l3 0 h1/\(∀ l4:Sl,∀ n3:Int,∀ h2:Hp,I l4 n3 h2->par (n3<(l.n:Int)) (∃ b2 o,(l.a:Option Addr)=some ⟨b2,o,none⟩/\((0:Int)<=n3/\n3<(l.n:Int))/\∃ n4:Int,h2.at b2 (o+n3.toNat*2)=some (.int .i64 n4)/\∃ n5:Int,h2.at b2 ((o+n3.toNat*2)+1)=some (.int .u64 n5)/\∀ b3,h2 b3=none->F95.T l4 ⟨(some ⟨b3,0,none⟩),2,2⟩ (h2.new b3 (.cells ⟨[.int .u64 (wrap .u64 n4),.int .u64 n5]⟩ 22 (0,0))) λr1 h3=>∃ l5:Sl,r1=.slice l5.a l5.n l5.c/\I l5 (wrap .i64 (n3+1)) h3/\m l5 (wrap .i64 (n3+1)) h3<m l4 n3 h2) (∀ b4,h2 b4=none->F95.T l4 ⟨(some ⟨b4,0,none⟩),1,1⟩ (h2.new b4 (.cells ⟨[.int .u64 (wrap .u64 (l1.n:Int))]⟩ 22 (0,0))) λr2 h4=>∃ l6:Sl,r2=.slice l6.a l6.n l6.c/\∃ (I1:Sl->Int->Hp->Prop) (m1:Sl->Int->Hp->Nat),I1 l6 0 h4/\(∀ l7:Sl,∀ n6:Int,∀ h5:Hp,I1 l7 n6 h5->par (n6<(l1.n:Int)) (∃ b5 o1,(l1.a:Option Addr)=some ⟨b5,o1,none⟩/\((0:Int)<=n6/\n6<(l1.n:Int))/\∃ n7:Int,h5.at b5 (o1+n6.toNat*7)=some (.int .i64 n7)/\∃ n8:Int,h5.at b5 ((o1+n6.toNat*7)+1)=some (.int .u64 n8)/\∃ n9:Int,h5.at b5 ((o1+n6.toNat*7)+2)=some (.int .i64 n9)/\∃ n10:Int,h5.at b5 ((o1+n6.toNat*7)+3)=some (.int .i64 n10)/\∃ n11:Int,h5.at b5 ((o1+n6.toNat*7)+4)=some (.int .i64 n11)/\∃ s:ByteArray,h5.at b5 ((o1+n6.toNat*7)+5)=some (.string s)/\∃ s1:ByteArray,h5.at b5 ((o1+n6.toNat*7)+6)=some (.string s1)/\∀ b6,h5 b6=none->F95.T l7 ⟨(some ⟨b6,0,none⟩),5,5⟩ (h5.new b6 (.cells ⟨[.int .u64 (wrap .u64 n7),.int .u64 n8,.int .u64 (wrap .u64 n9),.int .u64 (wrap .u64 n10),.int .u64 (wrap .u64 n11)]⟩ 22 (0,0))) λr3 h6=>∃ l8:Sl,r3=.slice l8.a l8.n l8.c/\F96.T l8 s h6 λr4 h7=>∃ l9:Sl,r4=.slice l9.a l9.n l9.c/\F96.T l9 s1 h7 λr5 h8=>∃ l10:Sl,r5=.slice l10.a l10.n l10.c/\I1 l10 (wrap .i64 (n6+1)) h8/\m1 l10 (wrap .i64 (n6+1)) h8<m1 l7 n6 h5) (∀ b7,h5 b7=none->F95.T l7 ⟨(some ⟨b7,0,none⟩),1,1⟩ (h5.new b7 (.cells ⟨[.int .u64 (wrap .u64 (l2.n:Int))]⟩ 22 (0,0))) λr6 h9=>∃ l11:Sl,r6=.slice l11.a l11.n l11.c/\∃ (I2:Sl->Int->Hp->Prop) (m2:Sl->Int->Hp->Nat),I2 l11 0 h9/\(∀ l12:Sl,∀ n12:Int,∀ h10:Hp,I2 l12 n12 h10->par (n12<(l2.n:Int)) (∃ b8 o2,(l2.a:Option Addr)=some ⟨b8,o2,none⟩/\((0:Int)<=n12/\n12<(l2.n:Int))/\∃ s2:ByteArray,h10.at b8 (o2+n12.toNat)=some (.string s2)/\F96.T l12 s2 h10 λr7 h11=>∃ l13:Sl,r7=.slice l13.a l13.n l13.c/\I2 l13 (wrap .i64 (n12+1)) h11/\m2 l13 (wrap .i64 (n12+1)) h11<m2 l12 n12 h10) (Q (.slice l12.a l12.n l12.c) h10))))))
theorem F63.genf(V:Value->List Value->PT)(T95:Sl->Sl->PT)(T96:Sl->ByteArray->PT)(n:Int)(n1:Int)(n2:Int)(l:Sl)(l1:Sl)(l2:Sl):denF Tryd.prog [2,7,9,10] [(95,F95.W T95),(96,F96.W T96)] V [(250,.loop [(5,.sl),(33,.int .i64)] []),(1018,.loop [(5,.sl),(56,.int .i64)] []),(4090,.loop [(5,.sl),(97,.int .i64)] []),(260711,.order [0,1,2,4,5,3,6,7])] Tryd.f63 [.v (.agg ⟨[.int .u64 n,.int .u64 n1,.int .u64 n2,.slice l.a l.n l.c,.slice l1.a l1.n l1.c,.slice l2.a l2.n l2.c]⟩),.v (.bool false)]=λh Q=>
 ∀ b,h b=none->∀ b1,(h.new b (.cells ⟨[.int .u8 0]⟩ 5 (0,0))) b1=none->T95 ⟨(some ⟨b,0,none⟩),1,1⟩ ⟨(some ⟨b1,0,none⟩),4,4⟩ ((h.new b (.cells ⟨[.int .u8 0]⟩ 5 (0,0))).new b1 (.cells ⟨[.int .u64 n,.int .u64 n1,.int .u64 n2,.int .u64 (wrap .u64 (l.n:Int))]⟩ 22 (0,0))) λr h1=>∃ l3:Sl,r=.slice l3.a l3.n l3.c/\∃ (I:Sl->Int->Hp->Prop) (m:Sl->Int->Hp->Nat),I l3 0 h1/\(∀ l4:Sl,∀ n3:Int,∀ h2:Hp,I l4 n3 h2->par (n3<(l.n:Int)) (∃ b2 o,(l.a:Option Addr)=some ⟨b2,o,none⟩/\((0:Int)<=n3/\n3<(l.n:Int))/\∃ n4:Int,h2.at b2 (o+n3.toNat*2)=some (.int .i64 n4)/\∃ n5:Int,h2.at b2 ((o+n3.toNat*2)+1)=some (.int .u64 n5)/\∀ b3,h2 b3=none->T95 l4 ⟨(some ⟨b3,0,none⟩),2,2⟩ (h2.new b3 (.cells ⟨[.int .u64 (wrap .u64 n4),.int .u64 n5]⟩ 22 (0,0))) λr1 h3=>∃ l5:Sl,r1=.slice l5.a l5.n l5.c/\I l5 (wrap .i64 (n3+1)) h3/\m l5 (wrap .i64 (n3+1)) h3<m l4 n3 h2) (∀ b4,h2 b4=none->T95 l4 ⟨(some ⟨b4,0,none⟩),1,1⟩ (h2.new b4 (.cells ⟨[.int .u64 (wrap .u64 (l1.n:Int))]⟩ 22 (0,0))) λr2 h4=>∃ l6:Sl,r2=.slice l6.a l6.n l6.c/\∃ (I1:Sl->Int->Hp->Prop) (m1:Sl->Int->Hp->Nat),I1 l6 0 h4/\(∀ l7:Sl,∀ n6:Int,∀ h5:Hp,I1 l7 n6 h5->par (n6<(l1.n:Int)) (∃ b5 o1,(l1.a:Option Addr)=some ⟨b5,o1,none⟩/\((0:Int)<=n6/\n6<(l1.n:Int))/\∃ n7:Int,h5.at b5 (o1+n6.toNat*7)=some (.int .i64 n7)/\∃ n8:Int,h5.at b5 ((o1+n6.toNat*7)+1)=some (.int .u64 n8)/\∃ n9:Int,h5.at b5 ((o1+n6.toNat*7)+2)=some (.int .i64 n9)/\∃ n10:Int,h5.at b5 ((o1+n6.toNat*7)+3)=some (.int .i64 n10)/\∃ n11:Int,h5.at b5 ((o1+n6.toNat*7)+4)=some (.int .i64 n11)/\∃ s:ByteArray,h5.at b5 ((o1+n6.toNat*7)+5)=some (.string s)/\∃ s1:ByteArray,h5.at b5 ((o1+n6.toNat*7)+6)=some (.string s1)/\∀ b6,h5 b6=none->T95 l7 ⟨(some ⟨b6,0,none⟩),5,5⟩ (h5.new b6 (.cells ⟨[.int .u64 (wrap .u64 n7),.int .u64 n8,.int .u64 (wrap .u64 n9),.int .u64 (wrap .u64 n10),.int .u64 (wrap .u64 n11)]⟩ 22 (0,0))) λr3 h6=>∃ l8:Sl,r3=.slice l8.a l8.n l8.c/\T96 l8 s h6 λr4 h7=>∃ l9:Sl,r4=.slice l9.a l9.n l9.c/\T96 l9 s1 h7 λr5 h8=>∃ l10:Sl,r5=.slice l10.a l10.n l10.c/\I1 l10 (wrap .i64 (n6+1)) h8/\m1 l10 (wrap .i64 (n6+1)) h8<m1 l7 n6 h5) (∀ b7,h5 b7=none->T95 l7 ⟨(some ⟨b7,0,none⟩),1,1⟩ (h5.new b7 (.cells ⟨[.int .u64 (wrap .u64 (l2.n:Int))]⟩ 22 (0,0))) λr6 h9=>∃ l11:Sl,r6=.slice l11.a l11.n l11.c/\∃ (I2:Sl->Int->Hp->Prop) (m2:Sl->Int->Hp->Nat),I2 l11 0 h9/\(∀ l12:Sl,∀ n12:Int,∀ h10:Hp,I2 l12 n12 h10->par (n12<(l2.n:Int)) (∃ b8 o2,(l2.a:Option Addr)=some ⟨b8,o2,none⟩/\((0:Int)<=n12/\n12<(l2.n:Int))/\∃ s2:ByteArray,h10.at b8 (o2+n12.toNat)=some (.string s2)/\T96 l12 s2 h10 λr7 h11=>∃ l13:Sl,r7=.slice l13.a l13.n l13.c/\I2 l13 (wrap .i64 (n12+1)) h11/\m2 l13 (wrap .i64 (n12+1)) h11<m2 l12 n12 h10) (Q (.slice l12.a l12.n l12.c) h10)))))):=by kernel_rfl
def F63.W(T63t T63f:Int->Int->Int->Sl->Sl->Sl->PT)(args:List Value):PT:=match args with
 |[.agg ⟨[.int .u64 n,.int .u64 n1,.int .u64 n2,.slice l_a l_n l_c,.slice l1_a l1_n l1_c,.slice l2_a l2_n l2_c]⟩,.bool true]=>T63t n n1 n2 ⟨l_a,l_n,l_c⟩ ⟨l1_a,l1_n,l1_c⟩ ⟨l2_a,l2_n,l2_c⟩
 |[.agg ⟨[.int .u64 n,.int .u64 n1,.int .u64 n2,.slice l_a l_n l_c,.slice l1_a l1_n l1_c,.slice l2_a l2_n l2_c]⟩,.bool false]=>T63f n n1 n2 ⟨l_a,l_n,l_c⟩ ⟨l1_a,l1_n,l1_c⟩ ⟨l2_a,l2_n,l2_c⟩
 |_=>λ_ _=>False
def F63.V:List Value->PT:=F63.W F63.Tt F63.Tf
theorem F63.ok:FOk Tryd.prog 63 F63.V:=by
 refine⟨⟨_,Tryd.func63,rfl,rfl⟩,λargs=>?_⟩
 have hG:GOk Tryd.prog [(95,F95.V),(96,F96.V)]:=GOk.cons F95.ok (GOk.cons F96.ok (GOk.nil))
 unfold F63.V F63.W
 split
 ·exact denF_okE hG noV_ok Tryd.func63 (F63.gent noV F95.T F96.T _ _ _ ⟨_,_,_⟩ ⟨_,_,_⟩ ⟨_,_,_⟩)
 ·exact denF_okE hG noV_ok Tryd.func63 (F63.genf noV F95.T F96.T _ _ _ ⟨_,_,_⟩ ⟨_,_,_⟩ ⟨_,_,_⟩)
 ·exact λ_ _ h=>h.elim
def F21.T(n n1 n2:Int)(l l1 l2:Sl):PT:=λh Q=>
 F62.T n n1 n2 l l1 l2 h λr h1=>∃ b:Bool,r=.bool b/\parB b (∃ (I:Sl->Int->Int->Int->Sl->Sl->Sl->Hp->Prop) (m:Sl->Int->Int->Int->Sl->Sl->Sl->Hp->Nat),I ⟨none,0,0⟩ n n1 n2 l l1 l2 h1/\(∀ l3:Sl,∀ n3 n4 n5:Int,∀ l4 l5 l6:Sl,∀ h2:Hp,I l3 n3 n4 n5 l4 l5 l6 h2->Sl.okCut l4 0 (iMin (l4.n:Int) 256) (iMin (l4.n:Int) 256)/\Sl.okCut l5 0 (iMin (l5.n:Int) (wrap .i64 (256-(iMin (l4.n:Int) 256)))) (iMin (l5.n:Int) (wrap .i64 (256-(iMin (l4.n:Int) 256))))/\Sl.okCut l4 (iMin (l4.n:Int) 256) (l4.n:Int) (l4.c:Int)/\Sl.okCut l5 (iMin (l5.n:Int) (wrap .i64 (256-(iMin (l4.n:Int) 256)))) (l5.n:Int) (l5.c:Int)/\par ((wrap .i64 (((Sl.cut l4 2 (iMin (l4.n:Int) 256) (l4.n:Int) (l4.c:Int)).n:Int)+((Sl.cut l5 7 (iMin (l5.n:Int) (wrap .i64 (256-(iMin (l4.n:Int) 256)))) (l5.n:Int) (l5.c:Int)).n:Int)))=0) (F63.Tt n3 n4 n5 (Sl.cut l4 2 0 (iMin (l4.n:Int) 256) (iMin (l4.n:Int) 256)) (Sl.cut l5 7 0 (iMin (l5.n:Int) (wrap .i64 (256-(iMin (l4.n:Int) 256)))) (iMin (l5.n:Int) (wrap .i64 (256-(iMin (l4.n:Int) 256))))) l6 h2 λr1 h3=>∃ l7:Sl,r1=.slice l7.a l7.n l7.c/\appendD l3 23 1 24 [.slice none 0 0] 1 [.slice l7.a l7.n l7.c] h3 λl8 h4=>Q (.slice l8.a l8.n l8.c) h4) (F63.Tf n3 n4 n5 (Sl.cut l4 2 0 (iMin (l4.n:Int) 256) (iMin (l4.n:Int) 256)) (Sl.cut l5 7 0 (iMin (l5.n:Int) (wrap .i64 (256-(iMin (l4.n:Int) 256)))) (iMin (l5.n:Int) (wrap .i64 (256-(iMin (l4.n:Int) 256))))) ⟨none,0,0⟩ h2 λr2 h5=>∃ l9:Sl,r2=.slice l9.a l9.n l9.c/\appendD l3 23 1 24 [.slice none 0 0] 1 [.slice l9.a l9.n l9.c] h5 λl10 h6=>I l10 n3 n4 n5 (Sl.cut l4 2 (iMin (l4.n:Int) 256) (l4.n:Int) (l4.c:Int)) (Sl.cut l5 7 (iMin (l5.n:Int) (wrap .i64 (256-(iMin (l4.n:Int) 256)))) (l5.n:Int) (l5.c:Int)) l6 h6/\m l10 n3 n4 n5 (Sl.cut l4 2 (iMin (l4.n:Int) 256) (l4.n:Int) (l4.c:Int)) (Sl.cut l5 7 (iMin (l5.n:Int) (wrap .i64 (256-(iMin (l4.n:Int) 256)))) (l5.n:Int) (l5.c:Int)) l6 h6<m l3 n3 n4 n5 l4 l5 l6 h2))) (Q (.slice none 0 0) h1)
theorem F21.gen(V:Value->List Value->PT)(T62:Int->Int->Int->Sl->Sl->Sl->PT)(T63t:Int->Int->Int->Sl->Sl->Sl->PT)(T63f:Int->Int->Int->Sl->Sl->Sl->PT)(n n1 n2:Int)(l l1 l2:Sl):denF Tryd.prog [1,4,54,60] [(62,F62.W T62),(63,F63.W T63t T63f)] V [(30,.loop [(3,.sl)] [(1,[.int .u64,.int .u64,.int .u64,.sl,.sl,.sl])]),(1934,.order [0,1,2,3,4,5,6,7,8,9,10,11,12,13]),(3870,.order [0,1,2,3,4,5,6,7,8,9,10,11])] Tryd.f21 [.v (.agg ⟨[.int .u64 n,.int .u64 n1,.int .u64 n2,.slice l.a l.n l.c,.slice l1.a l1.n l1.c,.slice l2.a l2.n l2.c]⟩)]=λh Q=>
 T62 n n1 n2 l l1 l2 h λr h1=>∃ b:Bool,r=.bool b/\parB b (∃ (I:Sl->Int->Int->Int->Sl->Sl->Sl->Hp->Prop) (m:Sl->Int->Int->Int->Sl->Sl->Sl->Hp->Nat),I ⟨none,0,0⟩ n n1 n2 l l1 l2 h1/\(∀ l3:Sl,∀ n3 n4 n5:Int,∀ l4 l5 l6:Sl,∀ h2:Hp,I l3 n3 n4 n5 l4 l5 l6 h2->Sl.okCut l4 0 (iMin (l4.n:Int) 256) (iMin (l4.n:Int) 256)/\Sl.okCut l5 0 (iMin (l5.n:Int) (wrap .i64 (256-(iMin (l4.n:Int) 256)))) (iMin (l5.n:Int) (wrap .i64 (256-(iMin (l4.n:Int) 256))))/\Sl.okCut l4 (iMin (l4.n:Int) 256) (l4.n:Int) (l4.c:Int)/\Sl.okCut l5 (iMin (l5.n:Int) (wrap .i64 (256-(iMin (l4.n:Int) 256)))) (l5.n:Int) (l5.c:Int)/\par ((wrap .i64 (((Sl.cut l4 2 (iMin (l4.n:Int) 256) (l4.n:Int) (l4.c:Int)).n:Int)+((Sl.cut l5 7 (iMin (l5.n:Int) (wrap .i64 (256-(iMin (l4.n:Int) 256)))) (l5.n:Int) (l5.c:Int)).n:Int)))=0) (T63t n3 n4 n5 (Sl.cut l4 2 0 (iMin (l4.n:Int) 256) (iMin (l4.n:Int) 256)) (Sl.cut l5 7 0 (iMin (l5.n:Int) (wrap .i64 (256-(iMin (l4.n:Int) 256)))) (iMin (l5.n:Int) (wrap .i64 (256-(iMin (l4.n:Int) 256))))) l6 h2 λr1 h3=>∃ l7:Sl,r1=.slice l7.a l7.n l7.c/\appendD l3 23 1 24 [.slice none 0 0] 1 [.slice l7.a l7.n l7.c] h3 λl8 h4=>Q (.slice l8.a l8.n l8.c) h4) (T63f n3 n4 n5 (Sl.cut l4 2 0 (iMin (l4.n:Int) 256) (iMin (l4.n:Int) 256)) (Sl.cut l5 7 0 (iMin (l5.n:Int) (wrap .i64 (256-(iMin (l4.n:Int) 256)))) (iMin (l5.n:Int) (wrap .i64 (256-(iMin (l4.n:Int) 256))))) ⟨none,0,0⟩ h2 λr2 h5=>∃ l9:Sl,r2=.slice l9.a l9.n l9.c/\appendD l3 23 1 24 [.slice none 0 0] 1 [.slice l9.a l9.n l9.c] h5 λl10 h6=>I l10 n3 n4 n5 (Sl.cut l4 2 (iMin (l4.n:Int) 256) (l4.n:Int) (l4.c:Int)) (Sl.cut l5 7 (iMin (l5.n:Int) (wrap .i64 (256-(iMin (l4.n:Int) 256)))) (l5.n:Int) (l5.c:Int)) l6 h6/\m l10 n3 n4 n5 (Sl.cut l4 2 (iMin (l4.n:Int) 256) (l4.n:Int) (l4.c:Int)) (Sl.cut l5 7 (iMin (l5.n:Int) (wrap .i64 (256-(iMin (l4.n:Int) 256)))) (l5.n:Int) (l5.c:Int)) l6 h6<m l3 n3 n4 n5 l4 l5 l6 h2))) (Q (.slice none 0 0) h1):=by kernel_rfl
def F21.W(T21:Int->Int->Int->Sl->Sl->Sl->PT)(args:List Value):PT:=match args with
 |[.agg ⟨[.int .u64 n,.int .u64 n1,.int .u64 n2,.slice l_a l_n l_c,.slice l1_a l1_n l1_c,.slice l2_a l2_n l2_c]⟩]=>T21 n n1 n2 ⟨l_a,l_n,l_c⟩ ⟨l1_a,l1_n,l1_c⟩ ⟨l2_a,l2_n,l2_c⟩
 |_=>λ_ _=>False
def F21.V:List Value->PT:=F21.W F21.T
theorem F21.ok:FOk Tryd.prog 21 F21.V:=by
 refine⟨⟨_,Tryd.func21,rfl,rfl⟩,λ_=>?_⟩;unfold F21.V F21.W;split;exact denF_okE (GOk.cons F62.ok (GOk.cons F63.ok (GOk.nil))) noV_ok Tryd.func21 (F21.gen noV F62.T F63.Tt F63.Tf _ _ _ ⟨_,_,_⟩ ⟨_,_,_⟩ ⟨_,_,_⟩);exact λ_ _ h=>h.elim
end Go.Eng.YtblghgacokoklaaDoor
end
section
open Go.Proofs
namespace Go.Eng.YtblghgacokoklaaDoor
def F86.T(l:Sl):PT:=λh Q=>
 ∃ (I:Int->Int->Hp->Prop) (m:Int->Int->Hp->Nat),I 0 0 h/\(∀ n n1:Int,∀ h1:Hp,I n n1 h1->par (n1<(l.n:Int)) (∃ b o,(l.a:Option Addr)=some ⟨b,o,none⟩/\((0:Int)<=n1/\n1<(l.n:Int))/\∃ n2:Int,h1.at b (o+n1.toNat)=some (.int .u8 n2)/\∃ J:Hp->Prop,(∀ h2:Hp,J h2->(0:Int)<=(wrap .i64 (7*n1))/\par (n2<128) (Q (.tuple ⟨[.int .u64 (bitsI .or .u64 n (shlI .u64 (wrap .u64 (bitsI .and .u8 n2 127)) (wrap .i64 (7*n1)))),.int .i64 (wrap .i64 (n1+1)),.int .i64 0]⟩) h2) (I (bitsI .or .u64 n (shlI .u64 (wrap .u64 (bitsI .and .u8 n2 127)) (wrap .i64 (7*n1)))) (wrap .i64 (n1+1)) h2/\m (bitsI .or .u64 n (shlI .u64 (wrap .u64 (bitsI .and .u8 n2 127)) (wrap .i64 (7*n1)))) (wrap .i64 (n1+1)) h2<m n n1 h1))/\(par (n2=0) (par ((0:Int)<n1) (Q (.tuple ⟨[.int .u64 0,.int .i64 0,.int .i64 21]⟩) h1) (par (n1=9) (par (n2=1) (J h1) (Q (.tuple ⟨[.int .u64 0,.int .i64 0,.int .i64 21]⟩) h1)) (J h1))) (par (n1=9) (par (n2=1) (J h1) (Q (.tuple ⟨[.int .u64 0,.int .i64 0,.int .i64 21]⟩) h1)) (J h1)))) (Q (.tuple ⟨[.int .u64 0,.int .i64 0,.int .i64 20]⟩) h1))
theorem F86.den(V l):denF Tryd.prog [] [] V [(58,.loop [(5,.int .u64),(10,.int .i64)] []),(3737,.join [] [])] Tryd.f86 [.v (.slice l.a l.n l.c)]=F86.T l:=by kernel_rfl
def F86.W(T86:Sl->PT)(args:List Value):PT:=match args with
 |[.slice l_a l_n l_c]=>T86 ⟨l_a,l_n,l_c⟩
 |_=>λ_ _=>False
def F86.V:List Value->PT:=F86.W F86.T
theorem F86.ok:FOk Tryd.prog 86 F86.V:=by
 refine⟨⟨_,Tryd.func86,rfl,rfl⟩,λ_=>?_⟩;unfold F86.V F86.W;split;exact denF_okE (GOk.nil) noV_ok Tryd.func86 (F86.den noV ⟨_,_,_⟩);exact λ_ _ h=>h.elim
def F133.T(p:Option Addr)(n n1:Int):PT:=λh Q=>
 par (n1=0) (∃ b o,(p:Option Addr)=some ⟨b,o,none⟩/\∃ l:Sl,h.at b o=some (.slice l.a l.n l.c)/\∃ b1 o1,(p:Option Addr)=some ⟨b1,o1,none⟩/\∃ l1:Sl,h.at b1 o1=some (.slice l1.a l1.n l1.c)/\∃ b2 o2,(p:Option Addr)=some ⟨b2,o2,none⟩/\∃ l2:Sl,h.at b2 o2=some (.slice l2.a l2.n l2.c)/\Sl.okCut l n (l1.n:Int) (l2.n:Int)/\∃ b3 o3,(p:Option Addr)=some ⟨b3,o3,none⟩/\h.canW b3 o3 1/\Q (.tuple ⟨[]⟩) (h.wr b3 o3 [.slice (Sl.cut l 1 n (l1.n:Int) (l2.n:Int)).a (Sl.cut l 1 n (l1.n:Int) (l2.n:Int)).n (Sl.cut l 1 n (l1.n:Int) (l2.n:Int)).c])) (∃ b4 o4,(p:Option Addr)=some ⟨b4,o4,none⟩/\∃ l3:Sl,h.at b4 o4=some (.slice l3.a l3.n l3.c)/\∃ b5 o5,(p:Option Addr)=some ⟨b5,o5,none⟩/\h.canW b5 (o5+1) 1/\∃ b6 o6,(p:Option Addr)=some ⟨b6,o6,none⟩/\∃ l4:Sl,(h.wr b5 (o5+1) [.bool true]).at b6 o6=some (.slice l4.a l4.n l4.c)/\∃ b7 o7,(p:Option Addr)=some ⟨b7,o7,none⟩/\∃ l5:Sl,(h.wr b5 (o5+1) [.bool true]).at b7 o7=some (.slice l5.a l5.n l5.c)/\∃ b8 o8,(p:Option Addr)=some ⟨b8,o8,none⟩/\∃ l6:Sl,(h.wr b5 (o5+1) [.bool true]).at b8 o8=some (.slice l6.a l6.n l6.c)/\Sl.okCut l4 (l3.n:Int) (l5.n:Int) (l6.n:Int)/\∃ b9 o9,(p:Option Addr)=some ⟨b9,o9,none⟩/\(h.wr b5 (o5+1) [.bool true]).canW b9 o9 1/\Q (.tuple ⟨[]⟩) ((h.wr b5 (o5+1) [.bool true]).wr b9 o9 [.slice (Sl.cut l4 1 (l3.n:Int) (l5.n:Int) (l6.n:Int)).a (Sl.cut l4 1 (l3.n:Int) (l5.n:Int) (l6.n:Int)).n (Sl.cut l4 1 (l3.n:Int) (l5.n:Int) (l6.n:Int)).c]))
theorem F133.den(V p n n1):denF Tryd.prog [] [] V [(3,.order [0,1,2,3,4,5,6,7,8,9,10,11,12,13,14,15,16,17,18,19])] Tryd.f133 [.v (.pointer p),.v (.int .i64 n),.v (.int .i64 n1)]=F133.T p n n1:=by kernel_rfl
def F133.W(T133:Option Addr->Int->Int->PT)(args:List Value):PT:=match args with
 |[.pointer p,.int .i64 n,.int .i64 n1]=>T133 p n n1
 |_=>λ_ _=>False
def F133.V:List Value->PT:=F133.W F133.T
theorem F133.ok:FOk Tryd.prog 133 F133.V:=by
 refine⟨⟨_,Tryd.func133,rfl,rfl⟩,λ_=>?_⟩;unfold F133.V F133.W;split;exact denF_okE (GOk.nil) noV_ok Tryd.func133 (F133.den noV _ _ _);exact λ_ _ h=>h.elim
@[reducible] def F123.G(T86:Sl->PT)(T133:Option Addr->Int->Int->PT)(p:Option Addr):PT:=λh Q=>
 ∃ b o,(p:Option Addr)=some ⟨b,o,none⟩/\∃ l:Sl,h.at b o=some (.slice l.a l.n l.c)/\T86 l h λr h1=>∃ n n1 n2:Int,r=.tuple ⟨[.int .u64 n,.int .i64 n1,.int .i64 n2]⟩/\T133 p n1 n2 h1 λr1 h2=>Q (.int .u64 n) h2
def F123.T:=F123.G F86.T F133.T
theorem F123.gen(V T86 T133 p):denF Tryd.prog [] [(86,F86.W T86),(133,F133.W T133)] V [] Tryd.f123 [.v (.pointer p)]=F123.G T86 T133 p:=by kernel_rfl
def F123.W(T123:Option Addr->PT)(args:List Value):PT:=match args with
 |[.pointer p]=>T123 p
 |_=>λ_ _=>False
def F123.V:List Value->PT:=F123.W F123.T
theorem F123.ok:FOk Tryd.prog 123 F123.V:=by
 refine⟨⟨_,Tryd.func123,rfl,rfl⟩,λ_=>?_⟩;unfold F123.V F123.W;split;exact denF_okE (GOk.cons F86.ok (GOk.cons F133.ok (GOk.nil))) noV_ok Tryd.func123 (F123.gen noV F86.T F133.T _);exact λ_ _ h=>h.elim
@[reducible] def F124.G(T123:Option Addr->PT)(p:Option Addr)(n:Int):PT:=λh Q=>
 T123 p h λr h1=>∃ n1:Int,r=.int .u64 n1/\par (n<n1) (∃ b o,(p:Option Addr)=some ⟨b,o,none⟩/\h1.canW b (o+1) 1/\Q (.int .i64 0) (h1.wr b (o+1) [.bool true])) (Q (.int .i64 (wrap .i64 n1)) h1)
def F124.T:=F124.G F123.T
theorem F124.gen(V T123 p n):denF Tryd.prog [] [(123,F123.W T123)] V [] Tryd.f124 [.v (.pointer p),.v (.int .u64 n)]=F124.G T123 p n:=by kernel_rfl
def F124.W(T124:Option Addr->Int->PT)(args:List Value):PT:=match args with
 |[.pointer p,.int .u64 n]=>T124 p n
 |_=>λ_ _=>False
def F124.V:List Value->PT:=F124.W F124.T
theorem F124.ok:FOk Tryd.prog 124 F124.V:=by
 refine⟨⟨_,Tryd.func124,rfl,rfl⟩,λ_=>?_⟩;unfold F124.V F124.W;split;exact denF_okE (GOk.cons F123.ok (GOk.nil)) noV_ok Tryd.func124 (F124.gen noV F123.T _ _);exact λ_ _ h=>h.elim
@[reducible] def F134.G(T86:Sl->PT)(l:Sl)(n:Int):PT:=λh Q=>
 T86 l h λr h1=>∃ n1 n2 n3:Int,r=.tuple ⟨[.int .u64 n1,.int .i64 n2,.int .i64 n3]⟩/\par (n3=0) (par (n<0) (Q (.tuple ⟨[.string ⟨#[]⟩,.int .i64 0,.int .i64 22]⟩) h1) (par ((wrap .u64 n)<n1) (Q (.tuple ⟨[.string ⟨#[]⟩,.int .i64 0,.int .i64 22]⟩) h1) (par ((wrap .u64 (wrap .i64 ((l.n:Int)-n2)))<n1) (Q (.tuple ⟨[.string ⟨#[]⟩,.int .i64 0,.int .i64 20]⟩) h1) (Sl.okCut l n2 (wrap .i64 (n2+(wrap .i64 n1))) (l.c:Int)/\∃ s:ByteArray,h1.row ((Sl.cut l 1 n2 (wrap .i64 (n2+(wrap .i64 n1))) (l.c:Int)).a) ((Sl.cut l 1 n2 (wrap .i64 (n2+(wrap .i64 n1))) (l.c:Int)).n) (bytesV s)/\Q (.tuple ⟨[.string s,.int .i64 (wrap .i64 (n2+(wrap .i64 n1))),.int .i64 0]⟩) h1)))) (Q (.tuple ⟨[.string ⟨#[]⟩,.int .i64 0,.int .i64 n3]⟩) h1)
def F134.T:=F134.G F86.T
theorem F134.gen(V T86 l n):denF Tryd.prog [] [(86,F86.W T86)] V [] Tryd.f134 [.v (.slice l.a l.n l.c),.v (.int .i64 n)]=F134.G T86 l n:=by kernel_rfl
def F134.W(T134:Sl->Int->PT)(args:List Value):PT:=match args with
 |[.slice l_a l_n l_c,.int .i64 n]=>T134 ⟨l_a,l_n,l_c⟩ n
 |_=>λ_ _=>False
def F134.V:List Value->PT:=F134.W F134.T
theorem F134.ok:FOk Tryd.prog 134 F134.V:=by
 refine⟨⟨_,Tryd.func134,rfl,rfl⟩,λ_=>?_⟩;unfold F134.V F134.W;split;exact denF_okE (GOk.cons F86.ok (GOk.nil)) noV_ok Tryd.func134 (F134.gen noV F86.T ⟨_,_,_⟩ _);exact λ_ _ h=>h.elim
@[reducible] def F125.G(T133:Option Addr->Int->Int->PT)(T134:Sl->Int->PT)(p:Option Addr):PT:=λh Q=>
 ∃ b o,(p:Option Addr)=some ⟨b,o,none⟩/\∃ l:Sl,h.at b o=some (.slice l.a l.n l.c)/\T134 l 64 h λr h1=>∃ s:ByteArray,∃ n n1:Int,r=.tuple ⟨[.string s,.int .i64 n,.int .i64 n1]⟩/\T133 p n n1 h1 λr1 h2=>Q (.string s) h2
def F125.T:=F125.G F133.T F134.T
theorem F125.gen(V T133 T134 p):denF Tryd.prog [] [(133,F133.W T133),(134,F134.W T134)] V [] Tryd.f125 [.v (.pointer p)]=F125.G T133 T134 p:=by kernel_rfl
def F125.W(T125:Option Addr->PT)(args:List Value):PT:=match args with
 |[.pointer p]=>T125 p
 |_=>λ_ _=>False
def F125.V:List Value->PT:=F125.W F125.T
theorem F125.ok:FOk Tryd.prog 125 F125.V:=by
 refine⟨⟨_,Tryd.func125,rfl,rfl⟩,λ_=>?_⟩;unfold F125.V F125.W;split;exact denF_okE (GOk.cons F133.ok (GOk.cons F134.ok (GOk.nil))) noV_ok Tryd.func125 (F125.gen noV F133.T F134.T _);exact λ_ _ h=>h.elim
@[reducible] def F102.G(T123:Option Addr->PT)(T124:Option Addr->Int->PT)(T125:Option Addr->PT)(l:Sl):PT:=λh Q=>
 par ((l.n:Int)=0) (Q (.tuple ⟨[.agg ⟨[.int .u64 0,.int .u64 0,.int .u64 0,.slice none 0 0,.slice none 0 0,.slice none 0 0]⟩,.bool false,.bool false]⟩) h) (∃ b o,(l.a:Option Addr)=some ⟨b,o,none⟩/\((0:Int)<=0/\0<(l.n:Int))/\∃ n:Int,h.at b (o+(0:Int).toNat)=some (.int .u8 n)/\par ((1:Int)<n) (Q (.tuple ⟨[.agg ⟨[.int .u64 0,.int .u64 0,.int .u64 0,.slice none 0 0,.slice none 0 0,.slice none 0 0]⟩,.bool false,.bool false]⟩) h) (Sl.okCut l 1 (l.n:Int) (l.c:Int)/\∀ b1,h b1=none->T123 (some ⟨b1,0,none⟩) (h.new b1 (.cells ⟨[.slice (Sl.cut l 1 1 (l.n:Int) (l.c:Int)).a (Sl.cut l 1 1 (l.n:Int) (l.c:Int)).n (Sl.cut l 1 1 (l.n:Int) (l.c:Int)).c,.bool false]⟩ 188 (0,0))) λr h1=>∃ n1:Int,r=.int .u64 n1/\T123 (some ⟨b1,0,none⟩) h1 λr1 h2=>∃ n2:Int,r1=.int .u64 n2/\T123 (some ⟨b1,0,none⟩) h2 λr2 h3=>∃ n3:Int,r2=.int .u64 n3/\T123 (some ⟨b1,0,none⟩) h3 λr3 h4=>∃ n4:Int,r3=.int .u64 n4/\∃ (I:Int->Int->Int->Int->Sl->Sl->Sl->Hp->Prop) (m:Int->Int->Int->Int->Sl->Sl->Sl->Hp->Nat),I n4 n1 n2 n3 ⟨none,0,0⟩ ⟨none,0,0⟩ ⟨none,0,0⟩ h4/\(∀ n5 n6:Int,∀ n7 n8:Int,∀ l1 l2 l3:Sl,∀ h5:Hp,I n5 n6 n7 n8 l1 l2 l3 h5->par ((0:Int)<n5) (T124 (some ⟨b1,0,none⟩) 4 h5 λr4 h6=>∃ n9:Int,r4=.int .i64 n9/\T123 (some ⟨b1,0,none⟩) h6 λr5 h7=>∃ n10:Int,r5=.int .u64 n10/\appendD l1 104 2 16 [.int .i64 0,.int .u64 0] 1 [.int .i64 n9,.int .u64 n10] h7 λl4 h8=>∃ b2:Bool,h8.at b1 1=some (.bool b2)/\parB b2 (Q (.tuple ⟨[.agg ⟨[.int .u64 0,.int .u64 0,.int .u64 0,.slice none 0 0,.slice none 0 0,.slice none 0 0]⟩,.bool false,.bool false]⟩) h8) (I (wrap .u64 (n5-1)) n6 n7 n8 l4 l2 l3 h8/\m (wrap .u64 (n5-1)) n6 n7 n8 l4 l2 l3 h8<m n5 n6 n7 n8 l1 l2 l3 h5)) (T123 (some ⟨b1,0,none⟩) h5 λr6 h9=>∃ n11:Int,r6=.int .u64 n11/\∃ (I1:Int->Int->Int->Int->Sl->Sl->Sl->Hp->Prop) (m1:Int->Int->Int->Int->Sl->Sl->Sl->Hp->Nat),I1 n11 n6 n7 n8 l1 l2 l3 h9/\(∀ n12 n13:Int,∀ n14 n15:Int,∀ l5 l6 l7:Sl,∀ h10:Hp,I1 n12 n13 n14 n15 l5 l6 l7 h10->par ((0:Int)<n12) (T124 (some ⟨b1,0,none⟩) 4 h10 λr7 h11=>∃ n16:Int,r7=.int .i64 n16/\T123 (some ⟨b1,0,none⟩) h11 λr8 h12=>∃ n17:Int,r8=.int .u64 n17/\T124 (some ⟨b1,0,none⟩) 9223372036854775807 h12 λr9 h13=>∃ n18:Int,r9=.int .i64 n18/\T124 (some ⟨b1,0,none⟩) 9223372036854775807 h13 λr10 h14=>∃ n19:Int,r10=.int .i64 n19/\T124 (some ⟨b1,0,none⟩) 9223372036854775807 h14 λr11 h15=>∃ n20:Int,r11=.int .i64 n20/\T125 (some ⟨b1,0,none⟩) h15 λr12 h16=>∃ s:ByteArray,r12=.string s/\T125 (some ⟨b1,0,none⟩) h16 λr13 h17=>∃ s1:ByteArray,r13=.string s1/\appendD l6 108 7 72 [.int .i64 0,.int .u64 0,.int .i64 0,.int .i64 0,.int .i64 0,.string ⟨#[]⟩,.string ⟨#[]⟩] 1 [.int .i64 n16,.int .u64 n17,.int .i64 n18,.int .i64 n19,.int .i64 n20,.string s,.string s1] h17 λl8 h18=>∃ b3:Bool,h18.at b1 1=some (.bool b3)/\parB b3 (Q (.tuple ⟨[.agg ⟨[.int .u64 0,.int .u64 0,.int .u64 0,.slice none 0 0,.slice none 0 0,.slice none 0 0]⟩,.bool false,.bool false]⟩) h18) (I1 (wrap .u64 (n12-1)) n13 n14 n15 l5 l8 l7 h18/\m1 (wrap .u64 (n12-1)) n13 n14 n15 l5 l8 l7 h18<m1 n12 n13 n14 n15 l5 l6 l7 h10)) (T123 (some ⟨b1,0,none⟩) h10 λr14 h19=>∃ n21:Int,r14=.int .u64 n21/\∃ (I2:Int->Int->Int->Int->Sl->Sl->Sl->Hp->Prop) (m2:Int->Int->Int->Int->Sl->Sl->Sl->Hp->Nat),I2 n21 n13 n14 n15 l5 l6 l7 h19/\(∀ n22 n23:Int,∀ n24 n25:Int,∀ l9 l10 l11:Sl,∀ h20:Hp,I2 n22 n23 n24 n25 l9 l10 l11 h20->par ((0:Int)<n22) (T125 (some ⟨b1,0,none⟩) h20 λr15 h21=>∃ s2:ByteArray,r15=.string s2/\appendD l11 9 1 16 [.string ⟨#[]⟩] 1 [.string s2] h21 λl12 h22=>∃ b4:Bool,h22.at b1 1=some (.bool b4)/\parB b4 (Q (.tuple ⟨[.agg ⟨[.int .u64 0,.int .u64 0,.int .u64 0,.slice none 0 0,.slice none 0 0,.slice none 0 0]⟩,.bool false,.bool false]⟩) h22) (I2 (wrap .u64 (n22-1)) n23 n24 n25 l9 l10 l12 h22/\m2 (wrap .u64 (n22-1)) n23 n24 n25 l9 l10 l12 h22<m2 n22 n23 n24 n25 l9 l10 l11 h20)) (∃ b5:Bool,h20.at b1 1=some (.bool b5)/\parB b5 (Q (.tuple ⟨[.agg ⟨[.int .u64 0,.int .u64 0,.int .u64 0,.slice none 0 0,.slice none 0 0,.slice none 0 0]⟩,.bool false,.bool false]⟩) h20) (∃ l13:Sl,h20.at b1 0=some (.slice l13.a l13.n l13.c)/\par ((l13.n:Int)=0) (∃ b6 o1,(l.a:Option Addr)=some ⟨b6,o1,none⟩/\((0:Int)<=0/\0<(l.n:Int))/\∃ n26:Int,h20.at b6 (o1+(0:Int).toNat)=some (.int .u8 n26)/\par (n26=1) (h20.at b6 (o1+(0:Int).toNat)=some (.int .u8 n26)/\Q (.tuple ⟨[.agg ⟨[.int .u64 n23,.int .u64 n24,.int .u64 n25,.slice l9.a l9.n l9.c,.slice l10.a l10.n l10.c,.slice l11.a l11.n l11.c]⟩,.bool true,.bool true]⟩) h20) (h20.at b6 (o1+(0:Int).toNat)=some (.int .u8 n26)/\Q (.tuple ⟨[.agg ⟨[.int .u64 n23,.int .u64 n24,.int .u64 n25,.slice l9.a l9.n l9.c,.slice l10.a l10.n l10.c,.slice l11.a l11.n l11.c]⟩,.bool false,.bool true]⟩) h20)) (Q (.tuple ⟨[.agg ⟨[.int .u64 0,.int .u64 0,.int .u64 0,.slice none 0 0,.slice none 0 0,.slice none 0 0]⟩,.bool false,.bool false]⟩) h20))))))))))
def F102.T:=F102.G F123.T F124.T F125.T
theorem F102.gen(V T123 T124 T125 l):denF Tryd.prog [2,5,9,47,90,107] [(123,F123.W T123),(124,F124.W T124),(125,F125.W T125)] V [(3,.jump 0),(890,.loop [(7,.int .u64)] [(5,[.int .u64,.int .u64,.int .u64,.sl,.sl,.sl])]),(1786,.loop [(8,.int .u64)] [(5,[.int .u64,.int .u64,.int .u64,.sl,.sl,.sl])]),(3578,.loop [(10,.int .u64)] [(5,[.int .u64,.int .u64,.int .u64,.sl,.sl,.sl])]),(14324,.order [0,1,2,3,4,5,6,7]),(28488,.order [0,1,2,4,3,5,6,7,8,9,10]),(114504,.order [0,1,2,3,4,5,6,7])] Tryd.f102 [.v (.slice l.a l.n l.c)]=F102.G T123 T124 T125 l:=by kernel_rfl
def F102.W(T102:Sl->PT)(args:List Value):PT:=match args with
 |[.slice l_a l_n l_c]=>T102 ⟨l_a,l_n,l_c⟩
 |_=>λ_ _=>False
def F102.V:List Value->PT:=F102.W F102.T
theorem F102.ok:FOk Tryd.prog 102 F102.V:=by
 refine⟨⟨_,Tryd.func102,rfl,rfl⟩,λ_=>?_⟩;unfold F102.V F102.W;split;exact denF_okE (GOk.cons F123.ok (GOk.cons F124.ok (GOk.cons F125.ok (GOk.nil)))) noV_ok Tryd.func102 (F102.gen noV F123.T F124.T F125.T ⟨_,_,_⟩);exact λ_ _ h=>h.elim
def F127.T(l l1:Sl):PT:=λh Q=>
 par ((l.n:Int)=(l1.n:Int)) (∃ (I:Int->Hp->Prop) (m:Int->Hp->Nat),I 0 h/\(∀ n:Int,∀ h1:Hp,I n h1->par (n<(l.n:Int)) (∃ b o,(l.a:Option Addr)=some ⟨b,o,none⟩/\((0:Int)<=n/\n<(l.n:Int))/\∃ n1:Int,h1.at b (o+n.toNat)=some (.int .u8 n1)/\∃ b1 o1,(l1.a:Option Addr)=some ⟨b1,o1,none⟩/\((0:Int)<=n/\n<(l1.n:Int))/\∃ n2:Int,h1.at b1 (o1+n.toNat)=some (.int .u8 n2)/\par (n1=n2) (I (wrap .i64 (n+1)) h1/\m (wrap .i64 (n+1)) h1<m n h1) (Q (.bool false) h1)) (Q (.bool true) h1))) (Q (.bool false) h)
theorem F127.den(V l l1):denF Tryd.prog [] [] V [(58,.loop [(13,.int .i64)] []),(7474,.order [0,1,2,3,4,5,6,7,8])] Tryd.f127 [.v (.slice l.a l.n l.c),.v (.slice l1.a l1.n l1.c)]=F127.T l l1:=by kernel_rfl
def F127.W(T127:Sl->Sl->PT)(args:List Value):PT:=match args with
 |[.slice l_a l_n l_c,.slice l1_a l1_n l1_c]=>T127 ⟨l_a,l_n,l_c⟩ ⟨l1_a,l1_n,l1_c⟩
 |_=>λ_ _=>False
def F127.V:List Value->PT:=F127.W F127.T
theorem F127.ok:FOk Tryd.prog 127 F127.V:=by
 refine⟨⟨_,Tryd.func127,rfl,rfl⟩,λ_=>?_⟩;unfold F127.V F127.W;split;exact denF_okE (GOk.nil) noV_ok Tryd.func127 (F127.den noV ⟨_,_,_⟩ ⟨_,_,_⟩);exact λ_ _ h=>h.elim
@[reducible] def F126.G(T127:Sl->Sl->PT)(l l1:Sl):PT:=λh Q=>
 par ((l.n:Int)=(l1.n:Int)) (∃ (I:Int->Hp->Prop) (m:Int->Hp->Nat),I 0 h/\(∀ n:Int,∀ h1:Hp,I n h1->par (n<(l.n:Int)) (∃ b o,(l.a:Option Addr)=some ⟨b,o,none⟩/\((0:Int)<=n/\n<(l.n:Int))/\∃ l2:Sl,h1.at b (o+n.toNat)=some (.slice l2.a l2.n l2.c)/\∃ b1 o1,(l1.a:Option Addr)=some ⟨b1,o1,none⟩/\((0:Int)<=n/\n<(l1.n:Int))/\∃ l3:Sl,h1.at b1 (o1+n.toNat)=some (.slice l3.a l3.n l3.c)/\T127 l2 l3 h1 λr h2=>∃ b2:Bool,r=.bool b2/\parB b2 (I (wrap .i64 (n+1)) h2/\m (wrap .i64 (n+1)) h2<m n h1) (Q (.bool false) h2)) (Q (.bool true) h1))) (Q (.bool false) h)
def F126.T:=F126.G F127.T
theorem F126.gen(V T127 l l1):denF Tryd.prog [] [(127,F127.W T127)] V [(58,.loop [(17,.int .i64)] [])] Tryd.f126 [.v (.slice l.a l.n l.c),.v (.slice l1.a l1.n l1.c),.v (.func (.func 127) ⟨[]⟩ ⟨[]⟩)]=F126.G T127 l l1:=by kernel_rfl
def F126.W(T126:Sl->Sl->PT)(args:List Value):PT:=match args with
 |[.slice l_a l_n l_c,.slice l1_a l1_n l1_c,.func (.func 127) ⟨[]⟩ ⟨[]⟩]=>T126 ⟨l_a,l_n,l_c⟩ ⟨l1_a,l1_n,l1_c⟩
 |_=>λ_ _=>False
def F126.V:List Value->PT:=F126.W F126.T
theorem F126.ok:FOk Tryd.prog 126 F126.V:=by
 refine⟨⟨_,Tryd.func126,rfl,rfl⟩,λ_=>?_⟩;unfold F126.V F126.W;split;exact denF_okE (GOk.cons F127.ok (GOk.nil)) noV_ok Tryd.func126 (F126.gen noV F127.T ⟨_,_,_⟩ ⟨_,_,_⟩);exact λ_ _ h=>h.elim
def F103.Tt(n n1 n2:Int)(l l1 l2 l3:Sl):PT:=λh Q=>
 F21.T n n1 n2 l l1 l2 h λr h1=>∃ l4:Sl,r=.slice l4.a l4.n l4.c/\par ((l4.n:Int)<(l3.n:Int)) (Q (.bool false) h1) (par ((l4.n:Int)=(l3.n:Int)) (Sl.okCut l4 0 (l3.n:Int) (l4.c:Int)/\F126.T (Sl.cut l4 1 0 (l3.n:Int) (l4.c:Int)) l3 h1 λr1 h2=>∃ b:Bool,r1=.bool b/\parB b (Q (.bool true) h2) (Q (.bool false) h2)) (Q (.bool false) h1))
theorem F103.gent(V:Value->List Value->PT)(T21:Int->Int->Int->Sl->Sl->Sl->PT)(T126:Sl->Sl->PT)(n:Int)(n1:Int)(n2:Int)(l:Sl)(l1:Sl)(l2:Sl)(l3:Sl):denF Tryd.prog [3] [(21,F21.W T21),(126,F126.W T126)] V [] Tryd.f103 [.v (.agg ⟨[.int .u64 n,.int .u64 n1,.int .u64 n2,.slice l.a l.n l.c,.slice l1.a l1.n l1.c,.slice l2.a l2.n l2.c]⟩),.v (.slice l3.a l3.n l3.c),.v (.bool true)]=λh Q=>
 T21 n n1 n2 l l1 l2 h λr h1=>∃ l4:Sl,r=.slice l4.a l4.n l4.c/\par ((l4.n:Int)<(l3.n:Int)) (Q (.bool false) h1) (par ((l4.n:Int)=(l3.n:Int)) (Sl.okCut l4 0 (l3.n:Int) (l4.c:Int)/\T126 (Sl.cut l4 1 0 (l3.n:Int) (l4.c:Int)) l3 h1 λr1 h2=>∃ b:Bool,r1=.bool b/\parB b (Q (.bool true) h2) (Q (.bool false) h2)) (Q (.bool false) h1)):=by kernel_rfl
def F103.Tf(n n1 n2:Int)(l l1 l2 l3:Sl):PT:=λh Q=>
 F21.T n n1 n2 l l1 l2 h λr h1=>∃ l4:Sl,r=.slice l4.a l4.n l4.c/\par ((l4.n:Int)<(l3.n:Int)) (Q (.bool false) h1) (Sl.okCut l4 0 (l3.n:Int) (l4.c:Int)/\F126.T (Sl.cut l4 1 0 (l3.n:Int) (l4.c:Int)) l3 h1 λr1 h2=>∃ b:Bool,r1=.bool b/\parB b (Q (.bool true) h2) (Q (.bool false) h2))
theorem F103.genf(V:Value->List Value->PT)(T21:Int->Int->Int->Sl->Sl->Sl->PT)(T126:Sl->Sl->PT)(n:Int)(n1:Int)(n2:Int)(l:Sl)(l1:Sl)(l2:Sl)(l3:Sl):denF Tryd.prog [3] [(21,F21.W T21),(126,F126.W T126)] V [] Tryd.f103 [.v (.agg ⟨[.int .u64 n,.int .u64 n1,.int .u64 n2,.slice l.a l.n l.c,.slice l1.a l1.n l1.c,.slice l2.a l2.n l2.c]⟩),.v (.slice l3.a l3.n l3.c),.v (.bool false)]=λh Q=>
 T21 n n1 n2 l l1 l2 h λr h1=>∃ l4:Sl,r=.slice l4.a l4.n l4.c/\par ((l4.n:Int)<(l3.n:Int)) (Q (.bool false) h1) (Sl.okCut l4 0 (l3.n:Int) (l4.c:Int)/\T126 (Sl.cut l4 1 0 (l3.n:Int) (l4.c:Int)) l3 h1 λr1 h2=>∃ b:Bool,r1=.bool b/\parB b (Q (.bool true) h2) (Q (.bool false) h2)):=by kernel_rfl
def F103.W(T103t T103f:Int->Int->Int->Sl->Sl->Sl->Sl->PT)(args:List Value):PT:=match args with
 |[.agg ⟨[.int .u64 n,.int .u64 n1,.int .u64 n2,.slice l_a l_n l_c,.slice l1_a l1_n l1_c,.slice l2_a l2_n l2_c]⟩,.slice l3_a l3_n l3_c,.bool true]=>T103t n n1 n2 ⟨l_a,l_n,l_c⟩ ⟨l1_a,l1_n,l1_c⟩ ⟨l2_a,l2_n,l2_c⟩ ⟨l3_a,l3_n,l3_c⟩
 |[.agg ⟨[.int .u64 n,.int .u64 n1,.int .u64 n2,.slice l_a l_n l_c,.slice l1_a l1_n l1_c,.slice l2_a l2_n l2_c]⟩,.slice l3_a l3_n l3_c,.bool false]=>T103f n n1 n2 ⟨l_a,l_n,l_c⟩ ⟨l1_a,l1_n,l1_c⟩ ⟨l2_a,l2_n,l2_c⟩ ⟨l3_a,l3_n,l3_c⟩
 |_=>λ_ _=>False
def F103.V:List Value->PT:=F103.W F103.Tt F103.Tf
theorem F103.ok:FOk Tryd.prog 103 F103.V:=by
 refine⟨⟨_,Tryd.func103,rfl,rfl⟩,λargs=>?_⟩
 have hG:GOk Tryd.prog [(21,F21.V),(126,F126.V)]:=GOk.cons F21.ok (GOk.cons F126.ok (GOk.nil))
 unfold F103.V F103.W
 split
 ·exact denF_okE hG noV_ok Tryd.func103 (F103.gent noV F21.T F126.T _ _ _ ⟨_,_,_⟩ ⟨_,_,_⟩ ⟨_,_,_⟩ ⟨_,_,_⟩)
 ·exact denF_okE hG noV_ok Tryd.func103 (F103.genf noV F21.T F126.T _ _ _ ⟨_,_,_⟩ ⟨_,_,_⟩ ⟨_,_,_⟩ ⟨_,_,_⟩)
 ·exact λ_ _ h=>h.elim
def F69.T(l:Sl):PT:=λh Q=>
 ∃ (I:Sl->Int->Int->Int->Int->Int->Sl->Sl->Sl->Hp->Prop) (m:Sl->Int->Int->Int->Int->Int->Sl->Sl->Sl->Hp->Nat),I ⟨none,0,0⟩ 0 0 0 0 0 ⟨none,0,0⟩ ⟨none,0,0⟩ ⟨none,0,0⟩ h/\(∀ l1:Sl,∀ n n1:Int,∀ n2 n3 n4:Int,∀ l2 l3 l4:Sl,∀ h1:Hp,I l1 n n1 n2 n3 n4 l2 l3 l4 h1->par (n1<(l.n:Int)) (∃ b o,(l.a:Option Addr)=some ⟨b,o,none⟩/\((0:Int)<=n1/\n1<(l.n:Int))/\∃ l5:Sl,h1.at b (o+n1.toNat)=some (.slice l5.a l5.n l5.c)/\F102.T l5 h1 λr h2=>∃ n5 n6 n7:Int,∃ l6 l7 l8:Sl,∃ b1:Bool,parB b1 (∃ b2:Bool,parB b2 (r=.tuple ⟨[.agg ⟨[.int .u64 n5,.int .u64 n6,.int .u64 n7,.slice l6.a l6.n l6.c,.slice l7.a l7.n l7.c,.slice l8.a l8.n l8.c]⟩,.bool true,.bool true]⟩/\par (n<n1) (∃ vs,h2.row l6.a (l6.n*2) vs/\(∀ v∈vs,Value.oneCell' v=true)/\appendD l2 104 2 16 [.int .i64 0,.int .u64 0] l6.n vs h2 λl9 h3=>∃ vs1,h3.row l7.a (l7.n*7) vs1/\(∀ v∈vs1,Value.oneCell' v=true)/\appendD l3 108 7 72 [.int .i64 0,.int .u64 0,.int .i64 0,.int .i64 0,.int .i64 0,.string ⟨#[]⟩,.string ⟨#[]⟩] l7.n vs1 h3 λl10 h4=>Sl.okCut l n (wrap .i64 (n1+1)) (l.c:Int)/\F103.Tt n5 n6 n7 l9 l10 l8 (Sl.cut l 1 n (wrap .i64 (n1+1)) (l.c:Int)) h4 λr1 h5=>∃ b3:Bool,r1=.bool b3/\parB b3 (appendD l1 65 6 96 [.int .u64 0,.int .u64 0,.int .u64 0,.slice none 0 0,.slice none 0 0,.slice none 0 0] 1 [.int .u64 n5,.int .u64 n6,.int .u64 n7,.slice l9.a l9.n l9.c,.slice l10.a l10.n l10.c,.slice l8.a l8.n l8.c] h5 λl11 h6=>I l11 (wrap .i64 (n1+1)) (wrap .i64 (n1+1)) 0 0 0 ⟨none,0,0⟩ ⟨none,0,0⟩ ⟨none,0,0⟩ h6/\m l11 (wrap .i64 (n1+1)) (wrap .i64 (n1+1)) 0 0 0 ⟨none,0,0⟩ ⟨none,0,0⟩ ⟨none,0,0⟩ h6<m l1 n n1 n2 n3 n4 l2 l3 l4 h1) (Q (.tuple ⟨[.slice none 0 0,.int .i64 140]⟩) h5)) (Sl.okCut l n (wrap .i64 (n1+1)) (l.c:Int)/\F103.Tt n5 n6 n7 l6 l7 l8 (Sl.cut l 1 n (wrap .i64 (n1+1)) (l.c:Int)) h2 λr2 h7=>∃ b4:Bool,r2=.bool b4/\parB b4 (appendD l1 65 6 96 [.int .u64 0,.int .u64 0,.int .u64 0,.slice none 0 0,.slice none 0 0,.slice none 0 0] 1 [.int .u64 n5,.int .u64 n6,.int .u64 n7,.slice l6.a l6.n l6.c,.slice l7.a l7.n l7.c,.slice l8.a l8.n l8.c] h7 λl12 h8=>I l12 (wrap .i64 (n1+1)) (wrap .i64 (n1+1)) 0 0 0 ⟨none,0,0⟩ ⟨none,0,0⟩ ⟨none,0,0⟩ h8/\m l12 (wrap .i64 (n1+1)) (wrap .i64 (n1+1)) 0 0 0 ⟨none,0,0⟩ ⟨none,0,0⟩ ⟨none,0,0⟩ h8<m l1 n n1 n2 n3 n4 l2 l3 l4 h1) (Q (.tuple ⟨[.slice none 0 0,.int .i64 140]⟩) h7))) (r=.tuple ⟨[.agg ⟨[.int .u64 n5,.int .u64 n6,.int .u64 n7,.slice l6.a l6.n l6.c,.slice l7.a l7.n l7.c,.slice l8.a l8.n l8.c]⟩,.bool true,.bool false]⟩/\Q (.tuple ⟨[.slice none 0 0,.int .i64 140]⟩) h2)) (∃ b5:Bool,parB b5 (r=.tuple ⟨[.agg ⟨[.int .u64 n5,.int .u64 n6,.int .u64 n7,.slice l6.a l6.n l6.c,.slice l7.a l7.n l7.c,.slice l8.a l8.n l8.c]⟩,.bool false,.bool true]⟩/\par (n<n1) (∃ vs2,h2.row l6.a (l6.n*2) vs2/\(∀ v∈vs2,Value.oneCell' v=true)/\appendD l2 104 2 16 [.int .i64 0,.int .u64 0] l6.n vs2 h2 λl13 h9=>∃ vs3,h9.row l7.a (l7.n*7) vs3/\(∀ v∈vs3,Value.oneCell' v=true)/\appendD l3 108 7 72 [.int .i64 0,.int .u64 0,.int .i64 0,.int .i64 0,.int .i64 0,.string ⟨#[]⟩,.string ⟨#[]⟩] l7.n vs3 h9 λl14 h10=>I l1 n (wrap .i64 (n1+1)) n5 n6 n7 l13 l14 l8 h10/\m l1 n (wrap .i64 (n1+1)) n5 n6 n7 l13 l14 l8 h10<m l1 n n1 n2 n3 n4 l2 l3 l4 h1) (I l1 n (wrap .i64 (n1+1)) n5 n6 n7 l6 l7 l8 h2/\m l1 n (wrap .i64 (n1+1)) n5 n6 n7 l6 l7 l8 h2<m l1 n n1 n2 n3 n4 l2 l3 l4 h1)) (r=.tuple ⟨[.agg ⟨[.int .u64 n5,.int .u64 n6,.int .u64 n7,.slice l6.a l6.n l6.c,.slice l7.a l7.n l7.c,.slice l8.a l8.n l8.c]⟩,.bool false,.bool false]⟩/\Q (.tuple ⟨[.slice none 0 0,.int .i64 140]⟩) h2))) (appendD l3 108 7 72 [.int .i64 0,.int .u64 0,.int .i64 0,.int .i64 0,.int .i64 0,.string ⟨#[]⟩,.string ⟨#[]⟩] 1 [.int .i64 0,.int .u64 0,.int .i64 0,.int .i64 0,.int .i64 0,.string ⟨#[]⟩,.string ⟨#[]⟩] h1 λl15 h11=>par (n<(l.n:Int)) (Sl.okCut l n (l.n:Int) (l.c:Int)/\F103.Tf n2 n3 n4 l2 l15 l4 (Sl.cut l 1 n (l.n:Int) (l.c:Int)) h11 λr3 h12=>∃ b6:Bool,r3=.bool b6/\parB b6 (Q (.tuple ⟨[.slice l1.a l1.n l1.c,.int .i64 0]⟩) h12) (Q (.tuple ⟨[.slice none 0 0,.int .i64 140]⟩) h12)) (Q (.tuple ⟨[.slice l1.a l1.n l1.c,.int .i64 0]⟩) h11)))
theorem F69.gen(V:Value->List Value->PT)(T102:Sl->PT)(T103t:Int->Int->Int->Sl->Sl->Sl->Sl->PT)(T103f:Int->Int->Int->Sl->Sl->Sl->Sl->PT)(l:Sl):denF Tryd.prog [5,9,55,64] [(102,F102.W T102),(103,F103.W T103t T103f)] V [(250,.loop [(4,.sl),(6,.int .i64),(14,.int .i64)] [(5,[.int .u64,.int .u64,.int .u64,.sl,.sl,.sl])]),(506,.order [0,1,2,3,4,5,6,7,8,9,10,11]),(512826,.order [0,1,2,3,5,6,7,8,4,10,9,11,12,13]),(2051324,.order [0,1,2,3,4,5,6,7])] Tryd.f69 [.v (.slice l.a l.n l.c)]=λh Q=>
 ∃ (I:Sl->Int->Int->Int->Int->Int->Sl->Sl->Sl->Hp->Prop) (m:Sl->Int->Int->Int->Int->Int->Sl->Sl->Sl->Hp->Nat),I ⟨none,0,0⟩ 0 0 0 0 0 ⟨none,0,0⟩ ⟨none,0,0⟩ ⟨none,0,0⟩ h/\(∀ l1:Sl,∀ n n1:Int,∀ n2 n3 n4:Int,∀ l2 l3 l4:Sl,∀ h1:Hp,I l1 n n1 n2 n3 n4 l2 l3 l4 h1->par (n1<(l.n:Int)) (∃ b o,(l.a:Option Addr)=some ⟨b,o,none⟩/\((0:Int)<=n1/\n1<(l.n:Int))/\∃ l5:Sl,h1.at b (o+n1.toNat)=some (.slice l5.a l5.n l5.c)/\T102 l5 h1 λr h2=>∃ n5 n6 n7:Int,∃ l6 l7 l8:Sl,∃ b1:Bool,parB b1 (∃ b2:Bool,parB b2 (r=.tuple ⟨[.agg ⟨[.int .u64 n5,.int .u64 n6,.int .u64 n7,.slice l6.a l6.n l6.c,.slice l7.a l7.n l7.c,.slice l8.a l8.n l8.c]⟩,.bool true,.bool true]⟩/\par (n<n1) (∃ vs,h2.row l6.a (l6.n*2) vs/\(∀ v∈vs,Value.oneCell' v=true)/\appendD l2 104 2 16 [.int .i64 0,.int .u64 0] l6.n vs h2 λl9 h3=>∃ vs1,h3.row l7.a (l7.n*7) vs1/\(∀ v∈vs1,Value.oneCell' v=true)/\appendD l3 108 7 72 [.int .i64 0,.int .u64 0,.int .i64 0,.int .i64 0,.int .i64 0,.string ⟨#[]⟩,.string ⟨#[]⟩] l7.n vs1 h3 λl10 h4=>Sl.okCut l n (wrap .i64 (n1+1)) (l.c:Int)/\T103t n5 n6 n7 l9 l10 l8 (Sl.cut l 1 n (wrap .i64 (n1+1)) (l.c:Int)) h4 λr1 h5=>∃ b3:Bool,r1=.bool b3/\parB b3 (appendD l1 65 6 96 [.int .u64 0,.int .u64 0,.int .u64 0,.slice none 0 0,.slice none 0 0,.slice none 0 0] 1 [.int .u64 n5,.int .u64 n6,.int .u64 n7,.slice l9.a l9.n l9.c,.slice l10.a l10.n l10.c,.slice l8.a l8.n l8.c] h5 λl11 h6=>I l11 (wrap .i64 (n1+1)) (wrap .i64 (n1+1)) 0 0 0 ⟨none,0,0⟩ ⟨none,0,0⟩ ⟨none,0,0⟩ h6/\m l11 (wrap .i64 (n1+1)) (wrap .i64 (n1+1)) 0 0 0 ⟨none,0,0⟩ ⟨none,0,0⟩ ⟨none,0,0⟩ h6<m l1 n n1 n2 n3 n4 l2 l3 l4 h1) (Q (.tuple ⟨[.slice none 0 0,.int .i64 140]⟩) h5)) (Sl.okCut l n (wrap .i64 (n1+1)) (l.c:Int)/\T103t n5 n6 n7 l6 l7 l8 (Sl.cut l 1 n (wrap .i64 (n1+1)) (l.c:Int)) h2 λr2 h7=>∃ b4:Bool,r2=.bool b4/\parB b4 (appendD l1 65 6 96 [.int .u64 0,.int .u64 0,.int .u64 0,.slice none 0 0,.slice none 0 0,.slice none 0 0] 1 [.int .u64 n5,.int .u64 n6,.int .u64 n7,.slice l6.a l6.n l6.c,.slice l7.a l7.n l7.c,.slice l8.a l8.n l8.c] h7 λl12 h8=>I l12 (wrap .i64 (n1+1)) (wrap .i64 (n1+1)) 0 0 0 ⟨none,0,0⟩ ⟨none,0,0⟩ ⟨none,0,0⟩ h8/\m l12 (wrap .i64 (n1+1)) (wrap .i64 (n1+1)) 0 0 0 ⟨none,0,0⟩ ⟨none,0,0⟩ ⟨none,0,0⟩ h8<m l1 n n1 n2 n3 n4 l2 l3 l4 h1) (Q (.tuple ⟨[.slice none 0 0,.int .i64 140]⟩) h7))) (r=.tuple ⟨[.agg ⟨[.int .u64 n5,.int .u64 n6,.int .u64 n7,.slice l6.a l6.n l6.c,.slice l7.a l7.n l7.c,.slice l8.a l8.n l8.c]⟩,.bool true,.bool false]⟩/\Q (.tuple ⟨[.slice none 0 0,.int .i64 140]⟩) h2)) (∃ b5:Bool,parB b5 (r=.tuple ⟨[.agg ⟨[.int .u64 n5,.int .u64 n6,.int .u64 n7,.slice l6.a l6.n l6.c,.slice l7.a l7.n l7.c,.slice l8.a l8.n l8.c]⟩,.bool false,.bool true]⟩/\par (n<n1) (∃ vs2,h2.row l6.a (l6.n*2) vs2/\(∀ v∈vs2,Value.oneCell' v=true)/\appendD l2 104 2 16 [.int .i64 0,.int .u64 0] l6.n vs2 h2 λl13 h9=>∃ vs3,h9.row l7.a (l7.n*7) vs3/\(∀ v∈vs3,Value.oneCell' v=true)/\appendD l3 108 7 72 [.int .i64 0,.int .u64 0,.int .i64 0,.int .i64 0,.int .i64 0,.string ⟨#[]⟩,.string ⟨#[]⟩] l7.n vs3 h9 λl14 h10=>I l1 n (wrap .i64 (n1+1)) n5 n6 n7 l13 l14 l8 h10/\m l1 n (wrap .i64 (n1+1)) n5 n6 n7 l13 l14 l8 h10<m l1 n n1 n2 n3 n4 l2 l3 l4 h1) (I l1 n (wrap .i64 (n1+1)) n5 n6 n7 l6 l7 l8 h2/\m l1 n (wrap .i64 (n1+1)) n5 n6 n7 l6 l7 l8 h2<m l1 n n1 n2 n3 n4 l2 l3 l4 h1)) (r=.tuple ⟨[.agg ⟨[.int .u64 n5,.int .u64 n6,.int .u64 n7,.slice l6.a l6.n l6.c,.slice l7.a l7.n l7.c,.slice l8.a l8.n l8.c]⟩,.bool false,.bool false]⟩/\Q (.tuple ⟨[.slice none 0 0,.int .i64 140]⟩) h2))) (appendD l3 108 7 72 [.int .i64 0,.int .u64 0,.int .i64 0,.int .i64 0,.int .i64 0,.string ⟨#[]⟩,.string ⟨#[]⟩] 1 [.int .i64 0,.int .u64 0,.int .i64 0,.int .i64 0,.int .i64 0,.string ⟨#[]⟩,.string ⟨#[]⟩] h1 λl15 h11=>par (n<(l.n:Int)) (Sl.okCut l n (l.n:Int) (l.c:Int)/\T103f n2 n3 n4 l2 l15 l4 (Sl.cut l 1 n (l.n:Int) (l.c:Int)) h11 λr3 h12=>∃ b6:Bool,r3=.bool b6/\parB b6 (Q (.tuple ⟨[.slice l1.a l1.n l1.c,.int .i64 0]⟩) h12) (Q (.tuple ⟨[.slice none 0 0,.int .i64 140]⟩) h12)) (Q (.tuple ⟨[.slice l1.a l1.n l1.c,.int .i64 0]⟩) h11))):=by kernel_rfl
def F69.W(T69:Sl->PT)(args:List Value):PT:=match args with
 |[.slice l_a l_n l_c]=>T69 ⟨l_a,l_n,l_c⟩
 |_=>λ_ _=>False
def F69.V:List Value->PT:=F69.W F69.T
theorem F69.ok:FOk Tryd.prog 69 F69.V:=by
 refine⟨⟨_,Tryd.func69,rfl,rfl⟩,λ_=>?_⟩;unfold F69.V F69.W;split;exact denF_okE (GOk.cons F102.ok (GOk.cons F103.ok (GOk.nil))) noV_ok Tryd.func69 (F69.gen noV F102.T F103.Tt F103.Tf ⟨_,_,_⟩);exact λ_ _ h=>h.elim
end Go.Eng.YtblghgacokoklaaDoor
end
section
open Go.Proofs
namespace Go.Eng.YtblghgacokoklaaDoor
def F10.T(l l1:Sl):PT:=λh Q=>
 par ((l.n:Int)=(l1.n:Int)) (∃ (I:Int->Hp->Prop) (m:Int->Hp->Nat),I 0 h/\(∀ n:Int,∀ h1:Hp,I n h1->par (n<(l.n:Int)) (∃ b o,(l.a:Option Addr)=some ⟨b,o,none⟩/\((0:Int)<=n/\n<(l.n:Int))/\∃ n1:Int,h1.at b (o+n.toNat)=some (.int .u8 n1)/\∃ b1 o1,(l1.a:Option Addr)=some ⟨b1,o1,none⟩/\((0:Int)<=n/\n<(l1.n:Int))/\∃ n2:Int,h1.at b1 (o1+n.toNat)=some (.int .u8 n2)/\par (n1=n2) (I (wrap .i64 (n+1)) h1/\m (wrap .i64 (n+1)) h1<m n h1) (Q (.bool false) h1)) (Q (.bool true) h1))) (Q (.bool false) h)
theorem F10.den(V l l1):denF Tryd.prog [] [] V [(58,.loop [(5,.int .i64)] []),(1864,.order [0,1,2,3,4,5,6,7,8])] Tryd.f10 [.v (.slice l.a l.n l.c),.v (.slice l1.a l1.n l1.c)]=F10.T l l1:=by kernel_rfl
def F10.W(T10:Sl->Sl->PT)(args:List Value):PT:=match args with
 |[.slice l_a l_n l_c,.slice l1_a l1_n l1_c]=>T10 ⟨l_a,l_n,l_c⟩ ⟨l1_a,l1_n,l1_c⟩
 |_=>λ_ _=>False
def F10.V:List Value->PT:=F10.W F10.T
theorem F10.ok:FOk Tryd.prog 10 F10.V:=by
 refine⟨⟨_,Tryd.func10,rfl,rfl⟩,λ_=>?_⟩;unfold F10.V F10.W;split;exact denF_okE (GOk.nil) noV_ok Tryd.func10 (F10.den noV ⟨_,_,_⟩ ⟨_,_,_⟩);exact λ_ _ h=>h.elim
def F37.T(l l1:Sl):PT:=λh Q=>
 par ((l.n:Int)=(l1.n:Int)) (∃ (I:Int->Hp->Prop) (m:Int->Hp->Nat),I 0 h/\(∀ n:Int,∀ h1:Hp,I n h1->par (n<(l.n:Int)) (∃ b o,(l.a:Option Addr)=some ⟨b,o,none⟩/\((0:Int)<=n/\n<(l.n:Int))/\∃ s:ByteArray,h1.at b (o+n.toNat)=some (.string s)/\∃ b1 o1,(l1.a:Option Addr)=some ⟨b1,o1,none⟩/\((0:Int)<=n/\n<(l1.n:Int))/\∃ s1:ByteArray,h1.at b1 (o1+n.toNat)=some (.string s1)/\par (s=s1) (I (wrap .i64 (n+1)) h1/\m (wrap .i64 (n+1)) h1<m n h1) (Q (.bool false) h1)) (Q (.bool true) h1))) (Q (.bool false) h)
theorem F37.den(V l l1):denF Tryd.prog [] [] V [(58,.loop [(5,.int .i64)] []),(1864,.order [0,1,2,3,4,5,6,7,8])] Tryd.f37 [.v (.slice l.a l.n l.c),.v (.slice l1.a l1.n l1.c)]=F37.T l l1:=by kernel_rfl
def F37.W(T37:Sl->Sl->PT)(args:List Value):PT:=match args with
 |[.slice l_a l_n l_c,.slice l1_a l1_n l1_c]=>T37 ⟨l_a,l_n,l_c⟩ ⟨l1_a,l1_n,l1_c⟩
 |_=>λ_ _=>False
def F37.V:List Value->PT:=F37.W F37.T
theorem F37.ok:FOk Tryd.prog 37 F37.V:=by
 refine⟨⟨_,Tryd.func37,rfl,rfl⟩,λ_=>?_⟩;unfold F37.V F37.W;split;exact denF_okE (GOk.nil) noV_ok Tryd.func37 (F37.den noV ⟨_,_,_⟩ ⟨_,_,_⟩);exact λ_ _ h=>h.elim
@[reducible] def F68.G(T37:Sl->Sl->PT)(n n1 n2:Int)(l l1 l2:Sl)(n3 n4 n5:Int)(l3 l4 l5:Sl):PT:=λh Q=>
 par (n=n3) (par (n1=n4) (par (n2=n5) (par ((l.n:Int)=(l3.n:Int)) (par ((l1.n:Int)=(l4.n:Int)) (T37 l2 l5 h λr h1=>∃ b:Bool,r=.bool b/\parB b (∃ (I:Int->Hp->Prop) (m:Int->Hp->Nat),I 0 h1/\(∀ n6:Int,∀ h2:Hp,I n6 h2->par (n6<(l.n:Int)) (∃ b1 o,(l.a:Option Addr)=some ⟨b1,o,none⟩/\((0:Int)<=n6/\n6<(l.n:Int))/\∃ n7:Int,h2.at b1 (o+n6.toNat*2)=some (.int .i64 n7)/\∃ n8:Int,h2.at b1 ((o+n6.toNat*2)+1)=some (.int .u64 n8)/\∃ b2 o1,(l3.a:Option Addr)=some ⟨b2,o1,none⟩/\((0:Int)<=n6/\n6<(l3.n:Int))/\∃ n9:Int,h2.at b2 (o1+n6.toNat*2)=some (.int .i64 n9)/\∃ n10:Int,h2.at b2 ((o1+n6.toNat*2)+1)=some (.int .u64 n10)/\par (([.int .i64 n7,.int .u64 n8]:List Value)=[.int .i64 n9,.int .u64 n10]) (I (wrap .i64 (n6+1)) h2/\m (wrap .i64 (n6+1)) h2<m n6 h2) (Q (.bool false) h2)) (∃ (I1:Int->Hp->Prop) (m1:Int->Hp->Nat),I1 0 h2/\(∀ n11:Int,∀ h3:Hp,I1 n11 h3->par (n11<(l1.n:Int)) (∃ b3 o2,(l1.a:Option Addr)=some ⟨b3,o2,none⟩/\((0:Int)<=n11/\n11<(l1.n:Int))/\∃ n12:Int,h3.at b3 (o2+n11.toNat*7)=some (.int .i64 n12)/\∃ n13:Int,h3.at b3 ((o2+n11.toNat*7)+1)=some (.int .u64 n13)/\∃ n14:Int,h3.at b3 ((o2+n11.toNat*7)+2)=some (.int .i64 n14)/\∃ n15:Int,h3.at b3 ((o2+n11.toNat*7)+3)=some (.int .i64 n15)/\∃ n16:Int,h3.at b3 ((o2+n11.toNat*7)+4)=some (.int .i64 n16)/\∃ s:ByteArray,h3.at b3 ((o2+n11.toNat*7)+5)=some (.string s)/\∃ s1:ByteArray,h3.at b3 ((o2+n11.toNat*7)+6)=some (.string s1)/\∃ b4 o3,(l4.a:Option Addr)=some ⟨b4,o3,none⟩/\((0:Int)<=n11/\n11<(l4.n:Int))/\∃ n17:Int,h3.at b4 (o3+n11.toNat*7)=some (.int .i64 n17)/\∃ n18:Int,h3.at b4 ((o3+n11.toNat*7)+1)=some (.int .u64 n18)/\∃ n19:Int,h3.at b4 ((o3+n11.toNat*7)+2)=some (.int .i64 n19)/\∃ n20:Int,h3.at b4 ((o3+n11.toNat*7)+3)=some (.int .i64 n20)/\∃ n21:Int,h3.at b4 ((o3+n11.toNat*7)+4)=some (.int .i64 n21)/\∃ s2:ByteArray,h3.at b4 ((o3+n11.toNat*7)+5)=some (.string s2)/\∃ s3:ByteArray,h3.at b4 ((o3+n11.toNat*7)+6)=some (.string s3)/\par (([.int .i64 n12,.int .u64 n13,.int .i64 n14,.int .i64 n15,.int .i64 n16,.string s,.string s1]:List Value)=[.int .i64 n17,.int .u64 n18,.int .i64 n19,.int .i64 n20,.int .i64 n21,.string s2,.string s3]) (I1 (wrap .i64 (n11+1)) h3/\m1 (wrap .i64 (n11+1)) h3<m1 n11 h3) (Q (.bool false) h3)) (Q (.bool true) h3))))) (Q (.bool false) h1)) (Q (.bool false) h)) (Q (.bool false) h)) (Q (.bool false) h)) (Q (.bool false) h)) (Q (.bool false) h)
def F68.T:=F68.G F37.T
theorem F68.gen(V T37 n n1 n2 l l1 l2 n3 n4 n5 l3 l4 l5):denF Tryd.prog [2,3] [(37,F37.W T37)] V [(58,.loop [(5,.int .i64)] []),(122,.loop [(6,.int .i64)] []),(1864,.order [0,1,2,3,4,5,6,7,8,9,10]),(3912,.order [0,1,2,3,4,5,6,7,8,9,10])] Tryd.f68 [.v (.agg ⟨[.int .u64 n,.int .u64 n1,.int .u64 n2,.slice l.a l.n l.c,.slice l1.a l1.n l1.c,.slice l2.a l2.n l2.c]⟩),.v (.agg ⟨[.int .u64 n3,.int .u64 n4,.int .u64 n5,.slice l3.a l3.n l3.c,.slice l4.a l4.n l4.c,.slice l5.a l5.n l5.c]⟩)]=F68.G T37 n n1 n2 l l1 l2 n3 n4 n5 l3 l4 l5:=by kernel_rfl
def F68.W(T68:Int->Int->Int->Sl->Sl->Sl->Int->Int->Int->Sl->Sl->Sl->PT)(args:List Value):PT:=match args with
 |[.agg ⟨[.int .u64 n,.int .u64 n1,.int .u64 n2,.slice l_a l_n l_c,.slice l1_a l1_n l1_c,.slice l2_a l2_n l2_c]⟩,.agg ⟨[.int .u64 n3,.int .u64 n4,.int .u64 n5,.slice l3_a l3_n l3_c,.slice l4_a l4_n l4_c,.slice l5_a l5_n l5_c]⟩]=>T68 n n1 n2 ⟨l_a,l_n,l_c⟩ ⟨l1_a,l1_n,l1_c⟩ ⟨l2_a,l2_n,l2_c⟩ n3 n4 n5 ⟨l3_a,l3_n,l3_c⟩ ⟨l4_a,l4_n,l4_c⟩ ⟨l5_a,l5_n,l5_c⟩
 |_=>λ_ _=>False
def F68.V:List Value->PT:=F68.W F68.T
theorem F68.ok:FOk Tryd.prog 68 F68.V:=by
 refine⟨⟨_,Tryd.func68,rfl,rfl⟩,λ_=>?_⟩;unfold F68.V F68.W;split;exact denF_okE (GOk.cons F37.ok (GOk.nil)) noV_ok Tryd.func68 (F68.gen noV F37.T _ _ _ ⟨_,_,_⟩ ⟨_,_,_⟩ ⟨_,_,_⟩ _ _ _ ⟨_,_,_⟩ ⟨_,_,_⟩ ⟨_,_,_⟩);exact λ_ _ h=>h.elim
def F38.T(n:Int):PT:=λh Q=>
 par (n=108) (Q (.bool true) h) (par (n=109) (Q (.bool true) h) (par (n=116) (Q (.bool true) h) (Q (.bool false) h)))
theorem F38.den(V n):denF Tryd.prog [] [] V [] Tryd.f38 [.v (.int .u8 n)]=F38.T n:=by kernel_rfl
def F38.W(T38:Int->PT)(args:List Value):PT:=match args with
 |[.int .u8 n]=>T38 n
 |_=>λ_ _=>False
def F38.V:List Value->PT:=F38.W F38.T
theorem F38.ok:FOk Tryd.prog 38 F38.V:=by
 refine⟨⟨_,Tryd.func38,rfl,rfl⟩,λ_=>?_⟩;unfold F38.V F38.W;split;exact denF_okE (GOk.nil) noV_ok Tryd.func38 (F38.den noV _);exact λ_ _ h=>h.elim
@[reducible] def F8.G(T38:Int->PT)(n n1:Int):PT:=λh Q=>
 T38 n h λr h1=>∃ b:Bool,r=.bool b/\parB b (par ((1000000000000:Int)<=n1) (Q (.string ⟨#[]⟩) h1) (∀ b1,h1 b1=none->∃ cs t,(h1.new b1 (.cells ⟨[.int .u8 63,.int .u8 45,.int .u8 48,.int .u8 48,.int .u8 48,.int .u8 48,.int .u8 48,.int .u8 48,.int .u8 48,.int .u8 48,.int .u8 48,.int .u8 48,.int .u8 48,.int .u8 48]⟩ 5 (0,0))) b1=some (.cells cs t (0,0))/\∃ b2 o,((some ⟨b1,0,none⟩):Option Addr)=some ⟨b2,o,none⟩/\((0:Int)<=0/\0<(14:Int))/\((h1.new b1 (.cells ⟨[.int .u8 63,.int .u8 45,.int .u8 48,.int .u8 48,.int .u8 48,.int .u8 48,.int .u8 48,.int .u8 48,.int .u8 48,.int .u8 48,.int .u8 48,.int .u8 48,.int .u8 48,.int .u8 48]⟩ 5 (0,0))).new b1 (.cells cs t (cs.size,cs.size+1))).canW b2 (o+(0:Int).toNat) 1/\∃ (I:Int->Int->Hp->Prop) (m:Int->Int->Hp->Nat),I n1 (wrap .i64 ((14:Int)-1)) (((h1.new b1 (.cells ⟨[.int .u8 63,.int .u8 45,.int .u8 48,.int .u8 48,.int .u8 48,.int .u8 48,.int .u8 48,.int .u8 48,.int .u8 48,.int .u8 48,.int .u8 48,.int .u8 48,.int .u8 48,.int .u8 48]⟩ 5 (0,0))).new b1 (.cells cs t (cs.size,cs.size+1))).wr b2 (o+(0:Int).toNat) [.int .u8 n])/\(∀ n2 n3:Int,∀ h2:Hp,I n2 n3 h2->par ((0:Int)<n2) (∃ b3 o1,((some ⟨b1,0,none⟩):Option Addr)=some ⟨b3,o1,none⟩/\((0:Int)<=n3/\n3<(14:Int))/\∃ n4:Int,h2.at b3 (o1+n3.toNat)=some (.int .u8 n4)/\(10:Int)≠0/\∃ b4 o2,((some ⟨b1,0,none⟩):Option Addr)=some ⟨b4,o2,none⟩/\((0:Int)<=n3/\n3<(14:Int))/\h2.canW b4 (o2+n3.toNat) 1/\(10:Int)≠0/\I (wrap .u64 (Int.tdiv n2 10)) (wrap .i64 (n3-1)) (h2.wr b4 (o2+n3.toNat) [.int .u8 (wrap .u8 (n4+(wrap .u8 (Int.tmod n2 10))))])/\m (wrap .u64 (Int.tdiv n2 10)) (wrap .i64 (n3-1)) (h2.wr b4 (o2+n3.toNat) [.int .u8 (wrap .u8 (n4+(wrap .u8 (Int.tmod n2 10))))])<m n2 n3 h2) (∃ s:ByteArray,h2.row (some ⟨b1,0,none⟩) 14 (bytesV s)/\Q (.string s) h2)))) (Q (.string ⟨#[]⟩) h1)
def F8.T:=F8.G F38.T
theorem F8.gen(V T38 n n1):denF Tryd.prog [] [(38,F38.W T38)] V [(250,.loop [(1,.int .u64),(6,.int .i64)] [])] Tryd.f8 [.v (.int .u8 n),.v (.int .u64 n1)]=F8.G T38 n n1:=by kernel_rfl
def F8.W(T8:Int->Int->PT)(args:List Value):PT:=match args with
 |[.int .u8 n,.int .u64 n1]=>T8 n n1
 |_=>λ_ _=>False
def F8.V:List Value->PT:=F8.W F8.T
theorem F8.ok:FOk Tryd.prog 8 F8.V:=by
 refine⟨⟨_,Tryd.func8,rfl,rfl⟩,λ_=>?_⟩;unfold F8.V F8.W;split;exact denF_okE (GOk.cons F38.ok (GOk.nil)) noV_ok Tryd.func8 (F8.gen noV F38.T _ _);exact λ_ _ h=>h.elim
@[reducible] def F27.G(T8:Int->Int->PT)(T10:Sl->Sl->PT)(T21:Int->Int->Int->Sl->Sl->Sl->PT)(T68:Int->Int->Int->Sl->Sl->Sl->Int->Int->Int->Sl->Sl->Sl->PT)(T69:Sl->PT):PT:=λh Q=>
 ∀ b,h b=none->∀ b1,(h.new b (.cells ⟨[.int .i64 0,.int .u64 4]⟩ 104 (0,0))) b1=none->T21 2 9 300 ⟨(some ⟨b,0,none⟩),1,1⟩ ⟨(some ⟨b1,0,none⟩),1,1⟩ ⟨none,0,0⟩ ((h.new b (.cells ⟨[.int .i64 0,.int .u64 4]⟩ 104 (0,0))).new b1 (.cells ⟨[.int .i64 1,.int .u64 8,.int .i64 455,.int .i64 90,.int .i64 1,.string (ByteArray.mk #[97]),.string (ByteArray.mk #[97])]⟩ 108 (0,0))) λr h1=>∃ l:Sl,r=.slice l.a l.n l.c/\T69 l h1 λr1 h2=>∃ l1:Sl,∃ n:Int,r1=.tuple ⟨[.slice l1.a l1.n l1.c,.int .i64 n]⟩/\par ((l.n:Int)=1) (∃ b2 o,(l.a:Option Addr)=some ⟨b2,o,none⟩/\((0:Int)<=0/\0<(l.n:Int))/\∃ l2:Sl,h2.at b2 (o+(0:Int).toNat)=some (.slice l2.a l2.n l2.c)/\∀ b3,h2 b3=none->(h2.new b3 (.cells ⟨[.int .u8 1,.int .u8 2,.int .u8 9,.int .u8 172,.int .u8 2,.int .u8 1,.int .u8 0,.int .u8 4,.int .u8 1,.int .u8 1,.int .u8 8,.int .u8 199,.int .u8 3,.int .u8 90,.int .u8 1,.int .u8 1,.int .u8 97,.int .u8 1,.int .u8 97,.int .u8 0]⟩ 5 (0,0))).at b2 (o+(0:Int).toNat)=some (.slice l2.a l2.n l2.c)/\T10 l2 ⟨(some ⟨b3,0,none⟩),20,20⟩ (h2.new b3 (.cells ⟨[.int .u8 1,.int .u8 2,.int .u8 9,.int .u8 172,.int .u8 2,.int .u8 1,.int .u8 0,.int .u8 4,.int .u8 1,.int .u8 1,.int .u8 8,.int .u8 199,.int .u8 3,.int .u8 90,.int .u8 1,.int .u8 1,.int .u8 97,.int .u8 1,.int .u8 97,.int .u8 0]⟩ 5 (0,0))) λr2 h3=>∃ b4:Bool,r2=.bool b4/\parB b4 (par (n=0) (par ((l1.n:Int)=1) (∃ b5 o1,(l1.a:Option Addr)=some ⟨b5,o1,none⟩/\((0:Int)<=0/\0<(l1.n:Int))/\∃ n1:Int,h3.at b5 (o1+(0:Int).toNat*6)=some (.int .u64 n1)/\∃ n2:Int,h3.at b5 ((o1+(0:Int).toNat*6)+1)=some (.int .u64 n2)/\∃ n3:Int,h3.at b5 ((o1+(0:Int).toNat*6)+2)=some (.int .u64 n3)/\∃ l3:Sl,h3.at b5 ((o1+(0:Int).toNat*6)+3)=some (.slice l3.a l3.n l3.c)/\∃ l4:Sl,h3.at b5 ((o1+(0:Int).toNat*6)+4)=some (.slice l4.a l4.n l4.c)/\∃ l5:Sl,h3.at b5 ((o1+(0:Int).toNat*6)+5)=some (.slice l5.a l5.n l5.c)/\T68 n1 n2 n3 l3 l4 l5 2 9 300 ⟨(some ⟨b,0,none⟩),1,1⟩ ⟨(some ⟨b1,0,none⟩),1,1⟩ ⟨none,0,0⟩ h3 λr3 h4=>∃ b6:Bool,r3=.bool b6/\parB b6 (T8 116 7 h4 λr4 h5=>∃ s:ByteArray,r4=.string s/\par (s=(ByteArray.mk #[116,45,48,48,48,48,48,48,48,48,48,48,48,55])) (Q (.bool true) h5) (Q (.bool false) h5)) (Q (.bool false) h4)) (Q (.bool false) h3)) (Q (.bool false) h3)) (Q (.bool false) h3)) (Q (.bool false) h2)
def F27.T:=F27.G F8.T F10.T F21.T F68.T F69.T
theorem F27.gen(V T8 T10 T21 T68 T69):denF Tryd.prog [1] [(8,F8.W T8),(10,F10.W T10),(21,F21.W T21),(68,F68.W T68),(69,F69.W T69)] V [(62,.order [0,1,2,3,4,5,6,7,8,9,10,11,12,13,14,15,16,17,18,19,20,21,22,23,24,25,26,27,28,29,30])] Tryd.f27 []=F27.G T8 T10 T21 T68 T69 :=by kernel_rfl
def F27.W(T27:PT)(args:List Value):PT:=match args with
 |[]=>T27
 |_=>λ_ _=>False
def F27.V:List Value->PT:=F27.W F27.T
theorem F27.ok:FOk Tryd.prog 27 F27.V:=by
 refine⟨⟨_,Tryd.func27,rfl,rfl⟩,λ_=>?_⟩;unfold F27.V F27.W;split;exact denF_okE (GOk.cons F8.ok (GOk.cons F10.ok (GOk.cons F21.ok (GOk.cons F68.ok (GOk.cons F69.ok (GOk.nil)))))) noV_ok Tryd.func27 (F27.gen noV F8.T F10.T F21.T F68.T F69.T );exact λ_ _ h=>h.elim
def F58.T(n:Int):PT:=λh Q=>
 ∀ b,h b=none->Q (.pointer (some ⟨b,0,none⟩)) (h.new b (.cells ⟨[.int .i64 n]⟩ 159 (0,0)))
theorem F58.den(V n):denF Tryd.prog [] [] V [] Tryd.f58 [.v (.int .i64 n)]=F58.T n:=by kernel_rfl
def F58.W(T58:Int->PT)(args:List Value):PT:=match args with
 |[.int .i64 n]=>T58 n
 |_=>λ_ _=>False
def F58.V:List Value->PT:=F58.W F58.T
theorem F58.ok:FOk Tryd.prog 58 F58.V:=by
 refine⟨⟨_,Tryd.func58,rfl,rfl⟩,λ_=>?_⟩;unfold F58.V F58.W;split;exact denF_okE (GOk.nil) noV_ok Tryd.func58 (F58.den noV _);exact λ_ _ h=>h.elim
def F60.T(p:Option Addr):PT:=λh Q=>
 ∃ b o,(p:Option Addr)=some ⟨b,o,none⟩/\∃ n:Int,h.at b o=some (.int .i64 n)/\par ((0:Int)<=n) (Q (.bool true) h) (Q (.bool false) h)
theorem F60.den(V p):denF Tryd.prog [] [] V [] Tryd.f60 [.v (.pointer p)]=F60.T p:=by kernel_rfl
def F60.W(T60:Option Addr->PT)(args:List Value):PT:=match args with
 |[.pointer p]=>T60 p
 |_=>λ_ _=>False
def F60.V:List Value->PT:=F60.W F60.T
theorem F60.ok:FOk Tryd.prog 60 F60.V:=by
 refine⟨⟨_,Tryd.func60,rfl,rfl⟩,λ_=>?_⟩;unfold F60.V F60.W;split;exact denF_okE (GOk.nil) noV_ok Tryd.func60 (F60.den noV _);exact λ_ _ h=>h.elim
def F115.T(p:Option Addr)(n:Int):PT:=λh Q=>
 ∃ b o,(p:Option Addr)=some ⟨b,o,none⟩/\∃ n1:Int,h.at b o=some (.int .i64 n1)/\par ((0:Int)<=n1) (∃ b1 o1,(p:Option Addr)=some ⟨b1,o1,none⟩/\∃ n2:Int,h.at b1 o1=some (.int .i64 n2)/\∃ b2 o2,(p:Option Addr)=some ⟨b2,o2,none⟩/\h.canW b2 o2 1/\∃ b3 o3,(p:Option Addr)=some ⟨b3,o3,none⟩/\∃ n3:Int,(h.wr b2 o2 [.int .i64 (wrap .i64 (n2-n))]).at b3 o3=some (.int .i64 n3)/\par ((0:Int)<=n3) (Q (.bool true) (h.wr b2 o2 [.int .i64 (wrap .i64 (n2-n))])) (Q (.bool false) (h.wr b2 o2 [.int .i64 (wrap .i64 (n2-n))]))) (∃ b4 o4,(p:Option Addr)=some ⟨b4,o4,none⟩/\∃ n4:Int,h.at b4 o4=some (.int .i64 n4)/\par ((0:Int)<=n4) (Q (.bool true) h) (Q (.bool false) h))
theorem F115.den(V p n):denF Tryd.prog [] [] V [] Tryd.f115 [.v (.pointer p),.v (.int .i64 n)]=F115.T p n:=by kernel_rfl
def F115.W(T115:Option Addr->Int->PT)(args:List Value):PT:=match args with
 |[.pointer p,.int .i64 n]=>T115 p n
 |_=>λ_ _=>False
def F115.V:List Value->PT:=F115.W F115.T
theorem F115.ok:FOk Tryd.prog 115 F115.V:=by
 refine⟨⟨_,Tryd.func115,rfl,rfl⟩,λ_=>?_⟩;unfold F115.V F115.W;split;exact denF_okE (GOk.nil) noV_ok Tryd.func115 (F115.den noV _ _);exact λ_ _ h=>h.elim
@[reducible] def F116.G(T115:Option Addr->Int->PT)(p:Option Addr)(s:ByteArray):PT:=λh Q=>
 T115 p (wrap .i64 (1+(s.size:Int))) h λr h1=>∃ b:Bool,r=.bool b/\parB b (Q (.tuple ⟨[]⟩) h1) (Q (.tuple ⟨[]⟩) h1)
def F116.T:=F116.G F115.T
theorem F116.gen(V T115 p s):denF Tryd.prog [] [(115,F115.W T115)] V [] Tryd.f116 [.v (.pointer p),.v (.string s)]=F116.G T115 p s:=by kernel_rfl
def F116.W(T116:Option Addr->ByteArray->PT)(args:List Value):PT:=match args with
 |[.pointer p,.string s]=>T116 p s
 |_=>λ_ _=>False
def F116.V:List Value->PT:=F116.W F116.T
theorem F116.ok:FOk Tryd.prog 116 F116.V:=by
 refine⟨⟨_,Tryd.func116,rfl,rfl⟩,λ_=>?_⟩;unfold F116.V F116.W;split;exact denF_okE (GOk.cons F115.ok (GOk.nil)) noV_ok Tryd.func116 (F116.gen noV F115.T _ _);exact λ_ _ h=>h.elim
@[reducible] def F91.G(T60:Option Addr->PT)(T115:Option Addr->Int->PT)(T116:Option Addr->ByteArray->PT)(p:Option Addr)(n n1 n2:Int)(l l1 l2:Sl):PT:=λh Q=>
 T115 p (wrap .i64 (1+(l.n:Int))) h λr h1=>∃ b:Bool,r=.bool b/\parB b (∃ J:Hp->Prop,(∀ h2:Hp,J h2->∃ (I:Int->Hp->Prop) (m:Int->Hp->Nat),I 0 h2/\(∀ n3:Int,∀ h3:Hp,I n3 h3->par (n3<(l2.n:Int)) (T60 p h3 λr1 h4=>∃ b1:Bool,r1=.bool b1/\parB b1 (∃ b2 o,(l2.a:Option Addr)=some ⟨b2,o,none⟩/\((0:Int)<=n3/\n3<(l2.n:Int))/\∃ s:ByteArray,h4.at b2 (o+n3.toNat)=some (.string s)/\T116 p s h4 λr2 h5=>I (wrap .i64 (n3+1)) h5/\m (wrap .i64 (n3+1)) h5<m n3 h3) (Q (.tuple ⟨[]⟩) h4)) (Q (.tuple ⟨[]⟩) h3)))/\(∃ (I1:Int->Hp->Prop) (m1:Int->Hp->Nat),I1 0 h1/\(∀ n4:Int,∀ h6:Hp,I1 n4 h6->par (n4<(l1.n:Int)) (T60 p h6 λr3 h7=>∃ b3:Bool,r3=.bool b3/\parB b3 (∃ b4 o1,(l1.a:Option Addr)=some ⟨b4,o1,none⟩/\((0:Int)<=n4/\n4<(l1.n:Int))/\∃ s1:ByteArray,h7.at b4 (((o1+n4.toNat*7)+1)+4)=some (.string s1)/\T116 p s1 h7 λr4 h8=>∃ b5 o2,(l1.a:Option Addr)=some ⟨b5,o2,none⟩/\((0:Int)<=n4/\n4<(l1.n:Int))/\∃ s2:ByteArray,h8.at b5 (((o2+n4.toNat*7)+1)+5)=some (.string s2)/\T115 p (s2.size:Int) h8 λr5 h9=>∃ b6:Bool,r5=.bool b6/\parB b6 (I1 (wrap .i64 (n4+1)) h9/\m1 (wrap .i64 (n4+1)) h9<m1 n4 h6) (I1 (wrap .i64 (n4+1)) h9/\m1 (wrap .i64 (n4+1)) h9<m1 n4 h6)) (J h7)) (J h6)))) (∃ J1:Hp->Prop,(∀ h10:Hp,J1 h10->∃ (I2:Int->Hp->Prop) (m2:Int->Hp->Nat),I2 0 h10/\(∀ n5:Int,∀ h11:Hp,I2 n5 h11->par (n5<(l2.n:Int)) (T60 p h11 λr6 h12=>∃ b7:Bool,r6=.bool b7/\parB b7 (∃ b8 o3,(l2.a:Option Addr)=some ⟨b8,o3,none⟩/\((0:Int)<=n5/\n5<(l2.n:Int))/\∃ s3:ByteArray,h12.at b8 (o3+n5.toNat)=some (.string s3)/\T116 p s3 h12 λr7 h13=>I2 (wrap .i64 (n5+1)) h13/\m2 (wrap .i64 (n5+1)) h13<m2 n5 h11) (Q (.tuple ⟨[]⟩) h12)) (Q (.tuple ⟨[]⟩) h11)))/\(∃ (I3:Int->Hp->Prop) (m3:Int->Hp->Nat),I3 0 h1/\(∀ n6:Int,∀ h14:Hp,I3 n6 h14->par (n6<(l1.n:Int)) (T60 p h14 λr8 h15=>∃ b9:Bool,r8=.bool b9/\parB b9 (∃ b10 o4,(l1.a:Option Addr)=some ⟨b10,o4,none⟩/\((0:Int)<=n6/\n6<(l1.n:Int))/\∃ s4:ByteArray,h15.at b10 (((o4+n6.toNat*7)+1)+4)=some (.string s4)/\T116 p s4 h15 λr9 h16=>∃ b11 o5,(l1.a:Option Addr)=some ⟨b11,o5,none⟩/\((0:Int)<=n6/\n6<(l1.n:Int))/\∃ s5:ByteArray,h16.at b11 (((o5+n6.toNat*7)+1)+5)=some (.string s5)/\T115 p (s5.size:Int) h16 λr10 h17=>∃ b12:Bool,r10=.bool b12/\parB b12 (I3 (wrap .i64 (n6+1)) h17/\m3 (wrap .i64 (n6+1)) h17<m3 n6 h14) (I3 (wrap .i64 (n6+1)) h17/\m3 (wrap .i64 (n6+1)) h17<m3 n6 h14)) (J1 h15)) (J1 h14))))
def F91.T:=F91.G F60.T F115.T F116.T
theorem F91.gen(V T60 T115 T116 p n n1 n2 l l1 l2):denF Tryd.prog [3] [(60,F60.W T60),(115,F115.W T115),(116,F116.W T116)] V [(7,.join [] []),(58,.loop [(4,.int .i64)] []),(62,.loop [(5,.int .i64)] [])] Tryd.f91 [.v (.pointer p),.v (.agg ⟨[.int .u64 n,.int .u64 n1,.int .u64 n2,.slice l.a l.n l.c,.slice l1.a l1.n l1.c,.slice l2.a l2.n l2.c]⟩)]=F91.G T60 T115 T116 p n n1 n2 l l1 l2:=by kernel_rfl
def F91.W(T91:Option Addr->Int->Int->Int->Sl->Sl->Sl->PT)(args:List Value):PT:=match args with
 |[.pointer p,.agg ⟨[.int .u64 n,.int .u64 n1,.int .u64 n2,.slice l_a l_n l_c,.slice l1_a l1_n l1_c,.slice l2_a l2_n l2_c]⟩]=>T91 p n n1 n2 ⟨l_a,l_n,l_c⟩ ⟨l1_a,l1_n,l1_c⟩ ⟨l2_a,l2_n,l2_c⟩
 |_=>λ_ _=>False
def F91.V:List Value->PT:=F91.W F91.T
theorem F91.ok:FOk Tryd.prog 91 F91.V:=by
 refine⟨⟨_,Tryd.func91,rfl,rfl⟩,λ_=>?_⟩;unfold F91.V F91.W;split;exact denF_okE (GOk.cons F60.ok (GOk.cons F115.ok (GOk.cons F116.ok (GOk.nil)))) noV_ok Tryd.func91 (F91.gen noV F60.T F115.T F116.T _ _ _ _ ⟨_,_,_⟩ ⟨_,_,_⟩ ⟨_,_,_⟩);exact λ_ _ h=>h.elim
@[reducible] def F59.G(T60:Option Addr->PT)(T91:Option Addr->Int->Int->Int->Sl->Sl->Sl->PT)(p:Option Addr)(l:Sl):PT:=λh Q=>
 ∃ (I:Int->Hp->Prop) (m:Int->Hp->Nat),I 0 h/\(∀ n:Int,∀ h1:Hp,I n h1->par (n<(l.n:Int)) (T60 p h1 λr h2=>∃ b:Bool,r=.bool b/\parB b (∃ b1 o,(l.a:Option Addr)=some ⟨b1,o,none⟩/\((0:Int)<=n/\n<(l.n:Int))/\∃ n1:Int,h2.at b1 (o+n.toNat*6)=some (.int .u64 n1)/\∃ n2:Int,h2.at b1 ((o+n.toNat*6)+1)=some (.int .u64 n2)/\∃ n3:Int,h2.at b1 ((o+n.toNat*6)+2)=some (.int .u64 n3)/\∃ l1:Sl,h2.at b1 ((o+n.toNat*6)+3)=some (.slice l1.a l1.n l1.c)/\∃ l2:Sl,h2.at b1 ((o+n.toNat*6)+4)=some (.slice l2.a l2.n l2.c)/\∃ l3:Sl,h2.at b1 ((o+n.toNat*6)+5)=some (.slice l3.a l3.n l3.c)/\T91 p n1 n2 n3 l1 l2 l3 h2 λr1 h3=>I (wrap .i64 (n+1)) h3/\m (wrap .i64 (n+1)) h3<m n h1) (Q (.tuple ⟨[]⟩) h2)) (Q (.tuple ⟨[]⟩) h1))
def F59.T:=F59.G F60.T F91.T
theorem F59.gen(V T60 T91 p l):denF Tryd.prog [] [(60,F60.W T60),(91,F91.W T91)] V [(6,.loop [(4,.int .i64)] [])] Tryd.f59 [.v (.pointer p),.v (.slice l.a l.n l.c)]=F59.G T60 T91 p l:=by kernel_rfl
def F59.W(T59:Option Addr->Sl->PT)(args:List Value):PT:=match args with
 |[.pointer p,.slice l_a l_n l_c]=>T59 p ⟨l_a,l_n,l_c⟩
 |_=>λ_ _=>False
def F59.V:List Value->PT:=F59.W F59.T
theorem F59.ok:FOk Tryd.prog 59 F59.V:=by
 refine⟨⟨_,Tryd.func59,rfl,rfl⟩,λ_=>?_⟩;unfold F59.V F59.W;split;exact denF_okE (GOk.cons F60.ok (GOk.cons F91.ok (GOk.nil))) noV_ok Tryd.func59 (F59.gen noV F60.T F91.T _ ⟨_,_,_⟩);exact λ_ _ h=>h.elim
@[reducible] def F17.G(T58:Int->PT)(T59:Option Addr->Sl->PT)(T60:Option Addr->PT)(l:Sl):PT:=λh Q=>
 T58 10000 h λr h1=>∃ p:Option Addr,r=.pointer p/\T59 p l h1 λr1 h2=>T60 p h2 λr2 h3=>∃ b:Bool,r2=.bool b/\parB b (Q (.bool true) h3) (Q (.bool false) h3)
def F17.T:=F17.G F58.T F59.T F60.T
theorem F17.gen(V T58 T59 T60 l):denF Tryd.prog [] [(58,F58.W T58),(59,F59.W T59),(60,F60.W T60)] V [] Tryd.f17 [.v (.slice l.a l.n l.c)]=F17.G T58 T59 T60 l:=by kernel_rfl
def F17.W(T17:Sl->PT)(args:List Value):PT:=match args with
 |[.slice l_a l_n l_c]=>T17 ⟨l_a,l_n,l_c⟩
 |_=>λ_ _=>False
def F17.V:List Value->PT:=F17.W F17.T
theorem F17.ok:FOk Tryd.prog 17 F17.V:=by
 refine⟨⟨_,Tryd.func17,rfl,rfl⟩,λ_=>?_⟩;unfold F17.V F17.W;split;exact denF_okE (GOk.cons F58.ok (GOk.cons F59.ok (GOk.cons F60.ok (GOk.nil)))) noV_ok Tryd.func17 (F17.gen noV F58.T F59.T F60.T ⟨_,_,_⟩);exact λ_ _ h=>h.elim
def F28.T(n n1:Int):PT:=λh Q=>
 par (n<0) (n1≠0/\Q (.int .i64 (Int.tmod (wrap .i64 (0-(wrap .i64 (n+1)))) n1)) h) (n1≠0/\Q (.int .i64 (Int.tmod n n1)) h)
theorem F28.den(V n n1):denF Tryd.prog [] [] V [] Tryd.f28 [.v (.int .i64 n),.v (.int .i64 n1)]=F28.T n n1:=by kernel_rfl
def F28.W(T28:Int->Int->PT)(args:List Value):PT:=match args with
 |[.int .i64 n,.int .i64 n1]=>T28 n n1
 |_=>λ_ _=>False
def F28.V:List Value->PT:=F28.W F28.T
theorem F28.ok:FOk Tryd.prog 28 F28.V:=by
 refine⟨⟨_,Tryd.func28,rfl,rfl⟩,λ_=>?_⟩;unfold F28.V F28.W;split;exact denF_okE (GOk.nil) noV_ok Tryd.func28 (F28.den noV _ _);exact λ_ _ h=>h.elim
def F18.T(l:Sl):PT:=λh Q=>
 ∃ (I:Sl->Int->Hp->Prop) (m:Sl->Int->Hp->Nat),I ⟨none,0,0⟩ 0 h/\(∀ l1:Sl,∀ n:Int,∀ h1:Hp,I l1 n h1->par (n<(l.n:Int)) (∃ b o,(l.a:Option Addr)=some ⟨b,o,none⟩/\((0:Int)<=n/\n<(l.n:Int))/\∃ n1:Int,h1.at b (o+n.toNat*6)=some (.int .u64 n1)/\∃ n2:Int,h1.at b ((o+n.toNat*6)+1)=some (.int .u64 n2)/\∃ n3:Int,h1.at b ((o+n.toNat*6)+2)=some (.int .u64 n3)/\∃ l2:Sl,h1.at b ((o+n.toNat*6)+3)=some (.slice l2.a l2.n l2.c)/\∃ l3:Sl,h1.at b ((o+n.toNat*6)+4)=some (.slice l3.a l3.n l3.c)/\∃ l4:Sl,h1.at b ((o+n.toNat*6)+5)=some (.slice l4.a l4.n l4.c)/\∃ vs,h1.row l2.a (l2.n*2) vs/\(∀ v∈vs,Value.oneCell' v=true)/\appendD ⟨none,0,0⟩ 104 2 16 [.int .i64 0,.int .u64 0] l2.n vs h1 λl5 h2=>∃ vs1,h2.row l3.a (l3.n*7) vs1/\(∀ v∈vs1,Value.oneCell' v=true)/\appendD ⟨none,0,0⟩ 108 7 72 [.int .i64 0,.int .u64 0,.int .i64 0,.int .i64 0,.int .i64 0,.string ⟨#[]⟩,.string ⟨#[]⟩] l3.n vs1 h2 λl6 h3=>∃ vs2,h3.row l4.a (l4.n*1) vs2/\(∀ v∈vs2,Value.oneCell' v=true)/\appendD ⟨none,0,0⟩ 9 1 16 [.string ⟨#[]⟩] l4.n vs2 h3 λl7 h4=>appendD l1 65 6 96 [.int .u64 0,.int .u64 0,.int .u64 0,.slice none 0 0,.slice none 0 0,.slice none 0 0] 1 [.int .u64 n1,.int .u64 n2,.int .u64 n3,.slice l5.a l5.n l5.c,.slice l6.a l6.n l6.c,.slice l7.a l7.n l7.c] h4 λl8 h5=>I l8 (wrap .i64 (n+1)) h5/\m l8 (wrap .i64 (n+1)) h5<m l1 n h1) (Q (.slice l1.a l1.n l1.c) h1))
theorem F18.den(V l):denF Tryd.prog [5,30] [] V [(58,.loop [(3,.sl),(4,.int .i64)] [])] Tryd.f18 [.v (.slice l.a l.n l.c)]=F18.T l:=by kernel_rfl
def F18.W(T18:Sl->PT)(args:List Value):PT:=match args with
 |[.slice l_a l_n l_c]=>T18 ⟨l_a,l_n,l_c⟩
 |_=>λ_ _=>False
def F18.V:List Value->PT:=F18.W F18.T
theorem F18.ok:FOk Tryd.prog 18 F18.V:=by
 refine⟨⟨_,Tryd.func18,rfl,rfl⟩,λ_=>?_⟩;unfold F18.V F18.W;split;exact denF_okE (GOk.nil) noV_ok Tryd.func18 (F18.den noV ⟨_,_,_⟩);exact λ_ _ h=>h.elim
@[reducible] def F30.G(T18:Sl->PT)(T28:Int->Int->PT)(l:Sl):PT:=λh Q=>
 T18 l h λr h1=>∃ l1:Sl,r=.slice l1.a l1.n l1.c/\∃ (I:Int->Hp->Prop) (m:Int->Hp->Nat),I 0 h1/\(∀ n:Int,∀ h2:Hp,I n h2->par (n<(l1.n:Int)) (∃ (I1:Int->Hp->Prop) (m1:Int->Hp->Nat),I1 0 h2/\(∀ n1:Int,∀ h3:Hp,I1 n1 h3->∃ b o,(l1.a:Option Addr)=some ⟨b,o,none⟩/\((0:Int)<=n/\n<(l1.n:Int))/\∃ l2:Sl,h3.at b ((o+n.toNat*6)+3)=some (.slice l2.a l2.n l2.c)/\par (n1<(l2.n:Int)) (∃ b1 o1,(l1.a:Option Addr)=some ⟨b1,o1,none⟩/\((0:Int)<=n/\n<(l1.n:Int))/\∃ l3:Sl,h3.at b1 ((o1+n.toNat*6)+3)=some (.slice l3.a l3.n l3.c)/\∃ b2 o2,(l1.a:Option Addr)=some ⟨b2,o2,none⟩/\((0:Int)<=n/\n<(l1.n:Int))/\∃ l4:Sl,h3.at b2 ((o2+n.toNat*6)+3)=some (.slice l4.a l4.n l4.c)/\∃ b3 o3,(l4.a:Option Addr)=some ⟨b3,o3,none⟩/\((0:Int)<=n1/\n1<(l4.n:Int))/\∃ n2:Int,h3.at b3 (o3+n1.toNat*2)=some (.int .i64 n2)/\T28 n2 5 h3 λr1 h4=>∃ n3:Int,r1=.int .i64 n3/\h4.at b1 ((o1+n.toNat*6)+3)=some (.slice l3.a l3.n l3.c)/\∃ b4 o4,(l3.a:Option Addr)=some ⟨b4,o4,none⟩/\((0:Int)<=n1/\n1<(l3.n:Int))/\h4.canW b4 (o4+n1.toNat*2) 1/\I1 (wrap .i64 (n1+1)) (h4.wr b4 (o4+n1.toNat*2) [.int .i64 n3])/\m1 (wrap .i64 (n1+1)) (h4.wr b4 (o4+n1.toNat*2) [.int .i64 n3])<m1 n1 h3) (∃ (I2:Int->Hp->Prop) (m2:Int->Hp->Nat),I2 0 h3/\(∀ n4:Int,∀ h5:Hp,I2 n4 h5->∃ b5 o5,(l1.a:Option Addr)=some ⟨b5,o5,none⟩/\((0:Int)<=n/\n<(l1.n:Int))/\∃ l5:Sl,h5.at b5 ((o5+n.toNat*6)+4)=some (.slice l5.a l5.n l5.c)/\par (n4<(l5.n:Int)) (∃ b6 o6,(l1.a:Option Addr)=some ⟨b6,o6,none⟩/\((0:Int)<=n/\n<(l1.n:Int))/\∃ l6:Sl,h5.at b6 ((o6+n.toNat*6)+4)=some (.slice l6.a l6.n l6.c)/\∃ b7 o7,(l6.a:Option Addr)=some ⟨b7,o7,none⟩/\((0:Int)<=n4/\n4<(l6.n:Int))/\∃ n5:Int,h5.at b7 (o7+n4.toNat*7)=some (.int .i64 n5)/\T28 n5 5 h5 λr2 h6=>∃ n6:Int,r2=.int .i64 n6/\h6.canW b7 (o7+n4.toNat*7) 1/\∃ n7:Int,(h6.wr b7 (o7+n4.toNat*7) [.int .i64 n6]).at b7 (((o7+n4.toNat*7)+1)+1)=some (.int .i64 n7)/\∃ n8:Int,(h6.wr b7 (o7+n4.toNat*7) [.int .i64 n6]).at b7 (((o7+n4.toNat*7)+1)+2)=some (.int .i64 n8)/\∃ n9:Int,(h6.wr b7 (o7+n4.toNat*7) [.int .i64 n6]).at b7 (((o7+n4.toNat*7)+1)+3)=some (.int .i64 n9)/\(h6.wr b7 (o7+n4.toNat*7) [.int .i64 n6]).canW b7 (((o7+n4.toNat*7)+1)+1) 1/\((h6.wr b7 (o7+n4.toNat*7) [.int .i64 n6]).wr b7 (((o7+n4.toNat*7)+1)+1) [.int .i64 (iMax n7 0)]).canW b7 (((o7+n4.toNat*7)+1)+2) 1/\(((h6.wr b7 (o7+n4.toNat*7) [.int .i64 n6]).wr b7 (((o7+n4.toNat*7)+1)+1) [.int .i64 (iMax n7 0)]).wr b7 (((o7+n4.toNat*7)+1)+2) [.int .i64 (iMax n8 0)]).canW b7 (((o7+n4.toNat*7)+1)+3) 1/\∃ s:ByteArray,((((h6.wr b7 (o7+n4.toNat*7) [.int .i64 n6]).wr b7 (((o7+n4.toNat*7)+1)+1) [.int .i64 (iMax n7 0)]).wr b7 (((o7+n4.toNat*7)+1)+2) [.int .i64 (iMax n8 0)]).wr b7 (((o7+n4.toNat*7)+1)+3) [.int .i64 (iMax n9 0)]).at b7 (((o7+n4.toNat*7)+1)+4)=some (.string s)/\∃ s1:ByteArray,((((h6.wr b7 (o7+n4.toNat*7) [.int .i64 n6]).wr b7 (((o7+n4.toNat*7)+1)+1) [.int .i64 (iMax n7 0)]).wr b7 (((o7+n4.toNat*7)+1)+2) [.int .i64 (iMax n8 0)]).wr b7 (((o7+n4.toNat*7)+1)+3) [.int .i64 (iMax n9 0)]).at b7 (((o7+n4.toNat*7)+1)+4)=some (.string s1)/\okSub s 0 (iMin (s1.size:Int) 64)/\((((h6.wr b7 (o7+n4.toNat*7) [.int .i64 n6]).wr b7 (((o7+n4.toNat*7)+1)+1) [.int .i64 (iMax n7 0)]).wr b7 (((o7+n4.toNat*7)+1)+2) [.int .i64 (iMax n8 0)]).wr b7 (((o7+n4.toNat*7)+1)+3) [.int .i64 (iMax n9 0)]).canW b7 (((o7+n4.toNat*7)+1)+4) 1/\∃ s2:ByteArray,(((((h6.wr b7 (o7+n4.toNat*7) [.int .i64 n6]).wr b7 (((o7+n4.toNat*7)+1)+1) [.int .i64 (iMax n7 0)]).wr b7 (((o7+n4.toNat*7)+1)+2) [.int .i64 (iMax n8 0)]).wr b7 (((o7+n4.toNat*7)+1)+3) [.int .i64 (iMax n9 0)]).wr b7 (((o7+n4.toNat*7)+1)+4) [.string (s.extract (0:Int).toNat ((iMin (s1.size:Int) 64):Int).toNat)]).at b7 (((o7+n4.toNat*7)+1)+5)=some (.string s2)/\∃ s3:ByteArray,(((((h6.wr b7 (o7+n4.toNat*7) [.int .i64 n6]).wr b7 (((o7+n4.toNat*7)+1)+1) [.int .i64 (iMax n7 0)]).wr b7 (((o7+n4.toNat*7)+1)+2) [.int .i64 (iMax n8 0)]).wr b7 (((o7+n4.toNat*7)+1)+3) [.int .i64 (iMax n9 0)]).wr b7 (((o7+n4.toNat*7)+1)+4) [.string (s.extract (0:Int).toNat ((iMin (s1.size:Int) 64):Int).toNat)]).at b7 (((o7+n4.toNat*7)+1)+5)=some (.string s3)/\okSub s2 0 (iMin (s3.size:Int) 64)/\(((((h6.wr b7 (o7+n4.toNat*7) [.int .i64 n6]).wr b7 (((o7+n4.toNat*7)+1)+1) [.int .i64 (iMax n7 0)]).wr b7 (((o7+n4.toNat*7)+1)+2) [.int .i64 (iMax n8 0)]).wr b7 (((o7+n4.toNat*7)+1)+3) [.int .i64 (iMax n9 0)]).wr b7 (((o7+n4.toNat*7)+1)+4) [.string (s.extract (0:Int).toNat ((iMin (s1.size:Int) 64):Int).toNat)]).canW b7 (((o7+n4.toNat*7)+1)+5) 1/\I2 (wrap .i64 (n4+1)) ((((((h6.wr b7 (o7+n4.toNat*7) [.int .i64 n6]).wr b7 (((o7+n4.toNat*7)+1)+1) [.int .i64 (iMax n7 0)]).wr b7 (((o7+n4.toNat*7)+1)+2) [.int .i64 (iMax n8 0)]).wr b7 (((o7+n4.toNat*7)+1)+3) [.int .i64 (iMax n9 0)]).wr b7 (((o7+n4.toNat*7)+1)+4) [.string (s.extract (0:Int).toNat ((iMin (s1.size:Int) 64):Int).toNat)]).wr b7 (((o7+n4.toNat*7)+1)+5) [.string (s2.extract (0:Int).toNat ((iMin (s3.size:Int) 64):Int).toNat)])/\m2 (wrap .i64 (n4+1)) ((((((h6.wr b7 (o7+n4.toNat*7) [.int .i64 n6]).wr b7 (((o7+n4.toNat*7)+1)+1) [.int .i64 (iMax n7 0)]).wr b7 (((o7+n4.toNat*7)+1)+2) [.int .i64 (iMax n8 0)]).wr b7 (((o7+n4.toNat*7)+1)+3) [.int .i64 (iMax n9 0)]).wr b7 (((o7+n4.toNat*7)+1)+4) [.string (s.extract (0:Int).toNat ((iMin (s1.size:Int) 64):Int).toNat)]).wr b7 (((o7+n4.toNat*7)+1)+5) [.string (s2.extract (0:Int).toNat ((iMin (s3.size:Int) 64):Int).toNat)])<m2 n4 h5) (∃ b8 o8,(l1.a:Option Addr)=some ⟨b8,o8,none⟩/\((0:Int)<=n/\n<(l1.n:Int))/\∃ l7:Sl,h5.at b8 ((o8+n.toNat*6)+5)=some (.slice l7.a l7.n l7.c)/\∃ b9 o9,(l1.a:Option Addr)=some ⟨b9,o9,none⟩/\((0:Int)<=n/\n<(l1.n:Int))/\∃ l8:Sl,h5.at b9 ((o9+n.toNat*6)+5)=some (.slice l8.a l8.n l8.c)/\Sl.okCut l7 0 (iMin (l8.n:Int) 5) (l7.c:Int)/\∃ b10 o10,(l1.a:Option Addr)=some ⟨b10,o10,none⟩/\((0:Int)<=n/\n<(l1.n:Int))/\h5.canW b10 ((o10+n.toNat*6)+5) 1/\∃ (I3:Int->Hp->Prop) (m3:Int->Hp->Nat),I3 0 (h5.wr b10 ((o10+n.toNat*6)+5) [.slice (Sl.cut l7 1 0 (iMin (l8.n:Int) 5) (l7.c:Int)).a (Sl.cut l7 1 0 (iMin (l8.n:Int) 5) (l7.c:Int)).n (Sl.cut l7 1 0 (iMin (l8.n:Int) 5) (l7.c:Int)).c])/\(∀ n10:Int,∀ h7:Hp,I3 n10 h7->∃ b11 o11,(l1.a:Option Addr)=some ⟨b11,o11,none⟩/\((0:Int)<=n/\n<(l1.n:Int))/\∃ l9:Sl,h7.at b11 ((o11+n.toNat*6)+5)=some (.slice l9.a l9.n l9.c)/\par (n10<(l9.n:Int)) (∃ b12 o12,(l1.a:Option Addr)=some ⟨b12,o12,none⟩/\((0:Int)<=n/\n<(l1.n:Int))/\∃ l10:Sl,h7.at b12 ((o12+n.toNat*6)+5)=some (.slice l10.a l10.n l10.c)/\∃ b13 o13,(l1.a:Option Addr)=some ⟨b13,o13,none⟩/\((0:Int)<=n/\n<(l1.n:Int))/\∃ l11:Sl,h7.at b13 ((o13+n.toNat*6)+5)=some (.slice l11.a l11.n l11.c)/\∃ b14 o14,(l11.a:Option Addr)=some ⟨b14,o14,none⟩/\((0:Int)<=n10/\n10<(l11.n:Int))/\∃ s4:ByteArray,h7.at b14 (o14+n10.toNat)=some (.string s4)/\∃ b15 o15,(l1.a:Option Addr)=some ⟨b15,o15,none⟩/\((0:Int)<=n/\n<(l1.n:Int))/\∃ l12:Sl,h7.at b15 ((o15+n.toNat*6)+5)=some (.slice l12.a l12.n l12.c)/\∃ b16 o16,(l12.a:Option Addr)=some ⟨b16,o16,none⟩/\((0:Int)<=n10/\n10<(l12.n:Int))/\∃ s5:ByteArray,h7.at b16 (o16+n10.toNat)=some (.string s5)/\okSub s4 0 (iMin (s5.size:Int) 64)/\∃ b17 o17,(l10.a:Option Addr)=some ⟨b17,o17,none⟩/\((0:Int)<=n10/\n10<(l10.n:Int))/\h7.canW b17 (o17+n10.toNat) 1/\I3 (wrap .i64 (n10+1)) (h7.wr b17 (o17+n10.toNat) [.string (s4.extract (0:Int).toNat ((iMin (s5.size:Int) 64):Int).toNat)])/\m3 (wrap .i64 (n10+1)) (h7.wr b17 (o17+n10.toNat) [.string (s4.extract (0:Int).toNat ((iMin (s5.size:Int) 64):Int).toNat)])<m3 n10 h7) (I (wrap .i64 (n+1)) h7/\m (wrap .i64 (n+1)) h7<m n h2))))))) (Q (.slice l1.a l1.n l1.c) h2))
def F30.T:=F30.G F18.T F28.T
theorem F30.gen(V T18 T28 l):denF Tryd.prog [] [(18,F18.W T18),(28,F28.W T28)] V [(58,.loop [(4,.int .i64)] []),(7458,.loop [(5,.int .i64)] []),(7462,.order [0,1,2,3,4,5,6,7,8,9,10,11,12,13,14,15,16,17]),(14922,.loop [(6,.int .i64)] []),(29854,.loop [(8,.int .i64)] []),(119332,.order [0,1,2,3,4,5,6,7,8,9,10,11,12,13,14,15,16,17,18]),(477668,.order [0,1,2,3,4,5,6,7,8,9,10,11,12,13,14,15,16,17,18,19,20,21,22,23,24,25,26]),(1910054,.order [0,1,2,3,4,5,6,7,8,9,10,11,12,13,14,15,16,17,18,19,20,21,22,23,24,25,26,27,28,29,30,31,32]),(3820110,.order [0,1,2,3,4,5,6,7,8,9,10,11,12,13,14,15,16,17]),(3820111,.order [0,1,2,3,4,5,6,7,8,9,10,11,12,13,14,15,16,17])] Tryd.f30 [.v (.slice l.a l.n l.c)]=F30.G T18 T28 l:=by kernel_rfl
def F30.W(T30:Sl->PT)(args:List Value):PT:=match args with
 |[.slice l_a l_n l_c]=>T30 ⟨l_a,l_n,l_c⟩
 |_=>λ_ _=>False
def F30.V:List Value->PT:=F30.W F30.T
theorem F30.ok:FOk Tryd.prog 30 F30.V:=by
 refine⟨⟨_,Tryd.func30,rfl,rfl⟩,λ_=>?_⟩;unfold F30.V F30.W;split;exact denF_okE (GOk.cons F18.ok (GOk.cons F28.ok (GOk.nil))) noV_ok Tryd.func30 (F30.gen noV F18.T F28.T ⟨_,_,_⟩);exact λ_ _ h=>h.elim
end Go.Eng.YtblghgacokoklaaDoor
end
section
namespace Go.Eng
def Keep(h h':Hp):Prop:=∀ b o,h b=some o->h' b=some o
theorem Keep.refl(h:Hp):Keep h h:=λ_ _ h=>h
theorem Keep.trans{a b c:Hp}(h:Keep a b)(k:Keep b c):Keep a c:=λx o e=>k x o (h x o e)
theorem Keep.new{h:Hp}{b:Nat}(hb:h b=none)(o:Obj):Keep h (h.new b o):=by
 intro k x hk
 unfold Hp.new
 by_cases hkb:k=b
 ·subst hkb;rw[hb] at hk;cases hk
 ·rw[if_neg hkb];exact hk
theorem Keep.at{h h':Hp}(k:Keep h h'){b o:Nat}{v:Value}(ha:h.at b o=some v):h'.at b o=some v:=by
 unfold Hp.at at ha ⊢
 cases hb:h b with
 |none=>rw[hb] at ha;cases ha
 |some x=>rw[k b x hb];rw[hb] at ha;exact ha
theorem Keep.row{h h':Hp}(k:Keep h h'){A:Option Addr}{n:Nat}{vs:List Value}(hr:h.row A n vs):h'.row A n vs:=by
 refine⟨hr.1,hr.2.imp id ?_⟩
 rintro⟨b,o,hA,hat⟩
 refine⟨b,o,hA,λj hj=>?_⟩
 have h1:=hat j hj
 have hl:j<vs.length:=by rw[hr.1];exact hj
 rw[List.getElem?_eq_getElem hl] at h1 ⊢
 exact k.at h1
theorem at_new{h:Hp}{b:Nat}{c:Array Value}{t:Nat}{f:Nat×Nat}(j:Nat):(h.new b (.cells c t f)).at b j=c[j]?:=by
 unfold Hp.at Hp.new
 rw[if_pos rfl]
structure Buf(h:Hp)(s:Sl)(sz t:Nat)(vs:List Value):Prop where
 len:vs.length=s.n*sz
 cap:s.n<=s.c
 own:(s.a=none/\s.c=0)\/∃ b c f,s.a=some ⟨b,0,none⟩/\h b=some (.cells c t f)/\s.c*sz<=c.size/\(∀ j,j<c.size->¬ (f.1<=j/\j<f.2))/\c.toList.take vs.length=vs
structure Upd(h h':Hp)(s s':Sl):Prop where
 keep:∀ k x,(∀ o,s.a≠some ⟨k,o,none⟩)->h k=some x->h' k=some x
 at_:s'.a=s.a\/∃ b,s'.a=some ⟨b,0,none⟩/\h b=none
 dom:∀ k,h' k=none->h k=none
theorem Upd.refl(h:Hp)(s:Sl):Upd h h s s:=⟨λ_ _ _ e=>e,.inl rfl,λ_ e=>e⟩
theorem Upd.trans{h h1 h2:Hp}{s s1 s2:Sl}(U:Upd h h1 s s1)(V:Upd h1 h2 s1 s2):Upd h h2 s s2:=by
 refine⟨λk x hk e=>V.keep k x (λo hs=>?_) (U.keep k x hk e),?_,λk e=>U.dom k (V.dom k e)⟩
 ·rcases U.at_ with h0|⟨b,hb,hn⟩
  ·exact hk o (by rw[<- h0];exact hs)
  ·rw[hb] at hs
   simp only[Option.some.injEq,Addr.mk.injEq] at hs
   rw[hs.1,e] at hn;cases hn
 ·rcases V.at_ with h0|⟨b,hb,hn⟩
  ·rw[h0];exact U.at_
  ·exact .inr ⟨b,hb,U.dom b hn⟩
theorem Upd.keepNil{h h':Hp}{s s':Sl}(U:Upd h h' s s')(hs:s.a=none):Keep h h':=λb o e=>U.keep b o (λo'=>by rw[hs];simp) e
theorem Upd.of_new{h:Hp}{b:Nat}(hb:h b=none)(o:Obj)(s:Sl):Upd h (h.new b o) s s:=by
 refine⟨λk x _ e=>Keep.new hb o k x e,.inl rfl,λk e=>?_⟩
 unfold Hp.new at e
 by_cases hk:k=b
 ·rw[hk];exact hb
 ·rw[if_neg hk] at e;exact e
theorem Buf.nil(h:Hp)(sz t:Nat):Buf h ⟨none,0,0⟩ sz t []:=⟨by simp,Nat.le_refl _,.inl ⟨rfl,rfl⟩⟩
theorem Buf.row{h:Hp}{s:Sl}{sz t:Nat}{vs:List Value}(B:Buf h s sz t vs):h.row s.a (s.n*sz) vs:=by
 refine⟨B.len,?_⟩
 rcases B.own with⟨ha,hc⟩|⟨b,c,f,ha,hb,hsz,hf,ht⟩
 ·have:s.n=0:=by have:=B.cap;omega
  exact .inl (by rw[this];simp)
 ·refine .inr ⟨b,0,ha,λj hj=>?_⟩
  unfold Hp.at
  rw[hb]
  simp only[Nat.zero_add]
  rw[<- ht,List.getElem?_take,if_pos (by rw[B.len];exact hj),Array.getElem?_toList]
theorem zerosV_length{z:List Value}(n:Nat):(zerosV z n).length=n*z.length:=by
 unfold zerosV Builtin.zeroCells
 simp
theorem setL_get'(vs:List Value):∀ (c:List Value) (o j:Nat),o+vs.length<=c.length->(setL c o vs)[j]?=if o<=j/\j<o+vs.length then vs[j-o]? else c[j]?:=by
 induction vs with
 |nil=>intro c o j h;simp only[setL,length_nil,Nat.add_zero];rw[if_neg (by omega)]
 |cons v vs ih=>
  intro c o j h
  simp only[length_cons] at h
  simp only[setL]
  rw[ih _ _ _ (by simp;omega)]
  by_cases h1:o+1<=j/\j<o+1+vs.length
  ·rw[if_pos h1,if_pos (by simp;omega)]
   rw[show j-o=(j-(o+1))+1 by omega,List.getElem?_cons_succ]
  ·rw[if_neg h1]
   by_cases h2:j=o
   ·subst h2
    rw[if_pos (by simp),List.getElem?_set_self (by omega)]
    simp
   ·rw[if_neg (by simp;omega),List.getElem?_set_ne (Ne.symm h2)]
theorem Keep.dom{h h':Hp}(k:Keep h h'):∀ b,h' b=none->h b=none:=by
 intro b hb
 cases hh:h b with
 |none=>rfl
 |some o=>rw[k b o hh] at hb;cases hb
theorem Upd.of_keep{h h':Hp}(k:Keep h h')(s:Sl):Upd h h' s s:=⟨λb o _ e=>k b o e,.inl rfl,k.dom⟩
theorem Buf.keep{h h':Hp}(k:Keep h h'){s:Sl}{sz t:Nat}{vs:List Value}(B:Buf h s sz t vs):Buf h' s sz t vs:=by
 refine⟨B.len,B.cap,B.own.imp id ?_⟩
 rintro⟨b,c,f,h1,h2,h3,h4,h5⟩
 exact⟨b,c,f,h1,k _ _ h2,h3,h4,h5⟩
def Off(s t:Sl):Prop:=∀ b o o',s.a=some ⟨b,o,none⟩->t.a≠some ⟨b,o',none⟩
theorem row_upd{h h':Hp}{s s' r:Sl}(U:Upd h h' s s'){n:Nat}(ho:n=0\/Off r s){vs:List Value}(hr:h.row r.a n vs):h'.row r.a n vs:=by
 rcases ho with h0|ho
 ·exact⟨hr.1,.inl h0⟩
 refine⟨hr.1,hr.2.imp id ?_⟩
 rintro⟨b,o,hA,hat⟩
 refine⟨b,o,hA,λj hj=>?_⟩
 rw[<- hat j hj]
 have h1:=hat j hj
 have hl:j<vs.length:=by rw[hr.1];exact hj
 rw[List.getElem?_eq_getElem hl] at h1
 unfold Hp.at at h1 ⊢
 cases hb:h b with
 |none=>rw[hb] at h1;cases h1
 |some x=>rw[U.keep b x (λo'=>ho b o o' hA) hb]
theorem off_fresh{h:Hp}{r s:Sl}{n:Nat}{vs:List Value}(hr:h.row r.a n vs){b:Nat}(hs:s.a=some ⟨b,0,none⟩)(hb:h b=none):n=0\/Off r s:=by
 rcases Nat.eq_zero_or_pos n with h0|h0
 ·exact .inl h0
 ·refine .inr λb' o o' e1 e2=>?_
  rw[hs] at e2
  simp only[Option.some.injEq,Addr.mk.injEq] at e2
  rcases hr.2 with h1|⟨k,o2,hA,hat⟩
  ·omega
  ·rw[hA] at e1
   simp only[Option.some.injEq,Addr.mk.injEq] at e1
   have h1:=hat 0 h0
   have hl:0<vs.length:=by rw[hr.1];exact h0
   rw[List.getElem?_eq_getElem hl] at h1
   unfold Hp.at at h1
   rw[e1.1,<- e2.1,hb] at h1
   cases h1
theorem row_get{h:Hp}{A:Option Addr}{n:Nat}{vs:List Value}(hr:h.row A n vs){i:Nat}(hi:i<n):∃ b o,A=some ⟨b,o,none⟩/\∀ j,j<n->h.at b (o+j)=vs[j]?:=by
 rcases hr.2 with h0|h1
 ·omega
 ·exact h1
theorem append_buf{h:Hp}{s:Sl}{sz t bytes m:Nat}{z vs us:List Value}{K:Sl->Hp->Prop}(B:Buf h s sz t vs)(hz:z.length=sz)(hu:us.length=m*sz)(hb:(s.n+m)*bytes<=140737488355328)
  (hK:∀ s' h',Buf h' s' sz t (vs++us)->s'.n=s.n+m->Upd h h' s s'->K s' h'):appendD s t sz bytes z m us h K:=by
 refine⟨hb,λhle=>?_,λhlt=>⟨vs,B.row,λb c hbn hc=>?_⟩⟩
 ·rcases B.own with⟨ha,hc⟩|⟨b,c,f,ha,hbb,hsz,hf,ht⟩
  ·have hm:m=0/\s.n=0:=by omega
   have hus:us=[]:=List.eq_nil_of_length_eq_zero (by rw[hu,hm.1];simp)
   subst hus
   refine⟨.inl rfl,hK _ _ ⟨?_,by show s.n+m<=s.c;omega,.inl ⟨ha,hc⟩⟩ rfl ⟨λk x _ e=>?_,.inl rfl,λk e=>?_⟩⟩
   ·have:=B.len;simp only[append_nil,this,hm.1,Nat.add_zero]
   ·rw[wrA_nil];exact e
   ·rw[wrA_nil] at e;exact e
  ·have hmul:s.n*sz+m*sz<=c.size:=by
    rw[<- Nat.add_mul]
    exact Nat.le_trans (Nat.mul_le_mul_right _ hle) hsz
   have haddr:s.a.map (·.add (s.n*sz))=some ⟨b,s.n*sz,none⟩:=by rw[ha];simp[addr_add]
   rw[haddr]
   have hcl:c.toList.length=c.size:=by simp
   refine⟨.inr ⟨b,s.n*sz,rfl,c,t,f,hbb,by omega,λj h1 h2=>hf j (by omega)⟩,hK _ _ ⟨?_,by show s.n+m<=s.c;exact hle,.inr ⟨b,(setL c.toList (s.n*sz) us).toArray,f,ha,?_,?_,?_,?_⟩⟩ rfl ⟨λk x hk e=>?_,.inl rfl,λk e=>?_⟩⟩
   ·simp only[length_append,B.len,hu,Nat.add_mul]
   ·simp only[Hp.wrA,Hp.wr,if_pos,hbb]
   ·simp only[List.size_toArray,setL_length,hcl];exact hsz
   ·intro j hj
    simp only[List.size_toArray,setL_length,hcl] at hj
    exact hf j hj
   ·apply List.ext_getElem?
    intro j
    rw[List.getElem?_take]
    simp only[List.toList_toArray]
    rw[setL_get' _ _ _ _ (by rw[hcl,hu];exact hmul)]
    have hl:=B.len
    by_cases h1:j<(vs++us).length
    ·rw[if_pos h1]
     simp only[length_append] at h1
     by_cases h2:s.n*sz<=j
     ·rw[if_pos ⟨h2,by omega⟩,List.getElem?_append_right (by omega),hl]
     ·rw[if_neg (by omega),List.getElem?_append_left (by omega)]
      rw[<- ht,List.getElem?_take,if_pos (by omega)]
    ·rw[if_neg h1,List.getElem?_eq_none (by omega)]
   ·simp only[Hp.wrA,Hp.wr]
    rw[if_neg (λe=>hk 0 (by rw[e];exact ha))]
    exact e
   ·simp only[Hp.wrA,Hp.wr] at e
    by_cases hkb:k=b
    ·rw[if_pos hkb,hbb] at e;cases e
    ·rw[if_neg hkb] at e;exact e
 ·have hsize:(vs++us++zerosV z (c-(s.n+m))).length=c*sz:=by
   simp only[length_append,B.len,hu,zerosV_length,hz]
   rw[<- Nat.add_mul,<- Nat.add_mul]
   congr 1
   omega
  refine hK _ _ ⟨?_,hc,.inr ⟨b,_,(0,0),rfl,by unfold Hp.new;rw[if_pos rfl],?_,λj _=>by simp,?_⟩⟩ rfl ⟨λk x _ e=>Keep.new hbn _ k x e,.inr ⟨b,rfl,hbn⟩,(Upd.of_new hbn _ s).dom⟩
  ·simp only[length_append,B.len,hu,Nat.add_mul]
  ·simp only[List.size_toArray,hsize,Nat.le_refl]
  ·simp only[List.toList_toArray]
   rw[List.take_left' rfl]
theorem buf_off{h:Hp}{s1 s2:Sl}{sz1 t1 sz2 t2:Nat}{v1 v2:List Value}(B1:Buf h s1 sz1 t1 v1)(B2:Buf h s2 sz2 t2 v2)(ht:t1≠t2):Off s1 s2:=by
 intro b o o' e1 e2
 rcases B1.own with⟨ha,_⟩|⟨b1,c1,f1,ha1,hb1,_⟩
 ·rw[ha] at e1;cases e1
 rcases B2.own with⟨ha,_⟩|⟨b2,c2,f2,ha2,hb2,_⟩
 ·rw[ha] at e2;cases e2
 rw[ha1] at e1
 rw[ha2] at e2
 simp only[Option.some.injEq,Addr.mk.injEq] at e1 e2
 rw[e1.1] at hb1
 rw[e2.1,hb1] at hb2
 simp only[Option.some.injEq,Obj.cells.injEq] at hb2
 exact ht hb2.2.1
theorem Buf.upd{h h':Hp}{s s' r:Sl}{sz t:Nat}{vs:List Value}(U:Upd h h' s s')(ho:Off r s)(B:Buf h r sz t vs):Buf h' r sz t vs:=by
 refine⟨B.len,B.cap,B.own.imp id ?_⟩
 rintro⟨b,c,f,h1,h2,h3,h4,h5⟩
 exact⟨b,c,f,h1,U.keep b _ (λo=>ho b 0 o h1) h2,h3,h4,h5⟩
theorem wrap_i64{n:Int}(h0:-9223372036854775808<=n)(h1:n<9223372036854775808):wrap .i64 n=n:=by
 simp[IntKind.wrap,IntKind.signed,IntKind.bits]
 omega
theorem wrap_u64{n:Int}(h0:0<=n)(h1:n<18446744073709551616):wrap .u64 n=n:=by
 simp[IntKind.wrap,IntKind.signed,IntKind.bits]
 omega
end Go.Eng
end
section
namespace Go.Eng
def encF:Nat->Nat->List Int
 |0,_=>[]
 |f+1,n=>if n<128 then[(n:Int)] else((n % 128+128:Nat):Int)::encF f (n / 128)
def encU(n:Nat):List Int:=encF 10 n
def bv(l:List Int):List Value:=l.map (Value.int .u8)
theorem bv_append(a b:List Int):bv (a++b)=bv a++bv b:=List.map_append
theorem bv_length(a:List Int):(bv a).length=a.length:=List.length_map _
theorem or128(n:Int)(h:0<=n):bitsI .or .u8 (wrap .u8 n) 128=((n.toNat % 128+128:Nat):Int):=by
 have key:∀ x:Fin 256,bitsI .or .u8 ((x.val:Nat):Int) 128=((x.val % 128+128:Nat):Int):=by decide +kernel
 have h1:wrap .u8 n=((n.toNat % 256:Nat):Int):=by rw[IntKind.wrap_u8];omega
 rw[h1]
 have:=key ⟨n.toNat % 256,Nat.mod_lt _ (by decide)⟩
 simp only at this
 rw[this]
 congr 1
 omega
theorem shr7(n:Int)(h:0<=n):shrI .u64 n 7=((n.toNat / 128:Nat):Int):=by
 unfold shrI
 have:(2:Int) ^ (min (7:Int).toNat (IntKind.bits .u64))=128:=by decide
 rw[this,Int.fdiv_eq_ediv_of_nonneg _ (by decide)]
 omega
end Go.Eng
namespace Go.Eng.YtblghgacokoklaaDoor
theorem number_spec{h:Hp}{l:Sl}{xs:List Value}{n:Int}{Q:Value->Hp->Prop}(B:Buf h l 1 5 xs)(h0:0<=n)(h1:n<18446744073709551616)(hl:l.n<=70368744177664)
  (hQ:∀ l' h',Buf h' l' 1 5 (xs++bv (encU n.toNat))->Upd h h' l l'->Q (.slice l'.a l'.n l'.c) h'):F81.T l n h Q:=by
 refine⟨λl1 n1 h1=>∃ f ys,f<=10/\ys.length+f=10/\Buf h1 l1 1 5 (xs++bv ys)/\Upd h h1 l l1/\0<=n1/\n1.toNat<128 ^ f/\0<f/\encU n.toNat=ys++encF f n1.toNat,λ_ n1 _=>n1.toNat,
  ⟨10,[],Nat.le_refl _,rfl,by simpa[bv] using B,Upd.refl _ _,h0,by omega,by decide,rfl⟩,?_⟩
 rintro l1 n1 h1 ⟨f,ys,hf,hys,B1,U1,hn1,hlt,hf0,he⟩
 have hln:l1.n=l.n+ys.length:=by
  have e1:=B1.len;have e2:=B.len
  simp only[length_append,bv_length] at e1
  omega
 obtain⟨f,rfl⟩:∃ g,f=g+1:=⟨f-1,by omega⟩
 refine⟨λhge=>?_,λhlt2=>?_⟩
 ·have hnn:¬ n1.toNat<128:=by omega
  have hf1:0<f:=by
   rcases Nat.eq_zero_or_pos f with rfl|h
   ·simp at hlt;omega
   ·exact h
  refine append_buf B1 rfl rfl (by omega) λl2 h2 B2 hn2 U2=>⟨by decide,⟨f,ys++[((n1.toNat % 128+128:Nat):Int)],by omega,by simp;omega,?_,U1.trans U2,?_,?_,hf1,?_⟩,?_⟩
  ·rw[or128 n1 hn1] at B2
   rw[bv_append,<- List.append_assoc]
   exact B2
  ·rw[shr7 n1 hn1];omega
  ·rw[shr7 n1 hn1,Int.toNat_natCast]
   rw[Nat.pow_succ] at hlt
   omega
  ·rw[shr7 n1 hn1,Int.toNat_natCast,he]
   simp only[encF,if_neg hnn,List.append_assoc,List.singleton_append]
  ·show(shrI .u64 n1 7).toNat<n1.toNat
   rw[shr7 n1 hn1,Int.toNat_natCast];omega
 ·have hnn:n1.toNat<128:=by omega
  refine append_buf B1 rfl rfl (by omega) λl2 h2 B2 hn2 U2=>hQ l2 h2 ?_ (U1.trans U2)
  have hw:wrap .u8 n1=(n1.toNat:Int):=by rw[IntKind.wrap_u8];omega
  rw[hw] at B2
  rw[he,bv_append,<- List.append_assoc]
  simp only[encF,if_pos hnn]
  exact B2
theorem encF_length(f n:Nat):(encF f n).length<=f:=by
 induction f generalizing n with
 |zero=>simp[encF]
 |succ f ih=>
  simp only[encF]
  split
  ·simp
  ·have:=ih (n / 128);simp;omega
theorem encU_length(n:Nat):(encU n).length<=10:=encF_length 10 n
theorem twin_nil{h:Hp}{m:Int}{Q:Value->Hp->Prop}(h0:0<=m)(h1:m<=70368744177664)
  (hQ:∀ l' h',Buf h' l' 1 5 []->Keep h h'->(∃ b,l'.a=some ⟨b,0,none⟩/\h b=none)->l'.n=0->Q (.slice l'.a l'.n l'.c) h'):F88.T ⟨none,0,0⟩ m h Q:=by
 have hw:wrap .i64 (((0:Nat):Int)+m)=m:=by
  rw[show((0:Nat):Int)+m=m by omega]
  exact wrap_i64 (by omega) (by omega)
 unfold F88.T
 simp only[hw]
 refine⟨⟨by simp,by simpa using h0,by omega⟩,λb hb=>⟨[],⟨by simp[Nat.min],.inl (by simp[Nat.min])⟩,λv hv=>(by cases hv),.inl rfl,?_⟩⟩
 rw[wrA_nil]
 refine hQ ⟨some ⟨b,0,none⟩,0,m.toNat⟩ _ ⟨by simp,Nat.zero_le _,.inr ⟨b,_,(0,0),rfl,by unfold Hp.new;rw[if_pos rfl],?_,λj _=>by simp,rfl⟩⟩ (Keep.new hb _) ⟨b,rfl,hb⟩ rfl
 show m.toNat*1<=_
 have:=zerosV_length (z:=[Value.int .u8 0]) m.toNat
 unfold zerosV at this
 simp only[Array.length_toList,length_singleton] at this
 exact Nat.le_of_eq this.symm
theorem putUint_nil{h:Hp}{n:Int}{Q:Value->Hp->Prop}(h0:0<=n)(h1:n<18446744073709551616)
  (hQ:∀ l' h',Buf h' l' 1 5 (bv (encU n.toNat))->Keep h h'->(∃ b,l'.a=some ⟨b,0,none⟩/\h b=none)->Q (.slice l'.a l'.n l'.c) h'):F120.T ⟨none,0,0⟩ n h Q:=by
 unfold F120.T F120.G
 refine twin_nil (m:=10) (by decide) (by decide) λl1 h2 B1 K1 hf hn=>⟨l1,rfl,?_⟩
 refine number_spec B1 h0 h1 (by omega) λl2 h3 B2 U2=>⟨l2,rfl,hQ l2 h3 B2 ?_ ?_⟩
 ·obtain⟨b,hb,hbn⟩:=hf
  intro k x e
  exact U2.keep k x (λo hs=>by rw[hb] at hs;simp only[Option.some.injEq,Addr.mk.injEq] at hs;rw[<- hs.1,hbn] at e;cases e) (K1 k x e)
 ·obtain⟨b,hb,hbn⟩:=hf
  rcases U2.at_ with h0|⟨b2,hb2,hn2⟩
  ·exact⟨b,by rw[h0];exact hb,hbn⟩
  ·exact⟨b2,hb2,K1.dom _ hn2⟩
def encUs(ns:List Int):List Int:=ns.flatMap λn=>encU n.toNat
theorem encUs_length(ns:List Int):(encUs ns).length<=10*ns.length:=by
 induction ns with
 |nil=>simp[encUs]
 |cons n ns ih=>
  have:=encU_length n.toNat
  simp only[encUs,List.flatMap_cons,length_append,length_cons] at ih ⊢
  omega
def uv(ns:List Int):List Value:=ns.map (Value.int .u64)
theorem bv_one(l:List Int):∀ v∈bv l,Value.oneCell' v=true:=by
 intro v hv
 obtain⟨n,_,rfl⟩:=List.mem_map.1 hv
 rfl
theorem uints_spec{h:Hp}{l r:Sl}{xs:List Value}{ns:List Int}{Q:Value->Hp->Prop}(B:Buf h l 1 5 xs)(hr:h.row r.a r.n (uv ns))(ho:Off r l)(hu:∀ n∈ns,0<=n/\n<18446744073709551616)(hl:l.n+10*ns.length<=70368744177664)
  (hQ:∀ l' h',Buf h' l' 1 5 (xs++bv (encUs ns))->Upd h h' l l'->Q (.slice l'.a l'.n l'.c) h'):F95.T l r h Q:=by
 unfold F95.T F95.G
 have hrn:r.n=ns.length:=by rw[<- hr.1];simp[uv]
 refine⟨λl2 i h1=>∃ k:Nat,i=(k:Int)/\k<=ns.length/\Buf h1 l2 1 5 (xs++bv (encUs (ns.take k)))/\Upd h h1 l l2,λ_ i _=>ns.length-i.toNat,
  ⟨0,rfl,Nat.zero_le _,by simpa[encUs,bv] using B,Upd.refl _ _⟩,?_⟩
 rintro l2 i h1 ⟨k,rfl,hk,B1,U1⟩
 refine⟨λhlt=>?_,λhge=>?_⟩
 ·have hk1:k<ns.length:=by omega
  have hr1:=row_upd U1 (.inr ho) hr
  obtain⟨b,o,ha,hat⟩:=row_get hr1 (i:=k) (by omega)
  have hv:(uv ns)[k]?=some (Value.int .u64 ns[k]):=by simp[uv,hk1]
  have hu':=hu _ (List.getElem_mem hk1)
  refine⟨b,o,ha,⟨by omega,hlt⟩,ns[k],?_,?_⟩
  ·rw[Int.toNat_natCast,hat k (by omega),hv]
  ·refine putUint_nil hu'.1 hu'.2 λl3 h2 B3 K2 hf=>⟨l3,rfl,bv (encU (ns[k]).toNat),B3.row,bv_one _,?_⟩
   have hl3:l3.n=(encU (ns[k]).toNat).length:=by have:=B3.len;rw[bv_length] at this;omega
   have hl2:l2.n=xs.length+(encUs (ns.take k)).length:=by have:=B1.len;simp only[length_append,bv_length] at this;omega
   have hxs:l.n=xs.length:=by have:=B.len;omega
   have h10:=encUs_length (ns.take k)
   have h11:=encU_length (ns[k]).toNat
   rw[length_take,Nat.min_eq_left hk] at h10
   refine append_buf (B1.keep K2) rfl (by rw[bv_length,hl3];omega) (by omega) λl4 h3 B4 hn4 U4=>?_
   have hw:wrap .i64 ((k:Int)+1)=((k+1:Nat):Int):=by rw[wrap_i64 (by omega) (by omega)];omega
   rw[hw]
   refine⟨⟨k+1,rfl,hk1,?_,(U1.trans (Upd.of_keep K2 l2)).trans U4⟩,?_⟩
   ·have:encUs (ns.take (k+1))=encUs (ns.take k)++encU (ns[k]).toNat:=by
     unfold encUs
     rw[List.take_succ_eq_append_getElem hk1,List.flatMap_append]
     simp only[List.flatMap_cons,List.flatMap_nil,append_nil]
    rw[this,bv_append,<- List.append_assoc]
    exact B4
   ·show ns.length-((k+1:Nat):Int).toNat<ns.length-(k:Int).toNat
    omega
 ·have hkn:k=ns.length:=by omega
  subst hkn
  rw[List.take_length] at B1
  exact hQ l2 h1 B1 U1
def bI(s:ByteArray):List Int:=s.data.toList.map λb=>(b.toNat:Int)
theorem bytesV_bI(s:ByteArray):bytesV s=bv (bI s):=by simp[bytesV,bv,bI,Function.comp_def]
theorem bI_length(s:ByteArray):(bI s).length=s.size:=by rw[<- bv_length,<- bytesV_bI,bytesV_length]
def encT(s:ByteArray):List Int:=encU s.size++bI s
theorem putText_nil{h:Hp}{s:ByteArray}{Q:Value->Hp->Prop}(hs:s.size<=35184372088832)
  (hQ:∀ l' h',Buf h' l' 1 5 (bv (encT s))->Keep h h'->(∃ b,l'.a=some ⟨b,0,none⟩/\h b=none)->Q (.slice l'.a l'.n l'.c) h'):F121.T ⟨none,0,0⟩ s h Q:=by
 have hw:wrap .i64 (10+(s.size:Int))=10+(s.size:Int):=wrap_i64 (by omega) (by omega)
 have hw2:wrap .u64 (s.size:Int)=(s.size:Int):=wrap_u64 (by omega) (by omega)
 unfold F121.T F121.G
 rw[hw,hw2]
 refine twin_nil (by omega) (by omega) λl1 h2 B1 K1 hf hn=>⟨l1,rfl,?_⟩
 refine number_spec B1 (by omega) (by omega) (by omega) λl2 h3 B2 U2=>⟨l2,rfl,?_⟩
 rw[List.nil_append,Int.toNat_natCast] at B2
 have h10:=encU_length s.size
 have hl2:l2.n=(encU s.size).length:=by have:=B2.len;rw[bv_length] at this;omega
 refine append_buf B2 rfl (by rw[bytesV_length];omega) (by omega) λl3 h4 B3 hn3 U3=>hQ l3 h4 ?_ ?_ ?_
 ·unfold encT;rw[bv_append,<- bytesV_bI];exact B3
 ·obtain⟨b,hb,hbn⟩:=hf
  intro k x e
  have U:=U2.trans U3
  exact U.keep k x (λo hs=>by rw[hb] at hs;simp only[Option.some.injEq,Addr.mk.injEq] at hs;rw[<- hs.1,hbn] at e;cases e) (K1 k x e)
 ·obtain⟨b,hb,hbn⟩:=hf
  rcases (U2.trans U3).at_ with h0|⟨b2,hb2,hn2⟩
  ·exact⟨b,by rw[h0];exact hb,hbn⟩
  ·exact⟨b2,hb2,K1.dom _ hn2⟩
theorem text_spec{h:Hp}{l:Sl}{xs:List Value}{s:ByteArray}{Q:Value->Hp->Prop}(B:Buf h l 1 5 xs)(hs:s.size<=35184372088832)(hl:l.n+s.size+10<=140737488355328)
  (hQ:∀ l' h',Buf h' l' 1 5 (xs++bv (encT s))->Upd h h' l l'->Q (.slice l'.a l'.n l'.c) h'):F96.T l s h Q:=by
 unfold F96.T F96.G
 refine putText_nil hs λl1 h1 B1 K1 hf=>⟨l1,rfl,bv (encT s),B1.row,bv_one _,?_⟩
 have h10:=encU_length s.size
 have hl1:l1.n=(encU s.size).length+s.size:=by have:=B1.len;rw[bv_length] at this;unfold encT at this;rw[length_append,bI_length] at this;omega
 refine append_buf (B.keep K1) rfl (by rw[bv_length,hl1];unfold encT;rw[length_append,bI_length];omega) (by omega) λl2 h2 B2 hn2 U2=>hQ l2 h2 B2 ((Upd.of_keep K1 l).trans U2)
end Go.Eng.YtblghgacokoklaaDoor
end
section
namespace Go.Eng.YtblghgacokoklaaDoor
structure Place where
 lv:Int
 num:Int
structure Placed where
 lv:Int
 num:Int
 weight:Int
 bytes:Int
 entries:Int
 least:ByteArray
 greatest:ByteArray
structure Edit where
 log:Int
 next:Int
 seq:Int
 out:List Place
 inn:List Placed
 ptr:List ByteArray
def Place.cells(p:Place):List Value:=[.int .i64 p.lv,.int .u64 p.num]
def Placed.cells(p:Placed):List Value:=[.int .i64 p.lv,.int .u64 p.num,.int .i64 p.weight,.int .i64 p.bytes,.int .i64 p.entries,.string p.least,.string p.greatest]
def outV(l:List Place):List Value:=l.flatMap Place.cells
def inV(l:List Placed):List Value:=l.flatMap Placed.cells
def ptrV(l:List ByteArray):List Value:=l.map Value.string
theorem flat_get{α:Type}(f:α->List Value)(n:Nat)(hf:∀ x,(f x).length=n):∀ (l:List α) (i j:Nat) (hi:i<l.length),j<n->(l.flatMap f)[i*n+j]?=(f l[i])[j]?
 |[],i,j,hi,_=>by simp at hi
 |x::l,0,j,hi,hj=>by
  simp only[List.flatMap_cons,Nat.zero_mul,Nat.zero_add,List.getElem_cons_zero]
  rw[List.getElem?_append_left (by rw[hf];exact hj)]
 |x::l,i+1,j,hi,hj=>by
  simp only[List.flatMap_cons,List.getElem_cons_succ]
  rw[List.getElem?_append_right (by rw[hf,Nat.add_mul];omega),hf,show(i+1)*n+j-n=i*n+j by rw[Nat.add_mul];omega]
  exact flat_get f n hf l i j (by simpa using hi) hj
theorem flat_length{α:Type}(f:α->List Value)(n:Nat)(hf:∀ x,(f x).length=n)(l:List α):(l.flatMap f).length=l.length*n:=by
 induction l with
 |nil=>simp
 |cons x l ih=>simp only[List.flatMap_cons,length_append,hf,ih,length_cons,Nat.add_mul];omega
def okU(n:Int):Prop:=0<=n/\n<18446744073709551616
def okI(n:Int):Prop:=0<=n/\n<9223372036854775808
structure Place.ok(p:Place):Prop where
 lv:okI p.lv
 num:okU p.num
structure Placed.ok(p:Placed):Prop where
 lv:okI p.lv
 num:okU p.num
 weight:okI p.weight
 bytes:okI p.bytes
 entries:okI p.entries
 least:p.least.size<=64
 greatest:p.greatest.size<=64
def Place.enc(p:Place):List Int:=encUs [p.lv,p.num]
def Placed.enc(p:Placed):List Int:=encUs [p.lv,p.num,p.weight,p.bytes,p.entries]++encT p.least++encT p.greatest
def recB(e:Edit)(last:Bool):List Int:=
 (if last then 1 else 0)::(encUs [e.log,e.next,e.seq,(e.out.length:Int)]++e.out.flatMap Place.enc++encUs [(e.inn.length:Int)]++e.inn.flatMap Placed.enc++encUs [(e.ptr.length:Int)]++e.ptr.flatMap encT)
theorem encT_length{s:ByteArray}(h:s.size<=64):(encT s).length<=74:=by
 have:=encU_length s.size
 unfold encT
 rw[length_append,bI_length]
 omega
theorem Place.enc_length(p:Place):p.enc.length<=20:=by
 have:=encUs_length [p.lv,p.num]
 simpa[Place.enc] using this
theorem Placed.enc_length{p:Placed}(h:p.ok):p.enc.length<=198:=by
 have h1:=encUs_length [p.lv,p.num,p.weight,p.bytes,p.entries]
 have h2:=encT_length h.least
 have h3:=encT_length h.greatest
 simp only[Placed.enc,length_append]
 simp only[length_cons,length_nil] at h1
 omega
theorem Placed.ok.enc_length'{p:Placed}(h:p.ok):p.enc.length<=198:=Placed.enc_length h
theorem flatMap_le{α:Type}(f:α->List Int)(n:Nat)(l:List α)(h:∀ x∈l,(f x).length<=n):(l.flatMap f).length<=n*l.length:=by
 induction l with
 |nil=>simp
 |cons x l ih=>
  have h1:=h x List.mem_cons_self
  have h2:=ih λy hy=>h y (List.mem_cons_of_mem _ hy)
  simp only[List.flatMap_cons,length_append,length_cons,Nat.mul_add,Nat.mul_one]
  omega
theorem _root_.Go.Eng.Buf.n1{h:Hp}{l:Sl}{xs:List Value}(B:Buf h l 1 5 xs):l.n=xs.length:=by have:=B.len;omega
theorem off_new{h:Hp}{l:Sl}{xs:List Value}{sz t:Nat}(B:Buf h l sz t xs){b:Nat}(hb:h b=none)(n c:Nat):Off ⟨some ⟨b,0,none⟩,n,c⟩ l:=by
 intro b' o o' e1 e2
 simp only[Option.some.injEq,Addr.mk.injEq] at e1
 rcases B.own with⟨ha,_⟩|⟨k,cs,f,ha,hk,_⟩
 ·rw[ha] at e2;cases e2
 ·rw[ha] at e2
  simp only[Option.some.injEq,Addr.mk.injEq] at e2
  rw[e2.1,<- e1.1,hb] at hk;cases hk
theorem row_new(h:Hp)(b t:Nat)(vs:List Value)(n:Nat)(hn:vs.length=n):(h.new b (.cells ⟨vs⟩ t (0,0))).row (some ⟨b,0,none⟩) n vs:=by
 refine⟨hn,.inr ⟨b,0,rfl,λj _=>?_⟩⟩
 rw[Nat.zero_add,at_new]
 simp
theorem uints_lit{h:Hp}{l:Sl}{xs:List Value}{ns:List Int}{Q:Value->Hp->Prop}(B:Buf h l 1 5 xs)(hu:∀ n∈ns,0<=n/\n<18446744073709551616)(hl:l.n+10*ns.length<=70368744177664)
  (hQ:∀ l' h',Buf h' l' 1 5 (xs++bv (encUs ns))->Upd h h' l l'->Q (.slice l'.a l'.n l'.c) h') :
  ∀ b,h b=none->F95.T l ⟨some ⟨b,0,none⟩,ns.length,ns.length⟩ (h.new b (.cells ⟨uv ns⟩ 22 (0,0))) Q:=by
 intro b hb
 refine uints_spec (B.keep (Keep.new hb _)) (row_new h b 22 (uv ns) _ (by simp[uv])) (off_new B hb _ _) hu hl λl' h' B' U'=>hQ l' h' B' ((Upd.of_new hb _ l).trans U')
theorem out_loop{h:Hp}{l lo:Sl}{xs:List Value}{out:List Place}{R:Sl->Hp->Prop}(B:Buf h l 1 5 xs)(hr:h.row lo.a (lo.n*2) (outV out))(ho:lo.n*2=0\/Off lo l)(hok:∀ p∈out,p.ok)(hn:out.length<=1000)(hl:l.n<=1000000)
  (hR:∀ l' h',Buf h' l' 1 5 (xs++bv (out.flatMap Place.enc))->Upd h h' l l'->R l' h') :
  ∃ (I:Sl->Int->Hp->Prop) (m:Sl->Int->Hp->Nat),I l 0 h/\(∀ l4:Sl,∀ n3:Int,∀ h2:Hp,I l4 n3 h2->par (n3<(lo.n:Int)) (∃ b2 o,(lo.a:Option Addr)=some ⟨b2,o,none⟩/\((0:Int)<=n3/\n3<(lo.n:Int))/\∃ n4:Int,h2.at b2 (o+n3.toNat*2)=some (.int .i64 n4)/\∃ n5:Int,h2.at b2 ((o+n3.toNat*2)+1)=some (.int .u64 n5)/\∀ b3,h2 b3=none->F95.T l4 ⟨(some ⟨b3,0,none⟩),2,2⟩ (h2.new b3 (.cells ⟨[.int .u64 (wrap .u64 n4),.int .u64 n5]⟩ 22 (0,0))) λr1 h3=>∃ l5:Sl,r1=.slice l5.a l5.n l5.c/\I l5 (wrap .i64 (n3+1)) h3/\m l5 (wrap .i64 (n3+1)) h3<m l4 n3 h2) (R l4 h2)):=by
 have hlo:lo.n=out.length:=by
  have h1:=hr.1
  unfold outV at h1
  rw[flat_length Place.cells 2 (λ_=>rfl)] at h1
  omega
 refine⟨λl4 i h2=>∃ k:Nat,i=(k:Int)/\k<=out.length/\Buf h2 l4 1 5 (xs++bv ((out.take k).flatMap Place.enc))/\Upd h h2 l l4,λ_ i _=>out.length-i.toNat,⟨0,rfl,Nat.zero_le _,by simpa[bv] using B,Upd.refl _ _⟩,?_⟩
 rintro l4 i h2 ⟨k,rfl,hk,B1,U1⟩
 refine⟨λhlt=>?_,λhge=>?_⟩
 ·have hk1:k<out.length:=by omega
  obtain⟨b,o,ha,hat⟩:=row_get (row_upd U1 ho hr) (i:=k*2) (by omega)
  have hp:=hok _ (List.getElem_mem hk1)
  have c0:=flat_get Place.cells 2 (λ_=>rfl) out k 0 hk1 (by decide)
  have c1:=flat_get Place.cells 2 (λ_=>rfl) out k 1 hk1 (by decide)
  have hlen:l4.n<=1000000+20*1000:=by
   have e1:=B1.n1
   have e2:=B.n1
   have e3:=flatMap_le Place.enc 20 (out.take k) (λp _=>p.enc_length)
   rw[length_take,Nat.min_eq_left hk] at e3
   simp only[length_append,bv_length] at e1
   omega
  refine⟨b,o,ha,⟨by omega,hlt⟩,out[k].lv,?_,out[k].num,?_,λb3 hb3=>?_⟩
  ·rw[Int.toNat_natCast,hat _ (by omega)];exact c0
  ·rw[Int.toNat_natCast,Nat.add_assoc,hat _ (by omega)];exact c1
  ·have hw1:wrap .u64 out[k].lv=out[k].lv:=wrap_u64 hp.lv.1 (by have:=hp.lv.2;omega)
   rw[hw1]
   refine uints_lit (ns:=[out[k].lv,out[k].num]) B1 (λn hn=>?_) (by simp;omega) (λl5 h3 B5 U5=>⟨l5,rfl,?_,?_⟩) b3 hb3
   ·simp only[mem_cons,List.not_mem_nil,or_false] at hn
    rcases hn with rfl|rfl
    ·exact⟨hp.lv.1,by have:=hp.lv.2;omega⟩
    ·exact hp.num
   ·have hw:wrap .i64 ((k:Int)+1)=((k+1:Nat):Int):=by rw[wrap_i64 (by omega) (by omega)];omega
    rw[hw]
    refine⟨k+1,rfl,hk1,?_,U1.trans U5⟩
    rw[List.take_succ_eq_append_getElem hk1,List.flatMap_append,bv_append,<- List.append_assoc]
    simpa[Place.enc] using B5
   ·have hw:wrap .i64 ((k:Int)+1)=((k+1:Nat):Int):=by rw[wrap_i64 (by omega) (by omega)];omega
    rw[hw]
    show out.length-((k+1:Nat):Int).toNat<out.length-(k:Int).toNat
    omega
 ·have hkn:k=out.length:=by omega
  subst hkn
  rw[List.take_length] at B1
  exact hR l4 h2 B1 U1
theorem in_loop{h:Hp}{l li:Sl}{xs:List Value}{inn:List Placed}{R:Sl->Hp->Prop}(B:Buf h l 1 5 xs)(hr:h.row li.a (li.n*7) (inV inn))(ho:li.n*7=0\/Off li l)(hok:∀ p∈inn,p.ok)(hn:inn.length<=1000)(hl:l.n<=2000000)
  (hR:∀ l' h',Buf h' l' 1 5 (xs++bv (inn.flatMap Placed.enc))->Upd h h' l l'->R l' h') :
  ∃ (I1:Sl->Int->Hp->Prop) (m1:Sl->Int->Hp->Nat),I1 l 0 h/\(∀ l7:Sl,∀ n6:Int,∀ h5:Hp,I1 l7 n6 h5->par (n6<(li.n:Int)) (∃ b6 o2,(li.a:Option Addr)=some ⟨b6,o2,none⟩/\((0:Int)<=n6/\n6<(li.n:Int))/\∃ n7:Int,h5.at b6 (o2+n6.toNat*7)=some (.int .i64 n7)/\∃ n8:Int,h5.at b6 ((o2+n6.toNat*7)+1)=some (.int .u64 n8)/\∃ n9:Int,h5.at b6 ((o2+n6.toNat*7)+2)=some (.int .i64 n9)/\∃ n10:Int,h5.at b6 ((o2+n6.toNat*7)+3)=some (.int .i64 n10)/\∃ n11:Int,h5.at b6 ((o2+n6.toNat*7)+4)=some (.int .i64 n11)/\∃ s:ByteArray,h5.at b6 ((o2+n6.toNat*7)+5)=some (.string s)/\∃ s1:ByteArray,h5.at b6 ((o2+n6.toNat*7)+6)=some (.string s1)/\∀ b7,h5 b7=none->F95.T l7 ⟨(some ⟨b7,0,none⟩),5,5⟩ (h5.new b7 (.cells ⟨[.int .u64 (wrap .u64 n7),.int .u64 n8,.int .u64 (wrap .u64 n9),.int .u64 (wrap .u64 n10),.int .u64 (wrap .u64 n11)]⟩ 22 (0,0))) λr3 h6=>∃ l8:Sl,r3=.slice l8.a l8.n l8.c/\F96.T l8 s h6 λr4 h7=>∃ l9:Sl,r4=.slice l9.a l9.n l9.c/\F96.T l9 s1 h7 λr5 h8=>∃ l10:Sl,r5=.slice l10.a l10.n l10.c/\I1 l10 (wrap .i64 (n6+1)) h8/\m1 l10 (wrap .i64 (n6+1)) h8<m1 l7 n6 h5) (R l7 h5)):=by
 have hli:li.n=inn.length:=by
  have h1:=hr.1
  unfold inV at h1
  rw[flat_length Placed.cells 7 (λ_=>rfl)] at h1
  omega
 refine⟨λl4 i h2=>∃ k:Nat,i=(k:Int)/\k<=inn.length/\Buf h2 l4 1 5 (xs++bv ((inn.take k).flatMap Placed.enc))/\Upd h h2 l l4,λ_ i _=>inn.length-i.toNat,⟨0,rfl,Nat.zero_le _,by simpa[bv] using B,Upd.refl _ _⟩,?_⟩
 rintro l4 i h2 ⟨k,rfl,hk,B1,U1⟩
 refine⟨λhlt=>?_,λhge=>?_⟩
 ·have hk1:k<inn.length:=by omega
  obtain⟨b,o,ha,hat⟩:=row_get (row_upd U1 ho hr) (i:=k*7) (by omega)
  have hp:=hok _ (List.getElem_mem hk1)
  have cc:∀ j,j<7->h2.at b ((o+k*7)+j)=(Placed.cells inn[k])[j]?:=λj hj=>by
   rw[Nat.add_assoc,hat _ (by omega)]
   exact flat_get Placed.cells 7 (λ_=>rfl) inn k j hk1 hj
  have hlen:l4.n<=2000000+198*1000:=by
   have e1:=B1.n1
   have e2:=B.n1
   have e3:=flatMap_le Placed.enc 198 (inn.take k) (λp hp=>(hok p (List.mem_of_mem_take hp)).enc_length')
   rw[length_take,Nat.min_eq_left hk] at e3
   simp only[length_append,bv_length] at e1
   omega
  refine⟨b,o,ha,⟨by omega,hlt⟩,inn[k].lv,?_,inn[k].num,?_,inn[k].weight,?_,inn[k].bytes,?_,inn[k].entries,?_,inn[k].least,?_,inn[k].greatest,?_,λb3 hb3=>?_⟩
  ·rw[Int.toNat_natCast];exact cc 0 (by decide)
  ·rw[Int.toNat_natCast];exact cc 1 (by decide)
  ·rw[Int.toNat_natCast];exact cc 2 (by decide)
  ·rw[Int.toNat_natCast];exact cc 3 (by decide)
  ·rw[Int.toNat_natCast];exact cc 4 (by decide)
  ·rw[Int.toNat_natCast];exact cc 5 (by decide)
  ·rw[Int.toNat_natCast];exact cc 6 (by decide)
  ·have uw:∀ n,okI n->wrap .u64 n=n:=λn h=>wrap_u64 h.1 (by have:=h.2;omega)
   rw[uw _ hp.lv,uw _ hp.weight,uw _ hp.bytes,uw _ hp.entries]
   have iu:∀ n,okI n->0<=n/\n<18446744073709551616:=λn h=>⟨h.1,by have:=h.2;omega⟩
   have hle:=hp.least
   have hgr:=hp.greatest
   have hw:wrap .i64 ((k:Int)+1)=((k+1:Nat):Int):=by rw[wrap_i64 (by omega) (by omega)];omega
   refine uints_lit (ns:=[inn[k].lv,inn[k].num,inn[k].weight,inn[k].bytes,inn[k].entries]) B1 (λn hn=>?_) (by simp;omega) (λl5 h3 B5 U5=>⟨l5,rfl,?_⟩) b3 hb3
   ·simp only[mem_cons,List.not_mem_nil,or_false] at hn
    rcases hn with rfl|rfl|rfl|rfl|rfl
    ·exact iu _ hp.lv
    ·exact hp.num
    ·exact iu _ hp.weight
    ·exact iu _ hp.bytes
    ·exact iu _ hp.entries
   ·have e5:l5.n<=l4.n+50:=by
     have e1:=B5.n1
     have e2:=B1.n1
     have e3:=encUs_length [inn[k].lv,inn[k].num,inn[k].weight,inn[k].bytes,inn[k].entries]
     simp only[length_append,bv_length,length_cons,length_nil] at e1 e2 e3
     omega
    refine text_spec B5 (by omega) (by omega) λl6 h4 B6 U6=>⟨l6,rfl,?_⟩
    have e6:l6.n<=l5.n+74:=by
     have e1:=B6.n1
     have e2:=B5.n1
     have e3:=encT_length hle
     rw[length_append,bv_length] at e1
     omega
    refine text_spec B6 (by omega) (by omega) λl7 h5 B7 U7=>⟨l7,rfl,?_,?_⟩
    ·rw[hw]
     refine⟨k+1,rfl,hk1,?_,((U1.trans U5).trans U6).trans U7⟩
     rw[List.take_succ_eq_append_getElem hk1,List.flatMap_append,bv_append,<- List.append_assoc]
     simp only[List.flatMap_cons,List.flatMap_nil,append_nil,Placed.enc,bv_append,<- List.append_assoc]
     exact B7
    ·rw[hw]
     show inn.length-((k+1:Nat):Int).toNat<inn.length-(k:Int).toNat
     omega
 ·have hkn:k=inn.length:=by omega
  subst hkn
  rw[List.take_length] at B1
  exact hR l4 h2 B1 U1
end Go.Eng.YtblghgacokoklaaDoor
end
section
namespace Go.Eng.YtblghgacokoklaaDoor
theorem ptr_loop{h:Hp}{l lp:Sl}{xs:List Value}{ptr:List ByteArray}{R:Sl->Hp->Prop}(B:Buf h l 1 5 xs)(hr:h.row lp.a lp.n (ptrV ptr))(ho:lp.n=0\/Off lp l)(hok:∀ p∈ptr,p.size<=64)(hn:ptr.length<=1000)(hl:l.n<=3000000)
  (hR:∀ l' h',Buf h' l' 1 5 (xs++bv (ptr.flatMap encT))->Upd h h' l l'->R l' h') :
  ∃ (I2:Sl->Int->Hp->Prop) (m2:Sl->Int->Hp->Nat),I2 l 0 h/\(∀ l12:Sl,∀ n12:Int,∀ h10:Hp,I2 l12 n12 h10->par (n12<(lp.n:Int)) (∃ b9 o3,(lp.a:Option Addr)=some ⟨b9,o3,none⟩/\((0:Int)<=n12/\n12<(lp.n:Int))/\∃ s2:ByteArray,h10.at b9 (o3+n12.toNat)=some (.string s2)/\F96.T l12 s2 h10 λr7 h11=>∃ l13:Sl,r7=.slice l13.a l13.n l13.c/\I2 l13 (wrap .i64 (n12+1)) h11/\m2 l13 (wrap .i64 (n12+1)) h11<m2 l12 n12 h10) (R l12 h10)):=by
 have hlp:lp.n=ptr.length:=by have h1:=hr.1;simpa[ptrV] using h1.symm
 refine⟨λl4 i h2=>∃ k:Nat,i=(k:Int)/\k<=ptr.length/\Buf h2 l4 1 5 (xs++bv ((ptr.take k).flatMap encT))/\Upd h h2 l l4,λ_ i _=>ptr.length-i.toNat,⟨0,rfl,Nat.zero_le _,by simpa[bv] using B,Upd.refl _ _⟩,?_⟩
 rintro l4 i h2 ⟨k,rfl,hk,B1,U1⟩
 refine⟨λhlt=>?_,λhge=>?_⟩
 ·have hk1:k<ptr.length:=by omega
  obtain⟨b,o,ha,hat⟩:=row_get (row_upd U1 ho hr) (i:=k) (by omega)
  have hp:=hok _ (List.getElem_mem hk1)
  have hlen:l4.n<=3000000+74*1000:=by
   have e1:=B1.n1
   have e2:=B.n1
   have e3:=flatMap_le encT 74 (ptr.take k) (λp hp=>encT_length (hok p (List.mem_of_mem_take hp)))
   rw[length_take,Nat.min_eq_left hk] at e3
   simp only[length_append,bv_length] at e1
   omega
  have hw:wrap .i64 ((k:Int)+1)=((k+1:Nat):Int):=by rw[wrap_i64 (by omega) (by omega)];omega
  refine⟨b,o,ha,⟨by omega,hlt⟩,ptr[k],?_,?_⟩
  ·rw[Int.toNat_natCast,hat _ (by omega)];simp[ptrV,hk1]
  ·refine text_spec B1 (by omega) (by omega) λl5 h3 B5 U5=>⟨l5,rfl,?_,?_⟩
   ·rw[hw]
    refine⟨k+1,rfl,hk1,?_,U1.trans U5⟩
    rw[List.take_succ_eq_append_getElem hk1,List.flatMap_append,bv_append,<- List.append_assoc]
    simpa using B5
   ·rw[hw]
    show ptr.length-((k+1:Nat):Int).toNat<ptr.length-(k:Int).toNat
    omega
 ·have hkn:k=ptr.length:=by omega
  subst hkn
  rw[List.take_length] at B1
  exact hR l4 h2 B1 U1
structure EdAt(h:Hp)(e:Edit)(l l1 l2:Sl):Prop where
 out:h.row l.a (l.n*2) (outV e.out)
 inn:h.row l1.a (l1.n*7) (inV e.inn)
 ptr:h.row l2.a l2.n (ptrV e.ptr)
structure Edit.small(e:Edit):Prop where
 log:okU e.log
 next:okU e.next
 seq:okU e.seq
 out:∀ p∈e.out,p.ok
 inn:∀ p∈e.inn,p.ok
 ptr:∀ p∈e.ptr,p.size<=64
 nout:e.out.length<=1000
 ninn:e.inn.length<=1000
 nptr:e.ptr.length<=1000
theorem EdAt.nout{h:Hp}{e:Edit}{l l1 l2:Sl}(E:EdAt h e l l1 l2):l.n=e.out.length:=by
 have h1:=E.out.1
 unfold outV at h1
 rw[flat_length Place.cells 2 (λ_=>rfl)] at h1
 omega
theorem EdAt.ninn{h:Hp}{e:Edit}{l l1 l2:Sl}(E:EdAt h e l l1 l2):l1.n=e.inn.length:=by
 have h1:=E.inn.1
 unfold inV at h1
 rw[flat_length Placed.cells 7 (λ_=>rfl)] at h1
 omega
theorem EdAt.nptr{h:Hp}{e:Edit}{l l1 l2:Sl}(E:EdAt h e l l1 l2):l2.n=e.ptr.length:=by
 have h1:=E.ptr.1;simpa[ptrV] using h1.symm
def New(h:Hp)(s:Sl):Prop:=∃ b,s.a=some ⟨b,0,none⟩/\h b=none
theorem New.upd{h h':Hp}{s s':Sl}(N:New h s)(U:Upd h h' s s'):New h s':=by
 obtain⟨b,hb,hn⟩:=N
 rcases U.at_ with h0|h1
 ·exact⟨b,by rw[h0];exact hb,hn⟩
 ·exact h1
theorem New.keep{h h':Hp}{s s':Sl}(N:New h s)(U:Upd h h' s s'):Keep h h':=by
 obtain⟨b,hb,hn⟩:=N
 exact λk x e=>U.keep k x (λo hs=>by rw[hb] at hs;simp only[Option.some.injEq,Addr.mk.injEq] at hs;rw[<- hs.1,hn] at e;cases e) e
theorem New.off{h:Hp}{s r:Sl}(N:New h s){n:Nat}{vs:List Value}(hr:h.row r.a n vs):n=0\/Off r s:=by
 obtain⟨b,hb,hn⟩:=N
 exact off_fresh hr hb hn
theorem encs_len(ns:List Int)(k:Nat)(h:ns.length=k):(encUs ns).length<=10*k:=by have:=encUs_length ns;omega
theorem record_f{h:Hp}{e:Edit}{l l1 l2:Sl}{Q:Value->Hp->Prop}(E:EdAt h e l l1 l2)(S:e.small)
  (hQ:∀ r h',Buf h' r 1 5 (bv (recB e false))->Keep h h'->New h r->Q (.slice r.a r.n r.c) h'):F63.Tf e.log e.next e.seq l l1 l2 h Q:=by
 have c1:wrap .u64 (l.n:Int)=(e.out.length:Int):=by rw[E.nout];exact wrap_u64 (by omega) (by have:=S.nout;omega)
 have c2:wrap .u64 (l1.n:Int)=(e.inn.length:Int):=by rw[E.ninn];exact wrap_u64 (by omega) (by have:=S.ninn;omega)
 have c3:wrap .u64 (l2.n:Int)=(e.ptr.length:Int):=by rw[E.nptr];exact wrap_u64 (by omega) (by have:=S.nptr;omega)
 unfold F63.Tf
 rw[c1,c2,c3]
 intro b hb
 let s0:Sl:=⟨some ⟨b,0,none⟩,1,1⟩
 have N0:New h s0:=⟨b,rfl,hb⟩
 have B0:Buf (h.new b (.cells ⟨[.int .u8 0]⟩ 5 (0,0))) s0 1 5 (bv [0]):=⟨rfl,Nat.le_refl _,.inr ⟨b,_,(0,0),rfl,by unfold Hp.new;rw[if_pos rfl],Nat.le_refl _,λj _=>by simp,rfl⟩⟩
 have U0:Upd h (h.new b (.cells ⟨[.int .u8 0]⟩ 5 (0,0))) s0 s0:=Upd.of_new hb _ s0
 refine uints_lit (l:=s0) (ns:=[e.log,e.next,e.seq,(e.out.length:Int)]) B0 (λn hn=>?_) (by simp[s0]) (λl3 h1 B1 U1=>⟨l3,rfl,?_⟩)
 ·simp only[mem_cons,List.not_mem_nil,or_false] at hn
  have:=S.nout
  rcases hn with rfl|rfl|rfl|rfl
  ·exact S.log
  ·exact S.next
  ·exact S.seq
  ·omega
 ·have U01:=U0.trans U1
  have m1:l3.n<=41:=by
   have e1:=B1.n1
   have e3:=encs_len [e.log,e.next,e.seq,(e.out.length:Int)] 4 rfl
   simp only[length_append,bv_length,length_singleton] at e1
   omega
  refine out_loop (lo:=l) (out:=e.out) B1 (row_upd U01 (N0.off E.out) E.out) ((N0.upd U01).off E.out) S.out S.nout (by omega) (λl4 h2 B2 U2=>?_)
  have U02:=U01.trans U2
  have m2:l4.n<=41+20*1000:=by
   have e1:=B2.n1
   have e2:=B1.n1
   have e3:=flatMap_le Place.enc 20 e.out (λp _=>p.enc_length)
   have:=S.nout
   rw[length_append,bv_length] at e1
   omega
  refine uints_lit (ns:=[(e.inn.length:Int)]) B2 (λn hn=>?_) (by simp;omega) (λl5 h3 B3 U3=>⟨l5,rfl,?_⟩)
  ·simp only[mem_cons,List.not_mem_nil,or_false] at hn
   have:=S.ninn
   subst hn
   omega
  have U03:=U02.trans U3
  have m3:l5.n<=41+20*1000+10:=by
   have e1:=B3.n1
   have e2:=B2.n1
   have e3:=encs_len [(e.inn.length:Int)] 1 rfl
   rw[length_append,bv_length] at e1
   omega
  refine in_loop (li:=l1) (inn:=e.inn) B3 (row_upd U03 (N0.off E.inn) E.inn) ((N0.upd U03).off E.inn) S.inn S.ninn (by omega) (λl6 h4 B4 U4=>?_)
  have U04:=U03.trans U4
  have m4:l6.n<=41+20*1000+10+198*1000:=by
   have e1:=B4.n1
   have e2:=B3.n1
   have e3:=flatMap_le Placed.enc 198 e.inn (λp hp=>(S.inn p hp).enc_length')
   have:=S.ninn
   rw[length_append,bv_length] at e1
   omega
  refine uints_lit (ns:=[(e.ptr.length:Int)]) B4 (λn hn=>?_) (by simp;omega) (λl7 h5 B5 U5=>⟨l7,rfl,?_⟩)
  ·simp only[mem_cons,List.not_mem_nil,or_false] at hn
   have:=S.nptr
   subst hn
   omega
  have U05:=U04.trans U5
  have m5:l7.n<=41+20*1000+10+198*1000+10:=by
   have e1:=B5.n1
   have e2:=B4.n1
   have e3:=encs_len [(e.ptr.length:Int)] 1 rfl
   rw[length_append,bv_length] at e1
   omega
  refine ptr_loop (lp:=l2) (ptr:=e.ptr) (R:=λl' h'=>Q (.slice l'.a l'.n l'.c) h') B5 (row_upd U05 (N0.off E.ptr) E.ptr) ((N0.upd U05).off E.ptr) S.ptr S.nptr (by omega) (λl8 h6 B6 U6=>?_)
  have U06:=U05.trans U6
  refine hQ l8 h6 ?_ (N0.keep U06) (N0.upd U06)
  simpa[recB,bv_append,bv,List.append_assoc] using B6
theorem record_t{h:Hp}{e:Edit}{l l1 l2:Sl}{Q:Value->Hp->Prop}(E:EdAt h e l l1 l2)(S:e.small)
  (hQ:∀ r h',Buf h' r 1 5 (bv (recB e true))->Keep h h'->New h r->Q (.slice r.a r.n r.c) h'):F63.Tt e.log e.next e.seq l l1 l2 h Q:=by
 have c1:wrap .u64 (l.n:Int)=(e.out.length:Int):=by rw[E.nout];exact wrap_u64 (by omega) (by have:=S.nout;omega)
 have c2:wrap .u64 (l1.n:Int)=(e.inn.length:Int):=by rw[E.ninn];exact wrap_u64 (by omega) (by have:=S.ninn;omega)
 have c3:wrap .u64 (l2.n:Int)=(e.ptr.length:Int):=by rw[E.nptr];exact wrap_u64 (by omega) (by have:=S.nptr;omega)
 unfold F63.Tt
 rw[c1,c2,c3]
 intro b hb
 let s0:Sl:=⟨some ⟨b,0,none⟩,1,1⟩
 have N0:New h s0:=⟨b,rfl,hb⟩
 have hcell:(h.new b (.cells ⟨[.int .u8 0]⟩ 5 (0,0))) b=some (.cells ⟨[.int .u8 0]⟩ 5 (0,0)):=by unfold Hp.new;rw[if_pos rfl]
 refine⟨b,0,rfl,⟨by decide,by decide⟩,⟨_,5,(0,0),hcell,by decide,λj _ _=>by simp⟩,?_⟩
 have B0:Buf ((h.new b (.cells ⟨[.int .u8 0]⟩ 5 (0,0))).wr b (0+(0:Int).toNat) [.int .u8 1]) s0 1 5 (bv [1]):=⟨rfl,Nat.le_refl _,.inr ⟨b,⟨[.int .u8 1]⟩,(0,0),rfl,by unfold Hp.wr;rw[if_pos rfl,hcell];rfl,Nat.le_refl _,λj _=>by simp,rfl⟩⟩
 have U0:Upd h ((h.new b (.cells ⟨[.int .u8 0]⟩ 5 (0,0))).wr b (0+(0:Int).toNat) [.int .u8 1]) s0 s0:=by
  refine⟨λk x hk e=>?_,.inl rfl,λk e=>?_⟩
  ·have hkb:k≠b:=λq=>hk 0 (by rw[q])
   unfold Hp.wr Hp.new
   rw[if_neg hkb,if_neg hkb]
   exact e
  ·unfold Hp.wr at e
   by_cases hkb:k=b
   ·rw[hkb];exact hb
   ·rw[if_neg hkb] at e
    unfold Hp.new at e
    rw[if_neg hkb] at e
    exact e
 refine uints_lit (l:=s0) (ns:=[e.log,e.next,e.seq,(e.out.length:Int)]) B0 (λn hn=>?_) (by simp[s0]) (λl3 h1 B1 U1=>⟨l3,rfl,?_⟩)
 ·simp only[mem_cons,List.not_mem_nil,or_false] at hn
  have:=S.nout
  rcases hn with rfl|rfl|rfl|rfl
  ·exact S.log
  ·exact S.next
  ·exact S.seq
  ·omega
 ·have U01:=U0.trans U1
  have m1:l3.n<=41:=by
   have e1:=B1.n1
   have e3:=encs_len [e.log,e.next,e.seq,(e.out.length:Int)] 4 rfl
   simp only[length_append,bv_length,length_singleton] at e1
   omega
  refine out_loop (lo:=l) (out:=e.out) B1 (row_upd U01 (N0.off E.out) E.out) ((N0.upd U01).off E.out) S.out S.nout (by omega) (λl4 h2 B2 U2=>?_)
  have U02:=U01.trans U2
  have m2:l4.n<=41+20*1000:=by
   have e1:=B2.n1
   have e2:=B1.n1
   have e3:=flatMap_le Place.enc 20 e.out (λp _=>p.enc_length)
   have:=S.nout
   rw[length_append,bv_length] at e1
   omega
  refine uints_lit (ns:=[(e.inn.length:Int)]) B2 (λn hn=>?_) (by simp;omega) (λl5 h3 B3 U3=>⟨l5,rfl,?_⟩)
  ·simp only[mem_cons,List.not_mem_nil,or_false] at hn
   have:=S.ninn
   subst hn
   omega
  have U03:=U02.trans U3
  have m3:l5.n<=41+20*1000+10:=by
   have e1:=B3.n1
   have e2:=B2.n1
   have e3:=encs_len [(e.inn.length:Int)] 1 rfl
   rw[length_append,bv_length] at e1
   omega
  refine in_loop (li:=l1) (inn:=e.inn) B3 (row_upd U03 (N0.off E.inn) E.inn) ((N0.upd U03).off E.inn) S.inn S.ninn (by omega) (λl6 h4 B4 U4=>?_)
  have U04:=U03.trans U4
  have m4:l6.n<=41+20*1000+10+198*1000:=by
   have e1:=B4.n1
   have e2:=B3.n1
   have e3:=flatMap_le Placed.enc 198 e.inn (λp hp=>(S.inn p hp).enc_length')
   have:=S.ninn
   rw[length_append,bv_length] at e1
   omega
  refine uints_lit (ns:=[(e.ptr.length:Int)]) B4 (λn hn=>?_) (by simp;omega) (λl7 h5 B5 U5=>⟨l7,rfl,?_⟩)
  ·simp only[mem_cons,List.not_mem_nil,or_false] at hn
   have:=S.nptr
   subst hn
   omega
  have U05:=U04.trans U5
  have m5:l7.n<=41+20*1000+10+198*1000+10:=by
   have e1:=B5.n1
   have e2:=B4.n1
   have e3:=encs_len [(e.ptr.length:Int)] 1 rfl
   rw[length_append,bv_length] at e1
   omega
  refine ptr_loop (lp:=l2) (ptr:=e.ptr) (R:=λl' h'=>Q (.slice l'.a l'.n l'.c) h') B5 (row_upd U05 (N0.off E.ptr) E.ptr) ((N0.upd U05).off E.ptr) S.ptr S.nptr (by omega) (λl8 h6 B6 U6=>?_)
  have U06:=U05.trans U6
  refine hQ l8 h6 ?_ (N0.keep U06) (N0.upd U06)
  simpa[recB,bv_append,bv,List.append_assoc] using B6
end Go.Eng.YtblghgacokoklaaDoor
end
section
namespace Go.Eng.YtblghgacokoklaaDoor
def Place.told(p:Place):Bool:=decide (0<=p.lv/\p.lv<5)
def Placed.told(p:Placed):Bool:=decide (0<=p.lv/\p.lv<5/\0<=p.weight/\0<=p.bytes/\0<=p.entries/\p.least.size<=64/\p.greatest.size<=64)
def Edit.told(e:Edit):Bool:=e.out.all Place.told && (e.inn.all Placed.told && (e.ptr.all (λs=>decide (s.size<=64)) && decide (e.ptr.length<=5)))
theorem all_at{α:Type}(f:α->Bool)(l:List α)(k:Nat)(hk:k<l.length)(h0:(l.take k).all f=true):(l.take (k+1)).all f=f l[k]:=by
 rw[List.take_succ_eq_append_getElem hk,List.all_append,h0]
 simp
theorem all_not{α:Type}(f:α->Bool)(l:List α)(k:Nat)(hk:k<l.length)(h:f l[k]=false):l.all f=false:=by
 rw[List.all_eq_false]
 exact⟨l[k],List.getElem_mem hk,by simp[h]⟩
theorem next_i{k n:Nat}(hk:k<n)(hn:n<9223372036854775807):wrap .i64 ((k:Int)+1)=((k+1:Nat):Int):=by rw[wrap_i64 (by omega) (by omega)];omega
theorem tells_spec{h:Hp}{e:Edit}{l l1 l2:Sl}{Q:Value->Hp->Prop}(E:EdAt h e l l1 l2)(n1:e.out.length<9223372036854775807)(n2:e.inn.length<9223372036854775807)(n3:e.ptr.length<9223372036854775807)
  (hQ:Q (.bool e.told) h):F62.T e.log e.next e.seq l l1 l2 h Q:=by
 have bad1:e.out.all Place.told=false->Q (.bool false) h:=λhb=>by
  have:e.told=false:=by unfold Edit.told;rw[hb];rfl
  rw[this] at hQ;exact hQ
 refine⟨λi h1=>∃ k:Nat,i=(k:Int)/\k<=e.out.length/\h1=h/\(e.out.take k).all Place.told=true,λi _=>e.out.length-i.toNat,⟨0,rfl,Nat.zero_le _,rfl,rfl⟩,?_⟩
 rintro i h1 ⟨k,rfl,hk,rfl,ht⟩
 refine⟨λhlt=>?_,λhge=>?_⟩
 ·have hk1:k<e.out.length:=by have:=E.nout;omega
  obtain⟨b,o,ha,hat⟩:=row_get E.out (i:=k*2) (by have:=E.nout;omega)
  have cc:∀ j,j<2->h1.at b ((o+k*2)+j)=(Place.cells e.out[k])[j]?:=λj hj=>by
   rw[Nat.add_assoc,hat _ (by have:=E.nout;omega)]
   exact flat_get Place.cells 2 (λ_=>rfl) e.out k j hk1 hj
  refine⟨b,o,ha,⟨by omega,hlt⟩,e.out[k].lv,?_,e.out[k].num,?_,⟨λhb=>?_,λhb=>⟨λhc=>?_,λhc=>⟨⟨k+1,next_i hk1 n1,hk1,rfl,?_⟩,?_⟩⟩⟩⟩
  ·rw[Int.toNat_natCast];exact cc 0 (by decide)
  ·rw[Int.toNat_natCast];exact cc 1 (by decide)
  ·exact bad1 (all_not _ _ k hk1 (by unfold Place.told;rw[decide_eq_false];omega))
  ·exact bad1 (all_not _ _ k hk1 (by unfold Place.told;rw[decide_eq_false];omega))
  ·rw[all_at _ _ k hk1 ht];unfold Place.told;rw[decide_eq_true];omega
  ·rw[next_i hk1 n1]
   show e.out.length-((k+1:Nat):Int).toNat<e.out.length-(k:Int).toNat
   omega
 have hkn:k=e.out.length:=by have:=E.nout;omega
 subst hkn
 rw[List.take_length] at ht
 have bad2:e.inn.all Placed.told=false->Q (.bool false) h1:=λhb=>by
  have:e.told=false:=by unfold Edit.told;rw[hb];simp
  rw[this] at hQ;exact hQ
 refine⟨λi h2=>∃ k:Nat,i=(k:Int)/\k<=e.inn.length/\h2=h1/\(e.inn.take k).all Placed.told=true,λi _=>e.inn.length-i.toNat,⟨0,rfl,Nat.zero_le _,rfl,rfl⟩,?_⟩
 rintro i h2 ⟨k,rfl,hk,rfl,ht2⟩
 refine⟨λhlt=>?_,λhge=>?_⟩
 ·have hk1:k<e.inn.length:=by have:=E.ninn;omega
  obtain⟨b,o,ha,hat⟩:=row_get E.inn (i:=k*7) (by have:=E.ninn;omega)
  have cc:∀ j,j<7->h2.at b ((o+k*7)+j)=(Placed.cells e.inn[k])[j]?:=λj hj=>by
   rw[Nat.add_assoc,hat _ (by have:=E.ninn;omega)]
   exact flat_get Placed.cells 7 (λ_=>rfl) e.inn k j hk1 hj
  have hbad:¬ (0<=e.inn[k].lv/\e.inn[k].lv<5/\0<=e.inn[k].weight/\0<=e.inn[k].bytes/\0<=e.inn[k].entries/\e.inn[k].least.size<=64/\e.inn[k].greatest.size<=64)->Q (.bool false) h2:=λhb=>bad2 (all_not _ _ k hk1 (by unfold Placed.told;rw[decide_eq_false hb]))
  refine⟨b,o,ha,⟨by omega,hlt⟩,e.inn[k].lv,?_,e.inn[k].num,?_,e.inn[k].weight,?_,e.inn[k].bytes,?_,e.inn[k].entries,?_,e.inn[k].least,?_,e.inn[k].greatest,?_,⟨λhb=>hbad (by omega),λhb=>⟨λhc=>hbad (by omega),λhc=>⟨λhd=>hbad ?_,λhd=>⟨λhf=>hbad ?_,λhf=>⟨⟨k+1,next_i hk1 n2,hk1,rfl,?_⟩,?_⟩⟩⟩⟩⟩⟩
  ·rw[Int.toNat_natCast];exact cc 0 (by decide)
  ·rw[Int.toNat_natCast];exact cc 1 (by decide)
  ·rw[Int.toNat_natCast];exact cc 2 (by decide)
  ·rw[Int.toNat_natCast];exact cc 3 (by decide)
  ·rw[Int.toNat_natCast];exact cc 4 (by decide)
  ·rw[Int.toNat_natCast];exact cc 5 (by decide)
  ·rw[Int.toNat_natCast];exact cc 6 (by decide)
  ·unfold iMin at hd;repeat (split at hd)<;>omega
  ·unfold iMax at hf;split at hf<;>omega
  ·rw[all_at _ _ k hk1 ht2]
   unfold Placed.told
   rw[decide_eq_true]
   unfold iMin at hd
   unfold iMax at hf
   refine⟨by omega,by omega,?_,?_,?_,?_,?_⟩
   ·split at hd<;>(try split at hd)<;>omega
   ·split at hd<;>(try split at hd)<;>omega
   ·split at hd<;>(try split at hd)<;>omega
   ·split at hf<;>omega
   ·split at hf<;>omega
  ·rw[next_i hk1 n2]
   show e.inn.length-((k+1:Nat):Int).toNat<e.inn.length-(k:Int).toNat
   omega
 have hkn:k=e.inn.length:=by have:=E.ninn;omega
 subst hkn
 rw[List.take_length] at ht2
 have bad3:e.ptr.all (λs=>decide (s.size<=64))=false->Q (.bool false) h2:=λhb=>by
  have:e.told=false:=by unfold Edit.told;rw[hb];simp
  rw[this] at hQ;exact hQ
 refine⟨λi h3=>∃ k:Nat,i=(k:Int)/\k<=e.ptr.length/\h3=h2/\(e.ptr.take k).all (λs=>decide (s.size<=64))=true,λi _=>e.ptr.length-i.toNat,⟨0,rfl,Nat.zero_le _,rfl,rfl⟩,?_⟩
 rintro i h3 ⟨k,rfl,hk,rfl,ht3⟩
 refine⟨λhlt=>?_,λhge=>?_⟩
 ·have hk1:k<e.ptr.length:=by have:=E.nptr;omega
  obtain⟨b,o,ha,hat⟩:=row_get E.ptr (i:=k) (by have:=E.nptr;omega)
  refine⟨b,o,ha,⟨by omega,hlt⟩,e.ptr[k],?_,⟨λhb=>?_,λhb=>⟨⟨k+1,next_i hk1 n3,hk1,rfl,?_⟩,?_⟩⟩⟩
  ·rw[Int.toNat_natCast,hat _ (by have:=E.nptr;omega)];simp[ptrV,hk1]
  ·exact bad3 (all_not _ _ k hk1 (by rw[decide_eq_false];omega))
  ·rw[all_at _ _ k hk1 ht3,decide_eq_true];omega
  ·rw[next_i hk1 n3]
   show e.ptr.length-((k+1:Nat):Int).toNat<e.ptr.length-(k:Int).toNat
   omega
 have hkn:k=e.ptr.length:=by have:=E.nptr;omega
 subst hkn
 rw[List.take_length] at ht3
 have hn:=E.nptr
 have htold:e.told=decide (e.ptr.length<=5):=by unfold Edit.told;rw[ht,ht2,ht3];simp
 rw[htold] at hQ
 refine⟨λhle=>?_,λhgt=>?_⟩
 ·rw[decide_eq_true (by omega)] at hQ;exact hQ
 ·rw[decide_eq_false (by omega)] at hQ;exact hQ
end Go.Eng.YtblghgacokoklaaDoor
end
section
namespace Go.Eng.YtblghgacokoklaaDoor
theorem row_take{h:Hp}{A:Option Addr}{n k:Nat}{vs:List Value}(hr:h.row A n vs)(hk:k<=n):h.row A k (vs.take k):=by
 refine⟨by rw[length_take,hr.1];omega,?_⟩
 rcases hr.2 with h0|⟨b,o,hA,hat⟩
 ·exact .inl (by omega)
 ·refine .inr ⟨b,o,hA,λj hj=>?_⟩
  rw[hat j (by omega),List.getElem?_take,if_pos hj]
theorem row_drop{h:Hp}{A:Option Addr}{n k:Nat}{vs:List Value}(hr:h.row A n vs)(hk:k<=n):h.row (A.map (·.add k)) (n-k) (vs.drop k):=by
 refine⟨by rw[List.length_drop,hr.1],?_⟩
 rcases hr.2 with h0|⟨b,o,hA,hat⟩
 ·exact .inl (by omega)
 ·refine .inr ⟨b,o+k,by rw[hA];simp[addr_add],λj hj=>?_⟩
  rw[Nat.add_assoc,hat (k+j) (by omega),List.getElem?_drop]
theorem row_congr{h:Hp}{A B:Option Addr}{n:Nat}{vs:List Value}(hr:h.row A n vs)(e:n=0\/A=B):h.row B n vs:=by
 rcases e with h0|rfl
 ·exact⟨hr.1,.inl h0⟩
 ·exact hr
theorem cut_front{h:Hp}{s:Sl}{sz k:Nat}{vs:List Value}(hr:h.row s.a (s.n*sz) vs)(hk:k<=s.n):h.row (Sl.cut s sz 0 (k:Int) (k:Int)).a ((Sl.cut s sz 0 (k:Int) (k:Int)).n*sz) (vs.take (k*sz)):=by
 have h1:=row_take hr (Nat.mul_le_mul_right sz hk)
 have hn:(Sl.cut s sz 0 (k:Int) (k:Int)).n=k:=by simp[Sl.cut]
 rw[hn]
 refine row_congr h1 ?_
 unfold Sl.cut
 simp only[Int.toNat_natCast,Int.toNat_zero,Nat.zero_mul]
 by_cases hk0:k=0
 ·left;rw[hk0];simp
 ·right
  rw[if_neg hk0]
  cases hA:s.a with
  |none=>rfl
  |some ad=>simp[Addr.add]
theorem cut_back{h:Hp}{s:Sl}{sz k:Nat}{vs:List Value}(hr:h.row s.a (s.n*sz) vs)(hk:k<=s.n)(hc:s.n<=s.c):h.row (Sl.cut s sz (k:Int) (s.n:Int) (s.c:Int)).a ((Sl.cut s sz (k:Int) (s.n:Int) (s.c:Int)).n*sz) (vs.drop (k*sz)):=by
 have h1:=row_drop hr (Nat.mul_le_mul_right sz hk)
 have hn:(Sl.cut s sz (k:Int) (s.n:Int) (s.c:Int)).n=s.n-k:=by simp[Sl.cut]
 rw[hn,Nat.sub_mul]
 refine row_congr h1 ?_
 unfold Sl.cut
 simp only[Int.toNat_natCast]
 by_cases hck:s.c=k
 ·left;have:s.n=k:=by omega
  rw[this];simp
 ·right;rw[if_neg hck]
def front(e:Edit):Edit:={ e with out:=e.out.take 256,inn:=e.inn.take (256-min e.out.length 256) }
def behind(e:Edit):Edit:={ e with out:=e.out.drop 256,inn:=e.inn.drop (256-min e.out.length 256) }
def putF:Nat->Edit->List (List Int)
 |0,_=>[]
 |f+1,e=>if (behind e).out.length+(behind e).inn.length=0 then[recB (front e) true] else recB { front e with ptr:=[] } false::putF f (behind e)
def putS(e:Edit):List (List Int):=if e.told then putF (e.out.length+e.inn.length+1) e else[]
def RowsAt(h:Hp)(ss:List Sl)(bs:List (List Int)):Prop:=ss.length=bs.length/\∀ (i:Nat) (hi:i<ss.length) (hj:i<bs.length),Buf h ss[i] 1 5 (bv bs[i])
def slV(ss:List Sl):List Value:=ss.map λs=>.slice s.a s.n s.c
theorem slV_length(ss:List Sl):(slV ss).length=ss.length:=List.length_map _
theorem RowsAt.keep{h h':Hp}(k:Keep h h'){ss:List Sl}{bs:List (List Int)}(R:RowsAt h ss bs):RowsAt h' ss bs:=⟨R.1,λi hi hj=>(R.2 i hi hj).keep k⟩
theorem RowsAt.upd{h h':Hp}{s s':Sl}{sz t:Nat}{vs:List Value}(U:Upd h h' s s')(B:Buf h s sz t vs)(ht:(5:Nat)≠t){ss:List Sl}{bs:List (List Int)}(R:RowsAt h ss bs):RowsAt h' ss bs:=⟨R.1,λi hi hj=>(R.2 i hi hj).upd U (buf_off (R.2 i hi hj) B ht)⟩
theorem RowsAt.nil(h:Hp):RowsAt h [] []:=⟨rfl,λi hi=>absurd hi (Nat.not_lt_zero i)⟩
theorem RowsAt.snoc{h:Hp}{ss:List Sl}{bs:List (List Int)}(R:RowsAt h ss bs){s:Sl}{b:List Int}(hr:Buf h s 1 5 (bv b)):RowsAt h (ss++[s]) (bs++[b]):=by
 refine⟨by simp[R.1],λi hi hj=>?_⟩
 by_cases hl:i<ss.length
 ·rw[List.getElem_append_left hl,List.getElem_append_left (by rw[<- R.1];exact hl)]
  exact R.2 i hl _
 ·have h1:i=ss.length:=by simp at hi;omega
  subst h1
  have h2:bs.length=ss.length:=R.1.symm
  rw[List.getElem_append_right (Nat.le_refl _),List.getElem_append_right (by omega)]
  simp only[Nat.sub_self,h2,List.getElem_cons_zero]
  exact hr
theorem keep_grow{h h1 h2:Hp}{s s':Sl}(K:Keep h h1)(N:s.a=none\/New h s)(U:Upd h1 h2 s s'):Keep h h2/\(s'.a=none\/New h s'):=by
 refine⟨λk x e=>U.keep k x (λo hs=>?_) (K k x e),?_⟩
 ·rcases N with h0|⟨b,hb,hn⟩
  ·rw[h0] at hs;cases hs
  ·rw[hb] at hs
   simp only[Option.some.injEq,Addr.mk.injEq] at hs
   rw[<- hs.1,hn] at e;cases e
 ·rcases U.at_ with h0|⟨b,hb,hn⟩
  ·rcases N with h3|⟨b,hb,hn⟩
   ·exact .inl (by rw[h0];exact h3)
   ·exact .inr ⟨b,by rw[h0];exact hb,hn⟩
  ·exact .inr ⟨b,hb,K.dom b hn⟩
theorem EdAt.keep{h h':Hp}{e:Edit}{l l1 l2:Sl}(k:Keep h h')(E:EdAt h e l l1 l2):EdAt h' e l l1 l2:=⟨k.row E.out,k.row E.inn,k.row E.ptr⟩
theorem record_f'{h:Hp}{e:Edit}{l l1 l2:Sl}{a b c:Int}{Q:Value->Hp->Prop}(ha:e.log=a)(hb:e.next=b)(hc:e.seq=c)(E:EdAt h e l l1 l2)(S:e.small)
  (hQ:∀ r h',Buf h' r 1 5 (bv (recB e false))->Keep h h'->New h r->Q (.slice r.a r.n r.c) h'):F63.Tf a b c l l1 l2 h Q:=by
 subst ha hb hc;exact record_f E S hQ
theorem record_t'{h:Hp}{e:Edit}{l l1 l2:Sl}{a b c:Int}{Q:Value->Hp->Prop}(ha:e.log=a)(hb:e.next=b)(hc:e.seq=c)(E:EdAt h e l l1 l2)(S:e.small)
  (hQ:∀ r h',Buf h' r 1 5 (bv (recB e true))->Keep h h'->New h r->Q (.slice r.a r.n r.c) h'):F63.Tt a b c l l1 l2 h Q:=by
 subst ha hb hc;exact record_t E S hQ
end Go.Eng.YtblghgacokoklaaDoor
end
section
namespace Go.Eng.YtblghgacokoklaaDoor
structure Edit.valid(e:Edit):Prop where
 log:okU e.log
 next:okU e.next
 seq:okU e.seq
 out:∀ p∈e.out,p.lv<9223372036854775808/\okU p.num
 inn:∀ p∈e.inn,p.lv<9223372036854775808/\okU p.num/\p.weight<9223372036854775808/\p.bytes<9223372036854775808/\p.entries<9223372036854775808
structure Told(e:Edit):Prop where
 out:∀ p∈e.out,p.ok
 inn:∀ p∈e.inn,p.ok
 ptr:∀ p∈e.ptr,p.size<=64
 n:e.ptr.length<=5
theorem told_spec{e:Edit}(V:e.valid)(h:e.told=true):Told e:=by
 unfold Edit.told at h
 simp only[Bool.and_eq_true,List.all_eq_true,decide_eq_true_eq] at h
 obtain⟨h1,h2,h3,h4⟩:=h
 refine⟨λp hp=>?_,λp hp=>?_,h3,h4⟩
 ·have:=h1 p hp
  unfold Place.told at this
  rw[decide_eq_true_eq] at this
  exact⟨⟨this.1,(V.out p hp).1⟩,(V.out p hp).2⟩
 ·have:=h2 p hp
  unfold Placed.told at this
  rw[decide_eq_true_eq] at this
  have v:=V.inn p hp
  exact⟨⟨this.1,v.1⟩,v.2.1,⟨this.2.2.1,v.2.2.1⟩,⟨this.2.2.2.1,v.2.2.2.1⟩,⟨this.2.2.2.2.1,v.2.2.2.2⟩,this.2.2.2.2.2.1,this.2.2.2.2.2.2⟩
theorem flat_take{α:Type}(f:α->List Value)(n:Nat)(hf:∀ x,(f x).length=n):∀ (l:List α) (k:Nat),(l.flatMap f).take (k*n)=(l.take k).flatMap f
 |[],k=>by simp
 |x::l,0=>by simp
 |x::l,k+1=>by
  simp only[List.flatMap_cons,List.take_succ_cons]
  rw[Nat.add_mul,Nat.one_mul,Nat.add_comm,List.take_append,hf,List.take_of_length_le (by rw[hf];omega),Nat.add_sub_cancel_left,flat_take f n hf l k]
theorem flat_drop{α:Type}(f:α->List Value)(n:Nat)(hf:∀ x,(f x).length=n):∀ (l:List α) (k:Nat),(l.flatMap f).drop (k*n)=(l.drop k).flatMap f
 |[],k=>by simp
 |x::l,0=>by simp
 |x::l,k+1=>by
  simp only[List.flatMap_cons,List.drop_succ_cons]
  rw[Nat.add_mul,Nat.one_mul,Nat.add_comm,List.drop_append,hf,List.drop_of_length_le (by rw[hf];omega),Nat.add_sub_cancel_left,List.nil_append,flat_drop f n hf l k]
theorem take_min{α:Type}(l:List α)(k:Nat):l.take (min l.length k)=l.take k:=by
 rcases Nat.le_total l.length k with h|h
 ·rw[Nat.min_eq_left h,List.take_length,List.take_of_length_le h]
 ·rw[Nat.min_eq_right h]
theorem drop_min{α:Type}(l:List α)(k:Nat):l.drop (min l.length k)=l.drop k:=by
 rcases Nat.le_total l.length k with h|h
 ·rw[Nat.min_eq_left h,List.drop_length,List.drop_of_length_le h]
 ·rw[Nat.min_eq_right h]
theorem ed_front{h:Hp}{e:Edit}{l l1 l2:Sl}(E:EdAt h e l l1 l2) :
  EdAt h (front e) (Sl.cut l 2 0 ((min l.n 256:Nat):Int) ((min l.n 256:Nat):Int)) (Sl.cut l1 7 0 ((min l1.n (256-min l.n 256):Nat):Int) ((min l1.n (256-min l.n 256):Nat):Int)) l2:=by
 have h1:=cut_front E.out (k:=min l.n 256) (Nat.min_le_left _ _)
 have h2:=cut_front E.inn (k:=min l1.n (256-min l.n 256)) (Nat.min_le_left _ _)
 refine⟨?_,?_,E.ptr⟩
 ·have:outV (front e).out=(outV e.out).take (min l.n 256*2):=by
   unfold outV
   rw[flat_take Place.cells 2 (λ_=>rfl),E.nout,take_min]
   rfl
  rw[this];exact h1
 ·have:inV (front e).inn=(inV e.inn).take (min l1.n (256-min l.n 256)*7):=by
   unfold inV
   rw[flat_take Placed.cells 7 (λ_=>rfl),E.ninn,E.nout,take_min]
   rfl
  rw[this];exact h2
theorem ed_behind{h:Hp}{e:Edit}{l l1 l2:Sl}(E:EdAt h e l l1 l2)(c1:l.n<=l.c)(c2:l1.n<=l1.c) :
  EdAt h (behind e) (Sl.cut l 2 ((min l.n 256:Nat):Int) (l.n:Int) (l.c:Int)) (Sl.cut l1 7 ((min l1.n (256-min l.n 256):Nat):Int) (l1.n:Int) (l1.c:Int)) l2:=by
 have h1:=cut_back E.out (k:=min l.n 256) (Nat.min_le_left _ _) c1
 have h2:=cut_back E.inn (k:=min l1.n (256-min l.n 256)) (Nat.min_le_left _ _) c2
 refine⟨?_,?_,E.ptr⟩
 ·have:outV (behind e).out=(outV e.out).drop (min l.n 256*2):=by
   unfold outV
   rw[flat_drop Place.cells 2 (λ_=>rfl),E.nout,drop_min]
   rfl
  rw[this];exact h1
 ·have:inV (behind e).inn=(inV e.inn).drop (min l1.n (256-min l.n 256)*7):=by
   unfold inV
   rw[flat_drop Placed.cells 7 (λ_=>rfl),E.ninn,E.nout,drop_min]
   rfl
  rw[this];exact h2
theorem iMin_nat(a b:Nat):iMin (a:Int) (b:Int)=((min a b:Nat):Int):=by
 unfold iMin
 split<;>omega
theorem Told.behind{e:Edit}(T:Told e):Told (behind e):=⟨λp hp=>T.out p (List.mem_of_mem_drop hp),λp hp=>T.inn p (List.mem_of_mem_drop hp),T.ptr,T.n⟩
theorem Told.small{e:Edit}(T:Told e)(h1:okU e.log)(h2:okU e.next)(h3:okU e.seq):(front e).small:=
 ⟨h1,h2,h3,λp hp=>T.out p (List.mem_of_mem_take hp),λp hp=>T.inn p (List.mem_of_mem_take hp),T.ptr,
  by have:=List.length_take_le 256 e.out;show(e.out.take 256).length<=1000;omega,
  by have:=List.length_take_le (256-min e.out.length 256) e.inn;show(e.inn.take (256-min e.out.length 256)).length<=1000;omega,by have:=T.n;show e.ptr.length<=1000;omega⟩
theorem Edit.small.noptr{e:Edit}(S:e.small):({ e with ptr:=[] }:Edit).small:=⟨S.log,S.next,S.seq,S.out,S.inn,λp hp=>(by cases hp),S.nout,S.ninn,Nat.zero_le _⟩
theorem put_spec{h:Hp}{e:Edit}{l l1 l2:Sl}{Q:Value->Hp->Prop}(E:EdAt h e l l1 l2)(c1:l.n<=l.c)(c2:l1.n<=l1.c)(V:e.valid)(n1:e.out.length+e.inn.length<=1000000000000)(n3:e.ptr.length<9223372036854775807)
  (hQ:∀ r h' ss,Buf h' r 1 23 (slV ss)->RowsAt h' ss (putS e)->Keep h h'->(r.a=none\/New h r)->Q (.slice r.a r.n r.c) h'):F21.T e.log e.next e.seq l l1 l2 h Q:=by
 unfold F21.T
 refine tells_spec E (by omega) (by omega) n3 ⟨e.told,rfl,λht=>?_,λhf=>?_⟩
 ·have T:=told_spec V ht
  refine⟨λl3 x y z l4 l5 l6 h2=>x=e.log/\y=e.next/\z=e.seq/\l6=l2/\∃ f e' ss done,e'.log=e.log/\e'.next=e.next/\e'.seq=e.seq/\e'.ptr=e.ptr/\Told e'/\EdAt h e' l4 l5 l2/\l4.n<=l4.c/\l5.n<=l5.c/\Buf h2 l3 1 23 (slV ss)/\RowsAt h2 ss done/\done++putF f e'=putS e/\e'.out.length+e'.inn.length<f/\Keep h h2/\(l3.a=none\/New h l3)/\done.length+(e'.out.length+e'.inn.length)<=e.out.length+e.inn.length,
   λ_ _ _ _ l4 l5 _ _=>l4.n+l5.n,⟨rfl,rfl,rfl,rfl,e.out.length+e.inn.length+1,e,[],[],rfl,rfl,rfl,rfl,T,E,c1,c2,Buf.nil h 1 23,RowsAt.nil h,by unfold putS;rw[if_pos ht];rfl,by omega,Keep.refl h,.inl rfl,by simp⟩,?_⟩
  rintro l3 x y z l4 l5 l6 h2 ⟨rfl,rfl,rfl,rfl,f,e',ss,done,g1,g2,g3,g4,T',E',d1,d2,B,R,hput,hfuel,K,hN,hcnt⟩
  have k1:iMin (l4.n:Int) 256=((min l4.n 256:Nat):Int):=iMin_nat l4.n 256
  have kw:wrap .i64 (256-((min l4.n 256:Nat):Int))=((256-min l4.n 256:Nat):Int):=by rw[wrap_i64 (by omega) (by omega)];omega
  have k2:iMin (l5.n:Int) ((256-min l4.n 256:Nat):Int)=((min l5.n (256-min l4.n 256):Nat):Int):=iMin_nat _ _
  rw[k1,kw,k2]
  have Ef:=ed_front E'
  have Eb:=ed_behind E' d1 d2
  have no:=Eb.nout
  have ni:=Eb.ninn
  have n4:=E'.nout
  have n5:=E'.ninn
  have q4:(Sl.cut l4 2 ((min l4.n 256:Nat):Int) (l4.n:Int) (l4.c:Int)).n=l4.n-min l4.n 256:=by simp[Sl.cut]
  have q5:(Sl.cut l5 7 ((min l5.n (256-min l4.n 256):Nat):Int) (l5.n:Int) (l5.c:Int)).n=l5.n-min l5.n (256-min l4.n 256):=by simp[Sl.cut]
  have p4:(Sl.cut l4 2 ((min l4.n 256:Nat):Int) (l4.n:Int) (l4.c:Int)).c=l4.c-min l4.n 256:=by simp[Sl.cut]
  have p5:(Sl.cut l5 7 ((min l5.n (256-min l4.n 256):Nat):Int) (l5.n:Int) (l5.c:Int)).c=l5.c-min l5.n (256-min l4.n 256):=by simp[Sl.cut]
  have S:=T'.small (by rw[g1];exact V.log) (by rw[g2];exact V.next) (by rw[g3];exact V.seq)
  obtain⟨f,rfl⟩:∃ g,f=g+1:=⟨f-1,by omega⟩
  have hss:l3.n=ss.length:=by have:=B.len;rw[slV_length] at this;omega
  have hdn:ss.length=done.length:=R.1
  refine⟨⟨by omega,by omega,by omega,by omega⟩,⟨by omega,by omega,by omega,by omega⟩,⟨by omega,by omega,by omega,by omega⟩,⟨by omega,by omega,by omega,by omega⟩,λhz=>?_,λhz=>?_⟩
  ·have hz':(behind e').out.length+(behind e').inn.length=0:=by
    rw[wrap_i64 (by omega) (by omega)] at hz
    omega
   refine record_t' (e:=front e') g1 g2 g3 (Ef.keep K) S λr h3 B3 K3 N3=>⟨r,rfl,?_⟩
   refine append_buf (B.keep K3) rfl rfl (by omega) λs' h4 B4 hn4 U4=>?_
   obtain⟨K4,N4⟩:=keep_grow (K.trans K3) hN U4
   refine hQ s' h4 (ss++[r]) (by simpa[slV] using B4) ?_ K4 N4
   rw[<- hput]
   unfold putF
   rw[if_pos hz']
   exact RowsAt.snoc ((R.keep K3).upd U4 (B.keep K3) (by decide)) (B3.upd U4 (buf_off B3 (B.keep K3) (by decide)))
  ·have hz':¬ (behind e').out.length+(behind e').inn.length=0:=by
    rw[wrap_i64 (by omega) (by omega)] at hz
    omega
   refine record_f' (e:={ front e' with ptr:=[] }) g1 g2 g3 (EdAt.keep K ⟨Ef.out,Ef.inn,⟨rfl,.inl rfl⟩⟩) S.noptr λr h3 B3 K3 N3=>⟨r,rfl,?_⟩
   refine append_buf (B.keep K3) rfl rfl (by omega) λs' h4 B4 hn4 U4=>?_
   obtain⟨K4,N4⟩:=keep_grow (K.trans K3) hN U4
   refine⟨⟨rfl,rfl,rfl,rfl,f,behind e',ss++[r],done++[recB { front e' with ptr:=[] } false],g1,g2,g3,g4,T'.behind,Eb,by omega,by omega,by simpa[slV] using B4,?_,?_,by omega,K4,N4,?_⟩,by dsimp only;omega⟩
   ·exact RowsAt.snoc ((R.keep K3).upd U4 (B.keep K3) (by decide)) (B3.upd U4 (buf_off B3 (B.keep K3) (by decide)))
   ·rw[<- hput]
    conv=>rhs;unfold putF
    rw[if_neg hz',List.append_assoc]
    rfl
   ·rw[length_append,length_singleton];omega
 ·refine hQ ⟨none,0,0⟩ h [] (Buf.nil h 1 23) ?_ (Keep.refl h) (.inl rfl)
  have:putS e=[]:=by unfold putS;rw[if_neg (by rw[hf];decide)]
  rw[this]
  exact RowsAt.nil h
end Go.Eng.YtblghgacokoklaaDoor
end
