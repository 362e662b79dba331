/-
  JOINED.
-/
import Derived.Test.YtblghgacokoklaaDoorK3
import Derived.Test.YtblghgacokoklaaDoorK2
import Derived.Test.YtblghgacokoklaaDoorProg
import Derived.Test.YtblghgacokoklaaDoorK0
import Derived.Test.YtblghgacokoklaaDoorK4
import Derived.Lib.Bytealg
set_option linter.unusedSimpArgs false
set_option linter.unusedVariables false
set_option maxRecDepth 100000
open Go.IntKind (wrap)
open List (length_append length_cons mem_cons_self mem_cons_of_mem length_replicate length_take length_drop take_of_length_le length_nil mem_cons mem_append)
section
open Go.Proofs
namespace Go.Eng.YtblghgacokoklaaDoor
def F100.T(n:Int):PT:=λh Q=>
 (512:Int)≠0/\Q (.int .i64 (wrap .i64 (512-(Int.tmod n 512)))) h
theorem F100.den(V n):denF Tryd.prog [] [] V [] Tryd.f100 [.v (.int .i64 n)]=F100.T n:=by kernel_rfl
def F100.W(T100:Int->PT)(args:List Value):PT:=match args with
 |[.int .i64 n]=>T100 n
 |_=>λ_ _=>False
def F100.V:List Value->PT:=F100.W F100.T
theorem F100.ok:FOk Tryd.prog 100 F100.V:=by
 refine⟨⟨_,Tryd.func100,rfl,rfl⟩,λ_=>?_⟩;unfold F100.V F100.W;split;exact denF_okE (GOk.nil) noV_ok Tryd.func100 (F100.den noV _);exact λ_ _ h=>h.elim
def F114.T(l:Sl):PT:=λh Q=>
 ∃ (I:Int->Int->Hp->Prop) (m:Int->Int->Hp->Nat),I 4294967295 0 h/\(∀ n n1:Int,∀ h1:Hp,I n n1 h1->par (n1<(l.n:Int)) (∃ b o,(l.a:Option Addr)=some ⟨b,o,none⟩/\((0:Int)<=n1/\n1<(l.n:Int))/\∃ n2:Int,h1.at b (o+n1.toNat)=some (.int .u8 n2)/\((0:Int)<=(bitsI .and .u32 (bitsI .xor .u32 n (wrap .u32 n2)) 15)/\(bitsI .and .u32 (bitsI .xor .u32 n (wrap .u32 n2)) 15)<((16:Nat):Int))/\∃ n3:Int,h1.at 0 (0+((bitsI .and .u32 (bitsI .xor .u32 n (wrap .u32 n2)) 15):Int).toNat)=some (.int .u32 n3)/\(0:Int)<=4/\((0:Int)<=(bitsI .and .u32 (bitsI .xor .u32 n3 (shrI .u32 (bitsI .xor .u32 n (wrap .u32 n2)) 4)) 15)/\(bitsI .and .u32 (bitsI .xor .u32 n3 (shrI .u32 (bitsI .xor .u32 n (wrap .u32 n2)) 4)) 15)<((16:Nat):Int))/\∃ n4:Int,h1.at 0 (0+((bitsI .and .u32 (bitsI .xor .u32 n3 (shrI .u32 (bitsI .xor .u32 n (wrap .u32 n2)) 4)) 15):Int).toNat)=some (.int .u32 n4)/\(0:Int)<=4/\I (bitsI .xor .u32 n4 (shrI .u32 (bitsI .xor .u32 n3 (shrI .u32 (bitsI .xor .u32 n (wrap .u32 n2)) 4)) 4)) (wrap .i64 (n1+1)) h1/\m (bitsI .xor .u32 n4 (shrI .u32 (bitsI .xor .u32 n3 (shrI .u32 (bitsI .xor .u32 n (wrap .u32 n2)) 4)) 4)) (wrap .i64 (n1+1)) h1<m n n1 h1) (Q (.int .u32 (bitsI .xor .u32 (if IntKind.signed .u32 then -1 else IntKind.max .u32) n)) h1))
theorem F114.den(V l):denF Tryd.prog [] [] V [(58,.loop [(3,.int .u32),(8,.int .i64)] [])] Tryd.f114 [.v (.slice l.a l.n l.c)]=F114.T l:=by kernel_rfl
def F114.W(T114:Sl->PT)(args:List Value):PT:=match args with
 |[.slice l_a l_n l_c]=>T114 ⟨l_a,l_n,l_c⟩
 |_=>λ_ _=>False
def F114.V:List Value->PT:=F114.W F114.T
theorem F114.ok:FOk Tryd.prog 114 F114.V:=by
 refine⟨⟨_,Tryd.func114,rfl,rfl⟩,λ_=>?_⟩;unfold F114.V F114.W;split;exact denF_okE (GOk.nil) noV_ok Tryd.func114 (F114.den noV ⟨_,_,_⟩);exact λ_ _ h=>h.elim
def F122.T(n:Int):PT:=λh Q=>
 (0:Int)<=8/\(0:Int)<=16/\(0:Int)<=24/\∀ b,h b=none->Q (.slice (some ⟨b,0,none⟩) 4 4) (h.new b (.cells ⟨[.int .u8 (wrap .u8 n),.int .u8 (wrap .u8 (shrI .u32 n 8)),.int .u8 (wrap .u8 (shrI .u32 n 16)),.int .u8 (wrap .u8 (shrI .u32 n 24))]⟩ 5 (0,0)))
theorem F122.den(V n):denF Tryd.prog [] [] V [] Tryd.f122 [.v (.int .u32 n)]=F122.T n:=by kernel_rfl
def F122.W(T122:Int->PT)(args:List Value):PT:=match args with
 |[.int .u32 n]=>T122 n
 |_=>λ_ _=>False
def F122.V:List Value->PT:=F122.W F122.T
theorem F122.ok:FOk Tryd.prog 122 F122.V:=by
 refine⟨⟨_,Tryd.func122,rfl,rfl⟩,λ_=>?_⟩;unfold F122.V F122.W;split;exact denF_okE (GOk.nil) noV_ok Tryd.func122 (F122.den noV _);exact λ_ _ h=>h.elim
@[reducible] def F101.G(T114:Sl->PT)(T122:Int->PT)(n:Int)(l:Sl):PT:=λh Q=>
 (0:Int)<=8/\∀ b,h b=none->∃ vs,(h.new b (.cells ⟨[.int .u8 (wrap .u8 (l.n:Int)),.int .u8 (wrap .u8 (shrI .i64 (l.n:Int) 8)),.int .u8 (wrap .u8 n)]⟩ 5 (0,0))).row l.a (l.n*1) vs/\(∀ v∈vs,Value.oneCell' v=true)/\appendD ⟨(some ⟨b,0,none⟩),3,3⟩ 5 1 1 [.int .u8 0] l.n vs (h.new b (.cells ⟨[.int .u8 (wrap .u8 (l.n:Int)),.int .u8 (wrap .u8 (shrI .i64 (l.n:Int) 8)),.int .u8 (wrap .u8 n)]⟩ 5 (0,0))) λl1 h1=>T114 l1 h1 λr h2=>∃ n1:Int,r=.int .u32 n1/\T122 n1 h2 λr1 h3=>∃ l2:Sl,r1=.slice l2.a l2.n l2.c/\∃ vs1,h3.row l1.a (l1.n*1) vs1/\(∀ v∈vs1,Value.oneCell' v=true)/\appendD l2 5 1 1 [.int .u8 0] l1.n vs1 h3 λl3 h4=>Q (.slice l3.a l3.n l3.c) h4
def F101.T:=F101.G F114.T F122.T
theorem F101.gen(V T114 T122 n l):denF Tryd.prog [] [(114,F114.W T114),(122,F122.W T122)] V [] Tryd.f101 [.v (.int .i64 n),.v (.slice l.a l.n l.c)]=F101.G T114 T122 n l:=by kernel_rfl
def F101.W(T101:Int->Sl->PT)(args:List Value):PT:=match args with
 |[.int .i64 n,.slice l_a l_n l_c]=>T101 n ⟨l_a,l_n,l_c⟩
 |_=>λ_ _=>False
def F101.V:List Value->PT:=F101.W F101.T
theorem F101.ok:FOk Tryd.prog 101 F101.V:=by
 refine⟨⟨_,Tryd.func101,rfl,rfl⟩,λ_=>?_⟩;unfold F101.V F101.W;split;exact denF_okE (GOk.cons F114.ok (GOk.cons F122.ok (GOk.nil))) noV_ok Tryd.func101 (F101.gen noV F114.T F122.T _ ⟨_,_,_⟩);exact λ_ _ h=>h.elim
@[reducible] def F66.G(T100:Int->PT)(T101:Int->Sl->PT)(n:Int)(l:Sl):PT:=λh Q=>
 ∃ J:Sl->Hp->Prop,(∀ l1:Sl,∀ h1:Hp,J l1 h1->∃ (I:Sl->Sl->Int->Hp->Prop) (m:Sl->Sl->Int->Hp->Nat),I l l1 1 h1/\(∀ l2 l3:Sl,∀ n1:Int,∀ h2:Hp,I l2 l3 n1 h2->T100 (wrap .i64 ((iMax n 0)+(l3.n:Int))) h2 λr h3=>∃ n2:Int,r=.int .i64 n2/\par ((iMin (l2.n:Int) (wrap .i64 (n2-7)))=(l2.n:Int)) (par (n1=1) (T101 n1 l2 h3 λr1 h4=>∃ l4:Sl,r1=.slice l4.a l4.n l4.c/\∃ vs,h4.row l4.a (l4.n*1) vs/\(∀ v∈vs,Value.oneCell' v=true)/\appendD l3 5 1 1 [.int .u8 0] l4.n vs h4 λl5 h5=>Q (.slice l5.a l5.n l5.c) h5) (T101 4 l2 h3 λr2 h6=>∃ l6:Sl,r2=.slice l6.a l6.n l6.c/\∃ vs1,h6.row l6.a (l6.n*1) vs1/\(∀ v∈vs1,Value.oneCell' v=true)/\appendD l3 5 1 1 [.int .u8 0] l6.n vs1 h6 λl7 h7=>Q (.slice l7.a l7.n l7.c) h7)) (par (n1=1) (Sl.okCut l2 0 (iMin (l2.n:Int) (wrap .i64 (n2-7))) (l2.c:Int)/\T101 2 (Sl.cut l2 1 0 (iMin (l2.n:Int) (wrap .i64 (n2-7))) (l2.c:Int)) h3 λr3 h8=>∃ l8:Sl,r3=.slice l8.a l8.n l8.c/\∃ vs2,h8.row l8.a (l8.n*1) vs2/\(∀ v∈vs2,Value.oneCell' v=true)/\appendD l3 5 1 1 [.int .u8 0] l8.n vs2 h8 λl9 h9=>Sl.okCut l2 (iMin (l2.n:Int) (wrap .i64 (n2-7))) (l2.n:Int) (l2.c:Int)/\I (Sl.cut l2 1 (iMin (l2.n:Int) (wrap .i64 (n2-7))) (l2.n:Int) (l2.c:Int)) l9 3 h9/\m (Sl.cut l2 1 (iMin (l2.n:Int) (wrap .i64 (n2-7))) (l2.n:Int) (l2.c:Int)) l9 3 h9<m l2 l3 n1 h2) (Sl.okCut l2 0 (iMin (l2.n:Int) (wrap .i64 (n2-7))) (l2.c:Int)/\T101 n1 (Sl.cut l2 1 0 (iMin (l2.n:Int) (wrap .i64 (n2-7))) (l2.c:Int)) h3 λr4 h10=>∃ l10:Sl,r4=.slice l10.a l10.n l10.c/\∃ vs3,h10.row l10.a (l10.n*1) vs3/\(∀ v∈vs3,Value.oneCell' v=true)/\appendD l3 5 1 1 [.int .u8 0] l10.n vs3 h10 λl11 h11=>Sl.okCut l2 (iMin (l2.n:Int) (wrap .i64 (n2-7))) (l2.n:Int) (l2.c:Int)/\I (Sl.cut l2 1 (iMin (l2.n:Int) (wrap .i64 (n2-7))) (l2.n:Int) (l2.c:Int)) l11 3 h11/\m (Sl.cut l2 1 (iMin (l2.n:Int) (wrap .i64 (n2-7))) (l2.n:Int) (l2.c:Int)) l11 3 h11<m l2 l3 n1 h2))))/\(T100 (iMax n 0) h λr5 h12=>∃ n3:Int,r5=.int .i64 n3/\par (n3<=7) (((0:Int)<=n3/\n3<=n3/\1*n3<=281474976710656)/\∀ b,h12 b=none->J ⟨(some ⟨b,0,none⟩),(n3:Int).toNat,(n3:Int).toNat⟩ (h12.new b (.cells (Builtin.zeroCells (List.toArray [.int .u8 0]) (n3:Int).toNat) 5 (0,0)))) (J ⟨none,0,0⟩ h12))
def F66.T:=F66.G F100.T F101.T
theorem F66.gen(V T100 T101 n l):denF Tryd.prog [] [(100,F100.W T100),(101,F101.W T101)] V [(15,.join [(5,.sl)] []),(126,.loop [(1,.sl),(5,.sl),(7,.int .i64)] []),(8079,.order [0,1,2,3,4])] Tryd.f66 [.v (.int .i64 n),.v (.slice l.a l.n l.c)]=F66.G T100 T101 n l:=by kernel_rfl
def F66.W(T66:Int->Sl->PT)(args:List Value):PT:=match args with
 |[.int .i64 n,.slice l_a l_n l_c]=>T66 n ⟨l_a,l_n,l_c⟩
 |_=>λ_ _=>False
def F66.V:List Value->PT:=F66.W F66.T
theorem F66.ok:FOk Tryd.prog 66 F66.V:=by
 refine⟨⟨_,Tryd.func66,rfl,rfl⟩,λ_=>?_⟩;unfold F66.V F66.W;split;exact denF_okE (GOk.cons F100.ok (GOk.cons F101.ok (GOk.nil))) noV_ok Tryd.func66 (F66.gen noV F100.T F101.T _ ⟨_,_,_⟩);exact λ_ _ h=>h.elim
@[reducible] def F23.G(T21:Int->Int->Int->Sl->Sl->Sl->PT)(T66:Int->Sl->PT)(n:Int)(l:Sl):PT:=λh Q=>
 ∃ (I:Sl->Int->Hp->Prop) (m:Sl->Int->Hp->Nat),I ⟨none,0,0⟩ 0 h/\(∀ l1:Sl,∀ n1:Int,∀ h1:Hp,I l1 n1 h1->par (n1<(l.n:Int)) (∃ b o,(l.a:Option Addr)=some ⟨b,o,none⟩/\((0:Int)<=n1/\n1<(l.n:Int))/\∃ n2:Int,h1.at b (o+n1.toNat*6)=some (.int .u64 n2)/\∃ n3:Int,h1.at b ((o+n1.toNat*6)+1)=some (.int .u64 n3)/\∃ n4:Int,h1.at b ((o+n1.toNat*6)+2)=some (.int .u64 n4)/\∃ l2:Sl,h1.at b ((o+n1.toNat*6)+3)=some (.slice l2.a l2.n l2.c)/\∃ l3:Sl,h1.at b ((o+n1.toNat*6)+4)=some (.slice l3.a l3.n l3.c)/\∃ l4:Sl,h1.at b ((o+n1.toNat*6)+5)=some (.slice l4.a l4.n l4.c)/\T21 n2 n3 n4 l2 l3 l4 h1 λr h2=>∃ l5:Sl,r=.slice l5.a l5.n l5.c/\∃ (I1:Sl->Int->Hp->Prop) (m1:Sl->Int->Hp->Nat),I1 l1 0 h2/\(∀ l6:Sl,∀ n5:Int,∀ h3:Hp,I1 l6 n5 h3->par (n5<(l5.n:Int)) (∃ b1 o1,(l5.a:Option Addr)=some ⟨b1,o1,none⟩/\((0:Int)<=n5/\n5<(l5.n:Int))/\∃ l7:Sl,h3.at b1 (o1+n5.toNat)=some (.slice l7.a l7.n l7.c)/\T66 (wrap .i64 ((iMax n 0)+(l6.n:Int))) l7 h3 λr1 h4=>∃ l8:Sl,r1=.slice l8.a l8.n l8.c/\∃ vs,h4.row l8.a (l8.n*1) vs/\(∀ v∈vs,Value.oneCell' v=true)/\appendD l6 5 1 1 [.int .u8 0] l8.n vs h4 λl9 h5=>I1 l9 (wrap .i64 (n5+1)) h5/\m1 l9 (wrap .i64 (n5+1)) h5<m1 l6 n5 h3) (I l6 (wrap .i64 (n1+1)) h3/\m l6 (wrap .i64 (n1+1)) h3<m l1 n1 h1))) (Q (.slice l1.a l1.n l1.c) h1))
def F23.T:=F23.G F21.T F66.T
theorem F23.gen(V T21 T66 n l):denF Tryd.prog [7] [(21,F21.W T21),(66,F66.W T66)] V [(58,.loop [(5,.sl),(12,.int .i64)] []),(14950,.loop [(5,.sl),(19,.int .i64)] [])] Tryd.f23 [.v (.int .i64 n),.v (.slice l.a l.n l.c)]=F23.G T21 T66 n l:=by kernel_rfl
def F23.W(T23:Int->Sl->PT)(args:List Value):PT:=match args with
 |[.int .i64 n,.slice l_a l_n l_c]=>T23 n ⟨l_a,l_n,l_c⟩
 |_=>λ_ _=>False
def F23.V:List Value->PT:=F23.W F23.T
theorem F23.ok:FOk Tryd.prog 23 F23.V:=by
 refine⟨⟨_,Tryd.func23,rfl,rfl⟩,λ_=>?_⟩;unfold F23.V F23.W;split;exact denF_okE (GOk.cons F21.ok (GOk.cons F66.ok (GOk.nil))) noV_ok Tryd.func23 (F23.gen noV F21.T F66.T _ ⟨_,_,_⟩);exact λ_ _ h=>h.elim
end Go.Eng.YtblghgacokoklaaDoor
end
section
namespace Go.Eng
def bs1(x:Nat):Nat:=x / 2 ^^^ (if x % 2=1 then 2197175160 else 0)
def nib(i:Nat):Nat:=bs1 (bs1 (bs1 (bs1 i)))
def nibL:List Nat:=[0,274646895,549293790,820201905,1098587580,1361435347,1640403810,1905808397,2197175160,2460548119,2722870694,2987750089,3280807620,3553878443,3811616794,4084100981]
theorem bs1_xor(a b:Nat):bs1 (a ^^^ b)=bs1 a ^^^ bs1 b:=by
 unfold bs1
 have e1:(a ^^^ b) / 2=a / 2 ^^^ b / 2:=Nat.xor_div_two
 have e2:(a ^^^ b) % 2=1↔¬ ((a % 2=1)↔(b % 2=1)):=by
  rw[Nat.xor_mod_two_eq_one]
 rw[e1]
 rcases Nat.mod_two_eq_zero_or_one a with ha|ha<;>rcases Nat.mod_two_eq_zero_or_one b with hb|hb
 ·have:¬ (a ^^^ b) % 2=1:=by rw[e2];simp[ha,hb]
  simp[this,ha,hb]
 ·have:(a ^^^ b) % 2=1:=by rw[e2];simp[ha,hb]
  simp[this,ha,hb,Nat.xor_assoc]
 ·have:(a ^^^ b) % 2=1:=by rw[e2];simp[ha,hb]
  simp only[this,ha,hb,if_pos,if_neg,Nat.zero_ne_one,if_true,if_false,Nat.xor_zero]
  rw[Nat.xor_assoc,Nat.xor_assoc,Nat.xor_comm (b / 2)]
 ·have:¬ (a ^^^ b) % 2=1:=by rw[e2];simp[ha,hb]
  simp only[this,ha,hb,if_pos,if_neg,if_true,if_false,Nat.xor_zero]
  rw[Nat.xor_assoc,Nat.xor_comm (b / 2),<- Nat.xor_assoc 2197175160,Nat.xor_self,Nat.zero_xor]
theorem nib_xor(a b:Nat):nib (a ^^^ b)=nib a ^^^ nib b:=by unfold nib;rw[bs1_xor,bs1_xor,bs1_xor,bs1_xor]
theorem bs1_two(a:Nat):bs1 (2*a)=a:=by
 unfold bs1
 have h1:2*a / 2=a:=by omega
 have h2:¬ (2*a) % 2=1:=by omega
 rw[h1,if_neg h2,Nat.xor_zero]
theorem nib_up(q:Nat):nib (16*q)=q:=by
 have e:16*q=2*(2*(2*(2*q))):=by omega
 rw[e];unfold nib
 rw[bs1_two,bs1_two,bs1_two,bs1_two]
theorem split16(x:Nat):x=16*(x / 16) ^^^ x % 16:=by
 apply Nat.eq_of_testBit_eq
 intro i
 rw[Nat.testBit_xor,show(16:Nat)=2 ^ 4 from rfl,Nat.testBit_two_pow_mul,Nat.testBit_div_two_pow,Nat.testBit_mod_two_pow]
 by_cases h:i<4
 ·have:¬ 4<=i:=by omega
  simp[h,this]
 ·have h2:4<=i:=by omega
  have e:4+(i-4)=i:=by omega
  simp[h,h2,e]
theorem nib_eq(x:Nat):nib x=nib (x % 16) ^^^ x / 16:=by
 have h:nib x=nib (16*(x / 16) ^^^ x % 16):=congrArg nib (split16 x)
 rw[h,nib_xor,nib_up,Nat.xor_comm]
theorem nib_tab:∀ i,i<16->nibL[i]?=some (nib i):=by decide
theorem bs1_lt{x:Nat}(h:x<4294967296):bs1 x<4294967296:=by
 unfold bs1
 exact Nat.xor_lt_two_pow (n:=32) (by omega) (by split<;>omega)
theorem nib_lt{x:Nat}(h:x<4294967296):nib x<4294967296:=bs1_lt (bs1_lt (bs1_lt (bs1_lt h)))
def by1(x c:Nat):Nat:=nib (nib (x ^^^ c))
def sumN(x:Nat):List Nat->Nat
 |[]=>x
 |c::l=>sumN (by1 x c) l
def crc(l:List Nat):Nat:=sumN 4294967295 l ^^^ 4294967295
theorem ofInt32(a:Nat)(h:a<4294967296):(BitVec.ofInt 32 (a:Int)).toNat=a:=by
 rw[BitVec.ofInt_natCast,BitVec.toNat_ofNat];exact Nat.mod_eq_of_lt h
theorem wrap32(a:Nat)(h:a<4294967296):wrap .u32 (a:Int)=(a:Int):=by
 rw[IntKind.wrap_u32];omega
theorem xor32(a b:Nat)(ha:a<4294967296)(hb:b<4294967296):bitsI .xor .u32 (a:Int) (b:Int)=((a ^^^ b:Nat):Int):=by
 show wrap .u32 ((BitVec.ofInt 32 (a:Int) ^^^ BitVec.ofInt 32 (b:Int)).toNat:Int)=_
 rw[BitVec.toNat_xor,ofInt32 a ha,ofInt32 b hb]
 exact wrap32 _ (Nat.xor_lt_two_pow (n:=32) ha hb)
theorem and15(a:Nat)(ha:a<4294967296):bitsI .and .u32 (a:Int) 15=((a % 16:Nat):Int):=by
 show wrap .u32 ((BitVec.ofInt 32 (a:Int) &&& BitVec.ofInt 32 (15:Int)).toNat:Int)=_
 rw[BitVec.toNat_and,ofInt32 a ha,show(BitVec.ofInt 32 (15:Int)).toNat=2 ^ 4-1 from rfl,Nat.and_two_pow_sub_one_eq_mod]
 exact wrap32 _ (by omega)
theorem shr4(a:Nat):shrI .u32 (a:Int) 4=((a / 16:Nat):Int):=by
 unfold shrI
 have:(2:Int) ^ (min (4:Int).toNat (IntKind.bits .u32))=16:=by decide
 rw[this,Int.fdiv_eq_ediv_of_nonneg _ (by decide)]
 omega
end Go.Eng
end
section
namespace Go.Eng.YtblghgacokoklaaDoor
def TabC(h:Hp):Prop:=∀ i,i<16->h.at 0 i=some (.int .u32 ((nib i:Nat):Int))
theorem TabC.keep{h h':Hp}(k:Keep h h')(T:TabC h):TabC h':=λi hi=>k.at (T i hi)
def nat(l:List Int):List Nat:=l.map Int.toNat
def okB8(l:List Int):Prop:=∀ c∈l,0<=c/\c<256
def sumB(l:List Int):Nat:=crc (nat l)
theorem next_b{i n:Nat}(h1:i<n)(h2:n<=4611686018427387904):wrap .i64 ((i:Int)+1)=((i+1:Nat):Int):=by rw[wrap_i64 (by omega) (by omega)];omega
theorem xor_step{x m:Nat}(hx:x<4294967296)(hm:m<256) :
  bitsI .xor .u32 (x:Int) (wrap .u32 (m:Int))=((x ^^^ m:Nat):Int)/\x ^^^ m<4294967296:=by
 have hm':m<4294967296:=by omega
 exact⟨by rw[wrap32 m hm'];exact xor32 x m hx hm',Nat.xor_lt_two_pow (n:=32) hx hm'⟩
theorem nib_step{y:Nat}(hy:y<4294967296):bitsI .xor .u32 ((nib (y % 16):Nat):Int) (shrI .u32 (y:Int) 4)=((nib y:Nat):Int):=by
 rw[shr4,xor32 _ _ (nib_lt (by omega)) (by omega),<- nib_eq]
theorem sum_spec{h:Hp}{l:Sl}{bs:List Int}{Q:Value->Hp->Prop}(T:TabC h)(hr:h.row l.a l.n (bv bs))(hok:okB8 bs)(hs:bs.length<=4611686018427387904)
  (hQ:Q (.int .u32 ((sumB bs:Nat):Int)) h):F114.T l h Q:=by
 have hln:l.n=bs.length:=by have:=hr.1;rw[bv_length] at this;exact this.symm
 refine⟨λn n1 h1=>h1=h/\∃ i:Nat,n1=(i:Int)/\i<=bs.length/\∃ x:Nat,n=(x:Int)/\x<4294967296/\sumN x (nat (bs.drop i))=sumN 4294967295 (nat bs),λ_ n1 _=>bs.length-n1.toNat,⟨rfl,0,rfl,Nat.zero_le _,4294967295,rfl,by decide,rfl⟩,?_⟩
 rintro n n1 h1 ⟨rfl,i,rfl,hi,x,rfl,hx,hu⟩
 refine⟨λhlt=>?_,λhge=>?_⟩
 ·have hi1:i<bs.length:=by omega
  have hb:=hok _ (List.getElem_mem hi1)
  obtain⟨b,o,ha,hat⟩:=row_get hr (i:=i) (by omega)
  obtain⟨m,hm⟩:∃ m:Nat,bs[i]=(m:Int):=⟨bs[i].toNat,by omega⟩
  have hv:(bv bs)[i]?=some (Value.int .u8 (m:Int)):=by simp[bv,hi1,hm]
  obtain⟨e1,hy⟩:=xor_step hx (m:=m) (by omega)
  have hz:=nib_lt hy
  have e2:=and15 _ hy
  have e3:=nib_step hy
  have e4:=and15 _ hz
  have e5:=nib_step hz
  have t1:h1.at 0 (0+(((x ^^^ m) % 16:Nat):Int).toNat)=some (.int .u32 ((nib ((x ^^^ m) % 16):Nat):Int)):=by rw[Nat.zero_add,Int.toNat_natCast];exact T _ (Nat.mod_lt _ (by decide))
  have t2:h1.at 0 (0+((nib (x ^^^ m) % 16:Nat):Int).toNat)=some (.int .u32 ((nib (nib (x ^^^ m) % 16):Nat):Int)):=by rw[Nat.zero_add,Int.toNat_natCast];exact T _ (Nat.mod_lt _ (by decide))
  refine⟨b,o,ha,⟨by omega,hlt⟩,(m:Int),by rw[Int.toNat_natCast,hat i (by omega),hv],?_⟩
  rw[e1,e2]
  refine⟨⟨by omega,by omega⟩,_,t1,by decide,?_⟩
  rw[e3,e4]
  refine⟨⟨by omega,by omega⟩,_,t2,by decide,?_⟩
  rw[e5,next_b hi1 hs]
  refine⟨⟨rfl,i+1,rfl,hi1,_,rfl,nib_lt hz,?_⟩,by dsimp only;omega⟩
  rw[<- hu,List.drop_eq_getElem_cons hi1]
  show _=sumN (by1 x bs[i].toNat) (nat (bs.drop (i+1)))
  rw[hm]
  rfl
 ·have hi2:bs.length<=i:=by omega
  rw[List.drop_of_length_le hi2] at hu
  have e:bitsI .xor .u32 (if IntKind.signed .u32 then -1 else IntKind.max .u32) (x:Int)=((sumB bs:Nat):Int):=by
   have h0:(if IntKind.signed .u32 then -1 else IntKind.max .u32)=((4294967295:Nat):Int):=by decide
   rw[h0,xor32 _ _ (by decide) hx,Nat.xor_comm]
   unfold sumB crc
   rw[<- hu]
   rfl
  rw[e]
  exact hQ
theorem shr32(a k:Nat)(hk:k<=32):shrI .u32 (a:Int) (k:Int)=((a / 2 ^ k:Nat):Int):=by
 unfold shrI
 have h1:min (k:Int).toNat (IntKind.bits .u32)=k:=by show min (k:Int).toNat 32=k;omega
 have h2:(2:Int) ^ k=((2 ^ k:Nat):Int):=by rw[Int.natCast_pow];rfl
 rw[h1,h2,Int.fdiv_eq_ediv_of_nonneg _ (Int.natCast_nonneg _)]
 exact(Int.natCast_ediv a (2 ^ k)).symm
def fourB(x:Nat):List Int:=[((x % 256:Nat):Int),((x / 256 % 256:Nat):Int),((x / 65536 % 256:Nat):Int),((x / 16777216 % 256:Nat):Int)]
theorem four_cells(x:Nat):[Value.int .u8 (wrap .u8 (x:Int)),.int .u8 (wrap .u8 (shrI .u32 (x:Int) 8)),.int .u8 (wrap .u8 (shrI .u32 (x:Int) 16)),.int .u8 (wrap .u8 (shrI .u32 (x:Int) 24))]=bv (fourB x):=by
 have e8:=shr32 x 8 (by decide)
 have e16:=shr32 x 16 (by decide)
 have e24:=shr32 x 24 (by decide)
 simp only[show((8:Nat):Int)=8 from rfl,show((16:Nat):Int)=16 from rfl,show((24:Nat):Int)=24 from rfl] at e8 e16 e24
 rw[e8,e16,e24]
 simp only[IntKind.wrap_u8]
 rfl
theorem fourB_ok(x:Nat):okB8 (fourB x):=by
 intro c hc
 simp only[fourB,mem_cons,List.not_mem_nil,or_false] at hc
 omega
theorem okB8_app{a b:List Int}(ha:okB8 a)(hb:okB8 b):okB8 (a++b):=λc hc=>by
 rcases mem_append.1 hc with h|h
 ·exact ha c h
 ·exact hb c h
end Go.Eng.YtblghgacokoklaaDoor
end
section
namespace Go.Eng.YtblghgacokoklaaDoor
theorem buf_bytes{h:Hp}{s:Sl}{x:List Int}(B:Buf h s 1 5 (bv x)):h.row s.a s.n (bv x):=by have:=B.row;rw[Nat.mul_one] at this;exact this
end Go.Eng.YtblghgacokoklaaDoor
end
section
namespace Go.Eng.YtblghgacokoklaaDoor
def bodyB(k:Int)(p:List Int):List Int:=[((p.length % 256:Nat):Int),((p.length / 256 % 256:Nat):Int),k]++p
def pieceB(k:Int)(p:List Int):List Int:=fourB (sumB (bodyB k p))++bodyB k p
theorem pieceB_len(k:Int)(p:List Int):(pieceB k p).length=p.length+7:=by simp[pieceB,bodyB,fourB]
def piecesB:Nat->Nat->Bool->List Int->List Int
 |0,_,_,_=>[]
 |f+1,p,first,r=>
  if min r.length (505-p)=r.length then pieceB (if first then 1 else 4) r
  else pieceB (if first then 2 else 3) (r.take (min r.length (505-p)))++piecesB f 0 false (r.drop (min r.length (505-p)))
def appB(at_:Nat)(r:List Int):List Int:=
 if 512-at_ % 512<=7 then List.replicate (512-at_ % 512) 0++piecesB (r.length+1) 0 true r else piecesB (r.length+1) (at_ % 512) true r
theorem piecesB_len:∀ (f p:Nat) (b:Bool) (r:List Int),p<=504->(piecesB f p b r).length<=8*r.length+7
 |0,_,_,r,_=>by simp[piecesB]
 |f+1,p,b,r,hp=>by
  unfold piecesB
  split
  ·rw[pieceB_len];omega
  ·have h1:=piecesB_len f 0 false (r.drop (min r.length (505-p))) (by decide)
   rw[length_drop] at h1
   rw[length_append,pieceB_len,length_take]
   omega
theorem appB_len(a:Nat)(r:List Int):(appB a r).length<=8*r.length+20:=by
 unfold appB
 split
 ·have h1:=piecesB_len (r.length+1) 0 true r (by decide)
  rw[length_append,length_replicate];omega
 ·have h1:=piecesB_len (r.length+1) (a % 512) true r (by omega)
  omega
theorem shr64(a k:Nat)(hk:k<=64):shrI .i64 (a:Int) (k:Int)=((a / 2 ^ k:Nat):Int):=by
 unfold shrI
 have h1:min (k:Int).toNat (IntKind.bits .i64)=k:=by show min (k:Int).toNat 64=k;omega
 have h2:(2:Int) ^ k=((2 ^ k:Nat):Int):=by rw[Int.natCast_pow];rfl
 rw[h1,h2,Int.fdiv_eq_ediv_of_nonneg _ (Int.natCast_nonneg _)]
 exact(Int.natCast_ediv a (2 ^ k)).symm
theorem head_cells(n:Nat){k:Int}(hk:0<=k/\k<256):[Value.int .u8 (wrap .u8 (n:Int)),.int .u8 (wrap .u8 (shrI .i64 (n:Int) 8)),.int .u8 (wrap .u8 k)]=bv [((n % 256:Nat):Int),((n / 256 % 256:Nat):Int),k]:=by
 have e8:=shr64 n 8 (by decide)
 simp only[show((8:Nat):Int)=8 from rfl] at e8
 rw[e8]
 simp only[IntKind.wrap_u8]
 have:k % 256=k:=Int.emod_eq_of_lt hk.1 hk.2
 rw[this]
 rfl
theorem bodyB_ok{k:Int}(hk:0<=k/\k<256){p:List Int}(hp:okB8 p):okB8 (bodyB k p):=by
 refine okB8_app (λc hc=>?_) hp
 simp only[mem_cons,List.not_mem_nil,or_false] at hc
 rcases hc with rfl|rfl|rfl<;>omega
theorem buf_lit{h:Hp}{b n:Nat}(vs:List Value)(hn:vs.length=n):Buf (h.new b (.cells ⟨vs⟩ 5 (0,0))) ⟨some ⟨b,0,none⟩,n,n⟩ 1 5 vs:=
 ⟨by show vs.length=n*1;omega,Nat.le_refl _,.inr ⟨b,_,(0,0),rfl,by unfold Hp.new;rw[if_pos rfl],by show n*1<=vs.length;omega,λj _=>by simp,by show vs.take vs.length=vs;exact List.take_length⟩⟩
theorem four_log{h:Hp}{x:Nat}{Q:Value->Hp->Prop}(hQ:∀ l' h',Buf h' l' 1 5 (bv (fourB x))->Keep h h'->New h l'->Q (.slice l'.a l'.n l'.c) h'):F122.T (x:Int) h Q:=by
 refine⟨by decide,by decide,by decide,λb hb=>?_⟩
 rw[four_cells]
 exact hQ ⟨some ⟨b,0,none⟩,4,4⟩ _ (buf_lit _ rfl) (Keep.new hb _) ⟨b,rfl,hb⟩
theorem piece_spec{h:Hp}{l:Sl}{bs:List Int}{k:Int}{Q:Value->Hp->Prop}(T:TabC h)(hr:h.row l.a l.n (bv bs))(hok:okB8 bs)(hs:bs.length<=1000000)(hk:0<=k/\k<256)
  (hQ:∀ l' h',Buf h' l' 1 5 (bv (pieceB k bs))->Keep h h'->(l'.a=none\/New h l')->Q (.slice l'.a l'.n l'.c) h'):F101.T k l h Q:=by
 unfold F101.T F101.G
 have hln:l.n=bs.length:=by have:=hr.1;rw[bv_length] at this;exact this.symm
 refine⟨by decide,λb hb=>?_⟩
 rw[head_cells l.n hk,hln]
 have B0:Buf (h.new b (.cells ⟨bv [((bs.length % 256:Nat):Int),((bs.length / 256 % 256:Nat):Int),k]⟩ 5 (0,0))) ⟨some ⟨b,0,none⟩,3,3⟩ 1 5 (bv [((bs.length % 256:Nat):Int),((bs.length / 256 % 256:Nat):Int),k]):=buf_lit _ rfl
 have k0:=Keep.new hb (.cells ⟨bv [((bs.length % 256:Nat):Int),((bs.length / 256 % 256:Nat):Int),k]⟩ 5 (0,0))
 have N0:New h ⟨some ⟨b,0,none⟩,3,3⟩:=⟨b,rfl,hb⟩
 have r0:=k0.row hr
 rw[hln] at r0
 refine⟨bv bs,by rw[Nat.mul_one];exact r0,bv_one bs,?_⟩
 refine append_buf B0 rfl (by rw[bv_length];omega) (by show(3+bs.length)*1<=_;omega) λl1 h1 B1 hn1 U1=>?_
 obtain⟨K1,N1⟩:=keep_grow k0 (.inr N0) U1
 rw[<- bv_append] at B1
 have hok1:=bodyB_ok hk hok
 refine sum_spec (T.keep K1) (buf_bytes B1) hok1 (by simp only[length_append,length_cons,length_nil];omega) ⟨_,rfl,?_⟩
 refine four_log λl2 h2 B2 K2 N2=>⟨l2,rfl,?_⟩
 have B1':=B1.keep K2
 refine⟨_,by rw[Nat.mul_one];exact buf_bytes B1',bv_one _,?_⟩
 have hl1:l1.n=3+bs.length:=hn1
 have hl2:l2.n=4:=by have:=B2.len;rw[bv_length] at this;simp[fourB] at this;omega
 refine append_buf B2 rfl (by rw[bv_length];simp only[length_append,length_cons,length_nil];omega) (by omega) λl3 h3 B3 hn3 U3=>?_
 obtain⟨K3,N3⟩:=keep_grow K2 (.inr N2) U3
 rw[<- bv_append] at B3
 refine hQ l3 h3 B3 (K1.trans K3) ?_
 exact new_mono K1 N3
end Go.Eng.YtblghgacokoklaaDoor
end
section
namespace Go.Eng.YtblghgacokoklaaDoor
theorem ok_take{l:List Int}(h:okB8 l)(k:Nat):okB8 (l.take k):=λc hc=>h c (List.mem_of_mem_take hc)
theorem ok_drop{l:List Int}(h:okB8 l)(k:Nat):okB8 (l.drop k):=λc hc=>h c (List.mem_of_mem_drop hc)
end Go.Eng.YtblghgacokoklaaDoor
end
section
namespace Go.Eng.YtblghgacokoklaaDoor
theorem tmod512(a:Nat):Int.tmod (a:Int) 512=((a % 512:Nat):Int):=by
 rw[Int.tmod_eq_emod_of_nonneg (by omega)];omega
theorem room_spec{h:Hp}{a:Nat}{Q:Value->Hp->Prop}(hQ:Q (.int .i64 ((512-a % 512:Nat):Int)) h):F100.T (a:Int) h Q:=by
 refine⟨by decide,?_⟩
 rw[tmod512]
 have:wrap .i64 (512-((a % 512:Nat):Int))=((512-a % 512:Nat):Int):=by rw[wrap_i64 (by omega) (by omega)];omega
 rw[this]
 exact hQ
theorem iMax0(n:Int):iMax n 0=((n.toNat:Nat):Int):=by unfold iMax;split<;>omega
theorem zero_row(n:Nat):(Builtin.zeroCells (List.toArray [Value.int .u8 0]) ((n:Nat):Int).toNat)=⟨bv (List.replicate n 0)⟩:=by
 rw[Int.toNat_natCast]
 unfold Builtin.zeroCells bv
 apply Array.ext
 ·simp
 ·intro i h1 h2
  simp[Nat.mod_one]
theorem lay_piece{h h2:Hp}{l2 l3:Sl}{k:Int}{r done:List Int}{R:Sl->Hp->Prop}(T:TabC h)(K2:Keep h h2)(N2:l3.a=none\/New h l3)(hrow:h2.row l2.a l2.n (bv r))(hok:okB8 r)(hs:r.length<=1000000)(hk:0<=k/\k<256)(B2:Buf h2 l3 1 5 (bv done))(hd:done.length<=100000000000)
  (hR:∀ l5 h5,Buf h5 l5 1 5 (bv (done++pieceB k r))->Keep h h5->(l5.a=none\/New h l5)->R l5 h5) :
  F101.T k l2 h2 λr1 h4=>∃ l4:Sl,r1=.slice l4.a l4.n l4.c/\∃ vs,h4.row l4.a (l4.n*1) vs/\(∀ v∈vs,Value.oneCell' v=true)/\appendD l3 5 1 1 [.int .u8 0] l4.n vs h4 λl5 h5=>R l5 h5:=by
 have h3n:l3.n=done.length:=by have:=B2.len;rw[bv_length] at this;omega
 refine piece_spec (T.keep K2) hrow hok hs hk λl4 h4 B4 K4 N4=>⟨l4,rfl,_,by rw[Nat.mul_one];exact buf_bytes B4,bv_one _,?_⟩
 have hl4:l4.n=r.length+7:=by have:=B4.len;rw[bv_length,pieceB_len] at this;omega
 refine append_buf (B2.keep K4) rfl (by rw[bv_length,pieceB_len];omega) (by omega) λl5 h5 B5 hn5 U5=>?_
 obtain⟨K5,N5⟩:=keep_grow (K2.trans K4) N2 U5
 rw[<- bv_append] at B5
 exact hR l5 h5 B5 K5 N5
theorem append_spec{h:Hp}{l:Sl}{n:Int}{bs:List Int}{Q:Value->Hp->Prop}(T:TabC h)(hr:h.row l.a l.n (bv bs))(hc:l.n<=l.c)(hok:okB8 bs)(hs:bs.length<=1000000)(hn:n<=10000000000000)
  (hQ:∀ l' h',Buf h' l' 1 5 (bv (appB n.toNat bs))->Keep h h'->(l'.a=none\/New h l')->Q (.slice l'.a l'.n l'.c) h'):F66.T n l h Q:=by
 have hln:l.n=bs.length:=by have:=hr.1;rw[bv_length] at this;exact this.symm
 unfold F66.T F66.G
 rw[iMax0]
 generalize ha:n.toNat=a at hQ
 have ha1:a<=10000000000000:=by omega
 clear hn ha n
 refine⟨λl1 h1=>∃ z p,appB a bs=z++piecesB (bs.length+1) p true bs/\p=(a+z.length) % 512/\p<=504/\z.length<=7/\Buf h1 l1 1 5 (bv z)/\Keep h h1/\(l1.a=none\/New h l1),?_,?_⟩
 ·rintro l1 h1 ⟨z,p,hz,hp,hp2,hzl,B1,K1,N1⟩
  refine⟨λl2 l3 n1 h2=>∃ (f p:Nat) (b:Bool) (r done:List Int),appB a bs=done++piecesB f p b r/\p=(a+done.length) % 512/\p<=504/\r.length<f/\n1=(if b then 1 else 3)/\okB8 r/\r.length<=bs.length/\done.length+8*r.length<=8*bs.length+7/\h.row l2.a l2.n (bv r)/\l2.n<=l2.c/\Buf h2 l3 1 5 (bv done)/\Keep h h2/\(l3.a=none\/New h l3),λl2 _ _ _=>l2.n,⟨bs.length+1,p,true,bs,z,hz,hp,hp2,by omega,rfl,hok,Nat.le_refl _,by omega,hr,hc,B1,K1,N1⟩,?_⟩
  rintro l2 l3 n1 h2 ⟨f,p,b,r,done,hd,hp,hp2,hf,rfl,hokr,hrl,hdl,hrow,hcap,B2,K2,N2⟩
  have h2n:l2.n=r.length:=by have:=hrow.1;rw[bv_length] at this;exact this.symm
  have h3n:l3.n=done.length:=by have:=B2.len;rw[bv_length] at this;omega
  have w1':wrap .i64 (((a:Nat):Int)+(l3.n:Int))=((a+done.length:Nat):Int):=by
   rw[wrap_i64 (by omega) (by omega)];omega
  rw[w1']
  refine room_spec ⟨_,rfl,?_⟩
  rw[<- hp]
  have w2:wrap .i64 (((512-p:Nat):Int)-7)=((505-p:Nat):Int):=by rw[wrap_i64 (by omega) (by omega)];omega
  have w3:iMin (l2.n:Int) ((505-p:Nat):Int)=((min r.length (505-p):Nat):Int):=by rw[iMin_nat,h2n]
  rw[w2,w3]
  obtain⟨f,rfl⟩:∃ g,f=g+1:=⟨f-1,by omega⟩
  unfold piecesB at hd
  refine⟨λhall=>?_,λhmore=>?_⟩
  ·rw[if_pos (by omega)] at hd
   refine⟨λh1=>?_,λh1=>?_⟩
   ·have hb:b=true:=by cases b with
     |true=>rfl
     |false=>exact absurd h1 (by decide)
    subst hb
    exact lay_piece T K2 N2 (K2.row hrow) hokr (by omega) (by decide) B2 (by omega) λl5 h5 B5 K5 N5=>hQ l5 h5 (by rw[hd];exact B5) K5 N5
   ·have hb:b=false:=by cases b with
     |true=>exact absurd rfl h1
     |false=>rfl
    subst hb
    exact lay_piece T K2 N2 (K2.row hrow) hokr (by omega) (by decide) B2 (by omega) λl5 h5 B5 K5 N5=>hQ l5 h5 (by rw[hd];exact B5) K5 N5
  ·rw[if_neg (by omega)] at hd
   have hm:min r.length (505-p)=505-p:=by omega
   have hm2:505-p<r.length:=by omega
   rw[hm] at hd hmore ⊢
   have c1:=cutR (sz:=1) (i:=0) (j:=505-p) (m:=l2.c) (by rw[Nat.mul_one];exact hrow) (Nat.zero_le _) (by omega) (by omega)
   have c2:=cutR (sz:=1) (i:=505-p) (j:=l2.n) (m:=l2.c) (by rw[Nat.mul_one];exact hrow) (by omega) (by omega) (by omega)
   have n1:(Sl.cut l2 1 0 ((505-p:Nat):Int) (l2.c:Int)).n=505-p:=by simp[Sl.cut]
   have n2:(Sl.cut l2 1 ((505-p:Nat):Int) (l2.n:Int) (l2.c:Int)).n=r.length-(505-p):=by simp[Sl.cut];omega
   have n3:(Sl.cut l2 1 ((505-p:Nat):Int) (l2.n:Int) (l2.c:Int)).c=l2.c-(505-p):=by simp[Sl.cut]
   have e1:((bv r).drop (0*1)).take ((505-p-0)*1)=bv (r.take (505-p)):=by
    rw[Nat.zero_mul,List.drop_zero,Nat.mul_one,Nat.sub_zero];unfold bv;rw[List.map_take]
   have e2:((bv r).drop ((505-p)*1)).take ((l2.n-(505-p))*1)=bv (r.drop (505-p)):=by
    rw[take_of_length_le (by rw[length_drop,bv_length];omega),Nat.mul_one];unfold bv;rw[List.map_drop]
   rw[e1,Nat.mul_one] at c1
   rw[e2,Nat.mul_one] at c2
   have tl:(r.take (505-p)).length=505-p:=by rw[length_take];omega
   have dl:(r.drop (505-p)).length=r.length-(505-p):=length_drop
   refine⟨λh1=>⟨⟨by omega,by omega,by omega,by omega⟩,?_⟩,λh1=>⟨⟨by omega,by omega,by omega,by omega⟩,?_⟩⟩
   ·have hb:b=true:=by cases b with
     |true=>rfl
     |false=>exact absurd h1 (by decide)
    subst hb
    refine lay_piece T K2 N2 (K2.row c1) (ok_take hokr _) (by omega) (by decide) B2 (by omega) λl5 h5 B5 K5 N5=>⟨⟨by omega,by omega,by omega,by omega⟩,⟨f,0,false,r.drop (505-p),done++pieceB 2 (r.take (505-p)),?_,?_,by decide,by omega,rfl,ok_drop hokr _,by omega,?_,c2,by omega,B5,K5,N5⟩,by dsimp only;omega⟩
    ·rw[hd,List.append_assoc];rfl
    ·rw[length_append,pieceB_len,tl];omega
    ·rw[length_append,pieceB_len,tl,dl];omega
   ·have hb:b=false:=by cases b with
     |true=>exact absurd rfl h1
     |false=>rfl
    subst hb
    refine lay_piece T K2 N2 (K2.row c1) (ok_take hokr _) (by omega) (by decide) B2 (by omega) λl5 h5 B5 K5 N5=>⟨⟨by omega,by omega,by omega,by omega⟩,⟨f,0,false,r.drop (505-p),done++pieceB 3 (r.take (505-p)),?_,?_,by decide,by omega,rfl,ok_drop hokr _,by omega,?_,c2,by omega,B5,K5,N5⟩,by dsimp only;omega⟩
    ·rw[hd,List.append_assoc];rfl
    ·rw[length_append,pieceB_len,tl];omega
    ·rw[length_append,pieceB_len,tl,dl];omega
 ·refine room_spec ⟨_,rfl,λhle=>?_,λhgt=>?_⟩
  ·refine⟨⟨by omega,Int.le_refl _,by omega⟩,λb hb=>?_⟩
   rw[zero_row,Int.toNat_natCast]
   refine⟨List.replicate (512-a % 512) 0,0,by unfold appB;rw[if_pos (by omega)],by rw[length_replicate];omega,by decide,by rw[length_replicate];omega,buf_lit _ (by rw[bv_length,length_replicate]),Keep.new hb _,.inr ⟨b,rfl,hb⟩⟩
  ·exact⟨[],a % 512,by unfold appB;rw[if_neg (by omega)];rfl,rfl,by omega,Nat.zero_le _,Buf.nil h 1 5,Keep.refl h,.inl rfl⟩
end Go.Eng.YtblghgacokoklaaDoor
end
section
namespace Go.Eng.YtblghgacokoklaaDoor
theorem placed_len{p:Placed}(hp:p.ok):p.enc.length<=200:=by
 have h1:=encUs_length [p.lv,p.num,p.weight,p.bytes,p.entries]
 have h2:=encT_length hp.least
 have h3:=encT_length hp.greatest
 unfold Placed.enc
 simp only[length_append,length_cons,length_nil] at h1 ⊢
 omega
end Go.Eng.YtblghgacokoklaaDoor
end
section
namespace Go.Eng.YtblghgacokoklaaDoor
theorem encF_ok:∀ (f n:Nat),∀ c∈encF f n,0<=c/\c<256
 |0,n,c,h=>by simp[encF] at h
 |f+1,n,c,h=>by
  unfold encF at h
  split at h
  ·rw[List.mem_singleton] at h;omega
  ·rcases mem_cons.1 h with h|h
   ·omega
   ·exact encF_ok f _ c h
theorem bI_ok(s:ByteArray):∀ c∈bI s,0<=c/\c<256:=by
 intro c h
 unfold bI at h
 obtain⟨b,_,rfl⟩:=List.mem_map.1 h
 have:=b.toNat_lt
 omega
theorem encT_ok(s:ByteArray):∀ c∈encT s,0<=c/\c<256:=by
 intro c h
 unfold encT at h
 rcases mem_append.1 h with h|h
 ·exact encF_ok 10 _ c h
 ·exact bI_ok s c h
theorem encUs_ok(ns:List Int):∀ c∈encUs ns,0<=c/\c<256:=by
 intro c h
 unfold encUs at h
 obtain⟨n,_,hn⟩:=List.mem_flatMap.1 h
 exact encF_ok 10 _ c hn
theorem flat_ok{α:Type}(f:α->List Int)(l:List α)(h:∀ x∈l,∀ c∈f x,0<=c/\c<256):∀ c∈l.flatMap f,0<=c/\c<256:=by
 intro c hc
 obtain⟨x,hx,hcx⟩:=List.mem_flatMap.1 hc
 exact h x hx c hcx
theorem recB_ok(e:Edit)(b:Bool):∀ c∈recB e b,0<=c/\c<256:=by
 intro c h
 unfold recB at h
 rcases mem_cons.1 h with h|h
 ·subst h;cases b<;>decide
 ·simp only[mem_append] at h
  rcases h with((((h|h)|h)|h)|h)|h
  ·exact encUs_ok _ c h
  ·exact flat_ok _ _ (λx _=>encUs_ok _) c h
  ·exact encUs_ok _ c h
  ·refine flat_ok _ _ (λx _ c hc=>?_) c h
   unfold Placed.enc at hc
   simp only[mem_append] at hc
   rcases hc with(hc|hc)|hc
   ·exact encUs_ok _ c hc
   ·exact encT_ok _ c hc
   ·exact encT_ok _ c hc
  ·exact encUs_ok _ c h
  ·exact flat_ok _ _ (λx _=>encT_ok _) c h
theorem put_recs{e:Edit}(G:Good e):∀ (k:Nat) (hk:k<(putS e).length),∃ x,Good x/\x.size<=256/\(putS e)[k]=recB x (decide (k+1=(putS e).length)):=by
 have h:=putF_get (e.size+1) e G (Nat.lt_succ_self _)
 rw[<- put_eq G] at h
 exact h
theorem put_mem{e:Edit}(G:Good e){r:List Int}(hr:r∈putS e):r.length<262144/\∀ c∈r,0<=c/\c<256:=by
 obtain⟨k,hk,rfl⟩:=List.getElem_of_mem hr
 obtain⟨x,hx,hs,he⟩:=put_recs G k hk
 rw[he]
 exact⟨recB_length hx hs _,recB_ok x _⟩
theorem put_len{e:Edit}(G:Good e):(putS e).length=max 1 ((e.size+255) / 256):=by
 rw[put_eq G]
 exact putF_length _ _ (Nat.lt_succ_self _)
theorem puts_len:∀ (L:List Edit),(∀ e∈L,Good e/\e.size<=10000)->(L.flatMap putS).length<=40*L.length
 |[],_=>by simp
 |e::L,h=>by
  have h1:=h e mem_cons_self
  have h2:=put_len h1.1
  have h3:=puts_len L λx hx=>h x (mem_cons_of_mem _ hx)
  rw[List.flatMap_cons,length_append,length_cons]
  omega
theorem tot_le:∀ (l:List (List Int)),(∀ r∈l,r.length<262144)->tot l<=262144*l.length
 |[],_=>by simp[tot]
 |r::l,h=>by
  have h1:=h r mem_cons_self
  have h2:=tot_le l λx hx=>h x (mem_cons_of_mem _ hx)
  have e:tot (r::l)=r.length+1+tot l:=by simp[tot]
  rw[e,length_cons]
  omega
theorem puts_mem{L:List Edit}(hL:∀ e∈L,Good e/\e.size<=10000){r:List Int}(hr:r∈L.flatMap putS):r.length<262144/\∀ c∈r,0<=c/\c<256:=by
 obtain⟨e,he,hr⟩:=List.mem_flatMap.1 hr
 exact put_mem (hL e he).1 hr
def at'(L:List Edit)(i:Nat):Nat:=((L.take i).flatMap putS).length
theorem at_succ{L:List Edit}{i:Nat}(h:i<L.length):at' L (i+1)=at' L i+(putS L[i]).length:=by
 unfold at'
 rw[List.take_succ_eq_append_getElem h,List.flatMap_append,length_append]
 simp
theorem at_mono(L:List Edit){i j:Nat}(h:i<=j):at' L i<=at' L j:=by
 unfold at'
 have e:L.take i=(L.take j).take i:=by rw[List.take_take,Nat.min_eq_left h]
 rw[e]
 conv=>rhs;rw[<- List.take_append_drop i (L.take j)]
 rw[List.flatMap_append,length_append]
 exact Nat.le_add_right _ _
theorem slV_append(a b:List Sl):slV (a++b)=slV a++slV b:=List.map_append
theorem recs_of{h:Hp}{l:Sl}{ss:List Sl}{recs:List (List Int)}(hr:h.row l.a l.n (slV ss))(hc:l.n<=l.c)(R:RowsAt h ss recs)(hm:∀ r∈recs,r.length<262144/\∀ c∈r,0<=c/\c<256)(hn:recs.length<=500000):Recs h l ss recs:=by
 refine⟨hr,hc,R.rows,λs hs=>?_,λr hr=>(hm r hr).2,λr hr=>by have:=(hm r hr).1;omega,?_⟩
 ·obtain⟨i,hi,rfl⟩:=List.getElem_of_mem hs
  exact(R.2 i hi (by have:=R.1;omega)).cap
 ·have:=tot_le recs λr hr=>(hm r hr).1
  omega
end Go.Eng.YtblghgacokoklaaDoor
end
section
namespace Go.Eng.YtblghgacokoklaaDoor
theorem recB_len{e:Edit}(S:e.small)(b:Bool):(recB e b).length<=100000+200*1000+74*1000:=by
 have h1:=encUs_length [e.log,e.next,e.seq,(e.out.length:Int)]
 have h2:=encUs_length [(e.inn.length:Int)]
 have h3:=encUs_length [(e.ptr.length:Int)]
 have h4:(e.out.flatMap Place.enc).length<=20*e.out.length:=flatMap_le Place.enc 20 _ λp _=>p.enc_length
 have h5:(e.inn.flatMap Placed.enc).length<=200*e.inn.length:=flatMap_le Placed.enc 200 _ λp hp=>placed_len (S.inn p hp)
 have h6:(e.ptr.flatMap encT).length<=74*e.ptr.length:=flatMap_le encT 74 _ λp hp=>encT_length (S.ptr p hp)
 have:=S.nout
 have:=S.ninn
 have:=S.nptr
 unfold recB
 simp only[length_cons,length_append,length_nil] at h1 h2 h3 ⊢
 omega
theorem putF_recs:∀ (f:Nat) (e:Edit),Told e->okU e.log->okU e.next->okU e.seq->(putF f e).length<=e.size+1/\∀ r∈putF f e,okB8 r/\r.length<=400000
 |0,e,_,_,_,_=>⟨Nat.zero_le _,λr hr=>(by cases hr)⟩
 |f+1,e,T,h1,h2,h3=>by
  have S:=T.small h1 h2 h3
  by_cases hsz:e.size<=256
  ·rw[putF_last hsz]
   refine⟨by simp,λr hr=>?_⟩
   rw[List.mem_singleton] at hr
   subst hr
   exact⟨recB_ok _ _,by have:=recB_len S true;omega⟩
  ·rw[putF_more (by omega)]
   obtain⟨i1,i2⟩:=putF_recs f (behind e) T.behind h1 h2 h3
   rw[behind_size] at i1
   refine⟨by rw[length_cons];omega,λr hr=>?_⟩
   rcases mem_cons.1 hr with rfl|hr
   ·exact⟨recB_ok _ _,by have:=recB_len S.noptr false;exact Nat.le_trans this (by decide)⟩
   ·exact i2 r hr
theorem putS_recs{e:Edit}(V:e.valid):(putS e).length<=e.size+1/\∀ r∈putS e,okB8 r/\r.length<=400000:=by
 unfold putS
 split
 ·rename_i h
  exact putF_recs _ e (told_spec V h) V.log V.next V.seq
 ·exact⟨Nat.zero_le _,λr hr=>(by cases hr)⟩
def bytesF(a:Nat):List Int->List (List Int)->List Int
 |o,[]=>o
 |o,r::rs=>bytesF a (o++appB (a+o.length) r) rs
theorem bytesF_cons(a:Nat)(o r:List Int)(rs:List (List Int)):bytesF a o (r::rs)=bytesF a (o++appB (a+o.length) r) rs:=rfl
def szs(L:List EdS):Nat:=(L.map λx=>x.e.size+1).sum
theorem szs_cons(x:EdS)(L:List EdS):szs (x::L)=x.e.size+1+szs L:=by simp[szs]
structure Eds(h:Hp)(l:Sl)(L:List EdS):Prop where
 row:h.row l.a (l.n*6) (edV L)
 at_:∀ x∈L,EdAt h x.e x.a x.b x.c
 cap:∀ x∈L,x.a.n<=x.a.c/\x.b.n<=x.b.c
 val:∀ x∈L,x.e.valid
 few:parts L<=100000
theorem Eds.keep{h h':Hp}(k:Keep h h'){l:Sl}{L:List EdS}(A:Eds h l L):Eds h' l L:=⟨k.row A.row,λx hx=>(A.at_ x hx).keep k,A.cap,A.val,A.few⟩
theorem Eds.n{h:Hp}{l:Sl}{L:List EdS}(A:Eds h l L):l.n=L.length:=by
 have h1:=A.row.1
 rw[edV_len] at h1
 omega
theorem drop_get{α:Type}{l:List α}{i:Nat}(h:i<l.length):l.drop i=l[i]::l.drop (i+1):=List.drop_eq_getElem_cons h
theorem szs_le:∀ L:List EdS,szs L<=parts L
 |[]=>Nat.le_refl _
 |x::L=>by
  have:=szs_le L
  rw[szs_cons,parts_cons]
  unfold Edit.size
  omega
theorem Eds.cells{h:Hp}{l:Sl}{L:List EdS}(A:Eds h l L){i:Nat}(hi:i<L.length):∃ b o,l.a=some ⟨b,o,none⟩/\((0:Int)<=(i:Int)/\(i:Int)<(l.n:Int))/\h.at b (o+(i:Int).toNat*6)=some (.int .u64 L[i].e.log)/\h.at b ((o+(i:Int).toNat*6)+1)=some (.int .u64 L[i].e.next)/\h.at b ((o+(i:Int).toNat*6)+2)=some (.int .u64 L[i].e.seq)/\h.at b ((o+(i:Int).toNat*6)+3)=some (.slice L[i].a.a L[i].a.n L[i].a.c)/\h.at b ((o+(i:Int).toNat*6)+4)=some (.slice L[i].b.a L[i].b.n L[i].b.c)/\h.at b ((o+(i:Int).toNat*6)+5)=some (.slice L[i].c.a L[i].c.n L[i].c.c):=by
 have hn:=A.n
 obtain⟨b,o,ha,hat⟩:=row_get A.row (i:=i*6) (by omega)
 have c:∀ j,j<6->h.at b ((o+(i:Int).toNat*6)+j)=(EdS.cells L[i])[j]?:=λj hj=>by
  rw[Int.toNat_natCast,Nat.add_assoc,hat _ (by omega)]
  exact flat_get EdS.cells 6 (λ_=>rfl) L i j hi hj
 exact⟨b,o,ha,⟨by omega,by omega⟩,c 0 (by decide),c 1 (by decide),c 2 (by decide),c 3 (by decide),c 4 (by decide),c 5 (by decide)⟩
theorem bytes_len{a:Nat}:∀ (rs:List (List Int)) (o:List Int),(∀ r∈rs,r.length<=400000)->(bytesF a o rs).length<=o.length+4000000*rs.length
 |[],o,_=>by simp[bytesF]
 |r::rs,o,h=>by
  unfold bytesF
  have h1:=appB_len (a+o.length) r
  have h2:=h r mem_cons_self
  have h3:=bytes_len (a:=a) rs (o++appB (a+o.length) r) λr' hr=>h r' (mem_cons_of_mem _ hr)
  rw[length_append] at h3
  rw[length_cons]
  omega
theorem allput{L:List EdS}(hv:∀ x∈L,x.e.valid):((L.flatMap λx=>putS x.e).length<=szs L)/\∀ r∈L.flatMap λx=>putS x.e,okB8 r/\r.length<=400000:=by
 refine⟨?_,λr hr=>?_⟩
 ·induction L with
  |nil=>exact Nat.le_refl _
  |cons x L ih=>
   have h1:=ih λy hy=>hv y (mem_cons_of_mem _ hy)
   have h2:=(putS_recs (hv x mem_cons_self)).1
   rw[List.flatMap_cons,length_append,szs_cons]
   omega
 ·obtain⟨x,hx,hr⟩:=List.mem_flatMap.1 hr
  exact(putS_recs (hv x hx)).2 r hr
theorem bytes_spec{h:Hp}{l:Sl}{n:Int}{L:List EdS}{Q:Value->Hp->Prop}(T:TabC h)(A:Eds h l L)(hn:n<=2000000000000)
  (hQ:∀ l' h',Buf h' l' 1 5 (bv (bytesF n.toNat [] (L.flatMap λx=>putS x.e)))->Keep h h'->(l'.a=none\/New h l')->Q (.slice l'.a l'.n l'.c) h'):F23.T n l h Q:=by
 have hln:=A.n
 have hfew:=A.few
 have hsz:=szs_le L
 have hpl:=parts_len L
 obtain⟨hall,hrec⟩:=allput A.val
 unfold F23.T F23.G
 rw[iMax0]
 generalize ha:n.toNat=a at hQ
 have ha1:a<=2000000000000:=by omega
 clear hn ha n
 refine⟨λl1 n1 h1=>∃ (i:Nat) (done:List Int),n1=(i:Int)/\i<=L.length/\bytesF a done ((L.drop i).flatMap λx=>putS x.e)=bytesF a [] (L.flatMap λx=>putS x.e)/\done.length+4000000*((L.drop i).flatMap λx=>putS x.e).length<=4000000*(L.flatMap λx=>putS x.e).length/\Buf h1 l1 1 5 (bv done)/\Keep h h1/\(l1.a=none\/New h l1),λ_ n1 _=>L.length-n1.toNat,⟨0,[],rfl,Nat.zero_le _,rfl,by simp,Buf.nil h 1 5,Keep.refl h,.inl rfl⟩,?_⟩
 rintro l1 n1 h1 ⟨i,done,rfl,hi,hd,hlen,B1,K1,N1⟩
 refine⟨λhlt=>?_,λhge=>?_⟩
 ·have hi1:i<L.length:=by omega
  have hx:=List.getElem_mem hi1
  obtain⟨b,o,hb,hbd,c0,c1,c2,c3,c4,c5⟩:=(A.keep K1).cells hi1
  have hp:=parts_mem hx
  refine⟨b,o,hb,hbd,_,c0,_,c1,_,c2,_,c3,_,c4,_,c5,?_⟩
  refine put_spec' ((A.at_ _ hx).keep K1) (A.cap _ hx).1 (A.cap _ hx).2 (A.val _ hx) (by omega) (by omega) λr h2 ss B2 R2 hNs K2 N2=>⟨r,rfl,?_⟩
  have hrn:r.n=(putS L[i].e).length:=by have:=B2.len;rw[slV_length,R2.1] at this;omega
  rw[drop_get hi1,List.flatMap_cons] at hd hlen
  obtain⟨hpn,hpr⟩:=putS_recs (A.val _ hx)
  have hszm:L[i].e.size+1<=parts L:=by unfold Edit.size;omega
  refine⟨λl6 n5 h3=>∃ (j:Nat) (done:List Int),n5=(j:Int)/\j<=(putS L[i].e).length/\bytesF a done ((putS L[i].e).drop j++(L.drop (i+1)).flatMap λx=>putS x.e)=bytesF a [] (L.flatMap λx=>putS x.e)/\done.length+4000000*((putS L[i].e).drop j++(L.drop (i+1)).flatMap λx=>putS x.e).length<=4000000*(L.flatMap λx=>putS x.e).length/\Buf h3 l6 1 5 (bv done)/\Upd h2 h3 l1 l6,λ_ n5 _=>(putS L[i].e).length-n5.toNat,⟨0,done,rfl,Nat.zero_le _,hd,hlen,B1.keep K2,Upd.refl _ _⟩,?_⟩
  rintro l6 n5 h3 ⟨j,done,rfl,hj,hd,hlen,B3,U3⟩
  obtain⟨K3,N3⟩:=keep_grow (K1.trans K2) N1 U3
  refine⟨λhlt5=>?_,λhge5=>?_⟩
  ·have hj1:j<(putS L[i].e).length:=by omega
   have hj2:j<ss.length:=by have:=R2.1;omega
   have B2':=B2.upd U3 (buf_off B2 (B1.keep K2) (by decide))
   obtain⟨b1,o1,ha1',hat⟩:=row_get B2'.row (i:=j) (by rw[Nat.mul_one];omega)
   have Rj:=(R2.2 j hj2 hj1).upd U3 (new_off (hNs _ (List.getElem_mem hj2)) B1).2
   have hrj:=hpr _ (List.getElem_mem hj1)
   rw[drop_get hj1,List.cons_append] at hd hlen
   rw[bytesF_cons] at hd
   rw[length_cons] at hlen
   have hl6:l6.n=done.length:=by have:=B3.len;rw[bv_length] at this;omega
   have w:wrap .i64 (((a:Nat):Int)+(l6.n:Int))=((a+done.length:Nat):Int):=by rw[wrap_i64 (by omega) (by omega)];omega
   refine⟨b1,o1,ha1',⟨by omega,hlt5⟩,ss[j],by rw[Int.toNat_natCast,hat j (by omega)];simp[slV,hj2],?_⟩
   rw[w]
   refine append_spec (T.keep K3) (buf_bytes Rj) Rj.cap hrj.1 (by omega) (by omega) λl8 h4 B4 K4 N4=>⟨l8,rfl,_,by rw[Nat.mul_one];exact buf_bytes B4,bv_one _,?_⟩
   rw[Int.toNat_natCast] at B4 ⊢
   have hal:=appB_len (a+done.length) (putS L[i].e)[j]
   have hl8:l8.n=(appB (a+done.length) (putS L[i].e)[j]).length:=by have:=B4.len;rw[bv_length] at this;omega
   refine append_buf (B3.keep K4) rfl (by rw[bv_length];omega) (by omega) λl9 h5 B5 hn5 U5=>?_
   rw[<- bv_append] at B5
   have wj:wrap .i64 ((j:Int)+1)=((j+1:Nat):Int):=by rw[wrap_i64 (by omega) (by omega)];omega
   rw[wj]
   refine⟨⟨j+1,_,rfl,hj1,hd,?_,B5,(U3.trans (Upd.of_keep K4 l6)).trans U5⟩,by dsimp only;omega⟩
   rw[length_append];omega
  ·rw[List.drop_of_length_le (by omega),List.nil_append] at hd hlen
   have wi:wrap .i64 ((i:Int)+1)=((i+1:Nat):Int):=by rw[wrap_i64 (by omega) (by omega)];omega
   rw[wi]
   exact⟨⟨i+1,done,rfl,hi1,hd,hlen,B3,K3,N3⟩,by dsimp only;omega⟩
 ·rw[List.drop_of_length_le (by omega)] at hd
  exact hQ l1 h1 (by rw[<- hd];exact B1) K1 N1
end Go.Eng.YtblghgacokoklaaDoor
end
section
namespace Go.Eng.YtblghgacokoklaaDoor
def pcN(d:List Int):Nat:=(d.getD 4 0).toNat+(d.getD 5 0).toNat*256
def pieceAt(a:Nat)(d:List Int):Option (Int×List Int):=
 if d.length<7 then none
 else if 512-a % 512<7+pcN d\/d.length<7+pcN d\/d.getD 6 0<1\/4<d.getD 6 0 then none
 else if fourB (sumB ((d.drop 4).take (3+pcN d)))=d.take 4 then some (d.getD 6 0,(d.drop 7).take (pcN d)) else none
def recLoop:Nat->Nat->Bool->List Int->List Int->Option (List Int×Nat)
 |0,_,_,_,_=>none
 |f+1,a,begun,acc,d=>match pieceAt a d with
  |none=>none
  |some (k,p)=>
   if begun=decide (k=3\/k=4) then
    if k=1\/(k=4/\0<p.length) then some (acc++p,a+7+p.length)
    else if k=4\/(a+7+p.length) % 512≠0 then none
    else recLoop f (a+7+p.length) true (acc++p) (d.drop (7+p.length))
   else none
def recAt(a:Nat)(d:List Int):Option (List Int×Nat):=
 if 512-a % 512<=7 then
  (if d.length<512-a % 512 then none
  else if (d.take (512-a % 512)).all (λx=>x == 0) then recLoop (d.length+1) (a+(512-a % 512)) false [] (d.drop (512-a % 512)) else none)
 else recLoop (d.length+1) a false [] d
def readL:Nat->Nat->List Int->List (List Int)
 |0,_,_=>[]
 |f+1,a,d=>if d=[] then[] else match recAt a d with
  |none=>[]
  |some (r,a')=>r::readL f a' (d.drop (a'-a))
theorem pieceB_eq(k:Int)(p:List Int):pieceB k p=fourB (sumB (bodyB k p))++([((p.length % 256:Nat):Int),((p.length / 256 % 256:Nat):Int),k]++p):=rfl
theorem pcN_piece{k:Int}{p rest:List Int}(hp:p.length<=505){m:Nat}(hm:7<=m):pcN ((pieceB k p++rest).take m)=p.length/\((pieceB k p++rest).take m).getD 6 0=k:=by
 have g:∀ i,i<7->((pieceB k p++rest).take m).getD i 0=((fourB (sumB (bodyB k p))++[((p.length % 256:Nat):Int),((p.length / 256 % 256:Nat):Int),k]).getD i 0):=λi hi=>by
  rw[List.getD_eq_getElem?_getD,List.getD_eq_getElem?_getD,List.getElem?_take,if_pos (by omega),pieceB_eq,<- List.append_assoc,List.append_assoc,List.getElem?_append_left (by simp[fourB];omega)]
 unfold pcN
 rw[g 4 (by decide),g 5 (by decide),g 6 (by decide)]
 refine⟨?_,rfl⟩
 show((p.length % 256:Nat):Int).toNat+((p.length / 256 % 256:Nat):Int).toNat*256=p.length
 rw[Int.toNat_natCast,Int.toNat_natCast]
 omega
theorem piece_full{a:Nat}{k:Int}{p rest:List Int}(hk:1<=k/\k<=4)(hp:p.length+7<=512-a % 512):pieceAt a (pieceB k p++rest)=some (k,p):=by
 have hl:(pieceB k p++rest).length=p.length+7+rest.length:=by rw[length_append,pieceB_len]
 obtain⟨h1,h2⟩:=pcN_piece (k:=k) (p:=p) (rest:=rest) (by omega) (m:=(pieceB k p++rest).length) (by omega)
 rw[List.take_length] at h1 h2
 unfold pieceAt
 rw[if_neg (by omega),h1,h2,if_neg (by omega)]
 have e4:(pieceB k p++rest).take 4=fourB (sumB (bodyB k p)):=by
  rw[pieceB_eq,List.append_assoc];exact List.take_left' rfl
 have e3:((pieceB k p++rest).drop 4).take (3+p.length)=bodyB k p:=by
  rw[pieceB_eq,List.append_assoc,List.drop_left' (by rfl)]
  refine List.take_left' ?_
  simp;omega
 have e7:((pieceB k p++rest).drop 7).take p.length=p:=by
  have:pieceB k p++rest=(fourB (sumB (bodyB k p))++[((p.length % 256:Nat):Int),((p.length / 256 % 256:Nat):Int),k])++(p++rest):=by rw[pieceB_eq];simp
  rw[this,List.drop_left' (by rfl)]
  exact List.take_left' rfl
 rw[e4,e3,if_pos rfl,e7]
theorem piece_cut{a m:Nat}{k:Int}{p:List Int}(hp:p.length<=505)(hm:m<p.length+7):pieceAt a ((pieceB k p).take m)=none:=by
 have hl:((pieceB k p).take m).length=m:=by rw[length_take,pieceB_len];omega
 unfold pieceAt
 by_cases h7:m<7
 ·rw[if_pos (by omega)]
 ·obtain⟨h1,_⟩:=pcN_piece (k:=k) (p:=p) (rest:=[]) hp (m:=m) (by omega)
  rw[List.append_nil] at h1
  rw[if_neg (by omega),h1,if_pos (.inr (.inl (by omega)))]
theorem piecesB_one{f p:Nat}{first:Bool}{r:List Int}(h:r.length<=505-p):piecesB (f+1) p first r=pieceB (if first then 1 else 4) r:=by
 unfold piecesB;rw[if_pos (by omega)]
theorem piecesB_more{f p:Nat}{first:Bool}{r:List Int}(h:505-p<r.length):piecesB (f+1) p first r=pieceB (if first then 2 else 3) (r.take (505-p))++piecesB f 0 false (r.drop (505-p)):=by
 conv=>lhs;unfold piecesB
 rw[if_neg (by omega),show min r.length (505-p)=505-p by omega]
theorem loop_full:∀ (f p:Nat) (first:Bool) (r:List Int) (a:Nat) (acc rest:List Int) (fu:Nat),r.length<f->a % 512=p->p<=504->(first=false->0<r.length)->r.length<fu->recLoop fu a (!first) acc (piecesB f p first r++rest)=some (acc++r,a+(piecesB f p first r).length)
 |0,_,_,_,_,_,_,_,h,_,_,_,_=>by omega
 |f+1,p,first,r,a,acc,rest,0,_,_,_,_,h=>by omega
 |f+1,p,first,r,a,acc,rest,fu+1,h1,h2,h3,h4,h5=>by
  by_cases hr:r.length<=505-p
  ·rw[piecesB_one hr]
   unfold recLoop
   rw[piece_full (by cases first<;>decide) (by omega)]
   cases first with
   |true=>
    dsimp only
    rw[if_pos (by decide),if_pos (.inl rfl),pieceB_len]
    congr 2;omega
   |false=>
    have:=h4 rfl
    dsimp only
    rw[if_pos (by decide),if_pos (.inr ⟨rfl,this⟩),pieceB_len]
    congr 2;omega
  ·have hlt:(r.take (505-p)).length=505-p:=by rw[length_take];omega
   rw[piecesB_more (by omega),List.append_assoc]
   unfold recLoop
   rw[piece_full (by cases first<;>decide) (by rw[hlt];omega)]
   have ih:=loop_full f 0 false (r.drop (505-p)) (a+7+(505-p)) (acc++r.take (505-p)) rest fu (by rw[length_drop];omega) (by omega) (by decide) (λ_=>by rw[length_drop];omega) (by rw[length_drop];omega)
   have e1:(pieceB (if first then 2 else 3) (r.take (505-p))++(piecesB f 0 false (r.drop (505-p))++rest)).drop (7+(505-p))=piecesB f 0 false (r.drop (505-p))++rest:=List.drop_left' (by rw[pieceB_len,hlt];omega)
   have e2:acc++r.take (505-p)++r.drop (505-p)=acc++r:=by rw[List.append_assoc,List.take_append_drop]
   rw[e2] at ih
   have e3:a+(pieceB (if first then 2 else 3) (r.take (505-p))++piecesB f 0 false (r.drop (505-p))).length=a+7+(505-p)+(piecesB f 0 false (r.drop (505-p))).length:=by rw[length_append,pieceB_len,hlt];omega
   rw[e3,<- ih]
   cases first with
   |true=>
    dsimp only
    rw[if_pos (by decide),if_neg (by omega),if_neg (by rw[hlt];omega),hlt]
    exact congrArg _ e1
   |false=>
    dsimp only
    rw[if_pos (by decide),if_neg (by omega),if_neg (by rw[hlt];omega),hlt]
    exact congrArg _ e1
theorem loop_cut:∀ (f p:Nat) (first:Bool) (r:List Int) (a:Nat) (acc:List Int) (m fu:Nat),r.length<f->a % 512=p->p<=504->m<(piecesB f p first r).length->recLoop fu a (!first) acc ((piecesB f p first r).take m)=none
 |0,_,_,_,_,_,_,_,h,_,_,_=>by omega
 |f+1,p,first,r,a,acc,m,0,_,_,_,_=>rfl
 |f+1,p,first,r,a,acc,m,fu+1,h1,h2,h3,h4=>by
  by_cases hr:r.length<=505-p
  ·rw[piecesB_one hr] at h4 ⊢
   rw[pieceB_len] at h4
   unfold recLoop
   rw[piece_cut (by omega) h4]
  ·have hlt:(r.take (505-p)).length=505-p:=by rw[length_take];omega
   rw[piecesB_more (by omega)] at h4 ⊢
   rw[length_append,pieceB_len,hlt] at h4
   by_cases hm:m<(505-p)+7
   ·rw[List.take_append_of_le_length (by rw[pieceB_len,hlt];omega)]
    unfold recLoop
    rw[piece_cut (by rw[hlt];omega) (by rw[hlt];exact hm)]
   ·have hpl:(pieceB (if first then 2 else 3) (r.take (505-p))).length=505-p+7:=by rw[pieceB_len,hlt]
    have e0:(pieceB (if first then 2 else 3) (r.take (505-p))++piecesB f 0 false (r.drop (505-p))).take m=pieceB (if first then 2 else 3) (r.take (505-p))++(piecesB f 0 false (r.drop (505-p))).take (m-(505-p+7)):=by
     rw[List.take_append,hpl,take_of_length_le (by omega)]
    rw[e0]
    unfold recLoop
    rw[piece_full (by cases first<;>decide) (by rw[hlt];omega)]
    have ih:=loop_cut f 0 false (r.drop (505-p)) (a+7+(505-p)) (acc++r.take (505-p)) (m-(505-p+7)) fu (by rw[length_drop];omega) (by omega) (by decide) (by omega)
    have e1:(pieceB (if first then 2 else 3) (r.take (505-p))++(piecesB f 0 false (r.drop (505-p))).take (m-(505-p+7))).drop (7+(505-p))=(piecesB f 0 false (r.drop (505-p))).take (m-(505-p+7)):=List.drop_left' (by rw[hpl];omega)
    rw[<- ih]
    cases first with
    |true=>
     dsimp only
     rw[if_pos (by decide),if_neg (by omega),if_neg (by rw[hlt];omega),hlt]
     exact congrArg _ e1
    |false=>
     dsimp only
     rw[if_pos (by decide),if_neg (by omega),if_neg (by rw[hlt];omega),hlt]
     exact congrArg _ e1
theorem piecesB_pos(f p:Nat)(b:Bool)(r:List Int):7<=(piecesB (f+1) p b r).length:=by
 by_cases hr:r.length<=505-p
 ·rw[piecesB_one hr,pieceB_len];omega
 ·rw[piecesB_more (by omega),length_append,pieceB_len];omega
theorem appB_pos(a:Nat)(r:List Int):7<=(appB a r).length:=by
 unfold appB
 split
 ·rw[length_append]
  have:=piecesB_pos r.length 0 true r
  omega
 ·exact piecesB_pos r.length _ true r
theorem pieces_ge:∀ (f p:Nat) (b:Bool) (r:List Int),r.length<f->p<=504->r.length<=(piecesB f p b r).length
 |0,_,_,_,h,_=>by omega
 |f+1,p,b,r,h,hp=>by
  by_cases hr:r.length<=505-p
  ·rw[piecesB_one hr,pieceB_len];omega
  ·have hlt:(r.take (505-p)).length=505-p:=by rw[length_take];omega
   rw[piecesB_more (by omega),length_append,pieceB_len,hlt]
   have:=pieces_ge f 0 false (r.drop (505-p)) (by rw[length_drop];omega) (by decide)
   rw[length_drop] at this
   omega
theorem rec_full(a:Nat)(r rest:List Int):recAt a (appB a r++rest)=some (r,a+(appB a r).length):=by
 unfold recAt appB
 by_cases h:512-a % 512<=7
 ·rw[if_pos h,if_pos h]
  generalize hz:512-a % 512=z at h
  have hp:=piecesB_pos r.length 0 true r
  have e1:((List.replicate z (0:Int)++piecesB (r.length+1) 0 true r)++rest).take z=List.replicate z 0:=by rw[List.append_assoc];exact List.take_left' (length_replicate ..)
  have e2:((List.replicate z (0:Int)++piecesB (r.length+1) 0 true r)++rest).drop z=piecesB (r.length+1) 0 true r++rest:=by rw[List.append_assoc];exact List.drop_left' (length_replicate ..)
  have hlen:((List.replicate z (0:Int)++piecesB (r.length+1) 0 true r)++rest).length=z+(piecesB (r.length+1) 0 true r).length+rest.length:=by simp only[length_append,length_replicate]
  have hge:r.length<=(piecesB (r.length+1) 0 true r).length:=pieces_ge (r.length+1) 0 true r (Nat.lt_succ_self _) (by decide)
  rw[if_neg (by omega),e1,if_pos (by simp),e2]
  have:=loop_full (r.length+1) 0 true r (a+z) [] rest (((List.replicate z (0:Int)++piecesB (r.length+1) 0 true r)++rest).length+1) (Nat.lt_succ_self _) (by omega) (by decide) (λh=>by cases h) (by omega)
  rw[Bool.not_true,List.nil_append] at this
  rw[this,length_append,length_replicate,Nat.add_assoc]
 ·rw[if_neg h,if_neg h]
  have hge:r.length<=(piecesB (r.length+1) (a % 512) true r).length:=pieces_ge (r.length+1) (a % 512) true r (Nat.lt_succ_self _) (by omega)
  have:=loop_full (r.length+1) (a % 512) true r a [] rest ((piecesB (r.length+1) (a % 512) true r++rest).length+1) (Nat.lt_succ_self _) rfl (by omega) (λh=>by cases h) (by rw[length_append];omega)
  rw[Bool.not_true,List.nil_append] at this
  exact this
theorem rec_cut{a m:Nat}{r:List Int}(hm:m<(appB a r).length):recAt a ((appB a r).take m)=none:=by
 unfold recAt appB at *
 by_cases h:512-a % 512<=7
 ·rw[if_pos h] at hm ⊢
  rw[if_pos h]
  generalize hz:512-a % 512=z at h hm
  by_cases h1:m<z
  ·rw[if_pos (by rw[length_take];omega)]
  ·have e0:(List.replicate z (0:Int)++piecesB (r.length+1) 0 true r).take m=List.replicate z 0++(piecesB (r.length+1) 0 true r).take (m-z):=by
    rw[List.take_append,length_replicate,take_of_length_le (by rw[length_replicate];omega)]
   rw[length_append,length_replicate] at hm
   rw[e0,if_neg (by simp),List.take_left' (length_replicate ..),if_pos (by simp),List.drop_left' (length_replicate ..)]
   exact loop_cut (r.length+1) 0 true r (a+z) [] (m-z) _ (Nat.lt_succ_self _) (by omega) (by decide) (by omega)
 ·rw[if_neg h] at hm ⊢
  rw[if_neg h]
  exact loop_cut (r.length+1) (a % 512) true r a [] m _ (Nat.lt_succ_self _) rfl (by omega) hm
def layL:Nat->List (List Int)->List Int
 |_,[]=>[]
 |a,r::rs=>appB a r++layL (a+(appB a r).length) rs
theorem bytesF_lay:∀ (rs:List (List Int)) (a:Nat) (o:List Int),bytesF a o rs=o++layL (a+o.length) rs
 |[],a,o=>by simp[bytesF,layL]
 |r::rs,a,o=>by
  rw[bytesF_cons,bytesF_lay rs,layL,List.append_assoc,length_append,Nat.add_assoc]
theorem layL_app:∀ (rs qs:List (List Int)) (a:Nat),layL a (rs++qs)=layL a rs++layL (a+(layL a rs).length) qs
 |[],qs,a=>by simp[layL]
 |r::rs,qs,a=>by
  rw[List.cons_append,layL,layL,layL_app rs,List.append_assoc,length_append,Nat.add_assoc]
def endAt(a:Nat)(rs:List (List Int))(w:Nat):Nat:=(layL a (rs.take w)).length
theorem endAt_zero(a:Nat)(rs:List (List Int)):endAt a rs 0=0:=rfl
theorem endAt_cons(a w:Nat)(r:List Int)(rs:List (List Int)):endAt a (r::rs) (w+1)=(appB a r).length+endAt (a+(appB a r).length) rs w:=by
 unfold endAt
 rw[List.take_succ_cons,layL,length_append]
theorem readL_cut:∀ (rs:List (List Int)) (a n w fu:Nat),w<=rs.length->endAt a rs w<=n->(w=rs.length\/n<endAt a rs (w+1))->n<=(layL a rs).length->w<fu->readL fu a ((layL a rs).take n)=rs.take w
 |_,_,_,_,0,_,_,_,_,h=>by omega
 |[],a,n,w,fu+1,h1,h2,h3,h4,h5=>by
  have:(layL a []).take n=[]:=by simp[layL]
  rw[this,List.take_nil]
  unfold readL;rw[if_pos rfl]
 |r::rs,a,n,w,fu+1,h1,h2,h3,h4,h5=>by
  have hp:=appB_pos a r
  by_cases hn:n<(appB a r).length
  ·have hw:w=0:=by
    rcases w with _|w
    ·rfl
    ·rw[endAt_cons] at h2;omega
   subst hw
   have e:(layL a (r::rs)).take n=(appB a r).take n:=by rw[layL];exact List.take_append_of_le_length (by omega)
   rw[e,List.take_zero]
   unfold readL
   by_cases h0:(appB a r).take n=[]
   ·rw[if_pos h0]
   ·rw[if_neg h0,rec_cut hn]
  ·have e:(layL a (r::rs)).take n=appB a r++(layL (a+(appB a r).length) rs).take (n-(appB a r).length):=by rw[layL,List.take_append,take_of_length_le (by omega)]
   obtain⟨w,rfl⟩:∃ v,w=v+1:=by
    rcases w with _|w
    ·rcases h3 with h3|h3
     ·simp at h3
     ·rw[endAt_cons,endAt_zero] at h3;omega
    ·exact⟨w,rfl⟩
   rw[endAt_cons] at h2
   rw[layL,length_append] at h4
   rw[length_cons] at h1 h3
   rw[e,List.take_succ_cons]
   unfold readL
   rw[if_neg (λh0=>by have:=congrArg List.length h0;rw[length_append,length_nil] at this;omega),rec_full]
   dsimp only
   rw[Nat.add_sub_cancel_left,List.drop_left' rfl,readL_cut rs _ _ w fu (by omega) (by omega) (h3.imp (by omega) λh=>by rw[endAt_cons] at h;omega) (by omega) (by omega)]
theorem endAt_ge:∀ (rs:List (List Int)) (a w:Nat),w<=rs.length->w<=endAt a rs w
 |_,_,0,_=>Nat.zero_le _
 |[],a,w+1,h=>by simp at h
 |r::rs,a,w+1,h=>by
  rw[endAt_cons]
  have:=appB_pos a r
  have:=endAt_ge rs (a+(appB a r).length) w (by simpa using h)
  omega
end Go.Eng.YtblghgacokoklaaDoor
end
section
namespace Go.Eng.YtblghgacokoklaaDoor
theorem endAt_mono(a:Nat)(rs:List (List Int)){i j:Nat}(h:i<=j):endAt a rs i<=endAt a rs j:=by
 unfold endAt
 have e:rs.take i=(rs.take j).take i:=by rw[List.take_take,Nat.min_eq_left h]
 rw[e]
 conv=>rhs;rw[<- List.take_append_drop i (rs.take j),layL_app,length_append]
 omega
theorem cut_ex(a:Nat)(rs:List (List Int))(n:Nat):∀ m,m<=rs.length->∃ w,w<=m/\endAt a rs w<=n/\(w=m\/n<endAt a rs (w+1))
 |0,_=>⟨0,Nat.le_refl _,by rw[endAt_zero];exact Nat.zero_le _,.inl rfl⟩
 |m+1,h=>by
  obtain⟨w,h1,h2,h3⟩:=cut_ex a rs n m (by omega)
  rcases h3 with rfl|h3
  ·rcases Nat.lt_or_ge n (endAt a rs (w+1)) with h4|h4
   ·exact⟨w,by omega,h2,.inr h4⟩
   ·exact⟨w+1,Nat.le_refl _,h4,.inl rfl⟩
  ·exact⟨w,by omega,h2,.inr h3⟩
def edEnd(E:List Edit)(v:Nat):Nat:=endAt 0 (E.flatMap putS) (at' E v)
theorem edEnd_zero(E:List Edit):edEnd E 0=0:=rfl
theorem edEnd_mono(E:List Edit){i j:Nat}(h:i<=j):edEnd E i<=edEnd E j:=endAt_mono _ _ (at_mono E h)
def bytesE(E:List Edit):List Int:=layL 0 (E.flatMap putS)
theorem bytesE_snoc(E:List Edit)(e:Edit):bytesE (E++[e])=bytesE E++layL (bytesE E).length (putS e):=by
 unfold bytesE
 rw[List.flatMap_append,layL_app,Nat.zero_add]
 simp
theorem edEnd_take(E:List Edit){v:Nat}(h:v<=E.length):edEnd E v=(bytesE (E.take v)).length:=by
 have e:E.flatMap putS=(E.take v).flatMap putS++(E.drop v).flatMap putS:=by rw[<- List.flatMap_append,List.take_append_drop]
 unfold edEnd endAt bytesE at'
 rw[e,List.take_left' rfl]
theorem get_cut{E:List Edit}(hE:∀ e∈E,Good e){n v fu:Nat}(hn:n<=(bytesE E).length)(hv:v<=E.length)(h1:edEnd E v<=n)(h2:v=E.length\/n<edEnd E (v+1))(hf:n<fu):∃ w,w<=(E.flatMap putS).length/\readL fu 0 ((bytesE E).take n)=(E.flatMap putS).take w/\getR (readL fu 0 ((bytesE E).take n)) [] zE []=some (E.take v):=by
 obtain⟨w,w1,w2,w3⟩:=cut_ex 0 (E.flatMap putS) n _ (Nat.le_refl _)
 have er:=readL_cut (E.flatMap putS) 0 n w fu w1 w2 w3 hn (by have:=endAt_ge (E.flatMap putS) 0 w w1;omega)
 refine⟨w,w1,er,?_⟩
 have e2:readL fu 0 ((bytesE E).take n)=(E.flatMap putS).take w:=er
 rw[e2]
 refine getR_first hE w1 hv ?_ ?_
 ·show at' E v<=w
  rcases w3 with rfl|w3
  ·have:=at_mono E hv
   have e3:at' E E.length=(E.flatMap putS).length:=by unfold at';rw[List.take_length]
   omega
  ·rcases Nat.lt_or_ge w (at' E v) with h|h
   ·have:=endAt_mono 0 (E.flatMap putS) (i:=w+1) (j:=at' E v) h
    unfold edEnd at h1;omega
   ·exact h
 ·rcases h2 with h2|h2
  ·exact .inl h2
  ·by_cases hvl:v=E.length
   ·exact .inl hvl
   ·have hi:v<E.length:=by omega
    refine .inr ⟨hi,?_⟩
    have:=at_succ hi
    show w<at' E v+_
    rw[<- this]
    rcases Nat.lt_or_ge w (at' E (v+1)) with h|h
    ·exact h
    ·have:=endAt_mono 0 (E.flatMap putS) h
     unfold edEnd at h2;omega
end Go.Eng.YtblghgacokoklaaDoor
end
section
open Go.Proofs
namespace Go.Eng.YtblghgacokoklaaDoor
@[reducible] def bytes8:ByteArray:=ByteArray.mk (List.toArray [0,1,2,2,3,3,3,3,4,4,4,4,4,4,4,4,5,5,5,5,5,5,5,5,5,5,5,5,5,5,5,5,6,6,6,6,6,6,6,6,6,6,6,6,6,6,6,6,6,6,6,6,6,6,6,6,6,6,6,6,6,6,6,6,7,7,7,7,7,7,7,7,7,7,7,7,7,7,7,7,7,7,7,7,7,7,7,7,7,7,7,7,7,7,7,7,7,7,7,7,7,7,7,7,7,7,7,7,7,7,7,7,7,7,7,7,7,7,7,7,7,7,7,7,7,7,7,7,8,8,8,8,8,8,8,8,8,8,8,8,8,8,8,8,8,8,8,8,8,8,8,8,8,8,8,8,8,8,8,8,8,8,8,8,8,8,8,8,8,8,8,8,8,8,8,8,8,8,8,8,8,8,8,8,8,8,8,8,8,8,8,8,8,8,8,8,8,8,8,8,8,8,8,8,8,8,8,8,8,8,8,8,8,8,8,8,8,8,8,8,8,8,8,8,8,8,8,8,8,8,8,8,8,8,8,8,8,8,8,8,8,8,8,8,8,8,8,8,8,8,8,8,8,8,8,8])
def F155.T(n:Int):PT:=λh Q=>
 par (n=n) (Q (.bool false) h) (Q (.bool true) h)
theorem F155.den(V n):denF Tryd.prog [] [] V [] Tryd.f155 [.v (.int .u64 n)]=F155.T n:=by kernel_rfl
def F155.W(T155:Int->PT)(args:List Value):PT:=match args with
 |[.int .u64 n]=>T155 n
 |_=>λ_ _=>False
def F155.V:List Value->PT:=F155.W F155.T
theorem F155.ok:FOk Tryd.prog 155 F155.V:=by
 refine⟨⟨_,Tryd.func155,rfl,rfl⟩,λ_=>?_⟩;unfold F155.V F155.W;split;exact denF_okE (GOk.nil) noV_ok Tryd.func155 (F155.den noV _);exact λ_ _ h=>h.elim
@[reducible] def F144.G(T155:Int->PT)(n n1:Int):PT:=λh Q=>
 T155 n h λr h1=>retB r (T155 n1 h1 λr1 h2=>retB r1 (par (n<n1) (Q (.bool true) h2) (Q (.bool false) h2)) (Q (.bool true) h2)) (par (n<n1) (Q (.bool true) h1) (Q (.bool false) h1))
def F144.T:=F144.G F155.T
theorem F144.gen(V T155 n n1):denF Tryd.prog [] [(155,F155.W T155)] V [] Tryd.f144 [.v (.int .u64 n),.v (.int .u64 n1)]=F144.G T155 n n1:=by kernel_rfl
def F144.W(T144:Int->Int->PT)(args:List Value):PT:=match args with
 |[.int .u64 n,.int .u64 n1]=>T144 n n1
 |_=>λ_ _=>False
def F144.V:List Value->PT:=F144.W F144.T
theorem F144.ok:FOk Tryd.prog 144 F144.V:=by
 refine⟨⟨_,Tryd.func144,rfl,rfl⟩,λ_=>?_⟩;unfold F144.V F144.W;split;exact denF_okE (GOk.cons F155.ok (GOk.nil)) noV_ok Tryd.func144 (F144.gen noV F155.T _ _);exact λ_ _ h=>h.elim
@[reducible] def F138.G(T144:Int->Int->PT)(l:Sl)(n n1:Int):PT:=λh Q=>
 ∃ (I:Int->Hp->Prop) (m:Int->Hp->Nat),I (wrap .i64 (n+1)) h/\(∀ n2:Int,∀ h1:Hp,I n2 h1->par (n2<n1) (∃ (I1:Int->Hp->Prop) (m1:Int->Hp->Nat),I1 n2 h1/\(∀ n3:Int,∀ h2:Hp,I1 n3 h2->par (n<n3) (ix l.a n3 l.n λb o=>ldI .u64 h2 b (o+n3.toNat) λn4=>ix l.a (wrap .i64 (n3-1)) l.n λb1 o1=>ldI .u64 h2 b1 (o1+((wrap .i64 (n3-1))).toNat) λn5=>T144 n4 n5 h2 λr h3=>retB r (ix l.a (wrap .i64 (n3-1)) l.n λb2 o2=>ldI .u64 h3 b2 (o2+((wrap .i64 (n3-1))).toNat) λn6=>ix l.a n3 l.n λb3 o3=>ldI .u64 h3 b3 (o3+n3.toNat) λn7=>ix l.a n3 l.n λb4 o4=>st h3 b4 (o4+n3.toNat) 1 [.int .u64 n6] λh4=>ix l.a (wrap .i64 (n3-1)) l.n λb5 o5=>st h4 b5 (o5+((wrap .i64 (n3-1))).toNat) 1 [.int .u64 n7] λh5=>I1 (wrap .i64 (n3-1)) h5/\m1 (wrap .i64 (n3-1)) h5<m1 n3 h2) (I (wrap .i64 (n2+1)) h3/\m (wrap .i64 (n2+1)) h3<m n2 h1)) (I (wrap .i64 (n2+1)) h2/\m (wrap .i64 (n2+1)) h2<m n2 h1))) (Q (.tuple ⟨[]⟩) h1))
def F138.T:=F138.G F144.T
theorem F138.gen(V T144 l n n1):denF Tryd.prog [] [(144,F144.W T144)] V [(6,.loop [(6,.int .i64)] []),(402,.loop [(7,.int .i64)] []),(3216,.order [0,1,2,3,4,5,6,7,8,9,10,11,12,13,14]),(6436,.order [0,1,2,3,4,5,6,7,8,9,10,11,12,13,14,15,16,17])] Tryd.f138 [.v (.slice l.a l.n l.c),.v (.int .i64 n),.v (.int .i64 n1)]=F138.G T144 l n n1:=by kernel_rfl
def F138.W(T138:Sl->Int->Int->PT)(args:List Value):PT:=match args with
 |[.slice l_a l_n l_c,.int .i64 n,.int .i64 n1]=>T138 ⟨l_a,l_n,l_c⟩ n n1
 |_=>λ_ _=>False
def F138.V:List Value->PT:=F138.W F138.T
theorem F138.ok:FOk Tryd.prog 138 F138.V:=by
 refine⟨⟨_,Tryd.func138,rfl,rfl⟩,λ_=>?_⟩;unfold F138.V F138.W;split;exact denF_okE (GOk.cons F144.ok (GOk.nil)) noV_ok Tryd.func138 (F138.gen noV F144.T ⟨_,_,_⟩ _ _);exact λ_ _ h=>h.elim
@[reducible] def F150.G(T144:Int->Int->PT)(l:Sl)(n n1 n2:Int):PT:=λh Q=>
 ∃ (I:Int->Hp->Prop) (m:Int->Hp->Nat),I n h/\(∀ n3:Int,∀ h1:Hp,I n3 h1->par (n1<=(wrap .i64 ((wrap .i64 (2*n3))+1))) (Q (.tuple ⟨[]⟩) h1) (∃ J:Int->Hp->Prop,(∀ n4:Int,∀ h2:Hp,J n4 h2->ix l.a (wrap .i64 (n2+n3)) l.n λb o=>ldI .u64 h2 b (o+((wrap .i64 (n2+n3))).toNat) λn5=>ix l.a (wrap .i64 (n2+n4)) l.n λb1 o1=>ldI .u64 h2 b1 (o1+((wrap .i64 (n2+n4))).toNat) λn6=>T144 n5 n6 h2 λr h3=>retB r (ix l.a (wrap .i64 (n2+n4)) l.n λb2 o2=>ldI .u64 h3 b2 (o2+((wrap .i64 (n2+n4))).toNat) λn7=>ix l.a (wrap .i64 (n2+n3)) l.n λb3 o3=>ldI .u64 h3 b3 (o3+((wrap .i64 (n2+n3))).toNat) λn8=>ix l.a (wrap .i64 (n2+n3)) l.n λb4 o4=>st h3 b4 (o4+((wrap .i64 (n2+n3))).toNat) 1 [.int .u64 n7] λh4=>ix l.a (wrap .i64 (n2+n4)) l.n λb5 o5=>st h4 b5 (o5+((wrap .i64 (n2+n4))).toNat) 1 [.int .u64 n8] λh5=>I n4 h5/\m n4 h5<m n3 h1) (Q (.tuple ⟨[]⟩) h3))/\(par ((wrap .i64 ((wrap .i64 ((wrap .i64 (2*n3))+1))+1))<n1) (ix l.a (wrap .i64 (n2+(wrap .i64 ((wrap .i64 (2*n3))+1)))) l.n λb6 o6=>ldI .u64 h1 b6 (o6+((wrap .i64 (n2+(wrap .i64 ((wrap .i64 (2*n3))+1))))).toNat) λn9=>ix l.a (wrap .i64 ((wrap .i64 (n2+(wrap .i64 ((wrap .i64 (2*n3))+1))))+1)) l.n λb7 o7=>ldI .u64 h1 b7 (o7+((wrap .i64 ((wrap .i64 (n2+(wrap .i64 ((wrap .i64 (2*n3))+1))))+1))).toNat) λn10=>T144 n9 n10 h1 λr1 h6=>retB r1 (J (wrap .i64 ((wrap .i64 ((wrap .i64 (2*n3))+1))+1)) h6) (J (wrap .i64 ((wrap .i64 (2*n3))+1)) h6)) (J (wrap .i64 ((wrap .i64 (2*n3))+1)) h1))))
def F150.T:=F150.G F144.T
theorem F150.gen(V T144 l n n1 n2):denF Tryd.prog [] [(144,F144.W T144)] V [(6,.loop [(8,.int .i64)] []),(99,.join [(9,.int .i64)] []),(396,.order [0,1,2,3,4,5,6,7,8,9,10,11,12,13,14,15,16,17,18,19]),(796,.order [0,1,2,3,4,5,6,7,8,9,10,11,12,13]),(798,.order [0,1,2,3,4,5,6,7,8,9,10,11,12,13,14,15,16,17,18,19,20,21,22,23])] Tryd.f150 [.v (.slice l.a l.n l.c),.v (.int .i64 n),.v (.int .i64 n1),.v (.int .i64 n2)]=F150.G T144 l n n1 n2:=by kernel_rfl
def F150.W(T150:Sl->Int->Int->Int->PT)(args:List Value):PT:=match args with
 |[.slice l_a l_n l_c,.int .i64 n,.int .i64 n1,.int .i64 n2]=>T150 ⟨l_a,l_n,l_c⟩ n n1 n2
 |_=>λ_ _=>False
def F150.V:List Value->PT:=F150.W F150.T
theorem F150.ok:FOk Tryd.prog 150 F150.V:=by
 refine⟨⟨_,Tryd.func150,rfl,rfl⟩,λ_=>?_⟩;unfold F150.V F150.W;split;exact denF_okE (GOk.cons F144.ok (GOk.nil)) noV_ok Tryd.func150 (F150.gen noV F144.T ⟨_,_,_⟩ _ _ _);exact λ_ _ h=>h.elim
@[reducible] def F139.G(T150:Sl->Int->Int->Int->PT)(l:Sl)(n n1:Int):PT:=λh Q=>
 (2:Int)≠0/\∃ (I:Int->Hp->Prop) (m:Int->Hp->Nat),I (wrap .i64 (Int.tdiv (wrap .i64 ((wrap .i64 (n1-n))-1)) 2)) h/\(∀ n2:Int,∀ h1:Hp,I n2 h1->par ((0:Int)<=n2) (T150 l n2 (wrap .i64 (n1-n)) n h1 λr h2=>I (wrap .i64 (n2-1)) h2/\m (wrap .i64 (n2-1)) h2<m n2 h1) (∃ (I1:Int->Hp->Prop) (m1:Int->Hp->Nat),I1 (wrap .i64 ((wrap .i64 (n1-n))-1)) h1/\(∀ n3:Int,∀ h3:Hp,I1 n3 h3->par ((0:Int)<=n3) (ix l.a (wrap .i64 (n+n3)) l.n λb o=>ldI .u64 h3 b (o+((wrap .i64 (n+n3))).toNat) λn4=>ix l.a n l.n λb1 o1=>ldI .u64 h3 b1 (o1+n.toNat) λn5=>ix l.a n l.n λb2 o2=>st h3 b2 (o2+n.toNat) 1 [.int .u64 n4] λh4=>ix l.a (wrap .i64 (n+n3)) l.n λb3 o3=>st h4 b3 (o3+((wrap .i64 (n+n3))).toNat) 1 [.int .u64 n5] λh5=>T150 l 0 n3 n h5 λr1 h6=>I1 (wrap .i64 (n3-1)) h6/\m1 (wrap .i64 (n3-1)) h6<m1 n3 h3) (Q (.tuple ⟨[]⟩) h3))))
def F139.T:=F139.G F150.T
theorem F139.gen(V T150 l n n1):denF Tryd.prog [] [(150,F150.W T150)] V [(122,.loop [(9,.int .i64)] []),(126,.loop [(10,.int .i64)] []),(4040,.order [0,1,2,3,4,5,6,7,8,9,10,11,12,13,14,15,16,17,18,19])] Tryd.f139 [.v (.slice l.a l.n l.c),.v (.int .i64 n),.v (.int .i64 n1)]=F139.G T150 l n n1:=by kernel_rfl
def F139.W(T139:Sl->Int->Int->PT)(args:List Value):PT:=match args with
 |[.slice l_a l_n l_c,.int .i64 n,.int .i64 n1]=>T139 ⟨l_a,l_n,l_c⟩ n n1
 |_=>λ_ _=>False
def F139.V:List Value->PT:=F139.W F139.T
theorem F139.ok:FOk Tryd.prog 139 F139.V:=by
 refine⟨⟨_,Tryd.func139,rfl,rfl⟩,λ_=>?_⟩;unfold F139.V F139.W;split;exact denF_okE (GOk.cons F150.ok (GOk.nil)) noV_ok Tryd.func139 (F139.gen noV F150.T ⟨_,_,_⟩ _ _);exact λ_ _ h=>h.elim
def F148.T(n:Int):PT:=λh Q=>
 par ((4294967296:Int)<=n) ((0:Int)<=32/\par ((65536:Int)<=(shrI .u64 n 32)) ((0:Int)<=16/\par ((256:Int)<=(shrI .u64 (shrI .u64 n 32) 16)) ((0:Int)<=8/\((0:Int)<=(wrap .u8 (shrI .u64 (shrI .u64 (shrI .u64 n 32) 16) 8))/\(wrap .u8 (shrI .u64 (shrI .u64 (shrI .u64 n 32) 16) 8))<(bytes8.size:Int))/\Q (.int .i64 (wrap .i64 ((wrap .i64 ((wrap .i64 (32+16))+8))+(wrap .i64 (bt bytes8 (wrap .u8 (shrI .u64 (shrI .u64 (shrI .u64 n 32) 16) 8))))))) h) (((0:Int)<=(wrap .u8 (shrI .u64 (shrI .u64 n 32) 16))/\(wrap .u8 (shrI .u64 (shrI .u64 n 32) 16))<(bytes8.size:Int))/\Q (.int .i64 (wrap .i64 ((wrap .i64 (32+16))+(wrap .i64 (bt bytes8 (wrap .u8 (shrI .u64 (shrI .u64 n 32) 16))))))) h)) (par ((256:Int)<=(shrI .u64 n 32)) ((0:Int)<=8/\((0:Int)<=(wrap .u8 (shrI .u64 (shrI .u64 n 32) 8))/\(wrap .u8 (shrI .u64 (shrI .u64 n 32) 8))<(bytes8.size:Int))/\Q (.int .i64 (wrap .i64 ((wrap .i64 (32+8))+(wrap .i64 (bt bytes8 (wrap .u8 (shrI .u64 (shrI .u64 n 32) 8))))))) h) (((0:Int)<=(wrap .u8 (shrI .u64 n 32))/\(wrap .u8 (shrI .u64 n 32))<(bytes8.size:Int))/\Q (.int .i64 (wrap .i64 (32+(wrap .i64 (bt bytes8 (wrap .u8 (shrI .u64 n 32))))))) h))) (par ((65536:Int)<=n) ((0:Int)<=16/\par ((256:Int)<=(shrI .u64 n 16)) ((0:Int)<=8/\((0:Int)<=(wrap .u8 (shrI .u64 (shrI .u64 n 16) 8))/\(wrap .u8 (shrI .u64 (shrI .u64 n 16) 8))<(bytes8.size:Int))/\Q (.int .i64 (wrap .i64 ((wrap .i64 ((wrap .i64 (0+16))+8))+(wrap .i64 (bt bytes8 (wrap .u8 (shrI .u64 (shrI .u64 n 16) 8))))))) h) (((0:Int)<=(wrap .u8 (shrI .u64 n 16))/\(wrap .u8 (shrI .u64 n 16))<(bytes8.size:Int))/\Q (.int .i64 (wrap .i64 ((wrap .i64 (0+16))+(wrap .i64 (bt bytes8 (wrap .u8 (shrI .u64 n 16))))))) h)) (par ((256:Int)<=n) ((0:Int)<=8/\((0:Int)<=(wrap .u8 (shrI .u64 n 8))/\(wrap .u8 (shrI .u64 n 8))<(bytes8.size:Int))/\Q (.int .i64 (wrap .i64 ((wrap .i64 (0+8))+(wrap .i64 (bt bytes8 (wrap .u8 (shrI .u64 n 8))))))) h) (((0:Int)<=(wrap .u8 n)/\(wrap .u8 n)<(bytes8.size:Int))/\Q (.int .i64 (wrap .i64 (0+(wrap .i64 (bt bytes8 (wrap .u8 n)))))) h)))
theorem F148.den(V n):denF Tryd.prog [] [] V [] Tryd.f148 [.v (.int .u64 n)]=F148.T n:=by kernel_rfl
def F148.W(T148:Int->PT)(args:List Value):PT:=match args with
 |[.int .u64 n]=>T148 n
 |_=>λ_ _=>False
def F148.V:List Value->PT:=F148.W F148.T
theorem F148.ok:FOk Tryd.prog 148 F148.V:=by
 refine⟨⟨_,Tryd.func148,rfl,rfl⟩,λ_=>?_⟩;unfold F148.V F148.W;split;exact denF_okE (GOk.nil) noV_ok Tryd.func148 (F148.den noV _);exact λ_ _ h=>h.elim
@[reducible] def F131.G(T148:Int->PT)(n:Int):PT:=λh Q=>
 T148 n h λr h1=>retI .i64 r λn1=>Q (.int .i64 n1) h1
def F131.T:=F131.G F148.T
theorem F131.gen(V T148 n):denF Tryd.prog [] [(148,F148.W T148)] V [] Tryd.f131 [.v (.int .u64 n)]=F131.G T148 n:=by kernel_rfl
def F131.W(T131:Int->PT)(args:List Value):PT:=match args with
 |[.int .u64 n]=>T131 n
 |_=>λ_ _=>False
def F131.V:List Value->PT:=F131.W F131.T
theorem F131.ok:FOk Tryd.prog 131 F131.V:=by
 refine⟨⟨_,Tryd.func131,rfl,rfl⟩,λ_=>?_⟩;unfold F131.V F131.W;split;exact denF_okE (GOk.cons F148.ok (GOk.nil)) noV_ok Tryd.func131 (F131.gen noV F148.T _);exact λ_ _ h=>h.elim
@[reducible] def F151.G(T131:Int->PT)(n:Int):PT:=λh Q=>
 T131 (wrap .u64 n) h λr h1=>retI .i64 r λn1=>(0:Int)<=n1/\Q (.int .u64 (shlI .u64 1 n1)) h1
def F151.T:=F151.G F131.T
theorem F151.gen(V T131 n):denF Tryd.prog [] [(131,F131.W T131)] V [] Tryd.f151 [.v (.int .i64 n)]=F151.G T131 n:=by kernel_rfl
def F151.W(T151:Int->PT)(args:List Value):PT:=match args with
 |[.int .i64 n]=>T151 n
 |_=>λ_ _=>False
def F151.V:List Value->PT:=F151.W F151.T
theorem F151.ok:FOk Tryd.prog 151 F151.V:=by
 refine⟨⟨_,Tryd.func151,rfl,rfl⟩,λ_=>?_⟩;unfold F151.V F151.W;split;exact denF_okE (GOk.cons F131.ok (GOk.nil)) noV_ok Tryd.func151 (F151.gen noV F131.T _);exact λ_ _ h=>h.elim
def F152.T(p:Option Addr):PT:=λh Q=>
 dr p λb o=>ldI .u64 h b o λn=>dr p λb1 o1=>ldI .u64 h b1 o1 λn1=>(0:Int)<=13/\dr p λb2 o2=>st h b2 o2 1 [.int .u64 (bitsI .xor .u64 n (shlI .u64 n1 13))] λh1=>dr p λb3 o3=>ldI .u64 h1 b3 o3 λn2=>dr p λb4 o4=>ldI .u64 h1 b4 o4 λn3=>(0:Int)<=7/\dr p λb5 o5=>st h1 b5 o5 1 [.int .u64 (bitsI .xor .u64 n2 (shrI .u64 n3 7))] λh2=>dr p λb6 o6=>ldI .u64 h2 b6 o6 λn4=>dr p λb7 o7=>ldI .u64 h2 b7 o7 λn5=>(0:Int)<=17/\dr p λb8 o8=>st h2 b8 o8 1 [.int .u64 (bitsI .xor .u64 n4 (shlI .u64 n5 17))] λh3=>dr p λb9 o9=>ldI .u64 h3 b9 o9 λn6=>Q (.int .u64 n6) h3
theorem F152.den(V p):denF Tryd.prog [] [] V [(6,.order [0,1,2,3,4,5,6,7,8,9]),(14,.order [0,1,2,3,4,5,6,7,8,9]),(30,.order [0,1,2,3,4,5,6,7,8,9])] Tryd.f152 [.v (.pointer p)]=F152.T p:=by kernel_rfl
def F152.W(T152:Option Addr->PT)(args:List Value):PT:=match args with
 |[.pointer p]=>T152 p
 |_=>λ_ _=>False
def F152.V:List Value->PT:=F152.W F152.T
theorem F152.ok:FOk Tryd.prog 152 F152.V:=by
 refine⟨⟨_,Tryd.func152,rfl,rfl⟩,λ_=>?_⟩;unfold F152.V F152.W;split;exact denF_okE (GOk.nil) noV_ok Tryd.func152 (F152.den noV _);exact λ_ _ h=>h.elim
@[reducible] def F140.G(T151:Int->PT)(T152:Option Addr->PT)(l:Sl)(n n1:Int):PT:=λh Q=>
 par ((8:Int)<=(wrap .i64 (n1-n))) (nw h (.cells ⟨[.int .u64 0]⟩ 214 (0,0)) λb h1=>st h1 b 0 1 [.int .u64 (wrap .u64 (wrap .i64 (n1-n)))] λh2=>T151 (wrap .i64 (n1-n)) h2 λr h3=>retI .u64 r λn2=>(4:Int)≠0/\∃ (I:Int->Hp->Prop) (m:Int->Hp->Nat),I (wrap .i64 ((wrap .i64 (n+(wrap .i64 ((wrap .i64 (Int.tdiv (wrap .i64 (n1-n)) 4))*2))))-1)) h3/\(∀ n3:Int,∀ h4:Hp,I n3 h4->(4:Int)≠0/\par (n3<=(wrap .i64 ((wrap .i64 (n+(wrap .i64 ((wrap .i64 (Int.tdiv (wrap .i64 (n1-n)) 4))*2))))+1))) (T152 (some ⟨b,0,none⟩) h4 λr1 h5=>retI .u64 r1 λn4=>par ((wrap .i64 (n1-n))<=(wrap .i64 (bitsI .and .u64 n4 (wrap .u64 (n2-1))))) (ix l.a (wrap .i64 (n+(wrap .i64 ((wrap .i64 (bitsI .and .u64 n4 (wrap .u64 (n2-1))))-(wrap .i64 (n1-n)))))) l.n λb1 o=>ldI .u64 h5 b1 (o+((wrap .i64 (n+(wrap .i64 ((wrap .i64 (bitsI .and .u64 n4 (wrap .u64 (n2-1))))-(wrap .i64 (n1-n))))))).toNat) λn5=>ix l.a n3 l.n λb2 o1=>ldI .u64 h5 b2 (o1+n3.toNat) λn6=>ix l.a n3 l.n λb3 o2=>st h5 b3 (o2+n3.toNat) 1 [.int .u64 n5] λh6=>ix l.a (wrap .i64 (n+(wrap .i64 ((wrap .i64 (bitsI .and .u64 n4 (wrap .u64 (n2-1))))-(wrap .i64 (n1-n)))))) l.n λb4 o3=>st h6 b4 (o3+((wrap .i64 (n+(wrap .i64 ((wrap .i64 (bitsI .and .u64 n4 (wrap .u64 (n2-1))))-(wrap .i64 (n1-n))))))).toNat) 1 [.int .u64 n6] λh7=>I (wrap .i64 (n3+1)) h7/\m (wrap .i64 (n3+1)) h7<m n3 h4) (ix l.a (wrap .i64 (n+(wrap .i64 (bitsI .and .u64 n4 (wrap .u64 (n2-1)))))) l.n λb5 o4=>ldI .u64 h5 b5 (o4+((wrap .i64 (n+(wrap .i64 (bitsI .and .u64 n4 (wrap .u64 (n2-1))))))).toNat) λn7=>ix l.a n3 l.n λb6 o5=>ldI .u64 h5 b6 (o5+n3.toNat) λn8=>ix l.a n3 l.n λb7 o6=>st h5 b7 (o6+n3.toNat) 1 [.int .u64 n7] λh8=>ix l.a (wrap .i64 (n+(wrap .i64 (bitsI .and .u64 n4 (wrap .u64 (n2-1)))))) l.n λb8 o7=>st h8 b8 (o7+((wrap .i64 (n+(wrap .i64 (bitsI .and .u64 n4 (wrap .u64 (n2-1))))))).toNat) 1 [.int .u64 n8] λh9=>I (wrap .i64 (n3+1)) h9/\m (wrap .i64 (n3+1)) h9<m n3 h4)) (Q (.tuple ⟨[]⟩) h4))) (Q (.tuple ⟨[]⟩) h)
def F140.T:=F140.G F151.T F152.T
theorem F140.gen(V T151 T152 l n n1):denF Tryd.prog [] [(151,F151.W T151),(152,F152.W T152)] V [(238,.loop [(9,.int .i64)] []),(15251,.order [0,1,2,3,4,5,6,7,8,9,10,11,12,13,14,15,16,17,18,19])] Tryd.f140 [.v (.slice l.a l.n l.c),.v (.int .i64 n),.v (.int .i64 n1)]=F140.G T151 T152 l n n1:=by kernel_rfl
def F140.W(T140:Sl->Int->Int->PT)(args:List Value):PT:=match args with
 |[.slice l_a l_n l_c,.int .i64 n,.int .i64 n1]=>T140 ⟨l_a,l_n,l_c⟩ n n1
 |_=>λ_ _=>False
def F140.V:List Value->PT:=F140.W F140.T
theorem F140.ok:FOk Tryd.prog 140 F140.V:=by
 refine⟨⟨_,Tryd.func140,rfl,rfl⟩,λ_=>?_⟩;unfold F140.V F140.W;split;exact denF_okE (GOk.cons F151.ok (GOk.cons F152.ok (GOk.nil))) noV_ok Tryd.func140 (F140.gen noV F151.T F152.T ⟨_,_,_⟩ _ _);exact λ_ _ h=>h.elim
@[reducible] def F157.G(T144:Int->Int->PT)(l:Sl)(n n1:Int)(p:Option Addr):PT:=λh Q=>
 ix l.a n1 l.n λb o=>ldI .u64 h b (o+n1.toNat) λn2=>ix l.a n l.n λb1 o1=>ldI .u64 h b1 (o1+n.toNat) λn3=>T144 n2 n3 h λr h1=>retB r (dr p λb2 o2=>ldI .i64 h1 b2 o2 λn4=>dr p λb3 o3=>st h1 b3 o3 1 [.int .i64 (wrap .i64 (n4+1))] λh2=>Q (.tuple ⟨[.int .i64 n1,.int .i64 n]⟩) h2) (Q (.tuple ⟨[.int .i64 n,.int .i64 n1]⟩) h1)
def F157.T:=F157.G F144.T
theorem F157.gen(V T144 l n n1 p):denF Tryd.prog [] [(144,F144.W T144)] V [(12,.order [0,1,2,3,4,5,6,7,8])] Tryd.f157 [.v (.slice l.a l.n l.c),.v (.int .i64 n),.v (.int .i64 n1),.v (.pointer p)]=F157.G T144 l n n1 p:=by kernel_rfl
def F157.W(T157:Sl->Int->Int->Option Addr->PT)(args:List Value):PT:=match args with
 |[.slice l_a l_n l_c,.int .i64 n,.int .i64 n1,.pointer p]=>T157 ⟨l_a,l_n,l_c⟩ n n1 p
 |_=>λ_ _=>False
def F157.V:List Value->PT:=F157.W F157.T
theorem F157.ok:FOk Tryd.prog 157 F157.V:=by
 refine⟨⟨_,Tryd.func157,rfl,rfl⟩,λ_=>?_⟩;unfold F157.V F157.W;split;exact denF_okE (GOk.cons F144.ok (GOk.nil)) noV_ok Tryd.func157 (F157.gen noV F144.T ⟨_,_,_⟩ _ _ _);exact λ_ _ h=>h.elim
@[reducible] def F154.G(T157:Sl->Int->Int->Option Addr->PT)(l:Sl)(n n1 n2:Int)(p:Option Addr):PT:=λh Q=>
 T157 l n n1 p h λr h1=>∃ n3 n4:Int,r=.tuple ⟨[.int .i64 n3,.int .i64 n4]⟩/\T157 l n4 n2 p h1 λr1 h2=>∃ n5 n6:Int,r1=.tuple ⟨[.int .i64 n5,.int .i64 n6]⟩/\T157 l n3 n5 p h2 λr2 h3=>∃ n7 n8:Int,r2=.tuple ⟨[.int .i64 n7,.int .i64 n8]⟩/\Q (.int .i64 n8) h3
def F154.T:=F154.G F157.T
theorem F154.gen(V T157 l n n1 n2 p):denF Tryd.prog [] [(157,F157.W T157)] V [] Tryd.f154 [.v (.slice l.a l.n l.c),.v (.int .i64 n),.v (.int .i64 n1),.v (.int .i64 n2),.v (.pointer p)]=F154.G T157 l n n1 n2 p:=by kernel_rfl
def F154.W(T154:Sl->Int->Int->Int->Option Addr->PT)(args:List Value):PT:=match args with
 |[.slice l_a l_n l_c,.int .i64 n,.int .i64 n1,.int .i64 n2,.pointer p]=>T154 ⟨l_a,l_n,l_c⟩ n n1 n2 p
 |_=>λ_ _=>False
def F154.V:List Value->PT:=F154.W F154.T
theorem F154.ok:FOk Tryd.prog 154 F154.V:=by
 refine⟨⟨_,Tryd.func154,rfl,rfl⟩,λ_=>?_⟩;unfold F154.V F154.W;split;exact denF_okE (GOk.cons F157.ok (GOk.nil)) noV_ok Tryd.func154 (F154.gen noV F157.T ⟨_,_,_⟩ _ _ _ _);exact λ_ _ h=>h.elim
@[reducible] def F153.G(T154:Sl->Int->Int->Int->Option Addr->PT)(l:Sl)(n:Int)(p:Option Addr):PT:=λh Q=>
 T154 l (wrap .i64 (n-1)) n (wrap .i64 (n+1)) p h λr h1=>retI .i64 r λn1=>Q (.int .i64 n1) h1
def F153.T:=F153.G F154.T
theorem F153.gen(V T154 l n p):denF Tryd.prog [] [(154,F154.W T154)] V [] Tryd.f153 [.v (.slice l.a l.n l.c),.v (.int .i64 n),.v (.pointer p)]=F153.G T154 l n p:=by kernel_rfl
def F153.W(T153:Sl->Int->Option Addr->PT)(args:List Value):PT:=match args with
 |[.slice l_a l_n l_c,.int .i64 n,.pointer p]=>T153 ⟨l_a,l_n,l_c⟩ n p
 |_=>λ_ _=>False
def F153.V:List Value->PT:=F153.W F153.T
theorem F153.ok:FOk Tryd.prog 153 F153.V:=by
 refine⟨⟨_,Tryd.func153,rfl,rfl⟩,λ_=>?_⟩;unfold F153.V F153.W;split;exact denF_okE (GOk.cons F154.ok (GOk.nil)) noV_ok Tryd.func153 (F153.gen noV F154.T ⟨_,_,_⟩ _ _);exact λ_ _ h=>h.elim
@[reducible] def F141.G(T153:Sl->Int->Option Addr->PT)(T154:Sl->Int->Int->Int->Option Addr->PT)(l:Sl)(n n1:Int):PT:=λh Q=>
 nw h (.cells ⟨[.int .i64 0]⟩ 3 (0,0)) λb h1=>(4:Int)≠0/\(4:Int)≠0/\(4:Int)≠0/\∃ J:Int->Hp->Prop,(∀ n2:Int,∀ h2:Hp,J n2 h2->ldI .i64 h2 b 0 λn3=>par (n3=0) (Q (.tuple ⟨[.int .i64 n2,.int .i64 1]⟩) h2) (par (n3=12) (Q (.tuple ⟨[.int .i64 n2,.int .i64 2]⟩) h2) (Q (.tuple ⟨[.int .i64 n2,.int .i64 0]⟩) h2)))/\(par ((8:Int)<=(wrap .i64 (n1-n))) (par ((50:Int)<=(wrap .i64 (n1-n))) (T153 l (wrap .i64 (n+(wrap .i64 ((wrap .i64 (Int.tdiv (wrap .i64 (n1-n)) 4))*1)))) (some ⟨b,0,none⟩) h1 λr h3=>retI .i64 r λn4=>T153 l (wrap .i64 (n+(wrap .i64 ((wrap .i64 (Int.tdiv (wrap .i64 (n1-n)) 4))*2)))) (some ⟨b,0,none⟩) h3 λr1 h4=>retI .i64 r1 λn5=>T153 l (wrap .i64 (n+(wrap .i64 ((wrap .i64 (Int.tdiv (wrap .i64 (n1-n)) 4))*3)))) (some ⟨b,0,none⟩) h4 λr2 h5=>retI .i64 r2 λn6=>T154 l n4 n5 n6 (some ⟨b,0,none⟩) h5 λr3 h6=>retI .i64 r3 λn7=>J n7 h6) (T154 l (wrap .i64 (n+(wrap .i64 ((wrap .i64 (Int.tdiv (wrap .i64 (n1-n)) 4))*1)))) (wrap .i64 (n+(wrap .i64 ((wrap .i64 (Int.tdiv (wrap .i64 (n1-n)) 4))*2)))) (wrap .i64 (n+(wrap .i64 ((wrap .i64 (Int.tdiv (wrap .i64 (n1-n)) 4))*3)))) (some ⟨b,0,none⟩) h1 λr4 h7=>retI .i64 r4 λn8=>J n8 h7)) (J (wrap .i64 (n+(wrap .i64 ((wrap .i64 (Int.tdiv (wrap .i64 (n1-n)) 4))*2)))) h1))
def F141.T:=F141.G F153.T F154.T
theorem F141.gen(V T153 T154 l n n1):denF Tryd.prog [] [(153,F153.W T153),(154,F154.W T154)] V [(127,.join [(11,.int .i64)] [])] Tryd.f141 [.v (.slice l.a l.n l.c),.v (.int .i64 n),.v (.int .i64 n1)]=F141.G T153 T154 l n n1:=by kernel_rfl
def F141.W(T141:Sl->Int->Int->PT)(args:List Value):PT:=match args with
 |[.slice l_a l_n l_c,.int .i64 n,.int .i64 n1]=>T141 ⟨l_a,l_n,l_c⟩ n n1
 |_=>λ_ _=>False
def F141.V:List Value->PT:=F141.W F141.T
theorem F141.ok:FOk Tryd.prog 141 F141.V:=by
 refine⟨⟨_,Tryd.func141,rfl,rfl⟩,λ_=>?_⟩;unfold F141.V F141.W;split;exact denF_okE (GOk.cons F153.ok (GOk.cons F154.ok (GOk.nil))) noV_ok Tryd.func141 (F141.gen noV F153.T F154.T ⟨_,_,_⟩ _ _);exact λ_ _ h=>h.elim
def F142.T(l:Sl)(n n1:Int):PT:=λh Q=>
 ∃ (I:Int->Int->Hp->Prop) (m:Int->Int->Hp->Nat),I n (wrap .i64 (n1-1)) h/\(∀ n2 n3:Int,∀ h1:Hp,I n2 n3 h1->par (n2<n3) (ix l.a n3 l.n λb o=>ldI .u64 h1 b (o+n3.toNat) λn4=>ix l.a n2 l.n λb1 o1=>ldI .u64 h1 b1 (o1+n2.toNat) λn5=>ix l.a n2 l.n λb2 o2=>st h1 b2 (o2+n2.toNat) 1 [.int .u64 n4] λh2=>ix l.a n3 l.n λb3 o3=>st h2 b3 (o3+n3.toNat) 1 [.int .u64 n5] λh3=>I (wrap .i64 (n2+1)) (wrap .i64 (n3-1)) h3/\m (wrap .i64 (n2+1)) (wrap .i64 (n3-1)) h3<m n2 n3 h1) (Q (.tuple ⟨[]⟩) h1))
theorem F142.den(V l n n1):denF Tryd.prog [] [] V [(14,.loop [(6,.int .i64),(7,.int .i64)] []),(228,.order [0,1,2,3,4,5,6,7,8,9,10,11,12,13,14,15])] Tryd.f142 [.v (.slice l.a l.n l.c),.v (.int .i64 n),.v (.int .i64 n1)]=F142.T l n n1:=by kernel_rfl
def F142.W(T142:Sl->Int->Int->PT)(args:List Value):PT:=match args with
 |[.slice l_a l_n l_c,.int .i64 n,.int .i64 n1]=>T142 ⟨l_a,l_n,l_c⟩ n n1
 |_=>λ_ _=>False
def F142.V:List Value->PT:=F142.W F142.T
theorem F142.ok:FOk Tryd.prog 142 F142.V:=by
 refine⟨⟨_,Tryd.func142,rfl,rfl⟩,λ_=>?_⟩;unfold F142.V F142.W;split;exact denF_okE (GOk.nil) noV_ok Tryd.func142 (F142.den noV ⟨_,_,_⟩ _ _);exact λ_ _ h=>h.elim
@[reducible] def F143.G(T144:Int->Int->PT)(l:Sl)(n n1:Int):PT:=λh Q=>
 ∃ (I:Int->Int->Hp->Prop) (m:Int->Int->Hp->Nat),I (wrap .i64 (n+1)) 0 h/\(∀ n2 n3:Int,∀ h1:Hp,I n2 n3 h1->par (n3<5) (∃ J:Int->Hp->Prop,(∀ n4:Int,∀ h2:Hp,J n4 h2->par (n4=n1) (Q (.bool true) h2) (par ((wrap .i64 (n1-n))<50) (Q (.bool false) h2) (ix l.a (wrap .i64 (n4-1)) l.n λb o=>ldI .u64 h2 b (o+((wrap .i64 (n4-1))).toNat) λn5=>ix l.a n4 l.n λb1 o1=>ldI .u64 h2 b1 (o1+n4.toNat) λn6=>ix l.a n4 l.n λb2 o2=>st h2 b2 (o2+n4.toNat) 1 [.int .u64 n5] λh3=>ix l.a (wrap .i64 (n4-1)) l.n λb3 o3=>st h3 b3 (o3+((wrap .i64 (n4-1))).toNat) 1 [.int .u64 n6] λh4=>∃ J1:Hp->Prop,(∀ h5:Hp,J1 h5->par ((2:Int)<=(wrap .i64 (n1-n4))) (∃ (I1:Int->Hp->Prop) (m1:Int->Hp->Nat),I1 (wrap .i64 (n4+1)) h5/\(∀ n7:Int,∀ h6:Hp,I1 n7 h6->par (n7<n1) (ix l.a n7 l.n λb4 o4=>ldI .u64 h6 b4 (o4+n7.toNat) λn8=>ix l.a (wrap .i64 (n7-1)) l.n λb5 o5=>ldI .u64 h6 b5 (o5+((wrap .i64 (n7-1))).toNat) λn9=>T144 n8 n9 h6 λr h7=>retB r (ix l.a (wrap .i64 (n7-1)) l.n λb6 o6=>ldI .u64 h7 b6 (o6+((wrap .i64 (n7-1))).toNat) λn10=>ix l.a n7 l.n λb7 o7=>ldI .u64 h7 b7 (o7+n7.toNat) λn11=>ix l.a n7 l.n λb8 o8=>st h7 b8 (o8+n7.toNat) 1 [.int .u64 n10] λh8=>ix l.a (wrap .i64 (n7-1)) l.n λb9 o9=>st h8 b9 (o9+((wrap .i64 (n7-1))).toNat) 1 [.int .u64 n11] λh9=>I1 (wrap .i64 (n7+1)) h9/\m1 (wrap .i64 (n7+1)) h9<m1 n7 h6) (I n4 (wrap .i64 (n3+1)) h7/\m n4 (wrap .i64 (n3+1)) h7<m n2 n3 h1)) (I n4 (wrap .i64 (n3+1)) h6/\m n4 (wrap .i64 (n3+1)) h6<m n2 n3 h1))) (I n4 (wrap .i64 (n3+1)) h5/\m n4 (wrap .i64 (n3+1)) h5<m n2 n3 h1))/\(par ((2:Int)<=(wrap .i64 (n4-n))) (∃ (I2:Int->Hp->Prop) (m2:Int->Hp->Nat),I2 (wrap .i64 (n4-1)) h4/\(∀ n12:Int,∀ h10:Hp,I2 n12 h10->par ((1:Int)<=n12) (ix l.a n12 l.n λb10 o10=>ldI .u64 h10 b10 (o10+n12.toNat) λn13=>ix l.a (wrap .i64 (n12-1)) l.n λb11 o11=>ldI .u64 h10 b11 (o11+((wrap .i64 (n12-1))).toNat) λn14=>T144 n13 n14 h10 λr1 h11=>retB r1 (ix l.a (wrap .i64 (n12-1)) l.n λb12 o12=>ldI .u64 h11 b12 (o12+((wrap .i64 (n12-1))).toNat) λn15=>ix l.a n12 l.n λb13 o13=>ldI .u64 h11 b13 (o13+n12.toNat) λn16=>ix l.a n12 l.n λb14 o14=>st h11 b14 (o14+n12.toNat) 1 [.int .u64 n15] λh12=>ix l.a (wrap .i64 (n12-1)) l.n λb15 o15=>st h12 b15 (o15+((wrap .i64 (n12-1))).toNat) 1 [.int .u64 n16] λh13=>I2 (wrap .i64 (n12-1)) h13/\m2 (wrap .i64 (n12-1)) h13<m2 n12 h10) (J1 h11)) (J1 h10))) (J1 h4)))))/\(∃ (I3:Int->Hp->Prop) (m3:Int->Hp->Nat),I3 n2 h1/\(∀ n17:Int,∀ h14:Hp,I3 n17 h14->par (n17<n1) (ix l.a n17 l.n λb16 o16=>ldI .u64 h14 b16 (o16+n17.toNat) λn18=>ix l.a (wrap .i64 (n17-1)) l.n λb17 o17=>ldI .u64 h14 b17 (o17+((wrap .i64 (n17-1))).toNat) λn19=>T144 n18 n19 h14 λr2 h15=>retB r2 (J n17 h15) (I3 (wrap .i64 (n17+1)) h15/\m3 (wrap .i64 (n17+1)) h15<m3 n17 h14)) (J n17 h14)))) (Q (.bool false) h1))
def F143.T:=F143.G F144.T
theorem F143.gen(V T144 l n n1):denF Tryd.prog [] [(144,F144.W T144)] V [(58,.loop [(7,.int .i64),(8,.int .i64)] []),(932,.join [(7,.int .i64)] []),(3728,.loop [(7,.int .i64)] []),(14926,.order [0,1,2,3,4,5,6,7,8,9,10,11,12,13,14,15,16,17]),(14927,.join [] []),(29824,.order [0,1,2,3,4,5,6,7,8,9,10,11,12,13,14,15]),(477674,.loop [(9,.int .i64)] []),(477690,.loop [(10,.int .i64)] []),(15285577,.order [0,1,2,3,4,5,6,7,8,9,10,11,12,13,14,15,16,17]),(15286089,.order [0,1,2,3,4,5,6,7,8,9,10,11,12,13,14,15,16,17]),(30571152,.order [0,1,2,3,4,5,6,7,8,9,10]),(30572176,.order [0,1,2,3,4,5,6,7,8,9,10])] Tryd.f143 [.v (.slice l.a l.n l.c),.v (.int .i64 n),.v (.int .i64 n1)]=F143.G T144 l n n1:=by kernel_rfl
def F143.W(T143:Sl->Int->Int->PT)(args:List Value):PT:=match args with
 |[.slice l_a l_n l_c,.int .i64 n,.int .i64 n1]=>T143 ⟨l_a,l_n,l_c⟩ n n1
 |_=>λ_ _=>False
def F143.V:List Value->PT:=F143.W F143.T
theorem F143.ok:FOk Tryd.prog 143 F143.V:=by
 refine⟨⟨_,Tryd.func143,rfl,rfl⟩,λ_=>?_⟩;unfold F143.V F143.W;split;exact denF_okE (GOk.cons F144.ok (GOk.nil)) noV_ok Tryd.func143 (F143.gen noV F144.T ⟨_,_,_⟩ _ _);exact λ_ _ h=>h.elim
@[reducible] def F145.G(T144:Int->Int->PT)(l:Sl)(n n1 n2:Int):PT:=λh Q=>
 ix l.a n2 l.n λb o=>ldI .u64 h b (o+n2.toNat) λn3=>ix l.a n l.n λb1 o1=>ldI .u64 h b1 (o1+n.toNat) λn4=>ix l.a n l.n λb2 o2=>st h b2 (o2+n.toNat) 1 [.int .u64 n3] λh1=>ix l.a n2 l.n λb3 o3=>st h1 b3 (o3+n2.toNat) 1 [.int .u64 n4] λh2=>∃ (I:Int->Int->Hp->Prop) (m:Int->Int->Hp->Nat),I (wrap .i64 (n+1)) (wrap .i64 (n1-1)) h2/\(∀ n5 n6:Int,∀ h3:Hp,I n5 n6 h3->∃ J:Int->Hp->Prop,(∀ n7:Int,∀ h4:Hp,J n7 h4->∃ (I1:Int->Hp->Prop) (m1:Int->Hp->Nat),I1 n6 h4/\(∀ n8:Int,∀ h5:Hp,I1 n8 h5->par (n7<=n8) (ix l.a n l.n λb4 o4=>ldI .u64 h5 b4 (o4+n.toNat) λn9=>ix l.a n8 l.n λb5 o5=>ldI .u64 h5 b5 (o5+n8.toNat) λn10=>T144 n9 n10 h5 λr h6=>retB r (I1 (wrap .i64 (n8-1)) h6/\m1 (wrap .i64 (n8-1)) h6<m1 n8 h5) (par (n8<n7) (Q (.int .i64 n7) h6) (ix l.a n8 l.n λb6 o6=>ldI .u64 h6 b6 (o6+n8.toNat) λn11=>ix l.a n7 l.n λb7 o7=>ldI .u64 h6 b7 (o7+n7.toNat) λn12=>ix l.a n7 l.n λb8 o8=>st h6 b8 (o8+n7.toNat) 1 [.int .u64 n11] λh7=>ix l.a n8 l.n λb9 o9=>st h7 b9 (o9+n8.toNat) 1 [.int .u64 n12] λh8=>I (wrap .i64 (n7+1)) (wrap .i64 (n8-1)) h8/\m (wrap .i64 (n7+1)) (wrap .i64 (n8-1)) h8<m n5 n6 h3))) (par (n8<n7) (Q (.int .i64 n7) h5) (ix l.a n8 l.n λb10 o10=>ldI .u64 h5 b10 (o10+n8.toNat) λn13=>ix l.a n7 l.n λb11 o11=>ldI .u64 h5 b11 (o11+n7.toNat) λn14=>ix l.a n7 l.n λb12 o12=>st h5 b12 (o12+n7.toNat) 1 [.int .u64 n13] λh9=>ix l.a n8 l.n λb13 o13=>st h9 b13 (o13+n8.toNat) 1 [.int .u64 n14] λh10=>I (wrap .i64 (n7+1)) (wrap .i64 (n8-1)) h10/\m (wrap .i64 (n7+1)) (wrap .i64 (n8-1)) h10<m n5 n6 h3))))/\(∃ (I2:Int->Hp->Prop) (m2:Int->Hp->Nat),I2 n5 h3/\(∀ n15:Int,∀ h11:Hp,I2 n15 h11->par (n15<=n6) (ix l.a n l.n λb14 o14=>ldI .u64 h11 b14 (o14+n.toNat) λn16=>ix l.a n15 l.n λb15 o15=>ldI .u64 h11 b15 (o15+n15.toNat) λn17=>T144 n16 n17 h11 λr1 h12=>retB r1 (J n15 h12) (I2 (wrap .i64 (n15+1)) h12/\m2 (wrap .i64 (n15+1)) h12<m2 n15 h11)) (J n15 h11))))
def F145.T:=F145.G F144.T
theorem F145.gen(V T144 l n n1 n2):denF Tryd.prog [] [(144,F144.W T144)] V [(6,.order [0,1,2,3,4,5,6,7,8,9,10,11,12,13,14,15]),(60,.loop [(9,.int .i64),(10,.int .i64)] []),(240,.join [(9,.int .i64)] []),(960,.loop [(9,.int .i64)] []),(1924,.loop [(10,.int .i64)] []),(3854,.order [0,1,2,3,4,5,6,7,8,9,10,11,12,13,14,15]),(7680,.order [0,1,2,3,4,5,6,7,8,9,10,11,12,13,14]),(15392,.order [0,1,2,3,4,5,6,7,8,9,10,11,12,13])] Tryd.f145 [.v (.slice l.a l.n l.c),.v (.int .i64 n),.v (.int .i64 n1),.v (.int .i64 n2)]=F145.G T144 l n n1 n2:=by kernel_rfl
def F145.W(T145:Sl->Int->Int->Int->PT)(args:List Value):PT:=match args with
 |[.slice l_a l_n l_c,.int .i64 n,.int .i64 n1,.int .i64 n2]=>T145 ⟨l_a,l_n,l_c⟩ n n1 n2
 |_=>λ_ _=>False
def F145.V:List Value->PT:=F145.W F145.T
theorem F145.ok:FOk Tryd.prog 145 F145.V:=by
 refine⟨⟨_,Tryd.func145,rfl,rfl⟩,λ_=>?_⟩;unfold F145.V F145.W;split;exact denF_okE (GOk.cons F144.ok (GOk.nil)) noV_ok Tryd.func145 (F145.gen noV F144.T ⟨_,_,_⟩ _ _ _);exact λ_ _ h=>h.elim
@[reducible] def F146.G(T144:Int->Int->PT)(l:Sl)(n n1 n2:Int):PT:=λh Q=>
 ix l.a n2 l.n λb o=>ldI .u64 h b (o+n2.toNat) λn3=>ix l.a n l.n λb1 o1=>ldI .u64 h b1 (o1+n.toNat) λn4=>ix l.a n l.n λb2 o2=>st h b2 (o2+n.toNat) 1 [.int .u64 n3] λh1=>ix l.a n2 l.n λb3 o3=>st h1 b3 (o3+n2.toNat) 1 [.int .u64 n4] λh2=>∃ J:Int->Hp->Prop,(∀ n5:Int,∀ h3:Hp,J n5 h3->∃ J1:Int->Hp->Prop,(∀ n6:Int,∀ h4:Hp,J1 n6 h4->par (n6<n5) (ix l.a n l.n λb4 o4=>ldI .u64 h4 b4 (o4+n.toNat) λn7=>ix l.a n6 l.n λb5 o5=>ldI .u64 h4 b5 (o5+n6.toNat) λn8=>ix l.a n6 l.n λb6 o6=>st h4 b6 (o6+n6.toNat) 1 [.int .u64 n7] λh5=>ix l.a n l.n λb7 o7=>st h5 b7 (o7+n.toNat) 1 [.int .u64 n8] λh6=>Q (.tuple ⟨[.int .i64 n6,.bool true]⟩) h6) (ix l.a n6 l.n λb8 o8=>ldI .u64 h4 b8 (o8+n6.toNat) λn9=>ix l.a n5 l.n λb9 o9=>ldI .u64 h4 b9 (o9+n5.toNat) λn10=>ix l.a n5 l.n λb10 o10=>st h4 b10 (o10+n5.toNat) 1 [.int .u64 n9] λh7=>ix l.a n6 l.n λb11 o11=>st h7 b11 (o11+n6.toNat) 1 [.int .u64 n10] λh8=>∃ (I:Int->Int->Hp->Prop) (m:Int->Int->Hp->Nat),I (wrap .i64 (n5+1)) (wrap .i64 (n6-1)) h8/\(∀ n11 n12:Int,∀ h9:Hp,I n11 n12 h9->∃ J2:Int->Hp->Prop,(∀ n13:Int,∀ h10:Hp,J2 n13 h10->∃ (I1:Int->Hp->Prop) (m1:Int->Hp->Nat),I1 n12 h10/\(∀ n14:Int,∀ h11:Hp,I1 n14 h11->par (n13<=n14) (ix l.a n14 l.n λb12 o12=>ldI .u64 h11 b12 (o12+n14.toNat) λn15=>ix l.a n l.n λb13 o13=>ldI .u64 h11 b13 (o13+n.toNat) λn16=>T144 n15 n16 h11 λr h12=>retB r (par (n14<n13) (ix l.a n l.n λb14 o14=>ldI .u64 h12 b14 (o14+n.toNat) λn17=>ix l.a n14 l.n λb15 o15=>ldI .u64 h12 b15 (o15+n14.toNat) λn18=>ix l.a n14 l.n λb16 o16=>st h12 b16 (o16+n14.toNat) 1 [.int .u64 n17] λh13=>ix l.a n l.n λb17 o17=>st h13 b17 (o17+n.toNat) 1 [.int .u64 n18] λh14=>Q (.tuple ⟨[.int .i64 n14,.bool false]⟩) h14) (ix l.a n14 l.n λb18 o18=>ldI .u64 h12 b18 (o18+n14.toNat) λn19=>ix l.a n13 l.n λb19 o19=>ldI .u64 h12 b19 (o19+n13.toNat) λn20=>ix l.a n13 l.n λb20 o20=>st h12 b20 (o20+n13.toNat) 1 [.int .u64 n19] λh15=>ix l.a n14 l.n λb21 o21=>st h15 b21 (o21+n14.toNat) 1 [.int .u64 n20] λh16=>I (wrap .i64 (n13+1)) (wrap .i64 (n14-1)) h16/\m (wrap .i64 (n13+1)) (wrap .i64 (n14-1)) h16<m n11 n12 h9)) (I1 (wrap .i64 (n14-1)) h12/\m1 (wrap .i64 (n14-1)) h12<m1 n14 h11)) (par (n14<n13) (ix l.a n l.n λb22 o22=>ldI .u64 h11 b22 (o22+n.toNat) λn21=>ix l.a n14 l.n λb23 o23=>ldI .u64 h11 b23 (o23+n14.toNat) λn22=>ix l.a n14 l.n λb24 o24=>st h11 b24 (o24+n14.toNat) 1 [.int .u64 n21] λh17=>ix l.a n l.n λb25 o25=>st h17 b25 (o25+n.toNat) 1 [.int .u64 n22] λh18=>Q (.tuple ⟨[.int .i64 n14,.bool false]⟩) h18) (ix l.a n14 l.n λb26 o26=>ldI .u64 h11 b26 (o26+n14.toNat) λn23=>ix l.a n13 l.n λb27 o27=>ldI .u64 h11 b27 (o27+n13.toNat) λn24=>ix l.a n13 l.n λb28 o28=>st h11 b28 (o28+n13.toNat) 1 [.int .u64 n23] λh19=>ix l.a n14 l.n λb29 o29=>st h19 b29 (o29+n14.toNat) 1 [.int .u64 n24] λh20=>I (wrap .i64 (n13+1)) (wrap .i64 (n14-1)) h20/\m (wrap .i64 (n13+1)) (wrap .i64 (n14-1)) h20<m n11 n12 h9))))/\(∃ (I2:Int->Hp->Prop) (m2:Int->Hp->Nat),I2 n11 h9/\(∀ n25:Int,∀ h21:Hp,I2 n25 h21->par (n25<=n12) (ix l.a n25 l.n λb30 o30=>ldI .u64 h21 b30 (o30+n25.toNat) λn26=>ix l.a n l.n λb31 o31=>ldI .u64 h21 b31 (o31+n.toNat) λn27=>T144 n26 n27 h21 λr1 h22=>retB r1 (I2 (wrap .i64 (n25+1)) h22/\m2 (wrap .i64 (n25+1)) h22<m2 n25 h21) (J2 n25 h22)) (J2 n25 h21))))))/\(∃ (I3:Int->Hp->Prop) (m3:Int->Hp->Nat),I3 (wrap .i64 (n1-1)) h3/\(∀ n28:Int,∀ h23:Hp,I3 n28 h23->par (n5<=n28) (ix l.a n28 l.n λb32 o32=>ldI .u64 h23 b32 (o32+n28.toNat) λn29=>ix l.a n l.n λb33 o33=>ldI .u64 h23 b33 (o33+n.toNat) λn30=>T144 n29 n30 h23 λr2 h24=>retB r2 (J1 n28 h24) (I3 (wrap .i64 (n28-1)) h24/\m3 (wrap .i64 (n28-1)) h24<m3 n28 h23)) (J1 n28 h23))))/\(∃ (I4:Int->Hp->Prop) (m4:Int->Hp->Nat),I4 (wrap .i64 (n+1)) h2/\(∀ n31:Int,∀ h25:Hp,I4 n31 h25->par (n31<=(wrap .i64 (n1-1))) (ix l.a n31 l.n λb34 o34=>ldI .u64 h25 b34 (o34+n31.toNat) λn32=>ix l.a n l.n λb35 o35=>ldI .u64 h25 b35 (o35+n.toNat) λn33=>T144 n32 n33 h25 λr3 h26=>retB r3 (I4 (wrap .i64 (n31+1)) h26/\m4 (wrap .i64 (n31+1)) h26<m4 n31 h25) (J n31 h26)) (J n31 h25)))
def F146.T:=F146.G F144.T
theorem F146.gen(V T144 l n n1 n2):denF Tryd.prog [] [(144,F144.W T144)] V [(6,.order [0,1,2,3,4,5,6,7,8,9,10,11,12,13,14,15]),(15,.join [(10,.int .i64)] []),(31,.join [(11,.int .i64)] []),(60,.loop [(10,.int .i64)] []),(124,.loop [(11,.int .i64)] []),(254,.order [0,1,2,3,4,5,6,7,8,9,10,11,12,13,14,15]),(480,.order [0,1,2,3,4,5,6,7,8,9,10,11,12,13]),(992,.order [0,1,2,3,4,5,6,7,8,9,10,11,12,13,14]),(1012,.order [0,1,2,3,4,5,6,7,8,9,10,11,12,13,14,15]),(4092,.loop [(10,.int .i64),(11,.int .i64)] []),(4094,.order [0,1,2,3,4,5,6,7,8,9,10,11,12,13,14,15]),(16368,.join [(10,.int .i64)] []),(65472,.loop [(10,.int .i64)] []),(130948,.loop [(11,.int .i64)] []),(261902,.order [0,1,2,3,4,5,6,7,8,9,10,11,12,13,14,15]),(523776,.order [0,1,2,3,4,5,6,7,8,9,10,11,12,13]),(1047584,.order [0,1,2,3,4,5,6,7,8,9,10,11,12,13,14])] Tryd.f146 [.v (.slice l.a l.n l.c),.v (.int .i64 n),.v (.int .i64 n1),.v (.int .i64 n2)]=F146.G T144 l n n1 n2:=by kernel_rfl
def F146.W(T146:Sl->Int->Int->Int->PT)(args:List Value):PT:=match args with
 |[.slice l_a l_n l_c,.int .i64 n,.int .i64 n1,.int .i64 n2]=>T146 ⟨l_a,l_n,l_c⟩ n n1 n2
 |_=>λ_ _=>False
def F146.V:List Value->PT:=F146.W F146.T
theorem F146.ok:FOk Tryd.prog 146 F146.V:=by
 refine⟨⟨_,Tryd.func146,rfl,rfl⟩,λ_=>?_⟩;unfold F146.V F146.W;split;exact denF_okE (GOk.cons F144.ok (GOk.nil)) noV_ok Tryd.func146 (F146.gen noV F144.T ⟨_,_,_⟩ _ _ _);exact λ_ _ h=>h.elim
end Go.Eng.YtblghgacokoklaaDoor
end
section
open Go.Proofs
namespace Go.Eng.YtblghgacokoklaaDoor
@[reducible] def F130.B(T130:Sl->Int->Int->Int->PT)(T138:Sl->Int->Int->PT)(T139:Sl->Int->Int->PT)(T140:Sl->Int->Int->PT)(T141:Sl->Int->Int->PT)(T142:Sl->Int->Int->PT)(T143:Sl->Int->Int->PT)(T144:Int->Int->PT)(T145:Sl->Int->Int->Int->PT)(T146:Sl->Int->Int->Int->PT)(l:Sl)(n:Int)(n1:Int)(n2:Int):PT:=λh Q=>
 ∃ (I:Int->Int->Int->Bool->Bool->Hp->Prop) (m:Int->Int->Int->Bool->Bool->Hp->Nat),I n n1 n2 true true h/\(∀ n3 n4 n5:Int,((∀ h1:Hp,I n3 n4 n5 true true h1->par ((wrap .i64 (n4-n3))<=12) (T138 l n3 n4 h1 λr h2=>Q (.tuple ⟨[]⟩) h2) (par (n5=0) (T139 l n3 n4 h1 λr1 h3=>Q (.tuple ⟨[]⟩) h3) (T141 l n3 n4 h1 λr2 h4=>∃ n6 n7:Int,r2=.tuple ⟨[.int .i64 n6,.int .i64 n7]⟩/\∃ J:Int->Int->Hp->Prop,(∀ n8 n9:Int,∀ h5:Hp,J n8 n9 h5->∃ J1:Hp->Prop,(∀ h6:Hp,J1 h6->∃ J2:Int->Hp->Prop,(∀ n10:Int,∀ h7:Hp,J2 n10 h7->T146 l n10 n4 n8 h7 λr3 h8=>∃ n11:Int,∃ b2:Bool,parB b2 (r3=.tuple ⟨[.int .i64 n11,.bool true]⟩/\(8:Int)≠0/\par ((wrap .i64 (n11-n10))<(wrap .i64 (n4-n11))) (par ((wrap .i64 (Int.tdiv (wrap .i64 (n4-n3)) 8))<=(wrap .i64 (n11-n10))) (T130 l n10 n11 n5 h8 λr4 h9=>I (wrap .i64 (n11+1)) n4 n5 true true h9/\m (wrap .i64 (n11+1)) n4 n5 true true h9<m n3 n4 n5 true true h1) (T130 l n10 n11 n5 h8 λr5 h10=>I (wrap .i64 (n11+1)) n4 n5 false true h10/\m (wrap .i64 (n11+1)) n4 n5 false true h10<m n3 n4 n5 true true h1)) (par ((wrap .i64 (Int.tdiv (wrap .i64 (n4-n3)) 8))<=(wrap .i64 (n4-n11))) (T130 l (wrap .i64 (n11+1)) n4 n5 h8 λr6 h11=>I n10 n11 n5 true true h11/\m n10 n11 n5 true true h11<m n3 n4 n5 true true h1) (T130 l (wrap .i64 (n11+1)) n4 n5 h8 λr7 h12=>I n10 n11 n5 false true h12/\m n10 n11 n5 false true h12<m n3 n4 n5 true true h1))) (r3=.tuple ⟨[.int .i64 n11,.bool false]⟩/\(8:Int)≠0/\par ((wrap .i64 (n11-n10))<(wrap .i64 (n4-n11))) (par ((wrap .i64 (Int.tdiv (wrap .i64 (n4-n3)) 8))<=(wrap .i64 (n11-n10))) (T130 l n10 n11 n5 h8 λr8 h13=>I (wrap .i64 (n11+1)) n4 n5 true false h13/\m (wrap .i64 (n11+1)) n4 n5 true false h13<m n3 n4 n5 true true h1) (T130 l n10 n11 n5 h8 λr9 h14=>I (wrap .i64 (n11+1)) n4 n5 false false h14/\m (wrap .i64 (n11+1)) n4 n5 false false h14<m n3 n4 n5 true true h1)) (par ((wrap .i64 (Int.tdiv (wrap .i64 (n4-n3)) 8))<=(wrap .i64 (n4-n11))) (T130 l (wrap .i64 (n11+1)) n4 n5 h8 λr10 h15=>I n10 n11 n5 true false h15/\m n10 n11 n5 true false h15<m n3 n4 n5 true true h1) (T130 l (wrap .i64 (n11+1)) n4 n5 h8 λr11 h16=>I n10 n11 n5 false false h16/\m n10 n11 n5 false false h16<m n3 n4 n5 true true h1))))/\(par ((0:Int)<n3) (ix l.a (wrap .i64 (n3-1)) l.n λb3 o=>ldI .u64 h6 b3 (o+((wrap .i64 (n3-1))).toNat) λn12=>ix l.a n8 l.n λb4 o1=>ldI .u64 h6 b4 (o1+n8.toNat) λn13=>T144 n12 n13 h6 λr12 h17=>retB r12 (J2 n3 h17) (T145 l n3 n4 n8 h17 λr13 h18=>retI .i64 r13 λn14=>I n14 n4 n5 true true h18/\m n14 n4 n5 true true h18<m n3 n4 n5 true true h1)) (J2 n3 h6)))/\(par (n9=1) (T143 l n3 n4 h5 λr14 h19=>retB r14 (Q (.tuple ⟨[]⟩) h19) (J1 h19)) (J1 h5)))/\(par (n7=2) (T142 l n3 n4 h4 λr15 h20=>J (wrap .i64 ((wrap .i64 (n4-1))-(wrap .i64 (n6-n3)))) 1 h20) (J n6 n7 h4)))))/\(∀ h1:Hp,I n3 n4 n5 true false h1->par ((wrap .i64 (n4-n3))<=12) (T138 l n3 n4 h1 λr16 h21=>Q (.tuple ⟨[]⟩) h21) (par (n5=0) (T139 l n3 n4 h1 λr17 h22=>Q (.tuple ⟨[]⟩) h22) (T141 l n3 n4 h1 λr18 h23=>∃ n15 n16:Int,r18=.tuple ⟨[.int .i64 n15,.int .i64 n16]⟩/\∃ J3:Int->Int->Hp->Prop,(∀ n17 n18:Int,∀ h24:Hp,J3 n17 n18 h24->∃ J4:Hp->Prop,(∀ h25:Hp,J4 h25->∃ J5:Int->Hp->Prop,(∀ n19:Int,∀ h26:Hp,J5 n19 h26->T146 l n19 n4 n17 h26 λr19 h27=>∃ n20:Int,∃ b5:Bool,parB b5 (r19=.tuple ⟨[.int .i64 n20,.bool true]⟩/\(8:Int)≠0/\par ((wrap .i64 (n20-n19))<(wrap .i64 (n4-n20))) (par ((wrap .i64 (Int.tdiv (wrap .i64 (n4-n3)) 8))<=(wrap .i64 (n20-n19))) (T130 l n19 n20 n5 h27 λr20 h28=>I (wrap .i64 (n20+1)) n4 n5 true true h28/\m (wrap .i64 (n20+1)) n4 n5 true true h28<m n3 n4 n5 true false h1) (T130 l n19 n20 n5 h27 λr21 h29=>I (wrap .i64 (n20+1)) n4 n5 false true h29/\m (wrap .i64 (n20+1)) n4 n5 false true h29<m n3 n4 n5 true false h1)) (par ((wrap .i64 (Int.tdiv (wrap .i64 (n4-n3)) 8))<=(wrap .i64 (n4-n20))) (T130 l (wrap .i64 (n20+1)) n4 n5 h27 λr22 h30=>I n19 n20 n5 true true h30/\m n19 n20 n5 true true h30<m n3 n4 n5 true false h1) (T130 l (wrap .i64 (n20+1)) n4 n5 h27 λr23 h31=>I n19 n20 n5 false true h31/\m n19 n20 n5 false true h31<m n3 n4 n5 true false h1))) (r19=.tuple ⟨[.int .i64 n20,.bool false]⟩/\(8:Int)≠0/\par ((wrap .i64 (n20-n19))<(wrap .i64 (n4-n20))) (par ((wrap .i64 (Int.tdiv (wrap .i64 (n4-n3)) 8))<=(wrap .i64 (n20-n19))) (T130 l n19 n20 n5 h27 λr24 h32=>I (wrap .i64 (n20+1)) n4 n5 true false h32/\m (wrap .i64 (n20+1)) n4 n5 true false h32<m n3 n4 n5 true false h1) (T130 l n19 n20 n5 h27 λr25 h33=>I (wrap .i64 (n20+1)) n4 n5 false false h33/\m (wrap .i64 (n20+1)) n4 n5 false false h33<m n3 n4 n5 true false h1)) (par ((wrap .i64 (Int.tdiv (wrap .i64 (n4-n3)) 8))<=(wrap .i64 (n4-n20))) (T130 l (wrap .i64 (n20+1)) n4 n5 h27 λr26 h34=>I n19 n20 n5 true false h34/\m n19 n20 n5 true false h34<m n3 n4 n5 true false h1) (T130 l (wrap .i64 (n20+1)) n4 n5 h27 λr27 h35=>I n19 n20 n5 false false h35/\m n19 n20 n5 false false h35<m n3 n4 n5 true false h1))))/\(par ((0:Int)<n3) (ix l.a (wrap .i64 (n3-1)) l.n λb6 o2=>ldI .u64 h25 b6 (o2+((wrap .i64 (n3-1))).toNat) λn21=>ix l.a n17 l.n λb7 o3=>ldI .u64 h25 b7 (o3+n17.toNat) λn22=>T144 n21 n22 h25 λr28 h36=>retB r28 (J5 n3 h36) (T145 l n3 n4 n17 h36 λr29 h37=>retI .i64 r29 λn23=>I n23 n4 n5 true false h37/\m n23 n4 n5 true false h37<m n3 n4 n5 true false h1)) (J5 n3 h25)))/\(J4 h24))/\(par (n16=2) (T142 l n3 n4 h23 λr30 h38=>J3 (wrap .i64 ((wrap .i64 (n4-1))-(wrap .i64 (n15-n3)))) 1 h38) (J3 n15 n16 h23))))))/\((∀ h1:Hp,I n3 n4 n5 false true h1->par ((wrap .i64 (n4-n3))<=12) (T138 l n3 n4 h1 λr31 h39=>Q (.tuple ⟨[]⟩) h39) (par (n5=0) (T139 l n3 n4 h1 λr32 h40=>Q (.tuple ⟨[]⟩) h40) (T140 l n3 n4 h1 λr33 h41=>T141 l n3 n4 h41 λr34 h42=>∃ n24 n25:Int,r34=.tuple ⟨[.int .i64 n24,.int .i64 n25]⟩/\∃ J6:Int->Int->Hp->Prop,(∀ n26 n27:Int,∀ h43:Hp,J6 n26 n27 h43->∃ J7:Hp->Prop,(∀ h44:Hp,J7 h44->∃ J8:Int->Hp->Prop,(∀ n28:Int,∀ h45:Hp,J8 n28 h45->T146 l n28 n4 n26 h45 λr35 h46=>∃ n29:Int,∃ b8:Bool,parB b8 (r35=.tuple ⟨[.int .i64 n29,.bool true]⟩/\(8:Int)≠0/\par ((wrap .i64 (n29-n28))<(wrap .i64 (n4-n29))) (par ((wrap .i64 (Int.tdiv (wrap .i64 (n4-n3)) 8))<=(wrap .i64 (n29-n28))) (T130 l n28 n29 (wrap .i64 (n5-1)) h46 λr36 h47=>I (wrap .i64 (n29+1)) n4 (wrap .i64 (n5-1)) true true h47/\m (wrap .i64 (n29+1)) n4 (wrap .i64 (n5-1)) true true h47<m n3 n4 n5 false true h1) (T130 l n28 n29 (wrap .i64 (n5-1)) h46 λr37 h48=>I (wrap .i64 (n29+1)) n4 (wrap .i64 (n5-1)) false true h48/\m (wrap .i64 (n29+1)) n4 (wrap .i64 (n5-1)) false true h48<m n3 n4 n5 false true h1)) (par ((wrap .i64 (Int.tdiv (wrap .i64 (n4-n3)) 8))<=(wrap .i64 (n4-n29))) (T130 l (wrap .i64 (n29+1)) n4 (wrap .i64 (n5-1)) h46 λr38 h49=>I n28 n29 (wrap .i64 (n5-1)) true true h49/\m n28 n29 (wrap .i64 (n5-1)) true true h49<m n3 n4 n5 false true h1) (T130 l (wrap .i64 (n29+1)) n4 (wrap .i64 (n5-1)) h46 λr39 h50=>I n28 n29 (wrap .i64 (n5-1)) false true h50/\m n28 n29 (wrap .i64 (n5-1)) false true h50<m n3 n4 n5 false true h1))) (r35=.tuple ⟨[.int .i64 n29,.bool false]⟩/\(8:Int)≠0/\par ((wrap .i64 (n29-n28))<(wrap .i64 (n4-n29))) (par ((wrap .i64 (Int.tdiv (wrap .i64 (n4-n3)) 8))<=(wrap .i64 (n29-n28))) (T130 l n28 n29 (wrap .i64 (n5-1)) h46 λr40 h51=>I (wrap .i64 (n29+1)) n4 (wrap .i64 (n5-1)) true false h51/\m (wrap .i64 (n29+1)) n4 (wrap .i64 (n5-1)) true false h51<m n3 n4 n5 false true h1) (T130 l n28 n29 (wrap .i64 (n5-1)) h46 λr41 h52=>I (wrap .i64 (n29+1)) n4 (wrap .i64 (n5-1)) false false h52/\m (wrap .i64 (n29+1)) n4 (wrap .i64 (n5-1)) false false h52<m n3 n4 n5 false true h1)) (par ((wrap .i64 (Int.tdiv (wrap .i64 (n4-n3)) 8))<=(wrap .i64 (n4-n29))) (T130 l (wrap .i64 (n29+1)) n4 (wrap .i64 (n5-1)) h46 λr42 h53=>I n28 n29 (wrap .i64 (n5-1)) true false h53/\m n28 n29 (wrap .i64 (n5-1)) true false h53<m n3 n4 n5 false true h1) (T130 l (wrap .i64 (n29+1)) n4 (wrap .i64 (n5-1)) h46 λr43 h54=>I n28 n29 (wrap .i64 (n5-1)) false false h54/\m n28 n29 (wrap .i64 (n5-1)) false false h54<m n3 n4 n5 false true h1))))/\(par ((0:Int)<n3) (ix l.a (wrap .i64 (n3-1)) l.n λb9 o4=>ldI .u64 h44 b9 (o4+((wrap .i64 (n3-1))).toNat) λn30=>ix l.a n26 l.n λb10 o5=>ldI .u64 h44 b10 (o5+n26.toNat) λn31=>T144 n30 n31 h44 λr44 h55=>retB r44 (J8 n3 h55) (T145 l n3 n4 n26 h55 λr45 h56=>retI .i64 r45 λn32=>I n32 n4 (wrap .i64 (n5-1)) false true h56/\m n32 n4 (wrap .i64 (n5-1)) false true h56<m n3 n4 n5 false true h1)) (J8 n3 h44)))/\(J7 h43))/\(par (n25=2) (T142 l n3 n4 h42 λr46 h57=>J6 (wrap .i64 ((wrap .i64 (n4-1))-(wrap .i64 (n24-n3)))) 1 h57) (J6 n24 n25 h42)))))/\(∀ h1:Hp,I n3 n4 n5 false false h1->par ((wrap .i64 (n4-n3))<=12) (T138 l n3 n4 h1 λr47 h58=>Q (.tuple ⟨[]⟩) h58) (par (n5=0) (T139 l n3 n4 h1 λr48 h59=>Q (.tuple ⟨[]⟩) h59) (T140 l n3 n4 h1 λr49 h60=>T141 l n3 n4 h60 λr50 h61=>∃ n33 n34:Int,r50=.tuple ⟨[.int .i64 n33,.int .i64 n34]⟩/\∃ J9:Int->Int->Hp->Prop,(∀ n35 n36:Int,∀ h62:Hp,J9 n35 n36 h62->∃ J10:Hp->Prop,(∀ h63:Hp,J10 h63->∃ J11:Int->Hp->Prop,(∀ n37:Int,∀ h64:Hp,J11 n37 h64->T146 l n37 n4 n35 h64 λr51 h65=>∃ n38:Int,∃ b11:Bool,parB b11 (r51=.tuple ⟨[.int .i64 n38,.bool true]⟩/\(8:Int)≠0/\par ((wrap .i64 (n38-n37))<(wrap .i64 (n4-n38))) (par ((wrap .i64 (Int.tdiv (wrap .i64 (n4-n3)) 8))<=(wrap .i64 (n38-n37))) (T130 l n37 n38 (wrap .i64 (n5-1)) h65 λr52 h66=>I (wrap .i64 (n38+1)) n4 (wrap .i64 (n5-1)) true true h66/\m (wrap .i64 (n38+1)) n4 (wrap .i64 (n5-1)) true true h66<m n3 n4 n5 false false h1) (T130 l n37 n38 (wrap .i64 (n5-1)) h65 λr53 h67=>I (wrap .i64 (n38+1)) n4 (wrap .i64 (n5-1)) false true h67/\m (wrap .i64 (n38+1)) n4 (wrap .i64 (n5-1)) false true h67<m n3 n4 n5 false false h1)) (par ((wrap .i64 (Int.tdiv (wrap .i64 (n4-n3)) 8))<=(wrap .i64 (n4-n38))) (T130 l (wrap .i64 (n38+1)) n4 (wrap .i64 (n5-1)) h65 λr54 h68=>I n37 n38 (wrap .i64 (n5-1)) true true h68/\m n37 n38 (wrap .i64 (n5-1)) true true h68<m n3 n4 n5 false false h1) (T130 l (wrap .i64 (n38+1)) n4 (wrap .i64 (n5-1)) h65 λr55 h69=>I n37 n38 (wrap .i64 (n5-1)) false true h69/\m n37 n38 (wrap .i64 (n5-1)) false true h69<m n3 n4 n5 false false h1))) (r51=.tuple ⟨[.int .i64 n38,.bool false]⟩/\(8:Int)≠0/\par ((wrap .i64 (n38-n37))<(wrap .i64 (n4-n38))) (par ((wrap .i64 (Int.tdiv (wrap .i64 (n4-n3)) 8))<=(wrap .i64 (n38-n37))) (T130 l n37 n38 (wrap .i64 (n5-1)) h65 λr56 h70=>I (wrap .i64 (n38+1)) n4 (wrap .i64 (n5-1)) true false h70/\m (wrap .i64 (n38+1)) n4 (wrap .i64 (n5-1)) true false h70<m n3 n4 n5 false false h1) (T130 l n37 n38 (wrap .i64 (n5-1)) h65 λr57 h71=>I (wrap .i64 (n38+1)) n4 (wrap .i64 (n5-1)) false false h71/\m (wrap .i64 (n38+1)) n4 (wrap .i64 (n5-1)) false false h71<m n3 n4 n5 false false h1)) (par ((wrap .i64 (Int.tdiv (wrap .i64 (n4-n3)) 8))<=(wrap .i64 (n4-n38))) (T130 l (wrap .i64 (n38+1)) n4 (wrap .i64 (n5-1)) h65 λr58 h72=>I n37 n38 (wrap .i64 (n5-1)) true false h72/\m n37 n38 (wrap .i64 (n5-1)) true false h72<m n3 n4 n5 false false h1) (T130 l (wrap .i64 (n38+1)) n4 (wrap .i64 (n5-1)) h65 λr59 h73=>I n37 n38 (wrap .i64 (n5-1)) false false h73/\m n37 n38 (wrap .i64 (n5-1)) false false h73<m n3 n4 n5 false false h1))))/\(par ((0:Int)<n3) (ix l.a (wrap .i64 (n3-1)) l.n λb12 o6=>ldI .u64 h63 b12 (o6+((wrap .i64 (n3-1))).toNat) λn39=>ix l.a n35 l.n λb13 o7=>ldI .u64 h63 b13 (o7+n35.toNat) λn40=>T144 n39 n40 h63 λr60 h74=>retB r60 (J11 n3 h74) (T145 l n3 n4 n35 h74 λr61 h75=>retI .i64 r61 λn41=>I n41 n4 (wrap .i64 (n5-1)) false false h75/\m n41 n4 (wrap .i64 (n5-1)) false false h75<m n3 n4 n5 false false h1)) (J11 n3 h63)))/\(J10 h62))/\(par (n34=2) (T142 l n3 n4 h61 λr62 h76=>J9 (wrap .i64 ((wrap .i64 (n4-1))-(wrap .i64 (n33-n3)))) 1 h76) (J9 n33 n34 h61)))))))
def F130.G(T130:Sl->Int->Int->Int->PT)(l:Sl)(n n1 n2:Int):PT:=F130.B T130 F138.T F139.T F140.T F141.T F142.T F143.T F144.T F145.T F146.T l n n1 n2
def F130.TN:Nat->Sl->Int->Int->Int->PT
 |0=>λ_ _ _ _ _ _=>False
 |n+1=>F130.G (F130.TN n)
def F130.T(l:Sl)(n n1 n2:Int):PT:=λh Q=>∃ nf,F130.TN nf l n n1 n2 h Q
def F130.W(T130:Sl->Int->Int->Int->PT)(args:List Value):PT:=match args with
 |[.slice l_a l_n l_c,.int .i64 n,.int .i64 n1,.int .i64 n2]=>T130 ⟨l_a,l_n,l_c⟩ n n1 n2
 |_=>λ_ _=>False
def F130.V:List Value->PT:=F130.W F130.T
theorem F130.gen(V:Value->List Value->PT)(T130:Sl->Int->Int->Int->PT)(T138:Sl->Int->Int->PT)(T139:Sl->Int->Int->PT)(T140:Sl->Int->Int->PT)(T141:Sl->Int->Int->PT)(T142:Sl->Int->Int->PT)(T143:Sl->Int->Int->PT)(T144:Int->Int->PT)(T145:Sl->Int->Int->Int->PT)(T146:Sl->Int->Int->Int->PT)(l:Sl)(n n1 n2:Int):denF Tryd.prog [] [(130,F130.W T130),(138,F138.W T138),(139,F139.W T139),(140,F140.W T140),(141,F141.W T141),(142,F142.W T142),(143,F143.W T143),(144,F144.W T144),(145,F145.W T145),(146,F146.W T146)] V [(14,.loop [(1,.int .i64),(2,.int .i64),(3,.int .i64),(8,.bool),(9,.bool)] []),(1823,.join [(11,.int .i64),(12,.int .i64)] []),(3647,.join [] []),(7295,.join [(1,.int .i64)] []),(29180,.order [0,1,2,3,4,5,6,7,8,9,10,11,12,13,14])] Tryd.f130 [.v (.slice l.a l.n l.c),.v (.int .i64 n),.v (.int .i64 n1),.v (.int .i64 n2)]=F130.B T130 T138 T139 T140 T141 T142 T143 T144 T145 T146 l n n1 n2:=by kernel_rfl
theorem F130.den(V:Value->List Value->PT)(nf:Nat)(l:Sl)(n n1 n2:Int):denF Tryd.prog [] [(130,F130.W (F130.TN nf)),(138,F138.V),(139,F139.V),(140,F140.V),(141,F141.V),(142,F142.V),(143,F143.V),(144,F144.V),(145,F145.V),(146,F146.V)] V [(14,.loop [(1,.int .i64),(2,.int .i64),(3,.int .i64),(8,.bool),(9,.bool)] []),(1823,.join [(11,.int .i64),(12,.int .i64)] []),(3647,.join [] []),(7295,.join [(1,.int .i64)] []),(29180,.order [0,1,2,3,4,5,6,7,8,9,10,11,12,13,14])] Tryd.f130 [.v (.slice l.a l.n l.c),.v (.int .i64 n),.v (.int .i64 n1),.v (.int .i64 n2)]=F130.TN (nf+1) l n n1 n2:=F130.gen V (F130.TN nf) F138.T F139.T F140.T F141.T F142.T F143.T F144.T F145.T F146.T l n n1 n2
theorem F130.okN:∀ n,FOk Tryd.prog 130 (F130.W (F130.TN n))
 |0=>by
  refine⟨⟨_,Tryd.func130,rfl,rfl⟩,λargs=>?_⟩
  unfold F130.W
  split
  ·exact λh Q hq=>hq.elim
  ·exact λh Q hq=>hq.elim
 |nf+1=>by
  refine⟨⟨_,Tryd.func130,rfl,rfl⟩,λargs=>?_⟩
  have hG:GOk Tryd.prog [(130,F130.W (F130.TN nf)),(138,F138.V),(139,F139.V),(140,F140.V),(141,F141.V),(142,F142.V),(143,F143.V),(144,F144.V),(145,F145.V),(146,F146.V)]:=GOk.cons (F130.okN nf) (GOk.cons F138.ok (GOk.cons F139.ok (GOk.cons F140.ok (GOk.cons F141.ok (GOk.cons F142.ok (GOk.cons F143.ok (GOk.cons F144.ok (GOk.cons F145.ok (GOk.cons F146.ok (GOk.nil))))))))))
  have hV:VOk Tryd.prog noV:=noV_ok
  unfold F130.W
  split
  ·exact denF_okV hG hV Tryd.func130 (λh Q hq=>(F130.den _ nf _ _ _ _) ▸ hq)
  ·exact λh Q hq=>hq.elim
theorem F130.ok:FOk Tryd.prog 130 F130.V:=by
 refine⟨(F130.okN 0).1,λargs h Q hq=>?_⟩
 unfold F130.V F130.W at hq
 split at hq
 ·obtain⟨nf,hn⟩:=hq
  exact(F130.okN nf).2 _ h Q hn
 ·exact hq.elim
@[reducible] def F112.G(T130:Sl->Int->Int->Int->PT)(T131:Int->PT)(l:Sl):PT:=λh Q=>
 T131 (wrap .u64 (l.n:Int)) h λr h1=>retI .i64 r λn=>T130 l 0 (l.n:Int) n h1 λr1 h2=>Q (.tuple ⟨[]⟩) h2
def F112.T:=F112.G F130.T F131.T
theorem F112.gen(V T130 T131 l):denF Tryd.prog [] [(130,F130.W T130),(131,F131.W T131)] V [] Tryd.f112 [.v (.slice l.a l.n l.c)]=F112.G T130 T131 l:=by kernel_rfl
def F112.W(T112:Sl->PT)(args:List Value):PT:=match args with
 |[.slice l_a l_n l_c]=>T112 ⟨l_a,l_n,l_c⟩
 |_=>λ_ _=>False
def F112.V:List Value->PT:=F112.W F112.T
theorem F112.ok:FOk Tryd.prog 112 F112.V:=by
 refine⟨⟨_,Tryd.func112,rfl,rfl⟩,λ_=>?_⟩;unfold F112.V F112.W;split;exact denF_okE (GOk.cons F130.ok (GOk.cons F131.ok (GOk.nil))) noV_ok Tryd.func112 (F112.gen noV F130.T F131.T ⟨_,_,_⟩);exact λ_ _ h=>h.elim
end Go.Eng.YtblghgacokoklaaDoor
end
section
open Go.Proofs
namespace Go.Eng.YtblghgacokoklaaDoor
def cmpI(a b:ByteArray):Int:=Go.Lib.compareBytes a.data.toList b.data.toList
def F137.T(s s1:ByteArray):PT:=λh Q=>Q (.int .i64 (cmpI s s1)) h
def F137.W(T90:ByteArray->ByteArray->PT)(args:List Value):PT:=match args with
 |[.string s,.string s1]=>T90 s s1
 |_=>λ_ _=>False
def F137.V:List Value->PT:=F137.W F137.T
theorem F137.fd:Extern.findNext Tryd.f137=none:=by kernel_rfl
theorem F137.fx:Extern.find Tryd.f137=some Extern.BytealgCompare.compare:=by kernel_rfl
theorem F137.ok:ExtOk Tryd.prog 137 F137.V:=by
 intro args h Q hq w
 unfold F137.V F137.W at hq
 split at hq
 ·refine⟨_,?_,hq⟩
  unfold callFunc
  simp only[Sem.run_bind,run_program,Result.andThen_ok,Tryd.func137]
  have h1 : (Tryd.f137.name == "runtime.NumGoroutine") = false := by kernel_rfl
  have h2:Tryd.f137.body.isNone=true:=by kernel_rfl
  simp only[h1,Bool.false_eq_true,if_false,h2,if_true,F137.fd,F137.fx,Sem.run_bind]
  have hm:(mark (.extern 137)).run Tryd.prog w=.ok () w:=rfl
  simp only[hm,Go.Lib.run_compareString,Result.andThen_ok,Sem.run_pure]
  rfl
 ·exact hq.elim
end Go.Eng.YtblghgacokoklaaDoor
end
section
open Go.Proofs
namespace Go.Eng.YtblghgacokoklaaDoor
def F156.T(l:Sl)(n n1 n2:Int):PT:=λh Q=>
 ∃ (I:Int->Hp->Prop) (m:Int->Hp->Nat),I 0 h/\(∀ n3:Int,∀ h1:Hp,I n3 h1->par (n3<n2) (∃ b o,(l.a:Option Addr)=some ⟨b,o,none⟩/\((0:Int)<=(wrap .i64 (n1+n3))/\(wrap .i64 (n1+n3))<(l.n:Int))/\∃ n4:Int,h1.at b (o+((wrap .i64 (n1+n3))).toNat*6)=some (.int .u64 n4)/\∃ n5:Int,h1.at b ((o+((wrap .i64 (n1+n3))).toNat*6)+1)=some (.int .i64 n5)/\∃ n6:Int,h1.at b ((o+((wrap .i64 (n1+n3))).toNat*6)+2)=some (.int .i64 n6)/\∃ n7:Int,h1.at b ((o+((wrap .i64 (n1+n3))).toNat*6)+3)=some (.int .i64 n7)/\∃ s:ByteArray,h1.at b ((o+((wrap .i64 (n1+n3))).toNat*6)+4)=some (.string s)/\∃ s1:ByteArray,h1.at b ((o+((wrap .i64 (n1+n3))).toNat*6)+5)=some (.string s1)/\∃ b1 o1,(l.a:Option Addr)=some ⟨b1,o1,none⟩/\((0:Int)<=(wrap .i64 (n+n3))/\(wrap .i64 (n+n3))<(l.n:Int))/\∃ n8:Int,h1.at b1 (o1+((wrap .i64 (n+n3))).toNat*6)=some (.int .u64 n8)/\∃ n9:Int,h1.at b1 ((o1+((wrap .i64 (n+n3))).toNat*6)+1)=some (.int .i64 n9)/\∃ n10:Int,h1.at b1 ((o1+((wrap .i64 (n+n3))).toNat*6)+2)=some (.int .i64 n10)/\∃ n11:Int,h1.at b1 ((o1+((wrap .i64 (n+n3))).toNat*6)+3)=some (.int .i64 n11)/\∃ s2:ByteArray,h1.at b1 ((o1+((wrap .i64 (n+n3))).toNat*6)+4)=some (.string s2)/\∃ s3:ByteArray,h1.at b1 ((o1+((wrap .i64 (n+n3))).toNat*6)+5)=some (.string s3)/\∃ b2 o2,(l.a:Option Addr)=some ⟨b2,o2,none⟩/\((0:Int)<=(wrap .i64 (n+n3))/\(wrap .i64 (n+n3))<(l.n:Int))/\h1.canW b2 (o2+((wrap .i64 (n+n3))).toNat*6) 6/\∃ b3 o3,(l.a:Option Addr)=some ⟨b3,o3,none⟩/\((0:Int)<=(wrap .i64 (n1+n3))/\(wrap .i64 (n1+n3))<(l.n:Int))/\(h1.wr b2 (o2+((wrap .i64 (n+n3))).toNat*6) [.int .u64 n4,.int .i64 n5,.int .i64 n6,.int .i64 n7,.string s,.string s1]).canW b3 (o3+((wrap .i64 (n1+n3))).toNat*6) 6/\I (wrap .i64 (n3+1)) ((h1.wr b2 (o2+((wrap .i64 (n+n3))).toNat*6) [.int .u64 n4,.int .i64 n5,.int .i64 n6,.int .i64 n7,.string s,.string s1]).wr b3 (o3+((wrap .i64 (n1+n3))).toNat*6) [.int .u64 n8,.int .i64 n9,.int .i64 n10,.int .i64 n11,.string s2,.string s3])/\m (wrap .i64 (n3+1)) ((h1.wr b2 (o2+((wrap .i64 (n+n3))).toNat*6) [.int .u64 n4,.int .i64 n5,.int .i64 n6,.int .i64 n7,.string s,.string s1]).wr b3 (o3+((wrap .i64 (n1+n3))).toNat*6) [.int .u64 n8,.int .i64 n9,.int .i64 n10,.int .i64 n11,.string s2,.string s3])<m n3 h1) (Q (.tuple ⟨[]⟩) h1))
theorem F156.den(V l n n1 n2):denF Tryd.prog [] [] V [(6,.loop [(10,.int .i64)] []),(100,.order [0,1,2,3,4,5,6,7,8,9,10,11,12,13,14,15,16,17,18,19,20,21,22,23])] Tryd.f156 [.v (.slice l.a l.n l.c),.v (.int .i64 n),.v (.int .i64 n1),.v (.int .i64 n2),.v (.func (.func 110) ⟨[]⟩ ⟨[]⟩)]=F156.T l n n1 n2:=by kernel_rfl
def F156.W(T156:Sl->Int->Int->Int->PT)(args:List Value):PT:=match args with
 |[.slice l_a l_n l_c,.int .i64 n,.int .i64 n1,.int .i64 n2,.func (.func 110) ⟨[]⟩ ⟨[]⟩]=>T156 ⟨l_a,l_n,l_c⟩ n n1 n2
 |_=>λ_ _=>False
def F156.V:List Value->PT:=F156.W F156.T
theorem F156.ok:FOk Tryd.prog 156 F156.V:=by
 refine⟨⟨_,Tryd.func156,rfl,rfl⟩,λ_=>?_⟩;unfold F156.V F156.W;split;exact denF_okE (GOk.nil) noV_ok Tryd.func156 (F156.den noV ⟨_,_,_⟩ _ _ _);exact λ_ _ h=>h.elim
@[reducible] def F149.G(T156:Sl->Int->Int->Int->PT)(l:Sl)(n n1 n2:Int):PT:=λh Q=>
 ∃ (I:Int->Int->Hp->Prop) (m:Int->Int->Hp->Nat),I (wrap .i64 (n1-n)) (wrap .i64 (n2-n1)) h/\(∀ n3 n4:Int,∀ h1:Hp,I n3 n4 h1->par (n3=n4) (T156 l (wrap .i64 (n1-n3)) n1 n3 h1 λr h2=>Q (.tuple ⟨[]⟩) h2) (par (n4<n3) (T156 l (wrap .i64 (n1-n3)) n1 n4 h1 λr1 h3=>I (wrap .i64 (n3-n4)) n4 h3/\m (wrap .i64 (n3-n4)) n4 h3<m n3 n4 h1) (T156 l (wrap .i64 (n1-n3)) (wrap .i64 ((wrap .i64 (n1+n4))-n3)) n3 h1 λr2 h4=>I n3 (wrap .i64 (n4-n3)) h4/\m n3 (wrap .i64 (n4-n3)) h4<m n3 n4 h1)))
def F149.T:=F149.G F156.T
theorem F149.gen(V T156 l n n1 n2):denF Tryd.prog [] [(156,F156.W T156)] V [(28,.loop [(10,.int .i64),(11,.int .i64)] [])] Tryd.f149 [.v (.slice l.a l.n l.c),.v (.int .i64 n),.v (.int .i64 n1),.v (.int .i64 n2),.v (.func (.func 110) ⟨[]⟩ ⟨[]⟩)]=F149.G T156 l n n1 n2:=by kernel_rfl
def F149.W(T149:Sl->Int->Int->Int->PT)(args:List Value):PT:=match args with
 |[.slice l_a l_n l_c,.int .i64 n,.int .i64 n1,.int .i64 n2,.func (.func 110) ⟨[]⟩ ⟨[]⟩]=>T149 ⟨l_a,l_n,l_c⟩ n n1 n2
 |_=>λ_ _=>False
def F149.V:List Value->PT:=F149.W F149.T
theorem F149.ok:FOk Tryd.prog 149 F149.V:=by
 refine⟨⟨_,Tryd.func149,rfl,rfl⟩,λ_=>?_⟩;unfold F149.V F149.W;split;exact denF_okE (GOk.cons F156.ok (GOk.nil)) noV_ok Tryd.func149 (F149.gen noV F156.T ⟨_,_,_⟩ _ _ _);exact λ_ _ h=>h.elim
@[reducible] def F129.G(T137:ByteArray->ByteArray->PT)(s s1:ByteArray):PT:=λh Q=>
 T137 s s1 h λr h1=>∃ n:Int,r=.int .i64 n/\Q (.int .i64 n) h1
def F129.T:=F129.G F137.T
theorem F129.gen(V T137 s s1):denF Tryd.prog [] [(137,F137.W T137)] V [] Tryd.f129 [.v (.string s),.v (.string s1)]=F129.G T137 s s1:=by kernel_rfl
def F129.W(T129:ByteArray->ByteArray->PT)(args:List Value):PT:=match args with
 |[.string s,.string s1]=>T129 s s1
 |_=>λ_ _=>False
def F129.V:List Value->PT:=F129.W F129.T
theorem F129.ok:FOk Tryd.prog 129 F129.V:=by
 refine⟨⟨_,Tryd.func129,rfl,rfl⟩,λ_=>?_⟩;unfold F129.V F129.W;split;exact denF_okE (GOk.consX F137.ok (GOk.nil)) noV_ok Tryd.func129 (F129.gen noV F137.T _ _);exact λ_ _ h=>h.elim
@[reducible] def F111.G(T129:ByteArray->ByteArray->PT)(s s1:ByteArray):PT:=λh Q=>
 T129 s s1 h λr h1=>∃ n:Int,r=.int .i64 n/\Q (.int .i64 n) h1
def F111.T:=F111.G F129.T
theorem F111.gen(V T129 s s1):denF Tryd.prog [] [(129,F129.W T129)] V [] Tryd.f111 [.v (.string s),.v (.string s1)]=F111.G T129 s s1:=by kernel_rfl
def F111.W(T111:ByteArray->ByteArray->PT)(args:List Value):PT:=match args with
 |[.string s,.string s1]=>T111 s s1
 |_=>λ_ _=>False
def F111.V:List Value->PT:=F111.W F111.T
theorem F111.ok:FOk Tryd.prog 111 F111.V:=by
 refine⟨⟨_,Tryd.func111,rfl,rfl⟩,λ_=>?_⟩;unfold F111.V F111.W;split;exact denF_okE (GOk.cons F129.ok (GOk.nil)) noV_ok Tryd.func111 (F111.gen noV F129.T _ _);exact λ_ _ h=>h.elim
@[reducible] def F110.G(T111:ByteArray->ByteArray->PT)(n n1 n2 n3:Int)(s s1:ByteArray)(n4 n5 n6 n7:Int)(s2 s3:ByteArray):PT:=λh Q=>
 T111 s s2 h λr h1=>∃ n8:Int,r=.int .i64 n8/\Q (.int .i64 n8) h1
def F110.T:=F110.G F111.T
theorem F110.gen(V T111 n n1 n2 n3 s s1 n4 n5 n6 n7 s2 s3):denF Tryd.prog [2,3] [(111,F111.W T111)] V [] Tryd.f110 [.v (.agg ⟨[.int .u64 n,.int .i64 n1,.int .i64 n2,.int .i64 n3,.string s,.string s1]⟩),.v (.agg ⟨[.int .u64 n4,.int .i64 n5,.int .i64 n6,.int .i64 n7,.string s2,.string s3]⟩)]=F110.G T111 n n1 n2 n3 s s1 n4 n5 n6 n7 s2 s3:=by kernel_rfl
def F110.W(T110:Int->Int->Int->Int->ByteArray->ByteArray->Int->Int->Int->Int->ByteArray->ByteArray->PT)(args:List Value):PT:=match args with
 |[.agg ⟨[.int .u64 n,.int .i64 n1,.int .i64 n2,.int .i64 n3,.string s,.string s1]⟩,.agg ⟨[.int .u64 n4,.int .i64 n5,.int .i64 n6,.int .i64 n7,.string s2,.string s3]⟩]=>T110 n n1 n2 n3 s s1 n4 n5 n6 n7 s2 s3
 |_=>λ_ _=>False
def F110.V:List Value->PT:=F110.W F110.T
theorem F110.ok:FOk Tryd.prog 110 F110.V:=by
 refine⟨⟨_,Tryd.func110,rfl,rfl⟩,λ_=>?_⟩;unfold F110.V F110.W;split;exact denF_okE (GOk.cons F111.ok (GOk.nil)) noV_ok Tryd.func110 (F110.gen noV F111.T _ _ _ _ _ _ _ _ _ _ _ _);exact λ_ _ h=>h.elim
@[reducible] def F135.G(T110:Int->Int->Int->Int->ByteArray->ByteArray->Int->Int->Int->Int->ByteArray->ByteArray->PT)(l:Sl)(n n1:Int):PT:=λh Q=>
 ∃ (I:Int->Hp->Prop) (m:Int->Hp->Nat),I (wrap .i64 (n+1)) h/\(∀ n2:Int,∀ h1:Hp,I n2 h1->par (n2<n1) (∃ (I1:Int->Hp->Prop) (m1:Int->Hp->Nat),I1 n2 h1/\(∀ n3:Int,∀ h2:Hp,I1 n3 h2->par (n<n3) (∃ b o,(l.a:Option Addr)=some ⟨b,o,none⟩/\((0:Int)<=n3/\n3<(l.n:Int))/\∃ n4:Int,h2.at b (o+n3.toNat*6)=some (.int .u64 n4)/\∃ n5:Int,h2.at b ((o+n3.toNat*6)+1)=some (.int .i64 n5)/\∃ n6:Int,h2.at b ((o+n3.toNat*6)+2)=some (.int .i64 n6)/\∃ n7:Int,h2.at b ((o+n3.toNat*6)+3)=some (.int .i64 n7)/\∃ s:ByteArray,h2.at b ((o+n3.toNat*6)+4)=some (.string s)/\∃ s1:ByteArray,h2.at b ((o+n3.toNat*6)+5)=some (.string s1)/\∃ b1 o1,(l.a:Option Addr)=some ⟨b1,o1,none⟩/\((0:Int)<=(wrap .i64 (n3-1))/\(wrap .i64 (n3-1))<(l.n:Int))/\∃ n8:Int,h2.at b1 (o1+((wrap .i64 (n3-1))).toNat*6)=some (.int .u64 n8)/\∃ n9:Int,h2.at b1 ((o1+((wrap .i64 (n3-1))).toNat*6)+1)=some (.int .i64 n9)/\∃ n10:Int,h2.at b1 ((o1+((wrap .i64 (n3-1))).toNat*6)+2)=some (.int .i64 n10)/\∃ n11:Int,h2.at b1 ((o1+((wrap .i64 (n3-1))).toNat*6)+3)=some (.int .i64 n11)/\∃ s2:ByteArray,h2.at b1 ((o1+((wrap .i64 (n3-1))).toNat*6)+4)=some (.string s2)/\∃ s3:ByteArray,h2.at b1 ((o1+((wrap .i64 (n3-1))).toNat*6)+5)=some (.string s3)/\T110 n4 n5 n6 n7 s s1 n8 n9 n10 n11 s2 s3 h2 λr h3=>∃ n12:Int,r=.int .i64 n12/\par (n12<0) (∃ b2 o2,(l.a:Option Addr)=some ⟨b2,o2,none⟩/\((0:Int)<=(wrap .i64 (n3-1))/\(wrap .i64 (n3-1))<(l.n:Int))/\∃ n13:Int,h3.at b2 (o2+((wrap .i64 (n3-1))).toNat*6)=some (.int .u64 n13)/\∃ n14:Int,h3.at b2 ((o2+((wrap .i64 (n3-1))).toNat*6)+1)=some (.int .i64 n14)/\∃ n15:Int,h3.at b2 ((o2+((wrap .i64 (n3-1))).toNat*6)+2)=some (.int .i64 n15)/\∃ n16:Int,h3.at b2 ((o2+((wrap .i64 (n3-1))).toNat*6)+3)=some (.int .i64 n16)/\∃ s4:ByteArray,h3.at b2 ((o2+((wrap .i64 (n3-1))).toNat*6)+4)=some (.string s4)/\∃ s5:ByteArray,h3.at b2 ((o2+((wrap .i64 (n3-1))).toNat*6)+5)=some (.string s5)/\∃ b3 o3,(l.a:Option Addr)=some ⟨b3,o3,none⟩/\((0:Int)<=n3/\n3<(l.n:Int))/\∃ n17:Int,h3.at b3 (o3+n3.toNat*6)=some (.int .u64 n17)/\∃ n18:Int,h3.at b3 ((o3+n3.toNat*6)+1)=some (.int .i64 n18)/\∃ n19:Int,h3.at b3 ((o3+n3.toNat*6)+2)=some (.int .i64 n19)/\∃ n20:Int,h3.at b3 ((o3+n3.toNat*6)+3)=some (.int .i64 n20)/\∃ s6:ByteArray,h3.at b3 ((o3+n3.toNat*6)+4)=some (.string s6)/\∃ s7:ByteArray,h3.at b3 ((o3+n3.toNat*6)+5)=some (.string s7)/\∃ b4 o4,(l.a:Option Addr)=some ⟨b4,o4,none⟩/\((0:Int)<=n3/\n3<(l.n:Int))/\h3.canW b4 (o4+n3.toNat*6) 6/\∃ b5 o5,(l.a:Option Addr)=some ⟨b5,o5,none⟩/\((0:Int)<=(wrap .i64 (n3-1))/\(wrap .i64 (n3-1))<(l.n:Int))/\(h3.wr b4 (o4+n3.toNat*6) [.int .u64 n13,.int .i64 n14,.int .i64 n15,.int .i64 n16,.string s4,.string s5]).canW b5 (o5+((wrap .i64 (n3-1))).toNat*6) 6/\I1 (wrap .i64 (n3-1)) ((h3.wr b4 (o4+n3.toNat*6) [.int .u64 n13,.int .i64 n14,.int .i64 n15,.int .i64 n16,.string s4,.string s5]).wr b5 (o5+((wrap .i64 (n3-1))).toNat*6) [.int .u64 n17,.int .i64 n18,.int .i64 n19,.int .i64 n20,.string s6,.string s7])/\m1 (wrap .i64 (n3-1)) ((h3.wr b4 (o4+n3.toNat*6) [.int .u64 n13,.int .i64 n14,.int .i64 n15,.int .i64 n16,.string s4,.string s5]).wr b5 (o5+((wrap .i64 (n3-1))).toNat*6) [.int .u64 n17,.int .i64 n18,.int .i64 n19,.int .i64 n20,.string s6,.string s7])<m1 n3 h2) (I (wrap .i64 (n2+1)) h3/\m (wrap .i64 (n2+1)) h3<m n2 h1)) (I (wrap .i64 (n2+1)) h2/\m (wrap .i64 (n2+1)) h2<m n2 h1))) (Q (.tuple ⟨[]⟩) h1))
def F135.T:=F135.G F110.T
theorem F135.gen(V T110 l n n1):denF Tryd.prog [] [(110,F110.W T110)] V [(6,.loop [(8,.int .i64)] []),(402,.loop [(9,.int .i64)] []),(3216,.order [0,1,2,3,4,5,6,7,8,9,10,11,12,13,14,15,16]),(6436,.order [0,1,2,3,4,5,6,7,8,9,10,11,12,13,14,15,16,17])] Tryd.f135 [.v (.slice l.a l.n l.c),.v (.int .i64 n),.v (.int .i64 n1),.v (.func (.func 110) ⟨[]⟩ ⟨[]⟩)]=F135.G T110 l n n1:=by kernel_rfl
def F135.W(T135:Sl->Int->Int->PT)(args:List Value):PT:=match args with
 |[.slice l_a l_n l_c,.int .i64 n,.int .i64 n1,.func (.func 110) ⟨[]⟩ ⟨[]⟩]=>T135 ⟨l_a,l_n,l_c⟩ n n1
 |_=>λ_ _=>False
def F135.V:List Value->PT:=F135.W F135.T
theorem F135.ok:FOk Tryd.prog 135 F135.V:=by
 refine⟨⟨_,Tryd.func135,rfl,rfl⟩,λ_=>?_⟩;unfold F135.V F135.W;split;exact denF_okE (GOk.cons F110.ok (GOk.nil)) noV_ok Tryd.func135 (F135.gen noV F110.T ⟨_,_,_⟩ _ _);exact λ_ _ h=>h.elim
@[reducible] def F136.B(T110:Int->Int->Int->Int->ByteArray->ByteArray->Int->Int->Int->Int->ByteArray->ByteArray->PT)(T136:Sl->Int->Int->Int->PT)(T149:Sl->Int->Int->Int->PT)(l:Sl)(n:Int)(n1:Int)(n2:Int):PT:=λh Q=>
 par ((wrap .i64 (n1-n))=1) (∃ (I:Int->Int->Hp->Prop) (m:Int->Int->Hp->Nat),I n1 n2 h/\(∀ n3 n4:Int,∀ h1:Hp,I n3 n4 h1->par (n3<n4) ((0:Int)<=1/\∃ b o,(l.a:Option Addr)=some ⟨b,o,none⟩/\((0:Int)<=(wrap .i64 (shrI .u64 (wrap .u64 (wrap .i64 (n3+n4))) 1))/\(wrap .i64 (shrI .u64 (wrap .u64 (wrap .i64 (n3+n4))) 1))<(l.n:Int))/\∃ n5:Int,h1.at b (o+((wrap .i64 (shrI .u64 (wrap .u64 (wrap .i64 (n3+n4))) 1))).toNat*6)=some (.int .u64 n5)/\∃ n6:Int,h1.at b ((o+((wrap .i64 (shrI .u64 (wrap .u64 (wrap .i64 (n3+n4))) 1))).toNat*6)+1)=some (.int .i64 n6)/\∃ n7:Int,h1.at b ((o+((wrap .i64 (shrI .u64 (wrap .u64 (wrap .i64 (n3+n4))) 1))).toNat*6)+2)=some (.int .i64 n7)/\∃ n8:Int,h1.at b ((o+((wrap .i64 (shrI .u64 (wrap .u64 (wrap .i64 (n3+n4))) 1))).toNat*6)+3)=some (.int .i64 n8)/\∃ s:ByteArray,h1.at b ((o+((wrap .i64 (shrI .u64 (wrap .u64 (wrap .i64 (n3+n4))) 1))).toNat*6)+4)=some (.string s)/\∃ s1:ByteArray,h1.at b ((o+((wrap .i64 (shrI .u64 (wrap .u64 (wrap .i64 (n3+n4))) 1))).toNat*6)+5)=some (.string s1)/\∃ b1 o1,(l.a:Option Addr)=some ⟨b1,o1,none⟩/\((0:Int)<=n/\n<(l.n:Int))/\∃ n9:Int,h1.at b1 (o1+n.toNat*6)=some (.int .u64 n9)/\∃ n10:Int,h1.at b1 ((o1+n.toNat*6)+1)=some (.int .i64 n10)/\∃ n11:Int,h1.at b1 ((o1+n.toNat*6)+2)=some (.int .i64 n11)/\∃ n12:Int,h1.at b1 ((o1+n.toNat*6)+3)=some (.int .i64 n12)/\∃ s2:ByteArray,h1.at b1 ((o1+n.toNat*6)+4)=some (.string s2)/\∃ s3:ByteArray,h1.at b1 ((o1+n.toNat*6)+5)=some (.string s3)/\T110 n5 n6 n7 n8 s s1 n9 n10 n11 n12 s2 s3 h1 λr h2=>∃ n13:Int,r=.int .i64 n13/\par (n13<0) (I (wrap .i64 ((wrap .i64 (shrI .u64 (wrap .u64 (wrap .i64 (n3+n4))) 1))+1)) n4 h2/\m (wrap .i64 ((wrap .i64 (shrI .u64 (wrap .u64 (wrap .i64 (n3+n4))) 1))+1)) n4 h2<m n3 n4 h1) (I n3 (wrap .i64 (shrI .u64 (wrap .u64 (wrap .i64 (n3+n4))) 1)) h2/\m n3 (wrap .i64 (shrI .u64 (wrap .u64 (wrap .i64 (n3+n4))) 1)) h2<m n3 n4 h1)) (∃ (I1:Int->Hp->Prop) (m1:Int->Hp->Nat),I1 n h1/\(∀ n14:Int,∀ h3:Hp,I1 n14 h3->par (n14<(wrap .i64 (n3-1))) (∃ b2 o2,(l.a:Option Addr)=some ⟨b2,o2,none⟩/\((0:Int)<=(wrap .i64 (n14+1))/\(wrap .i64 (n14+1))<(l.n:Int))/\∃ n15:Int,h3.at b2 (o2+((wrap .i64 (n14+1))).toNat*6)=some (.int .u64 n15)/\∃ n16:Int,h3.at b2 ((o2+((wrap .i64 (n14+1))).toNat*6)+1)=some (.int .i64 n16)/\∃ n17:Int,h3.at b2 ((o2+((wrap .i64 (n14+1))).toNat*6)+2)=some (.int .i64 n17)/\∃ n18:Int,h3.at b2 ((o2+((wrap .i64 (n14+1))).toNat*6)+3)=some (.int .i64 n18)/\∃ s4:ByteArray,h3.at b2 ((o2+((wrap .i64 (n14+1))).toNat*6)+4)=some (.string s4)/\∃ s5:ByteArray,h3.at b2 ((o2+((wrap .i64 (n14+1))).toNat*6)+5)=some (.string s5)/\∃ b3 o3,(l.a:Option Addr)=some ⟨b3,o3,none⟩/\((0:Int)<=n14/\n14<(l.n:Int))/\∃ n19:Int,h3.at b3 (o3+n14.toNat*6)=some (.int .u64 n19)/\∃ n20:Int,h3.at b3 ((o3+n14.toNat*6)+1)=some (.int .i64 n20)/\∃ n21:Int,h3.at b3 ((o3+n14.toNat*6)+2)=some (.int .i64 n21)/\∃ n22:Int,h3.at b3 ((o3+n14.toNat*6)+3)=some (.int .i64 n22)/\∃ s6:ByteArray,h3.at b3 ((o3+n14.toNat*6)+4)=some (.string s6)/\∃ s7:ByteArray,h3.at b3 ((o3+n14.toNat*6)+5)=some (.string s7)/\∃ b4 o4,(l.a:Option Addr)=some ⟨b4,o4,none⟩/\((0:Int)<=n14/\n14<(l.n:Int))/\h3.canW b4 (o4+n14.toNat*6) 6/\∃ b5 o5,(l.a:Option Addr)=some ⟨b5,o5,none⟩/\((0:Int)<=(wrap .i64 (n14+1))/\(wrap .i64 (n14+1))<(l.n:Int))/\(h3.wr b4 (o4+n14.toNat*6) [.int .u64 n15,.int .i64 n16,.int .i64 n17,.int .i64 n18,.string s4,.string s5]).canW b5 (o5+((wrap .i64 (n14+1))).toNat*6) 6/\I1 (wrap .i64 (n14+1)) ((h3.wr b4 (o4+n14.toNat*6) [.int .u64 n15,.int .i64 n16,.int .i64 n17,.int .i64 n18,.string s4,.string s5]).wr b5 (o5+((wrap .i64 (n14+1))).toNat*6) [.int .u64 n19,.int .i64 n20,.int .i64 n21,.int .i64 n22,.string s6,.string s7])/\m1 (wrap .i64 (n14+1)) ((h3.wr b4 (o4+n14.toNat*6) [.int .u64 n15,.int .i64 n16,.int .i64 n17,.int .i64 n18,.string s4,.string s5]).wr b5 (o5+((wrap .i64 (n14+1))).toNat*6) [.int .u64 n19,.int .i64 n20,.int .i64 n21,.int .i64 n22,.string s6,.string s7])<m1 n14 h3) (Q (.tuple ⟨[]⟩) h3))))) (par ((wrap .i64 (n2-n1))=1) (∃ (I2:Int->Int->Hp->Prop) (m2:Int->Int->Hp->Nat),I2 n n1 h/\(∀ n23 n24:Int,∀ h4:Hp,I2 n23 n24 h4->par (n23<n24) ((0:Int)<=1/\∃ b6 o6,(l.a:Option Addr)=some ⟨b6,o6,none⟩/\((0:Int)<=n1/\n1<(l.n:Int))/\∃ n25:Int,h4.at b6 (o6+n1.toNat*6)=some (.int .u64 n25)/\∃ n26:Int,h4.at b6 ((o6+n1.toNat*6)+1)=some (.int .i64 n26)/\∃ n27:Int,h4.at b6 ((o6+n1.toNat*6)+2)=some (.int .i64 n27)/\∃ n28:Int,h4.at b6 ((o6+n1.toNat*6)+3)=some (.int .i64 n28)/\∃ s8:ByteArray,h4.at b6 ((o6+n1.toNat*6)+4)=some (.string s8)/\∃ s9:ByteArray,h4.at b6 ((o6+n1.toNat*6)+5)=some (.string s9)/\∃ b7 o7,(l.a:Option Addr)=some ⟨b7,o7,none⟩/\((0:Int)<=(wrap .i64 (shrI .u64 (wrap .u64 (wrap .i64 (n23+n24))) 1))/\(wrap .i64 (shrI .u64 (wrap .u64 (wrap .i64 (n23+n24))) 1))<(l.n:Int))/\∃ n29:Int,h4.at b7 (o7+((wrap .i64 (shrI .u64 (wrap .u64 (wrap .i64 (n23+n24))) 1))).toNat*6)=some (.int .u64 n29)/\∃ n30:Int,h4.at b7 ((o7+((wrap .i64 (shrI .u64 (wrap .u64 (wrap .i64 (n23+n24))) 1))).toNat*6)+1)=some (.int .i64 n30)/\∃ n31:Int,h4.at b7 ((o7+((wrap .i64 (shrI .u64 (wrap .u64 (wrap .i64 (n23+n24))) 1))).toNat*6)+2)=some (.int .i64 n31)/\∃ n32:Int,h4.at b7 ((o7+((wrap .i64 (shrI .u64 (wrap .u64 (wrap .i64 (n23+n24))) 1))).toNat*6)+3)=some (.int .i64 n32)/\∃ s10:ByteArray,h4.at b7 ((o7+((wrap .i64 (shrI .u64 (wrap .u64 (wrap .i64 (n23+n24))) 1))).toNat*6)+4)=some (.string s10)/\∃ s11:ByteArray,h4.at b7 ((o7+((wrap .i64 (shrI .u64 (wrap .u64 (wrap .i64 (n23+n24))) 1))).toNat*6)+5)=some (.string s11)/\T110 n25 n26 n27 n28 s8 s9 n29 n30 n31 n32 s10 s11 h4 λr1 h5=>∃ n33:Int,r1=.int .i64 n33/\par (n33<0) (I2 n23 (wrap .i64 (shrI .u64 (wrap .u64 (wrap .i64 (n23+n24))) 1)) h5/\m2 n23 (wrap .i64 (shrI .u64 (wrap .u64 (wrap .i64 (n23+n24))) 1)) h5<m2 n23 n24 h4) (I2 (wrap .i64 ((wrap .i64 (shrI .u64 (wrap .u64 (wrap .i64 (n23+n24))) 1))+1)) n24 h5/\m2 (wrap .i64 ((wrap .i64 (shrI .u64 (wrap .u64 (wrap .i64 (n23+n24))) 1))+1)) n24 h5<m2 n23 n24 h4)) (∃ (I3:Int->Hp->Prop) (m3:Int->Hp->Nat),I3 n1 h4/\(∀ n34:Int,∀ h6:Hp,I3 n34 h6->par (n23<n34) (∃ b8 o8,(l.a:Option Addr)=some ⟨b8,o8,none⟩/\((0:Int)<=(wrap .i64 (n34-1))/\(wrap .i64 (n34-1))<(l.n:Int))/\∃ n35:Int,h6.at b8 (o8+((wrap .i64 (n34-1))).toNat*6)=some (.int .u64 n35)/\∃ n36:Int,h6.at b8 ((o8+((wrap .i64 (n34-1))).toNat*6)+1)=some (.int .i64 n36)/\∃ n37:Int,h6.at b8 ((o8+((wrap .i64 (n34-1))).toNat*6)+2)=some (.int .i64 n37)/\∃ n38:Int,h6.at b8 ((o8+((wrap .i64 (n34-1))).toNat*6)+3)=some (.int .i64 n38)/\∃ s12:ByteArray,h6.at b8 ((o8+((wrap .i64 (n34-1))).toNat*6)+4)=some (.string s12)/\∃ s13:ByteArray,h6.at b8 ((o8+((wrap .i64 (n34-1))).toNat*6)+5)=some (.string s13)/\∃ b9 o9,(l.a:Option Addr)=some ⟨b9,o9,none⟩/\((0:Int)<=n34/\n34<(l.n:Int))/\∃ n39:Int,h6.at b9 (o9+n34.toNat*6)=some (.int .u64 n39)/\∃ n40:Int,h6.at b9 ((o9+n34.toNat*6)+1)=some (.int .i64 n40)/\∃ n41:Int,h6.at b9 ((o9+n34.toNat*6)+2)=some (.int .i64 n41)/\∃ n42:Int,h6.at b9 ((o9+n34.toNat*6)+3)=some (.int .i64 n42)/\∃ s14:ByteArray,h6.at b9 ((o9+n34.toNat*6)+4)=some (.string s14)/\∃ s15:ByteArray,h6.at b9 ((o9+n34.toNat*6)+5)=some (.string s15)/\∃ b10 o10,(l.a:Option Addr)=some ⟨b10,o10,none⟩/\((0:Int)<=n34/\n34<(l.n:Int))/\h6.canW b10 (o10+n34.toNat*6) 6/\∃ b11 o11,(l.a:Option Addr)=some ⟨b11,o11,none⟩/\((0:Int)<=(wrap .i64 (n34-1))/\(wrap .i64 (n34-1))<(l.n:Int))/\(h6.wr b10 (o10+n34.toNat*6) [.int .u64 n35,.int .i64 n36,.int .i64 n37,.int .i64 n38,.string s12,.string s13]).canW b11 (o11+((wrap .i64 (n34-1))).toNat*6) 6/\I3 (wrap .i64 (n34-1)) ((h6.wr b10 (o10+n34.toNat*6) [.int .u64 n35,.int .i64 n36,.int .i64 n37,.int .i64 n38,.string s12,.string s13]).wr b11 (o11+((wrap .i64 (n34-1))).toNat*6) [.int .u64 n39,.int .i64 n40,.int .i64 n41,.int .i64 n42,.string s14,.string s15])/\m3 (wrap .i64 (n34-1)) ((h6.wr b10 (o10+n34.toNat*6) [.int .u64 n35,.int .i64 n36,.int .i64 n37,.int .i64 n38,.string s12,.string s13]).wr b11 (o11+((wrap .i64 (n34-1))).toNat*6) [.int .u64 n39,.int .i64 n40,.int .i64 n41,.int .i64 n42,.string s14,.string s15])<m3 n34 h6) (Q (.tuple ⟨[]⟩) h6))))) ((0:Int)<=1/\∃ J:Int->Int->Hp->Prop,(∀ n43 n44:Int,∀ h7:Hp,J n43 n44 h7->∃ (I4:Int->Int->Hp->Prop) (m4:Int->Int->Hp->Nat),I4 n43 n44 h7/\(∀ n45 n46:Int,∀ h8:Hp,I4 n45 n46 h8->par (n45<n46) ((0:Int)<=1/\∃ b12 o12,(l.a:Option Addr)=some ⟨b12,o12,none⟩/\((0:Int)<=(wrap .i64 ((wrap .i64 ((wrap .i64 ((wrap .i64 (shrI .u64 (wrap .u64 (wrap .i64 (n+n2))) 1))+n1))-1))-(wrap .i64 (shrI .u64 (wrap .u64 (wrap .i64 (n45+n46))) 1))))/\(wrap .i64 ((wrap .i64 ((wrap .i64 ((wrap .i64 (shrI .u64 (wrap .u64 (wrap .i64 (n+n2))) 1))+n1))-1))-(wrap .i64 (shrI .u64 (wrap .u64 (wrap .i64 (n45+n46))) 1))))<(l.n:Int))/\∃ n47:Int,h8.at b12 (o12+((wrap .i64 ((wrap .i64 ((wrap .i64 ((wrap .i64 (shrI .u64 (wrap .u64 (wrap .i64 (n+n2))) 1))+n1))-1))-(wrap .i64 (shrI .u64 (wrap .u64 (wrap .i64 (n45+n46))) 1))))).toNat*6)=some (.int .u64 n47)/\∃ n48:Int,h8.at b12 ((o12+((wrap .i64 ((wrap .i64 ((wrap .i64 ((wrap .i64 (shrI .u64 (wrap .u64 (wrap .i64 (n+n2))) 1))+n1))-1))-(wrap .i64 (shrI .u64 (wrap .u64 (wrap .i64 (n45+n46))) 1))))).toNat*6)+1)=some (.int .i64 n48)/\∃ n49:Int,h8.at b12 ((o12+((wrap .i64 ((wrap .i64 ((wrap .i64 ((wrap .i64 (shrI .u64 (wrap .u64 (wrap .i64 (n+n2))) 1))+n1))-1))-(wrap .i64 (shrI .u64 (wrap .u64 (wrap .i64 (n45+n46))) 1))))).toNat*6)+2)=some (.int .i64 n49)/\∃ n50:Int,h8.at b12 ((o12+((wrap .i64 ((wrap .i64 ((wrap .i64 ((wrap .i64 (shrI .u64 (wrap .u64 (wrap .i64 (n+n2))) 1))+n1))-1))-(wrap .i64 (shrI .u64 (wrap .u64 (wrap .i64 (n45+n46))) 1))))).toNat*6)+3)=some (.int .i64 n50)/\∃ s16:ByteArray,h8.at b12 ((o12+((wrap .i64 ((wrap .i64 ((wrap .i64 ((wrap .i64 (shrI .u64 (wrap .u64 (wrap .i64 (n+n2))) 1))+n1))-1))-(wrap .i64 (shrI .u64 (wrap .u64 (wrap .i64 (n45+n46))) 1))))).toNat*6)+4)=some (.string s16)/\∃ s17:ByteArray,h8.at b12 ((o12+((wrap .i64 ((wrap .i64 ((wrap .i64 ((wrap .i64 (shrI .u64 (wrap .u64 (wrap .i64 (n+n2))) 1))+n1))-1))-(wrap .i64 (shrI .u64 (wrap .u64 (wrap .i64 (n45+n46))) 1))))).toNat*6)+5)=some (.string s17)/\∃ b13 o13,(l.a:Option Addr)=some ⟨b13,o13,none⟩/\((0:Int)<=(wrap .i64 (shrI .u64 (wrap .u64 (wrap .i64 (n45+n46))) 1))/\(wrap .i64 (shrI .u64 (wrap .u64 (wrap .i64 (n45+n46))) 1))<(l.n:Int))/\∃ n51:Int,h8.at b13 (o13+((wrap .i64 (shrI .u64 (wrap .u64 (wrap .i64 (n45+n46))) 1))).toNat*6)=some (.int .u64 n51)/\∃ n52:Int,h8.at b13 ((o13+((wrap .i64 (shrI .u64 (wrap .u64 (wrap .i64 (n45+n46))) 1))).toNat*6)+1)=some (.int .i64 n52)/\∃ n53:Int,h8.at b13 ((o13+((wrap .i64 (shrI .u64 (wrap .u64 (wrap .i64 (n45+n46))) 1))).toNat*6)+2)=some (.int .i64 n53)/\∃ n54:Int,h8.at b13 ((o13+((wrap .i64 (shrI .u64 (wrap .u64 (wrap .i64 (n45+n46))) 1))).toNat*6)+3)=some (.int .i64 n54)/\∃ s18:ByteArray,h8.at b13 ((o13+((wrap .i64 (shrI .u64 (wrap .u64 (wrap .i64 (n45+n46))) 1))).toNat*6)+4)=some (.string s18)/\∃ s19:ByteArray,h8.at b13 ((o13+((wrap .i64 (shrI .u64 (wrap .u64 (wrap .i64 (n45+n46))) 1))).toNat*6)+5)=some (.string s19)/\T110 n47 n48 n49 n50 s16 s17 n51 n52 n53 n54 s18 s19 h8 λr2 h9=>∃ n55:Int,r2=.int .i64 n55/\par (n55<0) (I4 n45 (wrap .i64 (shrI .u64 (wrap .u64 (wrap .i64 (n45+n46))) 1)) h9/\m4 n45 (wrap .i64 (shrI .u64 (wrap .u64 (wrap .i64 (n45+n46))) 1)) h9<m4 n45 n46 h8) (I4 (wrap .i64 ((wrap .i64 (shrI .u64 (wrap .u64 (wrap .i64 (n45+n46))) 1))+1)) n46 h9/\m4 (wrap .i64 ((wrap .i64 (shrI .u64 (wrap .u64 (wrap .i64 (n45+n46))) 1))+1)) n46 h9<m4 n45 n46 h8)) (∃ J1:Hp->Prop,(∀ h10:Hp,J1 h10->∃ J2:Hp->Prop,(∀ h11:Hp,J2 h11->par ((wrap .i64 (shrI .u64 (wrap .u64 (wrap .i64 (n+n2))) 1))<(wrap .i64 ((wrap .i64 ((wrap .i64 (shrI .u64 (wrap .u64 (wrap .i64 (n+n2))) 1))+n1))-n45))) (par ((wrap .i64 ((wrap .i64 ((wrap .i64 (shrI .u64 (wrap .u64 (wrap .i64 (n+n2))) 1))+n1))-n45))<n2) (T136 l (wrap .i64 (shrI .u64 (wrap .u64 (wrap .i64 (n+n2))) 1)) (wrap .i64 ((wrap .i64 ((wrap .i64 (shrI .u64 (wrap .u64 (wrap .i64 (n+n2))) 1))+n1))-n45)) n2 h11 λr3 h12=>Q (.tuple ⟨[]⟩) h12) (Q (.tuple ⟨[]⟩) h11)) (Q (.tuple ⟨[]⟩) h11))/\(par (n<n45) (par (n45<(wrap .i64 (shrI .u64 (wrap .u64 (wrap .i64 (n+n2))) 1))) (T136 l n n45 (wrap .i64 (shrI .u64 (wrap .u64 (wrap .i64 (n+n2))) 1)) h10 λr4 h13=>J2 h13) (J2 h10)) (J2 h10)))/\(par (n45<n1) (par (n1<(wrap .i64 ((wrap .i64 ((wrap .i64 (shrI .u64 (wrap .u64 (wrap .i64 (n+n2))) 1))+n1))-n45))) (T149 l n45 n1 (wrap .i64 ((wrap .i64 ((wrap .i64 (shrI .u64 (wrap .u64 (wrap .i64 (n+n2))) 1))+n1))-n45)) h8 λr5 h14=>J1 h14) (J1 h8)) (J1 h8)))))/\(par ((wrap .i64 (shrI .u64 (wrap .u64 (wrap .i64 (n+n2))) 1))<n1) (J (wrap .i64 ((wrap .i64 ((wrap .i64 (shrI .u64 (wrap .u64 (wrap .i64 (n+n2))) 1))+n1))-n2)) (wrap .i64 (shrI .u64 (wrap .u64 (wrap .i64 (n+n2))) 1)) h) (J n n1 h))))
def F136.G(T136:Sl->Int->Int->Int->PT)(l:Sl)(n n1 n2:Int):PT:=F136.B F110.T T136 F149.T l n n1 n2
def F136.TN:Nat->Sl->Int->Int->Int->PT
 |0=>λ_ _ _ _ _ _=>False
 |n+1=>F136.G (F136.TN n)
def F136.T(l:Sl)(n n1 n2:Int):PT:=λh Q=>∃ nf,F136.TN nf l n n1 n2 h Q
def F136.W(T136:Sl->Int->Int->Int->PT)(args:List Value):PT:=match args with
 |[.slice l_a l_n l_c,.int .i64 n,.int .i64 n1,.int .i64 n2,.func (.func 110) ⟨[]⟩ ⟨[]⟩]=>T136 ⟨l_a,l_n,l_c⟩ n n1 n2
 |_=>λ_ _=>False
def F136.V:List Value->PT:=F136.W F136.T
theorem F136.gen(V:Value->List Value->PT)(T110:Int->Int->Int->Int->ByteArray->ByteArray->Int->Int->Int->Int->ByteArray->ByteArray->PT)(T136:Sl->Int->Int->Int->PT)(T149:Sl->Int->Int->Int->PT)(l:Sl)(n n1 n2:Int):denF Tryd.prog [] [(110,F110.W T110),(136,F136.W T136),(149,F149.W T149)] V [(63,.join [(20,.int .i64),(21,.int .i64)] []),(172,.loop [(10,.int .i64),(11,.int .i64)] []),(428,.loop [(14,.int .i64),(15,.int .i64)] []),(698,.loop [(13,.int .i64)] []),(1020,.loop [(20,.int .i64),(21,.int .i64)] []),(1023,.join [] []),(1722,.loop [(17,.int .i64)] []),(2047,.join [] []),(5514,.order [0,1,2,3,4,5,6,7,8,9,10]),(11172,.order [0,1,2,3,4,5,6,7,8,9,10,11,12,13,14,15,16,17]),(13706,.order [0,1,2,3,4,5,6,7,8,9,10,11]),(27556,.order [0,1,2,3,4,5,6,7,8,9,10,11,12,13,14,15,16,17]),(32650,.order [0,1,2,3,4,5,6,7,8,9,10,11,12,13])] Tryd.f136 [.v (.slice l.a l.n l.c),.v (.int .i64 n),.v (.int .i64 n1),.v (.int .i64 n2),.v (.func (.func 110) ⟨[]⟩ ⟨[]⟩)]=F136.B T110 T136 T149 l n n1 n2:=by kernel_rfl
theorem F136.den(V:Value->List Value->PT)(nf:Nat)(l:Sl)(n n1 n2:Int):denF Tryd.prog [] [(110,F110.V),(136,F136.W (F136.TN nf)),(149,F149.V)] V [(63,.join [(20,.int .i64),(21,.int .i64)] []),(172,.loop [(10,.int .i64),(11,.int .i64)] []),(428,.loop [(14,.int .i64),(15,.int .i64)] []),(698,.loop [(13,.int .i64)] []),(1020,.loop [(20,.int .i64),(21,.int .i64)] []),(1023,.join [] []),(1722,.loop [(17,.int .i64)] []),(2047,.join [] []),(5514,.order [0,1,2,3,4,5,6,7,8,9,10]),(11172,.order [0,1,2,3,4,5,6,7,8,9,10,11,12,13,14,15,16,17]),(13706,.order [0,1,2,3,4,5,6,7,8,9,10,11]),(27556,.order [0,1,2,3,4,5,6,7,8,9,10,11,12,13,14,15,16,17]),(32650,.order [0,1,2,3,4,5,6,7,8,9,10,11,12,13])] Tryd.f136 [.v (.slice l.a l.n l.c),.v (.int .i64 n),.v (.int .i64 n1),.v (.int .i64 n2),.v (.func (.func 110) ⟨[]⟩ ⟨[]⟩)]=F136.TN (nf+1) l n n1 n2:=F136.gen V F110.T (F136.TN nf) F149.T l n n1 n2
theorem F136.okN:∀ n,FOk Tryd.prog 136 (F136.W (F136.TN n))
 |0=>by
  refine⟨⟨_,Tryd.func136,rfl,rfl⟩,λargs=>?_⟩
  unfold F136.W
  split
  ·exact λh Q hq=>hq.elim
  ·exact λh Q hq=>hq.elim
 |nf+1=>by
  refine⟨⟨_,Tryd.func136,rfl,rfl⟩,λargs=>?_⟩
  have hG:GOk Tryd.prog [(110,F110.V),(136,F136.W (F136.TN nf)),(149,F149.V)]:=GOk.cons F110.ok (GOk.cons (F136.okN nf) (GOk.cons F149.ok (GOk.nil)))
  have hV:VOk Tryd.prog noV:=noV_ok
  unfold F136.W
  split
  ·exact denF_okV hG hV Tryd.func136 (λh Q hq=>(F136.den _ nf _ _ _ _) ▸ hq)
  ·exact λh Q hq=>hq.elim
theorem F136.ok:FOk Tryd.prog 136 F136.V:=by
 refine⟨(F136.okN 0).1,λargs h Q hq=>?_⟩
 unfold F136.V F136.W at hq
 split at hq
 ·obtain⟨nf,hn⟩:=hq
  exact(F136.okN nf).2 _ h Q hn
 ·exact hq.elim
@[reducible] def F128.G(T135:Sl->Int->Int->PT)(T136:Sl->Int->Int->Int->PT)(l:Sl)(n:Int):PT:=λh Q=>
 ∃ (I:Int->Int->Hp->Prop) (m:Int->Int->Hp->Nat),I 0 20 h/\(∀ n1 n2:Int,∀ h1:Hp,I n1 n2 h1->par (n2<=n) (T135 l n1 n2 h1 λr h2=>I n2 (wrap .i64 (n2+20)) h2/\m n2 (wrap .i64 (n2+20)) h2<m n1 n2 h1) (T135 l n1 n h1 λr1 h3=>∃ (I1:Int->Hp->Prop) (m1:Int->Hp->Nat),I1 20 h3/\(∀ n3:Int,∀ h4:Hp,I1 n3 h4->par (n3<n) (∃ (I2:Int->Int->Hp->Prop) (m2:Int->Int->Hp->Nat),I2 0 (wrap .i64 (2*n3)) h4/\(∀ n4 n5:Int,∀ h5:Hp,I2 n4 n5 h5->par (n5<=n) (T136 l n4 (wrap .i64 (n4+n3)) n5 h5 λr2 h6=>I2 n5 (wrap .i64 (n5+(wrap .i64 (2*n3)))) h6/\m2 n5 (wrap .i64 (n5+(wrap .i64 (2*n3)))) h6<m2 n4 n5 h5) (par ((wrap .i64 (n4+n3))<n) (T136 l n4 (wrap .i64 (n4+n3)) n h5 λr3 h7=>I1 (wrap .i64 (n3*2)) h7/\m1 (wrap .i64 (n3*2)) h7<m1 n3 h4) (I1 (wrap .i64 (n3*2)) h5/\m1 (wrap .i64 (n3*2)) h5<m1 n3 h4)))) (Q (.tuple ⟨[]⟩) h4))))
def F128.T:=F128.G F135.T F136.T
theorem F128.gen(V T135 T136 l n):denF Tryd.prog [] [(135,F135.W T135),(136,F136.W T136)] V [(28,.loop [(7,.int .i64),(8,.int .i64)] []),(62,.loop [(6,.int .i64)] []),(3988,.loop [(7,.int .i64),(8,.int .i64)] [])] Tryd.f128 [.v (.slice l.a l.n l.c),.v (.int .i64 n),.v (.func (.func 110) ⟨[]⟩ ⟨[]⟩)]=F128.G T135 T136 l n:=by kernel_rfl
def F128.W(T128:Sl->Int->PT)(args:List Value):PT:=match args with
 |[.slice l_a l_n l_c,.int .i64 n,.func (.func 110) ⟨[]⟩ ⟨[]⟩]=>T128 ⟨l_a,l_n,l_c⟩ n
 |_=>λ_ _=>False
def F128.V:List Value->PT:=F128.W F128.T
theorem F128.ok:FOk Tryd.prog 128 F128.V:=by
 refine⟨⟨_,Tryd.func128,rfl,rfl⟩,λ_=>?_⟩;unfold F128.V F128.W;split;exact denF_okE (GOk.cons F135.ok (GOk.cons F136.ok (GOk.nil))) noV_ok Tryd.func128 (F128.gen noV F135.T F136.T ⟨_,_,_⟩ _);exact λ_ _ h=>h.elim
@[reducible] def F109.G(T128:Sl->Int->PT)(l:Sl):PT:=λh Q=>
 T128 l (l.n:Int) h λr h1=>Q (.tuple ⟨[]⟩) h1
def F109.T:=F109.G F128.T
theorem F109.gen(V T128 l):denF Tryd.prog [] [(128,F128.W T128)] V [] Tryd.f109 [.v (.slice l.a l.n l.c),.v (.func (.func 110) ⟨[]⟩ ⟨[]⟩)]=F109.G T128 l:=by kernel_rfl
def F109.W(T109:Sl->PT)(args:List Value):PT:=match args with
 |[.slice l_a l_n l_c,.func (.func 110) ⟨[]⟩ ⟨[]⟩]=>T109 ⟨l_a,l_n,l_c⟩
 |_=>λ_ _=>False
def F109.V:List Value->PT:=F109.W F109.T
theorem F109.ok:FOk Tryd.prog 109 F109.V:=by
 refine⟨⟨_,Tryd.func109,rfl,rfl⟩,λ_=>?_⟩;unfold F109.V F109.W;split;exact denF_okE (GOk.cons F128.ok (GOk.nil)) noV_ok Tryd.func109 (F109.gen noV F128.T ⟨_,_,_⟩);exact λ_ _ h=>h.elim
end Go.Eng.YtblghgacokoklaaDoor
end
