/-
  JOINED.
-/
import Derived.Test.YtblghgacokoklaaDoorK5
import Derived.Test.YtblghgacokoklaaDoorK2
import Derived.Test.YtblghgacokoklaaDoorProg
import Derived.Test.YtblghgacokoklaaDoorK3
import Derived.Test.YtblghgacokoklaaDoorK4
import Derived.Sort.AssemblyPlain
set_option linter.unusedSimpArgs false
set_option linter.unusedVariables false
set_option maxRecDepth 100000
open Go.IntKind (wrap)
open List (length_append length_map length_cons eq_nil_of_length_eq_zero mem_of_getElem? mem_cons_self getElem?_eq_getElem getElem?_map mem_cons_of_mem length_singleton map_cons length_take length_drop length_nil mem_cons mem_append mem_singleton append_nil pairwise_cons)
section
open Go.Proofs
namespace Go.Eng.YtblghgacokoklaaDoor
def F29.T(n:Int):PT:=λh Q=>
 ((0:Int)<=(iMin (iMax n 1) 5)/\(iMin (iMax n 1) 5)<=(iMin (iMax n 1) 5)/\24*(iMin (iMax n 1) 5)<=281474976710656)/\((0:Int)<=(iMin (iMax n 1) 5)/\(iMin (iMax n 1) 5)<=(iMin (iMax n 1) 5)/\16*(iMin (iMax n 1) 5)<=281474976710656)/\((0:Int)<=(iMin (iMax n 1) 5)/\(iMin (iMax n 1) 5)<=(iMin (iMax n 1) 5)/\24*(iMin (iMax n 1) 5)<=281474976710656)/\∀ b,h b=none->((0:Int)<=(iMin (iMax n 1) 5)/\(iMin (iMax n 1) 5)<=(iMin (iMax n 1) 5)/\16*(iMin (iMax n 1) 5)<=281474976710656)/\∀ b1,(h.new b (.cells (Builtin.zeroCells (List.toArray [.slice none 0 0]) ((iMin (iMax n 1) 5):Int).toNat) 124 (0,0))) b1=none->((0:Int)<=(iMin (iMax n 1) 5)/\(iMin (iMax n 1) 5)<=(iMin (iMax n 1) 5)/\16*(iMin (iMax n 1) 5)<=281474976710656)/\∀ b2,((h.new b (.cells (Builtin.zeroCells (List.toArray [.slice none 0 0]) ((iMin (iMax n 1) 5):Int).toNat) 124 (0,0))).new b1 (.cells ⟨[.slice (some ⟨b,0,none⟩) ((iMin (iMax n 1) 5):Int).toNat ((iMin (iMax n 1) 5):Int).toNat]⟩ 113 (0,0))) b2=none->((0:Int)<=(iMin (iMax n 1) 5)/\(iMin (iMax n 1) 5)<=(iMin (iMax n 1) 5)/\16*(iMin (iMax n 1) 5)<=281474976710656)/\((0:Int)<=(iMin (iMax n 1) 5)/\(iMin (iMax n 1) 5)<=(iMin (iMax n 1) 5)/\16*(iMin (iMax n 1) 5)<=281474976710656)/\∀ b3,(((h.new b (.cells (Builtin.zeroCells (List.toArray [.slice none 0 0]) ((iMin (iMax n 1) 5):Int).toNat) 124 (0,0))).new b1 (.cells ⟨[.slice (some ⟨b,0,none⟩) ((iMin (iMax n 1) 5):Int).toNat ((iMin (iMax n 1) 5):Int).toNat]⟩ 113 (0,0))).new b2 (.map #[] 0)) b3=none->∀ b4,((((h.new b (.cells (Builtin.zeroCells (List.toArray [.slice none 0 0]) ((iMin (iMax n 1) 5):Int).toNat) 124 (0,0))).new b1 (.cells ⟨[.slice (some ⟨b,0,none⟩) ((iMin (iMax n 1) 5):Int).toNat ((iMin (iMax n 1) 5):Int).toNat]⟩ 113 (0,0))).new b2 (.map #[] 0)).new b3 (.cells (Builtin.zeroCells (List.toArray [.string ⟨#[]⟩]) ((iMin (iMax n 1) 5):Int).toNat) 9 (0,0))) b4=none->∀ b5,(((((h.new b (.cells (Builtin.zeroCells (List.toArray [.slice none 0 0]) ((iMin (iMax n 1) 5):Int).toNat) 124 (0,0))).new b1 (.cells ⟨[.slice (some ⟨b,0,none⟩) ((iMin (iMax n 1) 5):Int).toNat ((iMin (iMax n 1) 5):Int).toNat]⟩ 113 (0,0))).new b2 (.map #[] 0)).new b3 (.cells (Builtin.zeroCells (List.toArray [.string ⟨#[]⟩]) ((iMin (iMax n 1) 5):Int).toNat) 9 (0,0))).new b4 (.map #[] 0)) b5=none->Q (.pointer (some ⟨b5,0,none⟩)) ((((((h.new b (.cells (Builtin.zeroCells (List.toArray [.slice none 0 0]) ((iMin (iMax n 1) 5):Int).toNat) 124 (0,0))).new b1 (.cells ⟨[.slice (some ⟨b,0,none⟩) ((iMin (iMax n 1) 5):Int).toNat ((iMin (iMax n 1) 5):Int).toNat]⟩ 113 (0,0))).new b2 (.map #[] 0)).new b3 (.cells (Builtin.zeroCells (List.toArray [.string ⟨#[]⟩]) ((iMin (iMax n 1) 5):Int).toNat) 9 (0,0))).new b4 (.map #[] 0)).new b5 (.cells ⟨[.pointer (some ⟨b1,0,none⟩),.map (some b2),.slice (some ⟨b3,0,none⟩) ((iMin (iMax n 1) 5):Int).toNat ((iMin (iMax n 1) 5):Int).toNat,.map (some b4)]⟩ 117 (0,0)))
theorem F29.den(V n):denF Tryd.prog [] [] V [(14,.orderL [0,5,1,2,3,4,6,7,8,9,10] [1,4,6,7])] Tryd.f29 [.v (.int .i64 n)]=F29.T n:=by kernel_rfl
def F29.W(T29:Int->PT)(args:List Value):PT:=match args with
 |[.int .i64 n]=>T29 n
 |_=>λ_ _=>False
def F29.V:List Value->PT:=F29.W F29.T
theorem F29.ok:FOk Tryd.prog 29 F29.V:=by
 refine⟨⟨_,Tryd.func29,rfl,rfl⟩,λ_=>?_⟩;unfold F29.V F29.W;split;exact denF_okE (GOk.nil) noV_ok Tryd.func29 (F29.den noV _);exact λ_ _ h=>h.elim
def F70.T(p:Option Addr):PT:=λh Q=>
 ∃ b o,(p:Option Addr)=some ⟨b,o,none⟩/\∃ l:Sl,h.at b o=some (.slice l.a l.n l.c)/\((0:Int)<=(l.n:Int)/\(l.n:Int)<=(l.n:Int)/\24*(l.n:Int)<=281474976710656)/\∀ b1,h b1=none->∃ b2 o1,(p:Option Addr)=some ⟨b2,o1,none⟩/\∃ l1:Sl,(h.new b1 (.cells (Builtin.zeroCells (List.toArray [.slice none 0 0]) ((l.n:Int):Int).toNat) 124 (0,0))).at b2 o1=some (.slice l1.a l1.n l1.c)/\∃ (I:Int->Hp->Prop) (m:Int->Hp->Nat),I 0 (h.new b1 (.cells (Builtin.zeroCells (List.toArray [.slice none 0 0]) ((l.n:Int):Int).toNat) 124 (0,0)))/\(∀ n:Int,∀ h1:Hp,I n h1->par (n<(l1.n:Int)) (∃ b3 o2,(l1.a:Option Addr)=some ⟨b3,o2,none⟩/\((0:Int)<=n/\n<(l1.n:Int))/\∃ l2:Sl,h1.at b3 (o2+n.toNat)=some (.slice l2.a l2.n l2.c)/\((0:Int)<=(l2.n:Int)/\(l2.n:Int)<=(l2.n:Int)/\64*(l2.n:Int)<=281474976710656)/\∀ b4,h1 b4=none->∃ b5 o3,((some ⟨b1,0,none⟩):Option Addr)=some ⟨b5,o3,none⟩/\((0:Int)<=n/\n<(((l.n:Int):Int).toNat:Int))/\(h1.new b4 (.cells (Builtin.zeroCells (List.toArray [.int .u64 0,.int .i64 0,.int .i64 0,.int .i64 0,.string ⟨#[]⟩,.string ⟨#[]⟩]) ((l2.n:Int):Int).toNat) 106 (0,0))).canW b5 (o3+n.toNat) 1/\∃ b6 o4,((some ⟨b1,0,none⟩):Option Addr)=some ⟨b6,o4,none⟩/\((0:Int)<=n/\n<(((l.n:Int):Int).toNat:Int))/\∃ l3:Sl,((h1.new b4 (.cells (Builtin.zeroCells (List.toArray [.int .u64 0,.int .i64 0,.int .i64 0,.int .i64 0,.string ⟨#[]⟩,.string ⟨#[]⟩]) ((l2.n:Int):Int).toNat) 106 (0,0))).wr b5 (o3+n.toNat) [.slice (some ⟨b4,0,none⟩) ((l2.n:Int):Int).toNat ((l2.n:Int):Int).toNat]).at b6 (o4+n.toNat)=some (.slice l3.a l3.n l3.c)/\∃ vs,((h1.new b4 (.cells (Builtin.zeroCells (List.toArray [.int .u64 0,.int .i64 0,.int .i64 0,.int .i64 0,.string ⟨#[]⟩,.string ⟨#[]⟩]) ((l2.n:Int):Int).toNat) 106 (0,0))).wr b5 (o3+n.toNat) [.slice (some ⟨b4,0,none⟩) ((l2.n:Int):Int).toNat ((l2.n:Int):Int).toNat]).row l2.a ((Nat.min l2.n l3.n)*6) vs/\(∀ v∈vs,Value.oneCell' v=true)/\((h1.new b4 (.cells (Builtin.zeroCells (List.toArray [.int .u64 0,.int .i64 0,.int .i64 0,.int .i64 0,.string ⟨#[]⟩,.string ⟨#[]⟩]) ((l2.n:Int):Int).toNat) 106 (0,0))).wr b5 (o3+n.toNat) [.slice (some ⟨b4,0,none⟩) ((l2.n:Int):Int).toNat ((l2.n:Int):Int).toNat]).canWA l3.a vs.length/\I (wrap .i64 (n+1)) (((h1.new b4 (.cells (Builtin.zeroCells (List.toArray [.int .u64 0,.int .i64 0,.int .i64 0,.int .i64 0,.string ⟨#[]⟩,.string ⟨#[]⟩]) ((l2.n:Int):Int).toNat) 106 (0,0))).wr b5 (o3+n.toNat) [.slice (some ⟨b4,0,none⟩) ((l2.n:Int):Int).toNat ((l2.n:Int):Int).toNat]).wrA l3.a vs)/\m (wrap .i64 (n+1)) (((h1.new b4 (.cells (Builtin.zeroCells (List.toArray [.int .u64 0,.int .i64 0,.int .i64 0,.int .i64 0,.string ⟨#[]⟩,.string ⟨#[]⟩]) ((l2.n:Int):Int).toNat) 106 (0,0))).wr b5 (o3+n.toNat) [.slice (some ⟨b4,0,none⟩) ((l2.n:Int):Int).toNat ((l2.n:Int):Int).toNat]).wrA l3.a vs)<m n h1) (∀ b7,h1 b7=none->Q (.pointer (some ⟨b7,0,none⟩)) (h1.new b7 (.cells ⟨[.slice (some ⟨b1,0,none⟩) ((l.n:Int):Int).toNat ((l.n:Int):Int).toNat]⟩ 113 (0,0)))))
theorem F70.den(V p):denF Tryd.prog [] [] V [(58,.loop [(17,.int .i64)] [])] Tryd.f70 [.v (.pointer p)]=F70.T p:=by kernel_rfl
def F70.W(T70:Option Addr->PT)(args:List Value):PT:=match args with
 |[.pointer p]=>T70 p
 |_=>λ_ _=>False
def F70.V:List Value->PT:=F70.W F70.T
theorem F70.ok:FOk Tryd.prog 70 F70.V:=by
 refine⟨⟨_,Tryd.func70,rfl,rfl⟩,λ_=>?_⟩;unfold F70.V F70.W;split;exact denF_okE (GOk.nil) noV_ok Tryd.func70 (F70.den noV _);exact λ_ _ h=>h.elim
def F104.T(p:Option Addr)(n:Int):PT:=λh Q=>
 par ((0:Int)<=n) (∃ b o,(p:Option Addr)=some ⟨b,o,none⟩/\∃ l:Sl,h.at b o=some (.slice l.a l.n l.c)/\par (n<(l.n:Int)) (Q (.bool true) h) (Q (.bool false) h)) (Q (.bool false) h)
theorem F104.den(V p n):denF Tryd.prog [] [] V [] Tryd.f104 [.v (.pointer p),.v (.int .i64 n)]=F104.T p n:=by kernel_rfl
def F104.W(T104:Option Addr->Int->PT)(args:List Value):PT:=match args with
 |[.pointer p,.int .i64 n]=>T104 p n
 |_=>λ_ _=>False
def F104.V:List Value->PT:=F104.W F104.T
theorem F104.ok:FOk Tryd.prog 104 F104.V:=by
 refine⟨⟨_,Tryd.func104,rfl,rfl⟩,λ_=>?_⟩;unfold F104.V F104.W;split;exact denF_okE (GOk.nil) noV_ok Tryd.func104 (F104.den noV _ _);exact λ_ _ h=>h.elim
def F106.T(n n1 n2 n3:Int)(s s1:ByteArray)(b o:Nat):PT:=λh Q=>
 ∃ n4:Int,h.at b (o+1)=some (.int .u64 n4)/\par (n=n4) (Q (.bool true) h) (Q (.bool false) h)
theorem F106.den(V n n1 n2 n3 s s1 b o):denF Tryd.prog [2] [] V [] Tryd.f106 [.v (.agg ⟨[.int .u64 n,.int .i64 n1,.int .i64 n2,.int .i64 n3,.string s,.string s1]⟩),.p b o]=F106.T n n1 n2 n3 s s1 b o:=by kernel_rfl
def F106.W(T106:Int->Int->Int->Int->ByteArray->ByteArray->Nat->Nat->PT)(args:List Value):PT:=match args with
 |[.agg ⟨[.int .u64 n,.int .i64 n1,.int .i64 n2,.int .i64 n3,.string s,.string s1]⟩,.pointer (some ⟨b,o,none⟩)]=>T106 n n1 n2 n3 s s1 b o
 |_=>λ_ _=>False
def F106.V:List Value->PT:=F106.W F106.T
theorem F106.ok:FOk Tryd.prog 106 F106.V:=by
 refine⟨⟨_,Tryd.func106,rfl,rfl⟩,λ_=>?_⟩;unfold F106.V F106.W;split;exact denF_okEA (xs:=[.v _,.p _ _]) (GOk.nil) noV_ok Tryd.func106 (inStep_cons rfl (inStep_cons rfl (inStep_nil _))) (by intro x hx;simp only[mem_cons,List.not_mem_nil,or_false] at hx;rcases hx with rfl|rfl<;>rfl) (F106.den noV _ _ _ _ _ _ _ _);exact λ_ _ h=>h.elim
@[reducible] def F105.G(T106:Int->Int->Int->Int->ByteArray->ByteArray->Nat->Nat->PT)(l:Sl)(b o:Nat):PT:=λh Q=>
 ∃ (I:Int->Hp->Prop) (m:Int->Hp->Nat),I 0 h/\(∀ n:Int,∀ h1:Hp,I n h1->par (n<(l.n:Int)) (∃ b1 o1,(l.a:Option Addr)=some ⟨b1,o1,none⟩/\((0:Int)<=n/\n<(l.n:Int))/\∃ n1:Int,h1.at b1 (o1+n.toNat*6)=some (.int .u64 n1)/\∃ n2:Int,h1.at b1 ((o1+n.toNat*6)+1)=some (.int .i64 n2)/\∃ n3:Int,h1.at b1 ((o1+n.toNat*6)+2)=some (.int .i64 n3)/\∃ n4:Int,h1.at b1 ((o1+n.toNat*6)+3)=some (.int .i64 n4)/\∃ s:ByteArray,h1.at b1 ((o1+n.toNat*6)+4)=some (.string s)/\∃ s1:ByteArray,h1.at b1 ((o1+n.toNat*6)+5)=some (.string s1)/\T106 n1 n2 n3 n4 s s1 b o h1 λr h2=>∃ b2:Bool,r=.bool b2/\parB b2 (Q (.int .i64 n) h2) (I (wrap .i64 (n+1)) h2/\m (wrap .i64 (n+1)) h2<m n h1)) (Q (.int .i64 (-1)) h1))
def F105.T:=F105.G F106.T
theorem F105.gen(V T106 l b o):denF Tryd.prog [] [(106,F106.W T106)] V [(26,.loop [(8,.int .i64)] [])] Tryd.f105 [.v (.slice l.a l.n l.c),.v (.func (.func 106) ⟨[]⟩ ⟨[.pointer (some ⟨b,o,none⟩)]⟩)]=F105.G T106 l b o:=by kernel_rfl
def F105.W(T105:Sl->Nat->Nat->PT)(args:List Value):PT:=match args with
 |[.slice l_a l_n l_c,.func (.func 106) ⟨[]⟩ ⟨[.pointer (some ⟨b,o,none⟩)]⟩]=>T105 ⟨l_a,l_n,l_c⟩ b o
 |_=>λ_ _=>False
def F105.V:List Value->PT:=F105.W F105.T
theorem F105.ok:FOk Tryd.prog 105 F105.V:=by
 refine⟨⟨_,Tryd.func105,rfl,rfl⟩,λ_=>?_⟩;unfold F105.V F105.W;split;exact denF_okE (GOk.cons F106.ok (GOk.nil)) noV_ok Tryd.func105 (F105.gen noV F106.T ⟨_,_,_⟩ _ _);exact λ_ _ h=>h.elim
def F107.T(l:Sl)(n n1:Int):PT:=λh Q=>
 Sl.okCut l n n1 (l.n:Int)/\par (n=n1) (Q (.slice l.a l.n l.c) h) (Sl.okCut l 0 n (l.c:Int)/\Sl.okCut l n1 (l.n:Int) (l.c:Int)/\∃ vs,h.row ((Sl.cut l 6 n1 (l.n:Int) (l.c:Int)).a) (((Sl.cut l 6 n1 (l.n:Int) (l.c:Int)).n)*6) vs/\(∀ v∈vs,Value.oneCell' v=true)/\appendD (Sl.cut l 6 0 n (l.c:Int)) 106 6 64 [.int .u64 0,.int .i64 0,.int .i64 0,.int .i64 0,.string ⟨#[]⟩,.string ⟨#[]⟩] ((Sl.cut l 6 n1 (l.n:Int) (l.c:Int)).n) vs h λl1 h1=>Sl.okCut l1 (l1.n:Int) (l.n:Int) (l1.c:Int)/\h1.canWA ((Sl.cut l1 6 (l1.n:Int) (l.n:Int) (l1.c:Int)).a) (((Sl.cut l1 6 (l1.n:Int) (l.n:Int) (l1.c:Int)).n)*6)/\Q (.slice l1.a l1.n l1.c) (h1.wrA ((Sl.cut l1 6 (l1.n:Int) (l.n:Int) (l1.c:Int)).a) (zerosV [.int .u64 0,.int .i64 0,.int .i64 0,.int .i64 0,.string ⟨#[]⟩,.string ⟨#[]⟩] ((Sl.cut l1 6 (l1.n:Int) (l.n:Int) (l1.c:Int)).n))))
theorem F107.den(V l n n1):denF Tryd.prog [] [] V [(62,.order [0,1,2,3,4,5,6,7])] Tryd.f107 [.v (.slice l.a l.n l.c),.v (.int .i64 n),.v (.int .i64 n1)]=F107.T l n n1:=by kernel_rfl
def F107.W(T107:Sl->Int->Int->PT)(args:List Value):PT:=match args with
 |[.slice l_a l_n l_c,.int .i64 n,.int .i64 n1]=>T107 ⟨l_a,l_n,l_c⟩ n n1
 |_=>λ_ _=>False
def F107.V:List Value->PT:=F107.W F107.T
theorem F107.ok:FOk Tryd.prog 107 F107.V:=by
 refine⟨⟨_,Tryd.func107,rfl,rfl⟩,λ_=>?_⟩;unfold F107.V F107.W;split;exact denF_okE (GOk.nil) noV_ok Tryd.func107 (F107.den noV ⟨_,_,_⟩ _ _);exact λ_ _ h=>h.elim
@[reducible] def F71.G(T104:Option Addr->Int->PT)(T105:Sl->Nat->Nat->PT)(T107:Sl->Int->Int->PT)(p:Option Addr)(l:Sl):PT:=λh Q=>
 ∃ (I:Int->Hp->Prop) (m:Int->Hp->Nat),I 0 h/\(∀ n:Int,∀ h1:Hp,I n h1->par (n<(l.n:Int)) (∃ b o,(l.a:Option Addr)=some ⟨b,o,none⟩/\((0:Int)<=n/\n<(l.n:Int))/\∃ n1:Int,h1.at b (o+n.toNat*2)=some (.int .i64 n1)/\∃ n2:Int,h1.at b ((o+n.toNat*2)+1)=some (.int .u64 n2)/\∀ b1,h1 b1=none->(h1.new b1 (.cells ⟨[.int .i64 0,.int .u64 0]⟩ 104 (0,0))).canW b1 0 2/\∃ n3:Int,((h1.new b1 (.cells ⟨[.int .i64 0,.int .u64 0]⟩ 104 (0,0))).wr b1 0 [.int .i64 n1,.int .u64 n2]).at b1 0=some (.int .i64 n3)/\T104 p n3 ((h1.new b1 (.cells ⟨[.int .i64 0,.int .u64 0]⟩ 104 (0,0))).wr b1 0 [.int .i64 n1,.int .u64 n2]) λr h2=>∃ b2:Bool,r=.bool b2/\parB b2 (∃ b3 o1,(p:Option Addr)=some ⟨b3,o1,none⟩/\∃ l1:Sl,h2.at b3 o1=some (.slice l1.a l1.n l1.c)/\∃ n4:Int,h2.at b1 0=some (.int .i64 n4)/\∃ b4 o2,(l1.a:Option Addr)=some ⟨b4,o2,none⟩/\((0:Int)<=n4/\n4<(l1.n:Int))/\∃ l2:Sl,h2.at b4 (o2+n4.toNat)=some (.slice l2.a l2.n l2.c)/\h2.at b3 o1=some (.slice l1.a l1.n l1.c)/\h2.at b1 0=some (.int .i64 n4)/\h2.at b4 (o2+n4.toNat)=some (.slice l2.a l2.n l2.c)/\T105 l2 b1 0 h2 λr1 h3=>∃ n5:Int,r1=.int .i64 n5/\par (n5<0) (Q (.int .i64 130) h3) (∃ b5 o3,(p:Option Addr)=some ⟨b5,o3,none⟩/\∃ l3:Sl,h3.at b5 o3=some (.slice l3.a l3.n l3.c)/\∃ n6:Int,h3.at b1 0=some (.int .i64 n6)/\∃ b6 o4,(p:Option Addr)=some ⟨b6,o4,none⟩/\∃ l4:Sl,h3.at b6 o4=some (.slice l4.a l4.n l4.c)/\∃ n7:Int,h3.at b1 0=some (.int .i64 n7)/\∃ b7 o5,(l4.a:Option Addr)=some ⟨b7,o5,none⟩/\((0:Int)<=n7/\n7<(l4.n:Int))/\∃ l5:Sl,h3.at b7 (o5+n7.toNat)=some (.slice l5.a l5.n l5.c)/\T107 l5 n5 (wrap .i64 (n5+1)) h3 λr2 h4=>∃ l6:Sl,r2=.slice l6.a l6.n l6.c/\h4.at b5 o3=some (.slice l3.a l3.n l3.c)/\h4.at b1 0=some (.int .i64 n6)/\∃ b8 o6,(l3.a:Option Addr)=some ⟨b8,o6,none⟩/\((0:Int)<=n6/\n6<(l3.n:Int))/\h4.canW b8 (o6+n6.toNat) 1/\I (wrap .i64 (n+1)) (h4.wr b8 (o6+n6.toNat) [.slice l6.a l6.n l6.c])/\m (wrap .i64 (n+1)) (h4.wr b8 (o6+n6.toNat) [.slice l6.a l6.n l6.c])<m n h1)) (Q (.int .i64 133) h2)) (Q (.int .i64 0) h1))
def F71.T:=F71.G F104.T F105.T F107.T
theorem F71.gen(V T104 T105 T107 p l):denF Tryd.prog [] [(104,F104.W T104),(105,F105.W T105),(107,F107.W T107)] V [(26,.loop [(10,.int .i64)] []),(6758,.order [0,1,2,3,4,5,6,7,8,9,10]),(13519,.order [0,1,2,3,4,5,6,7,8,9,10,11,12,13,14,15,16,17,18,19])] Tryd.f71 [.v (.pointer p),.v (.slice l.a l.n l.c)]=F71.G T104 T105 T107 p l:=by kernel_rfl
def F71.W(T71:Option Addr->Sl->PT)(args:List Value):PT:=match args with
 |[.pointer p,.slice l_a l_n l_c]=>T71 p ⟨l_a,l_n,l_c⟩
 |_=>λ_ _=>False
def F71.V:List Value->PT:=F71.W F71.T
theorem F71.ok:FOk Tryd.prog 71 F71.V:=by
 refine⟨⟨_,Tryd.func71,rfl,rfl⟩,λ_=>?_⟩;unfold F71.V F71.W;split;exact denF_okE (GOk.cons F104.ok (GOk.cons F105.ok (GOk.cons F107.ok (GOk.nil)))) noV_ok Tryd.func71 (F71.gen noV F104.T F105.T F107.T _ ⟨_,_,_⟩);exact λ_ _ h=>h.elim
def F108.T(p:Option Addr)(m:Option Nat):PT:=λh Q=>
 ∃ b o,(p:Option Addr)=some ⟨b,o,none⟩/\∃ l:Sl,h.at b o=some (.slice l.a l.n l.c)/\∃ (I:Int->Hp->Prop) (m1:Int->Hp->Nat),I 0 h/\(∀ n:Int,∀ h1:Hp,I n h1->par (n<(l.n:Int)) (∃ b1 o1,(l.a:Option Addr)=some ⟨b1,o1,none⟩/\((0:Int)<=n/\n<(l.n:Int))/\∃ l1:Sl,h1.at b1 (o1+n.toNat)=some (.slice l1.a l1.n l1.c)/\∃ (I1:Int->Hp->Prop) (m2:Int->Hp->Nat),I1 0 h1/\(∀ n1:Int,∀ h2:Hp,I1 n1 h2->par (n1<(l1.n:Int)) (∃ b2 o2,(l1.a:Option Addr)=some ⟨b2,o2,none⟩/\((0:Int)<=n1/\n1<(l1.n:Int))/\∃ n2:Int,h2.at b2 (o2+n1.toNat*6)=some (.int .u64 n2)/\∃ n3:Int,h2.at b2 ((o2+n1.toNat*6)+1)=some (.int .i64 n3)/\∃ n4:Int,h2.at b2 ((o2+n1.toNat*6)+2)=some (.int .i64 n4)/\∃ n5:Int,h2.at b2 ((o2+n1.toNat*6)+3)=some (.int .i64 n5)/\∃ s:ByteArray,h2.at b2 ((o2+n1.toNat*6)+4)=some (.string s)/\∃ s1:ByteArray,h2.at b2 ((o2+n1.toNat*6)+5)=some (.string s1)/\∃ es c,h2.mp m es c/\keysFit (.int .u64 n2) es/\∃ n6:Int,(mget es (.int .u64 n2) (.int .i64 0))=.int .i64 n6/\∃ b3 es1 c1,(m:Option Nat)=some b3/\h2 b3=some (.map es1 c1)/\keysFit (.int .u64 n2) es1/\I1 (wrap .i64 (n1+1)) (h2.new b3 (mPut es1 c1 (.int .u64 n2) (.int .i64 (wrap .i64 (n6+1)))))/\m2 (wrap .i64 (n1+1)) (h2.new b3 (mPut es1 c1 (.int .u64 n2) (.int .i64 (wrap .i64 (n6+1)))))<m2 n1 h2) (I (wrap .i64 (n+1)) h2/\m1 (wrap .i64 (n+1)) h2<m1 n h1))) (Q (.tuple ⟨[]⟩) h1))
theorem F108.den(V p m):denF Tryd.prog [7] [] V [(6,.loop [(13,.int .i64)] []),(1638,.loop [(19,.int .i64)] [])] Tryd.f108 [.v (.pointer p),.v (.map m)]=F108.T p m:=by kernel_rfl
def F108.W(T108:Option Addr->Option Nat->PT)(args:List Value):PT:=match args with
 |[.pointer p,.map m]=>T108 p m
 |_=>λ_ _=>False
def F108.V:List Value->PT:=F108.W F108.T
theorem F108.ok:FOk Tryd.prog 108 F108.V:=by
 refine⟨⟨_,Tryd.func108,rfl,rfl⟩,λ_=>?_⟩;unfold F108.V F108.W;split;exact denF_okE (GOk.nil) noV_ok Tryd.func108 (F108.den noV _ _);exact λ_ _ h=>h.elim
end Go.Eng.YtblghgacokoklaaDoor
end
section
open Go.Proofs
namespace Go.Eng.YtblghgacokoklaaDoor
@[reducible] def F72.G(T104:Option Addr->Int->PT)(T108:Option Addr->Option Nat->PT)(T109:Sl->PT)(p:Option Addr)(l:Sl):PT:=λh Q=>
 ∀ b,h b=none->T108 p (some b) (h.new b (.map #[] 0)) λr h1=>∃ (I:Int->Hp->Prop) (m:Int->Hp->Nat),I 0 h1/\(∀ n:Int,∀ h2:Hp,I n h2->par (n<(l.n:Int)) (∃ b1 o,(l.a:Option Addr)=some ⟨b1,o,none⟩/\((0:Int)<=n/\n<(l.n:Int))/\∃ n1:Int,h2.at b1 (o+n.toNat*7)=some (.int .i64 n1)/\∃ n2:Int,h2.at b1 ((o+n.toNat*7)+1)=some (.int .u64 n2)/\∃ n3:Int,h2.at b1 ((o+n.toNat*7)+2)=some (.int .i64 n3)/\∃ n4:Int,h2.at b1 ((o+n.toNat*7)+3)=some (.int .i64 n4)/\∃ n5:Int,h2.at b1 ((o+n.toNat*7)+4)=some (.int .i64 n5)/\∃ s:ByteArray,h2.at b1 ((o+n.toNat*7)+5)=some (.string s)/\∃ s1:ByteArray,h2.at b1 ((o+n.toNat*7)+6)=some (.string s1)/\T104 p n1 h2 λr1 h3=>∃ b2:Bool,r1=.bool b2/\parB b2 (∃ es c,h3.mp (some b) es c/\keysFit (.int .u64 n2) es/\∃ n6:Int,(mget es (.int .u64 n2) (.int .i64 0))=.int .i64 n6/\par ((0:Int)<n6) (Q (.int .i64 131) h3) (par (sLt s1 s) (Q (.int .i64 132) h3) (∃ es1 c1,h3.mp (some b) es1 c1/\keysFit (.int .u64 n2) es1/\∃ n7:Int,(mget es1 (.int .u64 n2) (.int .i64 0))=.int .i64 n7/\∃ b3 es2 c2,((some b):Option Nat)=some b3/\h3 b3=some (.map es2 c2)/\keysFit (.int .u64 n2) es2/\∃ b4 o1,(p:Option Addr)=some ⟨b4,o1,none⟩/\∃ l1:Sl,(h3.new b3 (mPut es2 c2 (.int .u64 n2) (.int .i64 (wrap .i64 (n7+1))))).at b4 o1=some (.slice l1.a l1.n l1.c)/\∃ b5 o2,(p:Option Addr)=some ⟨b5,o2,none⟩/\∃ l2:Sl,(h3.new b3 (mPut es2 c2 (.int .u64 n2) (.int .i64 (wrap .i64 (n7+1))))).at b5 o2=some (.slice l2.a l2.n l2.c)/\∃ b6 o3,(l2.a:Option Addr)=some ⟨b6,o3,none⟩/\((0:Int)<=n1/\n1<(l2.n:Int))/\∃ l3:Sl,(h3.new b3 (mPut es2 c2 (.int .u64 n2) (.int .i64 (wrap .i64 (n7+1))))).at b6 (o3+n1.toNat)=some (.slice l3.a l3.n l3.c)/\(h3.new b3 (mPut es2 c2 (.int .u64 n2) (.int .i64 (wrap .i64 (n7+1))))).at b4 o1=some (.slice l1.a l1.n l1.c)/\(h3.new b3 (mPut es2 c2 (.int .u64 n2) (.int .i64 (wrap .i64 (n7+1))))).at b5 o2=some (.slice l2.a l2.n l2.c)/\(h3.new b3 (mPut es2 c2 (.int .u64 n2) (.int .i64 (wrap .i64 (n7+1))))).at b6 (o3+n1.toNat)=some (.slice l3.a l3.n l3.c)/\appendD l3 106 6 64 [.int .u64 0,.int .i64 0,.int .i64 0,.int .i64 0,.string ⟨#[]⟩,.string ⟨#[]⟩] 1 [.int .u64 n2,.int .i64 n3,.int .i64 n4,.int .i64 n5,.string s,.string s1] (h3.new b3 (mPut es2 c2 (.int .u64 n2) (.int .i64 (wrap .i64 (n7+1))))) λl4 h4=>h4.at b4 o1=some (.slice l1.a l1.n l1.c)/\∃ b7 o4,(l1.a:Option Addr)=some ⟨b7,o4,none⟩/\((0:Int)<=n1/\n1<(l1.n:Int))/\h4.canW b7 (o4+n1.toNat) 1/\I (wrap .i64 (n+1)) (h4.wr b7 (o4+n1.toNat) [.slice l4.a l4.n l4.c])/\m (wrap .i64 (n+1)) (h4.wr b7 (o4+n1.toNat) [.slice l4.a l4.n l4.c])<m n h2))) (Q (.int .i64 133) h3)) (∃ b8 o5,(p:Option Addr)=some ⟨b8,o5,none⟩/\∃ l5:Sl,h2.at b8 o5=some (.slice l5.a l5.n l5.c)/\Sl.okCut l5 1 (l5.n:Int) (l5.c:Int)/\∃ (I1:Int->Hp->Prop) (m1:Int->Hp->Nat),I1 0 h2/\(∀ n8:Int,∀ h5:Hp,I1 n8 h5->par (n8<((Sl.cut l5 1 1 (l5.n:Int) (l5.c:Int)).n:Int)) (∃ b9 o6,((Sl.cut l5 1 1 (l5.n:Int) (l5.c:Int)).a:Option Addr)=some ⟨b9,o6,none⟩/\((0:Int)<=n8/\n8<((Sl.cut l5 1 1 (l5.n:Int) (l5.c:Int)).n:Int))/\∃ l6:Sl,h5.at b9 (o6+n8.toNat)=some (.slice l6.a l6.n l6.c)/\T109 l6 h5 λr2 h6=>∃ (I2:Int->Hp->Prop) (m2:Int->Hp->Nat),I2 1 h6/\(∀ n9:Int,∀ h7:Hp,I2 n9 h7->par (n9<(l6.n:Int)) (∃ b10 o7,(l6.a:Option Addr)=some ⟨b10,o7,none⟩/\((0:Int)<=n9/\n9<(l6.n:Int))/\∃ s2:ByteArray,h7.at b10 ((o7+n9.toNat*6)+4)=some (.string s2)/\∃ b11 o8,(l6.a:Option Addr)=some ⟨b11,o8,none⟩/\((0:Int)<=(wrap .i64 (n9-1))/\(wrap .i64 (n9-1))<(l6.n:Int))/\∃ s3:ByteArray,h7.at b11 ((o8+((wrap .i64 (n9-1))).toNat*6)+5)=some (.string s3)/\par (sLt s2 s3\/s2=s3) (Q (.int .i64 132) h7) (I2 (wrap .i64 (n9+1)) h7/\m2 (wrap .i64 (n9+1)) h7<m2 n9 h7)) (I1 (wrap .i64 (n8+1)) h7/\m1 (wrap .i64 (n8+1)) h7<m1 n8 h5))) (Q (.int .i64 0) h5))))
def F72.T:=F72.G F104.T F108.T F109.T
theorem F72.gen(V T104 T108 T109 p l):denF Tryd.prog [7,64] [(104,F104.W T104),(108,F108.W T108),(109,F109.W T109)] V [(122,.loop [(17,.int .i64)] []),(250,.loop [(74,.int .i64)] []),(31335,.order [0,1,2,3,4,5,6,7,8,9,10,11,12,13,14,15,16,17,18,19]),(128206,.loop [(10,.int .i64)] []),(4102600,.order [0,1,2,3,4,5,6,7,8,9,10,11])] Tryd.f72 [.v (.pointer p),.v (.slice l.a l.n l.c)]=F72.G T104 T108 T109 p l:=by kernel_rfl
def F72.W(T72:Option Addr->Sl->PT)(args:List Value):PT:=match args with
 |[.pointer p,.slice l_a l_n l_c]=>T72 p ⟨l_a,l_n,l_c⟩
 |_=>λ_ _=>False
def F72.V:List Value->PT:=F72.W F72.T
theorem F72.ok:FOk Tryd.prog 72 F72.V:=by
 refine⟨⟨_,Tryd.func72,rfl,rfl⟩,λ_=>?_⟩;unfold F72.V F72.W;split;exact denF_okE (GOk.cons F104.ok (GOk.cons F108.ok (GOk.cons F109.ok (GOk.nil)))) noV_ok Tryd.func72 (F72.gen noV F104.T F108.T F109.T _ ⟨_,_,_⟩);exact λ_ _ h=>h.elim
end Go.Eng.YtblghgacokoklaaDoor
end
section
open Go.Proofs
namespace Go.Eng.YtblghgacokoklaaDoor
@[reducible] def F73.G(T108:Option Addr->Option Nat->PT)(T112:Sl->PT)(p p1:Option Addr):PT:=λh Q=>
 dr p λb o=>ldM h b (o+3) λm=>∃ es c,h.mp m es c/\dr p λb1 o1=>ldP (h.setM m (.map #[] c)) b1 o1 λp2=>dr p λb2 o2=>ldM (h.setM m (.map #[] c)) b2 (o2+3) λm1=>T108 p2 m1 (h.setM m (.map #[] c)) λr h1=>dr p λb3 o3=>ldM h1 b3 (o3+1) λm2=>∃ es1 c1,h1.mp m2 es1 c1/\∀ b4,h1 b4=none->∃ (I:Hp->Prop) (m3:Hp->Nat),I (h1.new b4 (.mapIter m2 c1 #[] c1))/\(∀ h2:Hp,I h2->∃ ri mi si sn la es2 c2,((some ⟨b4,0,none⟩):Option Addr)=some ⟨ri,0,none⟩/\h2 ri=some (.mapIter mi si sn la)/\h2.mp mi es2 c2/\nextOk es2 sn la=true/\(∀ e,e∈es2.toList->sn.contains e.born=false->∃ ri1 b5 si1 sn1 es3 c3 st e1,((some ⟨b4,0,none⟩):Option Addr)=some ⟨ri1,0,none⟩/\(h2.new ri (.mapIter mi si (sn.push e.born) c2)) ri1=some (.mapIter (some b5) si1 sn1 c3)/\sn1.back?=some st/\(h2.new ri (.mapIter mi si (sn.push e.born) c2)) b5=some (.map es3 c3)/\es3.find? (λe=>e.born == st)=some e1/\∃ p3:Option Addr,∃ n:Int,[e1.key,e1.val]=[.pointer p3,.int .i64 n]/\dr p λb6 o4=>ldM (h2.new ri (.mapIter mi si (sn.push e.born) c2)) b6 (o4+3) λm4=>T108 p3 m4 (h2.new ri (.mapIter mi si (sn.push e.born) c2)) λr1 h3=>I h3/\m3 h3<m3 h2)/\((∀ e∈es2.toList,e.born<si->sn.contains e.born=true)->dr p1 λb7 o5=>ldS h2 b7 o5 λl=>∃ (I1:Sl->Int->Hp->Prop) (m5:Sl->Int->Hp->Nat),I1 ⟨none,0,0⟩ 0 h2/\(∀ l1:Sl,∀ n1:Int,∀ h4:Hp,I1 l1 n1 h4->par (n1<(l.n:Int)) (ix l.a n1 l.n λb8 o6=>ldS h4 b8 (o6+n1.toNat) λl2=>∃ (I2:Sl->Int->Hp->Prop) (m6:Sl->Int->Hp->Nat),I2 l1 0 h4/\(∀ l3:Sl,∀ n2:Int,∀ h5:Hp,I2 l3 n2 h5->par (n2<(l2.n:Int)) (ix l2.a n2 l2.n λb9 o7=>ldI .u64 h5 b9 (o7+n2.toNat*6) λn3=>ldI .i64 h5 b9 ((o7+n2.toNat*6)+1) λn4=>ldI .i64 h5 b9 ((o7+n2.toNat*6)+2) λn5=>ldI .i64 h5 b9 ((o7+n2.toNat*6)+3) λn6=>ldT h5 b9 ((o7+n2.toNat*6)+4) λs=>ldT h5 b9 ((o7+n2.toNat*6)+5) λs1=>dr p λb10 o8=>ldM h5 b10 (o8+3) λm7=>∃ es4 c4,h5.mp m7 es4 c4/\keysFit (.int .u64 n3) es4/\retI .i64 (mget es4 (.int .u64 n3) (.int .i64 0)) λn7=>par (n7=0) (appendD l3 22 1 8 [.int .u64 0] 1 [.int .u64 n3] h5 λl4 h6=>I2 l4 (wrap .i64 (n2+1)) h6/\m6 l4 (wrap .i64 (n2+1)) h6<m6 l3 n2 h5) (I2 l3 (wrap .i64 (n2+1)) h5/\m6 l3 (wrap .i64 (n2+1)) h5<m6 l3 n2 h5)) (I1 l3 (wrap .i64 (n1+1)) h5/\m5 l3 (wrap .i64 (n1+1)) h5<m5 l1 n1 h4))) (T112 l1 h4 λr2 h7=>Q (.slice l1.a l1.n l1.c) h7))))
def F73.T:=F73.G F108.T F112.T
theorem F73.gen(V T108 T112 p p1):denF Tryd.prog [10,65,137446227971] [(108,F108.W T108),(112,F112.W T112)] V [(14,.order [0,1,2,3,4,5,6,7,8]),(122,.loop [] []),(506,.loop [(6,.sl),(44,.int .i64)] []),(129638,.loop [(6,.sl),(50,.int .i64)] []),(16593714,.order [0,1,2,3,4,5,6,7])] Tryd.f73 [.v (.pointer p),.v (.pointer p1)]=F73.G T108 T112 p p1:=by kernel_rfl
def F73.W(T73:Option Addr->Option Addr->PT)(args:List Value):PT:=match args with
 |[.pointer p,.pointer p1]=>T73 p p1
 |_=>λ_ _=>False
def F73.V:List Value->PT:=F73.W F73.T
theorem F73.ok:FOk Tryd.prog 73 F73.V:=by
 refine⟨⟨_,Tryd.func73,rfl,rfl⟩,λ_=>?_⟩;unfold F73.V F73.W;split;exact denF_okE (GOk.cons F108.ok (GOk.cons F112.ok (GOk.nil))) noV_ok Tryd.func73 (F73.gen noV F108.T F112.T _ _);exact λ_ _ h=>h.elim
end Go.Eng.YtblghgacokoklaaDoor
end
section
open Go.Proofs
namespace Go.Eng.YtblghgacokoklaaDoor
@[reducible] def F31.G(T70:Option Addr->PT)(T71 T72:Option Addr->Sl->PT)(T73:Option Addr->Option Addr->PT)(p:Option Addr)(n n1 n2:Int)(l l1 l2:Sl):PT:=λh Q=>
 ∃ b o,(p:Option Addr)=some ⟨b,o,none⟩/\∃ p1:Option Addr,h.at b o=some (.pointer p1)/\∃ b1 o1,(p1:Option Addr)=some ⟨b1,o1,none⟩/\∃ l3:Sl,h.at b1 o1=some (.slice l3.a l3.n l3.c)/\par ((l2.n:Int)=(l3.n:Int)) (∃ b2 o2,(p:Option Addr)=some ⟨b2,o2,none⟩/\∃ p2:Option Addr,h.at b2 o2=some (.pointer p2)/\T70 p2 h λr h1=>∃ p3:Option Addr,r=.pointer p3/\T71 p3 l h1 λr1 h2=>∃ n3:Int,r1=.int .i64 n3/\par (n3=0) (T72 p3 l1 h2 λr2 h3=>∃ n4:Int,r2=.int .i64 n4/\par (n4=0) (∃ b3 o3,(p:Option Addr)=some ⟨b3,o3,none⟩/\∃ p4:Option Addr,h3.at b3 o3=some (.pointer p4)/\∃ b4 o4,(p:Option Addr)=some ⟨b4,o4,none⟩/\h3.canW b4 o4 1/\∃ b5 o5,(p:Option Addr)=some ⟨b5,o5,none⟩/\∃ l4:Sl,(h3.wr b4 o4 [.pointer p3]).at b5 (o5+2)=some (.slice l4.a l4.n l4.c)/\∃ vs,(h3.wr b4 o4 [.pointer p3]).row l2.a ((Nat.min l2.n l4.n)*1) vs/\(∀ v∈vs,Value.oneCell' v=true)/\(h3.wr b4 o4 [.pointer p3]).canWA l4.a vs.length/\T73 p p4 ((h3.wr b4 o4 [.pointer p3]).wrA l4.a vs) λr3 h4=>∃ l5:Sl,r3=.slice l5.a l5.n l5.c/\Q (.tuple ⟨[.slice l5.a l5.n l5.c,.int .i64 0]⟩) h4) (Q (.tuple ⟨[.slice none 0 0,.int .i64 n4]⟩) h3)) (Q (.tuple ⟨[.slice none 0 0,.int .i64 n3]⟩) h2)) (Q (.tuple ⟨[.slice none 0 0,.int .i64 133]⟩) h)
def F31.T:=F31.G F70.T F71.T F72.T F73.T
theorem F31.gen(V T70 T71 T72 T73 p n n1 n2 l l1 l2):denF Tryd.prog [3] [(70,F70.W T70),(71,F71.W T71),(72,F72.W T72),(73,F73.W T73)] V [(12,.order [0,1,2,3,4,5,6,7,8,9,10,11]),(510,.order [0,1,2,3,4,5,6])] Tryd.f31 [.v (.pointer p),.v (.agg ⟨[.int .u64 n,.int .u64 n1,.int .u64 n2,.slice l.a l.n l.c,.slice l1.a l1.n l1.c,.slice l2.a l2.n l2.c]⟩)]=F31.G T70 T71 T72 T73 p n n1 n2 l l1 l2:=by kernel_rfl
def F31.W(T31:Option Addr->Int->Int->Int->Sl->Sl->Sl->PT)(args:List Value):PT:=match args with
 |[.pointer p,.agg ⟨[.int .u64 n,.int .u64 n1,.int .u64 n2,.slice l_a l_n l_c,.slice l1_a l1_n l1_c,.slice l2_a l2_n l2_c]⟩]=>T31 p n n1 n2 ⟨l_a,l_n,l_c⟩ ⟨l1_a,l1_n,l1_c⟩ ⟨l2_a,l2_n,l2_c⟩
 |_=>λ_ _=>False
def F31.V:List Value->PT:=F31.W F31.T
theorem F31.ok:FOk Tryd.prog 31 F31.V:=by
 refine⟨⟨_,Tryd.func31,rfl,rfl⟩,λ_=>?_⟩;unfold F31.V F31.W;split;exact denF_okE (GOk.cons F70.ok (GOk.cons F71.ok (GOk.cons F72.ok (GOk.cons F73.ok (GOk.nil))))) noV_ok Tryd.func31 (F31.gen noV F70.T F71.T F72.T F73.T _ _ _ _ ⟨_,_,_⟩ ⟨_,_,_⟩ ⟨_,_,_⟩);exact λ_ _ h=>h.elim
def F74.T(p:Option Addr):PT:=λh Q=>
 ∃ b o,(p:Option Addr)=some ⟨b,o,none⟩/\∃ p1:Option Addr,h.at b o=some (.pointer p1)/\Q (.pointer p1) h
theorem F74.den(V p):denF Tryd.prog [] [] V [] Tryd.f74 [.v (.pointer p)]=F74.T p:=by kernel_rfl
def F74.W(T74:Option Addr->PT)(args:List Value):PT:=match args with
 |[.pointer p]=>T74 p
 |_=>λ_ _=>False
def F74.V:List Value->PT:=F74.W F74.T
theorem F74.ok:FOk Tryd.prog 74 F74.V:=by
 refine⟨⟨_,Tryd.func74,rfl,rfl⟩,λ_=>?_⟩;unfold F74.V F74.W;split;exact denF_okE (GOk.nil) noV_ok Tryd.func74 (F74.den noV _);exact λ_ _ h=>h.elim
end Go.Eng.YtblghgacokoklaaDoor
end
section
open Go.Proofs
namespace Go.Eng.YtblghgacokoklaaDoor
def F77.T(l:Sl):PT:=λh Q=>
 par ((l.a:Option Addr)=none) (Q (.slice none 0 0) h) (nw h (.cells ⟨[]⟩ 9 (0,0)) λb h1=>∃ vs,h1.row l.a (l.n*1) vs/\(∀ v∈vs,Value.oneCell' v=true)/\appendD ⟨(some ⟨b,0,none⟩),0,0⟩ 9 1 16 [.string ⟨#[]⟩] l.n vs h1 λl1 h2=>Q (.slice l1.a l1.n l1.c) h2)
theorem F77.den(V l):denF Tryd.prog [] [] V [] Tryd.f77 [.v (.slice l.a l.n l.c)]=F77.T l:=by kernel_rfl
def F77.W(T77:Sl->PT)(args:List Value):PT:=match args with
 |[.slice l_a l_n l_c]=>T77 ⟨l_a,l_n,l_c⟩
 |_=>λ_ _=>False
def F77.V:List Value->PT:=F77.W F77.T
theorem F77.ok:FOk Tryd.prog 77 F77.V:=by
 refine⟨⟨_,Tryd.func77,rfl,rfl⟩,λ_=>?_⟩;unfold F77.V F77.W;split;exact denF_okE (GOk.nil) noV_ok Tryd.func77 (F77.den noV ⟨_,_,_⟩);exact λ_ _ h=>h.elim
@[reducible] def F34.G(T77:Sl->PT)(p:Option Addr):PT:=λh Q=>
 dr p λb o=>ldS h b (o+2) λl=>T77 l h λr h1=>retS r λl1=>Q (.slice l1.a l1.n l1.c) h1
def F34.T:=F34.G F77.T
theorem F34.gen(V T77 p):denF Tryd.prog [] [(77,F77.W T77)] V [] Tryd.f34 [.v (.pointer p)]=F34.G T77 p:=by kernel_rfl
def F34.W(T34:Option Addr->PT)(args:List Value):PT:=match args with
 |[.pointer p]=>T34 p
 |_=>λ_ _=>False
def F34.V:List Value->PT:=F34.W F34.T
theorem F34.ok:FOk Tryd.prog 34 F34.V:=by
 refine⟨⟨_,Tryd.func34,rfl,rfl⟩,λ_=>?_⟩;unfold F34.V F34.W;split;exact denF_okE (GOk.cons F77.ok (GOk.nil)) noV_ok Tryd.func34 (F34.gen noV F77.T _);exact λ_ _ h=>h.elim
end Go.Eng.YtblghgacokoklaaDoor
end
section
open Go.Proofs
namespace Go.Eng.YtblghgacokoklaaDoor
@[reducible] def F76.G(T104:Option Addr->Int->PT)(p:Option Addr)(n:Int):PT:=λh Q=>
 T104 p n h λr h1=>∃ b:Bool,r=.bool b/\parB b (∃ b1 o,(p:Option Addr)=some ⟨b1,o,none⟩/\∃ l:Sl,h1.at b1 o=some (.slice l.a l.n l.c)/\∃ b2 o1,(l.a:Option Addr)=some ⟨b2,o1,none⟩/\((0:Int)<=n/\n<(l.n:Int))/\∃ l1:Sl,h1.at b2 (o1+n.toNat)=some (.slice l1.a l1.n l1.c)/\∃ vs,h1.row l1.a (l1.n*6) vs/\(∀ v∈vs,Value.oneCell' v=true)/\appendD ⟨none,0,0⟩ 106 6 64 [.int .u64 0,.int .i64 0,.int .i64 0,.int .i64 0,.string ⟨#[]⟩,.string ⟨#[]⟩] l1.n vs h1 λl2 h2=>Q (.slice l2.a l2.n l2.c) h2) (Q (.slice none 0 0) h1)
def F76.T:=F76.G F104.T
theorem F76.gen(V T104 p n):denF Tryd.prog [] [(104,F104.W T104)] V [] Tryd.f76 [.v (.pointer p),.v (.int .i64 n)]=F76.G T104 p n:=by kernel_rfl
def F76.W(T76:Option Addr->Int->PT)(args:List Value):PT:=match args with
 |[.pointer p,.int .i64 n]=>T76 p n
 |_=>λ_ _=>False
def F76.V:List Value->PT:=F76.W F76.T
theorem F76.ok:FOk Tryd.prog 76 F76.V:=by
 refine⟨⟨_,Tryd.func76,rfl,rfl⟩,λ_=>?_⟩;unfold F76.V F76.W;split;exact denF_okE (GOk.cons F104.ok (GOk.nil)) noV_ok Tryd.func76 (F76.gen noV F104.T _ _);exact λ_ _ h=>h.elim
def F75.T(p:Option Addr):PT:=λh Q=>
 ∃ b o,(p:Option Addr)=some ⟨b,o,none⟩/\∃ l:Sl,h.at b o=some (.slice l.a l.n l.c)/\Q (.int .i64 (l.n:Int)) h
theorem F75.den(V p):denF Tryd.prog [] [] V [] Tryd.f75 [.v (.pointer p)]=F75.T p:=by kernel_rfl
def F75.W(T75:Option Addr->PT)(args:List Value):PT:=match args with
 |[.pointer p]=>T75 p
 |_=>λ_ _=>False
def F75.V:List Value->PT:=F75.W F75.T
theorem F75.ok:FOk Tryd.prog 75 F75.V:=by
 refine⟨⟨_,Tryd.func75,rfl,rfl⟩,λ_=>?_⟩;unfold F75.V F75.W;split;exact denF_okE (GOk.nil) noV_ok Tryd.func75 (F75.den noV _);exact λ_ _ h=>h.elim
def F79.T(l l1:Sl):PT:=λh Q=>
 par ((l.n:Int)=(l1.n:Int)) (∃ (I:Int->Hp->Prop) (m:Int->Hp->Nat),I 0 h/\(∀ n:Int,∀ h1:Hp,I n h1->par (n<(l.n:Int)) (∃ b o,(l.a:Option Addr)=some ⟨b,o,none⟩/\((0:Int)<=n/\n<(l.n:Int))/\∃ n1:Int,h1.at b (o+n.toNat*6)=some (.int .u64 n1)/\∃ n2:Int,h1.at b ((o+n.toNat*6)+1)=some (.int .i64 n2)/\∃ n3:Int,h1.at b ((o+n.toNat*6)+2)=some (.int .i64 n3)/\∃ n4:Int,h1.at b ((o+n.toNat*6)+3)=some (.int .i64 n4)/\∃ s:ByteArray,h1.at b ((o+n.toNat*6)+4)=some (.string s)/\∃ s1:ByteArray,h1.at b ((o+n.toNat*6)+5)=some (.string s1)/\∃ b1 o1,(l1.a:Option Addr)=some ⟨b1,o1,none⟩/\((0:Int)<=n/\n<(l1.n:Int))/\∃ n5:Int,h1.at b1 (o1+n.toNat*6)=some (.int .u64 n5)/\∃ n6:Int,h1.at b1 ((o1+n.toNat*6)+1)=some (.int .i64 n6)/\∃ n7:Int,h1.at b1 ((o1+n.toNat*6)+2)=some (.int .i64 n7)/\∃ n8:Int,h1.at b1 ((o1+n.toNat*6)+3)=some (.int .i64 n8)/\∃ s2:ByteArray,h1.at b1 ((o1+n.toNat*6)+4)=some (.string s2)/\∃ s3:ByteArray,h1.at b1 ((o1+n.toNat*6)+5)=some (.string s3)/\par (([.int .u64 n1,.int .i64 n2,.int .i64 n3,.int .i64 n4,.string s,.string s1]:List Value)=[.int .u64 n5,.int .i64 n6,.int .i64 n7,.int .i64 n8,.string s2,.string s3]) (I (wrap .i64 (n+1)) h1/\m (wrap .i64 (n+1)) h1<m n h1) (Q (.bool false) h1)) (Q (.bool true) h1))) (Q (.bool false) h)
theorem F79.den(V l l1):denF Tryd.prog [] [] V [(58,.loop [(5,.int .i64)] []),(1864,.order [0,1,2,3,4,5,6,7,8])] Tryd.f79 [.v (.slice l.a l.n l.c),.v (.slice l1.a l1.n l1.c)]=F79.T l l1:=by kernel_rfl
def F79.W(T79:Sl->Sl->PT)(args:List Value):PT:=match args with
 |[.slice l_a l_n l_c,.slice l1_a l1_n l1_c]=>T79 ⟨l_a,l_n,l_c⟩ ⟨l1_a,l1_n,l1_c⟩
 |_=>λ_ _=>False
def F79.V:List Value->PT:=F79.W F79.T
theorem F79.ok:FOk Tryd.prog 79 F79.V:=by
 refine⟨⟨_,Tryd.func79,rfl,rfl⟩,λ_=>?_⟩;unfold F79.V F79.W;split;exact denF_okE (GOk.nil) noV_ok Tryd.func79 (F79.den noV ⟨_,_,_⟩ ⟨_,_,_⟩);exact λ_ _ h=>h.elim
end Go.Eng.YtblghgacokoklaaDoor
end
section
open Go.Proofs
namespace Go.Eng.YtblghgacokoklaaDoor
@[reducible] def F32.G(T34 T74 T75:Option Addr->PT)(T76:Option Addr->Int->PT)(p:Option Addr)(n n1 n2 n3:Int):PT:=λh Q=>
 T34 p h λr h1=>∃ l:Sl,r=.slice l.a l.n l.c/\∀ b,h1 b=none->(h1.new b (.cells ⟨[.int .u64 0,.int .u64 0,.int .u64 0,.slice none 0 0,.slice none 0 0,.slice none 0 0]⟩ 65 (0,0))).canW b 0 6/\T74 p ((h1.new b (.cells ⟨[.int .u64 0,.int .u64 0,.int .u64 0,.slice none 0 0,.slice none 0 0,.slice none 0 0]⟩ 65 (0,0))).wr b 0 [.int .u64 n,.int .u64 n1,.int .u64 n2,.slice none 0 0,.slice none 0 0,.slice l.a l.n l.c]) λr1 h2=>∃ p1:Option Addr,r1=.pointer p1/\T75 p1 h2 λr2 h3=>∃ n4:Int,r2=.int .i64 n4/\∃ (I:Int->Hp->Prop) (m:Int->Hp->Nat),I 0 h3/\(∀ n5:Int,∀ h4:Hp,I n5 h4->par (n5<n4) (T76 p1 n5 h4 λr3 h5=>∃ l1:Sl,r3=.slice l1.a l1.n l1.c/\∃ (I1:Int->Hp->Prop) (m1:Int->Hp->Nat),I1 0 h5/\(∀ n6:Int,∀ h6:Hp,I1 n6 h6->par (n6<(l1.n:Int)) (∃ b1 o,(l1.a:Option Addr)=some ⟨b1,o,none⟩/\((0:Int)<=n6/\n6<(l1.n:Int))/\∃ n7:Int,h6.at b1 (o+n6.toNat*6)=some (.int .u64 n7)/\∃ n8:Int,h6.at b1 ((o+n6.toNat*6)+1)=some (.int .i64 n8)/\∃ n9:Int,h6.at b1 ((o+n6.toNat*6)+2)=some (.int .i64 n9)/\∃ n10:Int,h6.at b1 ((o+n6.toNat*6)+3)=some (.int .i64 n10)/\∃ s:ByteArray,h6.at b1 ((o+n6.toNat*6)+4)=some (.string s)/\∃ s1:ByteArray,h6.at b1 ((o+n6.toNat*6)+5)=some (.string s1)/\∃ l2:Sl,h6.at b 4=some (.slice l2.a l2.n l2.c)/\appendD l2 108 7 72 [.int .i64 0,.int .u64 0,.int .i64 0,.int .i64 0,.int .i64 0,.string ⟨#[]⟩,.string ⟨#[]⟩] 1 [.int .i64 n5,.int .u64 n7,.int .i64 n8,.int .i64 n9,.int .i64 n10,.string s,.string s1] h6 λl3 h7=>h7.canW b 4 1/\I1 (wrap .i64 (n6+1)) (h7.wr b 4 [.slice l3.a l3.n l3.c])/\m1 (wrap .i64 (n6+1)) (h7.wr b 4 [.slice l3.a l3.n l3.c])<m1 n6 h6) (I (wrap .i64 (n5+1)) h6/\m (wrap .i64 (n5+1)) h6<m n5 h4))) (∃ n11:Int,h4.at b 0=some (.int .u64 n11)/\∃ n12:Int,h4.at b 1=some (.int .u64 n12)/\∃ n13:Int,h4.at b 2=some (.int .u64 n13)/\∃ l4:Sl,h4.at b 3=some (.slice l4.a l4.n l4.c)/\∃ l5:Sl,h4.at b 4=some (.slice l5.a l5.n l5.c)/\∃ l6:Sl,h4.at b 5=some (.slice l6.a l6.n l6.c)/\Q (.agg ⟨[.int .u64 n11,.int .u64 n12,.int .u64 n13,.slice l4.a l4.n l4.c,.slice l5.a l5.n l5.c,.slice l6.a l6.n l6.c]⟩) h4))
def F32.T:=F32.G F34.T F74.T F75.T F76.T
theorem F32.gen(V T34 T74 T75 T76 p n n1 n2 n3):denF Tryd.prog [3,4,9,39] [(34,F34.W T34),(74,F74.W T74),(75,F75.W T75),(76,F76.W T76)] V [(6,.orderL [0,1,2,3,4,5,6,7,8,9,10] [9]),(122,.loop [(23,.int .i64)] []),(31334,.loop [(30,.int .i64)] [])] Tryd.f32 [.v (.pointer p),.v (.agg ⟨[.int .u64 n,.int .u64 n1,.int .u64 n2,.int .u64 n3]⟩)]=F32.G T34 T74 T75 T76 p n n1 n2 n3:=by kernel_rfl
def F32.W(T32:Option Addr->Int->Int->Int->Int->PT)(args:List Value):PT:=match args with
 |[.pointer p,.agg ⟨[.int .u64 n,.int .u64 n1,.int .u64 n2,.int .u64 n3]⟩]=>T32 p n n1 n2 n3
 |_=>λ_ _=>False
def F32.V:List Value->PT:=F32.W F32.T
theorem F32.ok:FOk Tryd.prog 32 F32.V:=by
 refine⟨⟨_,Tryd.func32,rfl,rfl⟩,λ_=>?_⟩;unfold F32.V F32.W;split;exact denF_okE (GOk.cons F34.ok (GOk.cons F74.ok (GOk.cons F75.ok (GOk.cons F76.ok (GOk.nil))))) noV_ok Tryd.func32 (F32.gen noV F34.T F74.T F75.T F76.T _ _ _ _ _);exact λ_ _ h=>h.elim
end Go.Eng.YtblghgacokoklaaDoor
end
section
open Go.Proofs
namespace Go.Eng.YtblghgacokoklaaDoor
@[reducible] def F132.G(T100:Int->PT)(T114:Sl->PT)(T122:Int->PT)(l:Sl)(n:Int):PT:=λh Q=>
 par ((wrap .i64 ((l.n:Int)-n))<7) (Q (.tuple ⟨[.int .i64 0,.slice none 0 0,.bool false]⟩) h) (ix l.a (wrap .i64 (n+4)) l.n λb o=>ldI .u8 h b (o+((wrap .i64 (n+4))).toNat) λn1=>ix l.a (wrap .i64 (n+5)) l.n λb1 o1=>ldI .u8 h b1 (o1+((wrap .i64 (n+5))).toNat) λn2=>(0:Int)<=8/\ix l.a (wrap .i64 (n+6)) l.n λb2 o2=>ldI .u8 h b2 (o2+((wrap .i64 (n+6))).toNat) λn3=>h.at b2 (o2+((wrap .i64 (n+6))).toNat)=some (.int .u8 n3)/\T100 n h λr h1=>retI .i64 r λn4=>par (n4<(wrap .i64 (7+(wrap .i64 ((wrap .i64 n1)+(shlI .i64 (wrap .i64 n2) 8)))))) (Q (.tuple ⟨[.int .i64 0,.slice none 0 0,.bool false]⟩) h1) (par ((wrap .i64 ((l.n:Int)-n))<(wrap .i64 (7+(wrap .i64 ((wrap .i64 n1)+(shlI .i64 (wrap .i64 n2) 8)))))) (Q (.tuple ⟨[.int .i64 0,.slice none 0 0,.bool false]⟩) h1) (par ((wrap .i64 n3)<1) (Q (.tuple ⟨[.int .i64 0,.slice none 0 0,.bool false]⟩) h1) (par ((4:Int)<(wrap .i64 n3)) (Q (.tuple ⟨[.int .i64 0,.slice none 0 0,.bool false]⟩) h1) (Sl.okCut l (wrap .i64 (n+4)) (wrap .i64 ((wrap .i64 (n+7))+(wrap .i64 ((wrap .i64 n1)+(shlI .i64 (wrap .i64 n2) 8))))) (l.c:Int)/\Sl.okCut l n (wrap .i64 (n+4)) (l.c:Int)/\∃ s:ByteArray,h1.row ((Sl.cut l 1 n (wrap .i64 (n+4)) (l.c:Int)).a) ((Sl.cut l 1 n (wrap .i64 (n+4)) (l.c:Int)).n) (bytesV s)/\T114 (Sl.cut l 1 (wrap .i64 (n+4)) (wrap .i64 ((wrap .i64 (n+7))+(wrap .i64 ((wrap .i64 n1)+(shlI .i64 (wrap .i64 n2) 8))))) (l.c:Int)) h1 λr1 h2=>retI .u32 r1 λn5=>h2.row ((Sl.cut l 1 n (wrap .i64 (n+4)) (l.c:Int)).a) ((Sl.cut l 1 n (wrap .i64 (n+4)) (l.c:Int)).n) (bytesV s)/\T122 n5 h2 λr2 h3=>retS r2 λl1=>h3.row ((Sl.cut l 1 n (wrap .i64 (n+4)) (l.c:Int)).a) ((Sl.cut l 1 n (wrap .i64 (n+4)) (l.c:Int)).n) (bytesV s)/\∃ s1:ByteArray,h3.row l1.a l1.n (bytesV s1)/\par (s1=s) (Sl.okCut l (wrap .i64 (n+7)) (wrap .i64 ((wrap .i64 (n+7))+(wrap .i64 ((wrap .i64 n1)+(shlI .i64 (wrap .i64 n2) 8))))) (l.c:Int)/\Q (.tuple ⟨[.int .i64 (wrap .i64 n3),.slice (Sl.cut l 1 (wrap .i64 (n+7)) (wrap .i64 ((wrap .i64 (n+7))+(wrap .i64 ((wrap .i64 n1)+(shlI .i64 (wrap .i64 n2) 8))))) (l.c:Int)).a (Sl.cut l 1 (wrap .i64 (n+7)) (wrap .i64 ((wrap .i64 (n+7))+(wrap .i64 ((wrap .i64 n1)+(shlI .i64 (wrap .i64 n2) 8))))) (l.c:Int)).n (Sl.cut l 1 (wrap .i64 (n+7)) (wrap .i64 ((wrap .i64 (n+7))+(wrap .i64 ((wrap .i64 n1)+(shlI .i64 (wrap .i64 n2) 8))))) (l.c:Int)).c,.bool true]⟩) h3) (Q (.tuple ⟨[.int .i64 0,.slice none 0 0,.bool false]⟩) h3))))))
def F132.T:=F132.G F100.T F114.T F122.T
theorem F132.gen(V T100 T114 T122 l n):denF Tryd.prog [] [(100,F100.W T100),(114,F114.W T114),(122,F122.W T122)] V [(14,.order [0,1,2,3,4,5,6,7,8,9,10,11,12,13,14,15,16,17,18,19,20,21]),(252,.order [0,1,2,3,4,8,9,10,11,12,13,5,6,7,14]),(254,.order [0,1,2,3,4,5,6,7,8])] Tryd.f132 [.v (.slice l.a l.n l.c),.v (.int .i64 n)]=F132.G T100 T114 T122 l n:=by kernel_rfl
def F132.W(T132:Sl->Int->PT)(args:List Value):PT:=match args with
 |[.slice l_a l_n l_c,.int .i64 n]=>T132 ⟨l_a,l_n,l_c⟩ n
 |_=>λ_ _=>False
def F132.V:List Value->PT:=F132.W F132.T
theorem F132.ok:FOk Tryd.prog 132 F132.V:=by
 refine⟨⟨_,Tryd.func132,rfl,rfl⟩,λ_=>?_⟩;unfold F132.V F132.W;split;exact denF_okE (GOk.cons F100.ok (GOk.cons F114.ok (GOk.cons F122.ok (GOk.nil)))) noV_ok Tryd.func132 (F132.gen noV F100.T F114.T F122.T ⟨_,_,_⟩ _);exact λ_ _ h=>h.elim
@[reducible] def F113.G(T100:Int->PT)(T132:Sl->Int->PT)(l:Sl)(n:Int):PT:=λh Q=>
 ∃ J:Int->Hp->Prop,(∀ n1:Int,∀ h1:Hp,J n1 h1->∃ (I:Int->Sl->Bool->Hp->Prop) (m:Int->Sl->Bool->Hp->Nat),I n1 ⟨none,0,0⟩ false h1/\(∀ n2:Int,∀ l1:Sl,(∀ h2:Hp,I n2 l1 true h2->T132 l n2 h2 λr h3=>∃ n3:Int,∃ l2:Sl,∃ b1:Bool,parB b1 (r=.tuple ⟨[.int .i64 n3,.slice l2.a l2.n l2.c,.bool true]⟩/\∃ J1:Hp->Prop,(∀ h4:Hp,J1 h4->∃ vs,h4.row l2.a (l2.n*1) vs/\(∀ v∈vs,Value.oneCell' v=true)/\appendD l1 5 1 1 [.int .u8 0] l2.n vs h4 λl3 h5=>T100 (wrap .i64 (n2+(wrap .i64 (7+(l2.n:Int))))) h5 λr1 h6=>retI .i64 r1 λn4=>par (n4=512) (∃ J2:Bool->Hp->Prop,((∀ h7:Hp,J2 true h7->Q (.tuple ⟨[.slice l3.a l3.n l3.c,.int .i64 (wrap .i64 (n2+(wrap .i64 (7+(l2.n:Int))))),.bool true]⟩) h7)/\(∀ h7:Hp,J2 false h7->par (n3=4) (Q (.tuple ⟨[.slice none 0 0,.int .i64 0,.bool false]⟩) h7) (I (wrap .i64 (n2+(wrap .i64 (7+(l2.n:Int))))) l3 true h7/\m (wrap .i64 (n2+(wrap .i64 (7+(l2.n:Int))))) l3 true h7<m n2 l1 true h2)))/\(par (n3=1) (J2 true h6) (par (n3=4) (par ((0:Int)<(l2.n:Int)) (J2 true h6) (J2 false h6)) (J2 false h6)))) (∃ J3:Bool->Hp->Prop,((∀ h8:Hp,J3 true h8->Q (.tuple ⟨[.slice l3.a l3.n l3.c,.int .i64 (wrap .i64 (n2+(wrap .i64 (7+(l2.n:Int))))),.bool true]⟩) h8)/\(∀ h8:Hp,J3 false h8->par (n3=4) (Q (.tuple ⟨[.slice none 0 0,.int .i64 0,.bool false]⟩) h8) (Q (.tuple ⟨[.slice none 0 0,.int .i64 0,.bool false]⟩) h8)))/\(par (n3=1) (J3 true h6) (par (n3=4) (par ((0:Int)<(l2.n:Int)) (J3 true h6) (J3 false h6)) (J3 false h6)))))/\(par (n3=3) (par ((true:Bool)=true) (J1 h3) (Q (.tuple ⟨[.slice none 0 0,.int .i64 0,.bool false]⟩) h3)) (par (n3=4) (par ((true:Bool)=true) (J1 h3) (Q (.tuple ⟨[.slice none 0 0,.int .i64 0,.bool false]⟩) h3)) (par ((true:Bool)=false) (J1 h3) (Q (.tuple ⟨[.slice none 0 0,.int .i64 0,.bool false]⟩) h3))))) (r=.tuple ⟨[.int .i64 n3,.slice l2.a l2.n l2.c,.bool false]⟩/\∃ J4:Hp->Prop,(∀ h9:Hp,J4 h9->∃ vs1,h9.row l2.a (l2.n*1) vs1/\(∀ v∈vs1,Value.oneCell' v=true)/\appendD l1 5 1 1 [.int .u8 0] l2.n vs1 h9 λl4 h10=>T100 (wrap .i64 (n2+(wrap .i64 (7+(l2.n:Int))))) h10 λr2 h11=>retI .i64 r2 λn5=>par (n5=512) (∃ J5:Bool->Hp->Prop,((∀ h12:Hp,J5 true h12->Q (.tuple ⟨[.slice l4.a l4.n l4.c,.int .i64 (wrap .i64 (n2+(wrap .i64 (7+(l2.n:Int))))),.bool true]⟩) h12)/\(∀ h12:Hp,J5 false h12->par (n3=4) (Q (.tuple ⟨[.slice none 0 0,.int .i64 0,.bool false]⟩) h12) (I (wrap .i64 (n2+(wrap .i64 (7+(l2.n:Int))))) l4 true h12/\m (wrap .i64 (n2+(wrap .i64 (7+(l2.n:Int))))) l4 true h12<m n2 l1 true h2)))/\(par (n3=1) (J5 true h11) (par (n3=4) (par ((0:Int)<(l2.n:Int)) (J5 true h11) (J5 false h11)) (J5 false h11)))) (∃ J6:Bool->Hp->Prop,((∀ h13:Hp,J6 true h13->Q (.tuple ⟨[.slice l4.a l4.n l4.c,.int .i64 (wrap .i64 (n2+(wrap .i64 (7+(l2.n:Int))))),.bool true]⟩) h13)/\(∀ h13:Hp,J6 false h13->par (n3=4) (Q (.tuple ⟨[.slice none 0 0,.int .i64 0,.bool false]⟩) h13) (Q (.tuple ⟨[.slice none 0 0,.int .i64 0,.bool false]⟩) h13)))/\(par (n3=1) (J6 true h11) (par (n3=4) (par ((0:Int)<(l2.n:Int)) (J6 true h11) (J6 false h11)) (J6 false h11)))))/\(Q (.tuple ⟨[.slice none 0 0,.int .i64 0,.bool false]⟩) h3)))/\(∀ h2:Hp,I n2 l1 false h2->T132 l n2 h2 λr3 h14=>∃ n6:Int,∃ l5:Sl,∃ b6:Bool,parB b6 (r3=.tuple ⟨[.int .i64 n6,.slice l5.a l5.n l5.c,.bool true]⟩/\∃ J7:Hp->Prop,(∀ h15:Hp,J7 h15->∃ vs2,h15.row l5.a (l5.n*1) vs2/\(∀ v∈vs2,Value.oneCell' v=true)/\appendD l1 5 1 1 [.int .u8 0] l5.n vs2 h15 λl6 h16=>T100 (wrap .i64 (n2+(wrap .i64 (7+(l5.n:Int))))) h16 λr4 h17=>retI .i64 r4 λn7=>par (n7=512) (∃ J8:Bool->Hp->Prop,((∀ h18:Hp,J8 true h18->Q (.tuple ⟨[.slice l6.a l6.n l6.c,.int .i64 (wrap .i64 (n2+(wrap .i64 (7+(l5.n:Int))))),.bool true]⟩) h18)/\(∀ h18:Hp,J8 false h18->par (n6=4) (Q (.tuple ⟨[.slice none 0 0,.int .i64 0,.bool false]⟩) h18) (I (wrap .i64 (n2+(wrap .i64 (7+(l5.n:Int))))) l6 true h18/\m (wrap .i64 (n2+(wrap .i64 (7+(l5.n:Int))))) l6 true h18<m n2 l1 false h2)))/\(par (n6=1) (J8 true h17) (par (n6=4) (par ((0:Int)<(l5.n:Int)) (J8 true h17) (J8 false h17)) (J8 false h17)))) (∃ J9:Bool->Hp->Prop,((∀ h19:Hp,J9 true h19->Q (.tuple ⟨[.slice l6.a l6.n l6.c,.int .i64 (wrap .i64 (n2+(wrap .i64 (7+(l5.n:Int))))),.bool true]⟩) h19)/\(∀ h19:Hp,J9 false h19->par (n6=4) (Q (.tuple ⟨[.slice none 0 0,.int .i64 0,.bool false]⟩) h19) (Q (.tuple ⟨[.slice none 0 0,.int .i64 0,.bool false]⟩) h19)))/\(par (n6=1) (J9 true h17) (par (n6=4) (par ((0:Int)<(l5.n:Int)) (J9 true h17) (J9 false h17)) (J9 false h17)))))/\(par (n6=3) (par ((false:Bool)=true) (J7 h14) (Q (.tuple ⟨[.slice none 0 0,.int .i64 0,.bool false]⟩) h14)) (par (n6=4) (par ((false:Bool)=true) (J7 h14) (Q (.tuple ⟨[.slice none 0 0,.int .i64 0,.bool false]⟩) h14)) (par ((false:Bool)=false) (J7 h14) (Q (.tuple ⟨[.slice none 0 0,.int .i64 0,.bool false]⟩) h14))))) (r3=.tuple ⟨[.int .i64 n6,.slice l5.a l5.n l5.c,.bool false]⟩/\∃ J10:Hp->Prop,(∀ h20:Hp,J10 h20->∃ vs3,h20.row l5.a (l5.n*1) vs3/\(∀ v∈vs3,Value.oneCell' v=true)/\appendD l1 5 1 1 [.int .u8 0] l5.n vs3 h20 λl7 h21=>T100 (wrap .i64 (n2+(wrap .i64 (7+(l5.n:Int))))) h21 λr5 h22=>retI .i64 r5 λn8=>par (n8=512) (∃ J11:Bool->Hp->Prop,((∀ h23:Hp,J11 true h23->Q (.tuple ⟨[.slice l7.a l7.n l7.c,.int .i64 (wrap .i64 (n2+(wrap .i64 (7+(l5.n:Int))))),.bool true]⟩) h23)/\(∀ h23:Hp,J11 false h23->par (n6=4) (Q (.tuple ⟨[.slice none 0 0,.int .i64 0,.bool false]⟩) h23) (I (wrap .i64 (n2+(wrap .i64 (7+(l5.n:Int))))) l7 true h23/\m (wrap .i64 (n2+(wrap .i64 (7+(l5.n:Int))))) l7 true h23<m n2 l1 false h2)))/\(par (n6=1) (J11 true h22) (par (n6=4) (par ((0:Int)<(l5.n:Int)) (J11 true h22) (J11 false h22)) (J11 false h22)))) (∃ J12:Bool->Hp->Prop,((∀ h24:Hp,J12 true h24->Q (.tuple ⟨[.slice l7.a l7.n l7.c,.int .i64 (wrap .i64 (n2+(wrap .i64 (7+(l5.n:Int))))),.bool true]⟩) h24)/\(∀ h24:Hp,J12 false h24->par (n6=4) (Q (.tuple ⟨[.slice none 0 0,.int .i64 0,.bool false]⟩) h24) (Q (.tuple ⟨[.slice none 0 0,.int .i64 0,.bool false]⟩) h24)))/\(par (n6=1) (J12 true h22) (par (n6=4) (par ((0:Int)<(l5.n:Int)) (J12 true h22) (J12 false h22)) (J12 false h22)))))/\(Q (.tuple ⟨[.slice none 0 0,.int .i64 0,.bool false]⟩) h14)))))/\(T100 n h λr6 h25=>retI .i64 r6 λn9=>par (n9<=7) (par ((l.n:Int)<(wrap .i64 (n+n9))) (Q (.tuple ⟨[.slice none 0 0,.int .i64 0,.bool false]⟩) h25) (Sl.okCut l n (wrap .i64 (n+n9)) (l.c:Int)/\∃ (I1:Int->Hp->Prop) (m1:Int->Hp->Nat),I1 0 h25/\(∀ n10:Int,∀ h26:Hp,I1 n10 h26->par (n10<((Sl.cut l 1 n (wrap .i64 (n+n9)) (l.c:Int)).n:Int)) (ix ((Sl.cut l 1 n (wrap .i64 (n+n9)) (l.c:Int)).a) n10 ((Sl.cut l 1 n (wrap .i64 (n+n9)) (l.c:Int)).n) λb11 o=>ldI .u8 h26 b11 (o+n10.toNat) λn11=>par (n11=0) (I1 (wrap .i64 (n10+1)) h26/\m1 (wrap .i64 (n10+1)) h26<m1 n10 h26) (Q (.tuple ⟨[.slice none 0 0,.int .i64 0,.bool false]⟩) h26)) (J (wrap .i64 (n+n9)) h26)))) (J n h25))
def F113.T:=F113.G F100.T F132.T
theorem F113.gen(V T100 T132 l n):denF Tryd.prog [] [(100,F100.W T100),(132,F132.W T132)] V [(3,.join [(1,.int .i64)] []),(62,.loop [(1,.int .i64),(10,.sl),(11,.bool)] []),(874,.loop [(33,.int .i64)] []),(1987,.join [] []),(31806,.join [(73,.bool)] [])] Tryd.f113 [.v (.slice l.a l.n l.c),.v (.int .i64 n)]=F113.G T100 T132 l n:=by kernel_rfl
def F113.W(T113:Sl->Int->PT)(args:List Value):PT:=match args with
 |[.slice l_a l_n l_c,.int .i64 n]=>T113 ⟨l_a,l_n,l_c⟩ n
 |_=>λ_ _=>False
def F113.V:List Value->PT:=F113.W F113.T
theorem F113.ok:FOk Tryd.prog 113 F113.V:=by
 refine⟨⟨_,Tryd.func113,rfl,rfl⟩,λ_=>?_⟩;unfold F113.V F113.W;split;exact denF_okE (GOk.cons F100.ok (GOk.cons F132.ok (GOk.nil))) noV_ok Tryd.func113 (F113.gen noV F100.T F132.T ⟨_,_,_⟩ _);exact λ_ _ h=>h.elim
@[reducible] def F78.G(T113:Sl->Int->PT)(l:Sl):PT:=λh Q=>
 ∃ (I:Sl->Int->Hp->Prop) (m:Sl->Int->Hp->Nat),I ⟨none,0,0⟩ 0 h/\(∀ l1:Sl,∀ n:Int,∀ h1:Hp,I l1 n h1->par (n<(l.n:Int)) (T113 l n h1 λr h2=>∃ l2:Sl,∃ n1:Int,∃ b:Bool,parB b (r=.tuple ⟨[.slice l2.a l2.n l2.c,.int .i64 n1,.bool true]⟩/\appendD l1 23 1 24 [.slice none 0 0] 1 [.slice l2.a l2.n l2.c] h2 λl3 h3=>I l3 n1 h3/\m l3 n1 h3<m l1 n h1) (r=.tuple ⟨[.slice l2.a l2.n l2.c,.int .i64 n1,.bool false]⟩/\Q (.tuple ⟨[.slice l1.a l1.n l1.c,.int .i64 n,.int .i64 70]⟩) h2)) (Q (.tuple ⟨[.slice l1.a l1.n l1.c,.int .i64 n,.int .i64 0]⟩) h1))
def F78.T:=F78.G F113.T
theorem F78.gen(V T113 l):denF Tryd.prog [27] [(113,F113.W T113)] V [(60,.loop [(5,.sl),(6,.int .i64)] [])] Tryd.f78 [.v (.slice l.a l.n l.c)]=F78.G T113 l:=by kernel_rfl
def F78.W(T78:Sl->PT)(args:List Value):PT:=match args with
 |[.slice l_a l_n l_c]=>T78 ⟨l_a,l_n,l_c⟩
 |_=>λ_ _=>False
def F78.V:List Value->PT:=F78.W F78.T
theorem F78.ok:FOk Tryd.prog 78 F78.V:=by
 refine⟨⟨_,Tryd.func78,rfl,rfl⟩,λ_=>?_⟩;unfold F78.V F78.W;split;exact denF_okE (GOk.cons F113.ok (GOk.nil)) noV_ok Tryd.func78 (F78.gen noV F113.T ⟨_,_,_⟩);exact λ_ _ h=>h.elim
end Go.Eng.YtblghgacokoklaaDoor
end
section
namespace Go.Eng.YtblghgacokoklaaDoor
theorem bv_get{bs:List Int}{i:Nat}(h:i<bs.length):(bv bs)[i]?=some (.int .u8 (bs.getD i 0)):=by
 unfold bv
 rw[getElem?_map,List.getD_eq_getElem?_getD,getElem?_eq_getElem h]
 rfl
theorem drop_getD(bs:List Int)(a j:Nat):(bs.drop a).getD j 0=bs.getD (a+j) 0:=by
 rw[List.getD_eq_getElem?_getD,List.getD_eq_getElem?_getD,List.getElem?_drop]
theorem getD_ok{bs:List Int}(hok:okB8 bs)(i:Nat):0<=bs.getD i 0/\bs.getD i 0<256:=by
 rw[List.getD_eq_getElem?_getD]
 cases h:bs[i]? with
 |none=>exact⟨by decide,by decide⟩
 |some x=>exact hok x (mem_of_getElem? h)
theorem pc_len{x y:Int}(hx:0<=x/\x<256)(hy:0<=y/\y<256):wrap .i64 ((wrap .i64 x)+(shlI .i64 (wrap .i64 y) 8))=((x.toNat+y.toNat*256:Nat):Int):=by
 unfold shlI
 have h8:min (8:Int).toNat (IntKind.bits .i64)=8:=by decide
 rw[h8,wrap_i64 (n:=x) (by omega) (by omega),wrap_i64 (n:=y) (by omega) (by omega),wrap_i64 (n:=y*2 ^ 8) (by omega) (by omega),wrap_i64 (by omega) (by omega)]
 omega
theorem bv_inj{a b:List Int}(h:bv a=bv b):a=b:=by
 have:=congrArg (List.map λv=>match v with|.int _ n=>n|_=>(0:Int)) h
 unfold bv at this
 rw[List.map_map,List.map_map] at this
 have e:(((λv=>match v with|.int _ n=>n|_=>(0:Int)):Value->Int) ∘ λn=>Value.int .u8 n)=id:=rfl
 rw[e,List.map_id,List.map_id] at this
 exact this
theorem bv_cut(bs:List Int)(i n:Nat):((bv bs).drop i).take n=bv ((bs.drop i).take n):=by unfold bv;rw[List.map_take,List.map_drop]
theorem okB8_cut{bs:List Int}(h:okB8 bs)(i n:Nat):okB8 ((bs.drop i).take n):=λc hc=>h c (List.mem_of_mem_drop (List.mem_of_mem_take hc))
theorem piece_read{h:Hp}{l:Sl}{bs:List Int}{a:Nat}{Q:Value->Hp->Prop}(T:TabC h)(hr:h.row l.a l.n (bv bs))(hc:l.n<=l.c)(hok:okB8 bs)(hs:bs.length<=1000000000000)(ha:a<=bs.length)
  (h0:pieceAt a (bs.drop a)=none->∀ h',Keep h h'->Q (.tuple ⟨[.int .i64 0,.slice none 0 0,.bool false]⟩) h')
  (h1:∀ k p,pieceAt a (bs.drop a)=some (k,p)->∀ (l2:Sl) (h':Hp),Keep h h'->h'.row l2.a l2.n (bv p)->Q (.tuple ⟨[.int .i64 k,.slice l2.a l2.n l2.c,.bool true]⟩) h'):F132.T l (a:Int) h Q:=by
 unfold F132.T F132.G
 have hln:l.n=bs.length:=by have:=hr.1;rw[bv_length] at this;exact this.symm
 have hdl:(bs.drop a).length=bs.length-a:=length_drop
 have w0:wrap .i64 ((l.n:Int)-(a:Int))=((bs.length-a:Nat):Int):=by rw[wrap_i64 (by omega) (by omega)];omega
 have wk:∀ k:Nat,k<=10->wrap .i64 ((a:Int)+(k:Int))=((a+k:Nat):Int):=λk hk=>by rw[wrap_i64 (by omega) (by omega)];omega
 have w4:=wk 4 (by decide)
 have w5:=wk 5 (by decide)
 have w6:=wk 6 (by decide)
 have w7:=wk 7 (by decide)
 simp only[show((4:Nat):Int)=4 from rfl,show((5:Nat):Int)=5 from rfl,show((6:Nat):Int)=6 from rfl,show((7:Nat):Int)=7 from rfl] at w4 w5 w6 w7
 rw[w0]
 refine⟨λhlt=>h0 (by unfold pieceAt;rw[if_pos (by omega)]) h (Keep.refl _),λhge=>?_⟩
 obtain⟨b,o,hla,hat⟩:=row_get hr (i:=a) (by omega)
 have at_:∀ j,j<7->h.at b (o+((a+j:Nat):Int).toNat)=some (.int .u8 ((bs.drop a).getD j 0)):=λj hj=>by
  rw[Int.toNat_natCast,hat _ (by omega),bv_get (by omega),drop_getD]
 have ok:=getD_ok (okB8_cut hok a (bs.length))
 have od:∀ i,0<=(bs.drop a).getD i 0/\(bs.drop a).getD i 0<256:=getD_ok λc hc=>hok c (List.mem_of_mem_drop hc)
 rw[w4,w5,w6,w7]
 refine⟨b,o,hla,⟨by omega,by omega⟩,_,at_ 4 (by decide),b,o,hla,⟨by omega,by omega⟩,_,at_ 5 (by decide),by decide,b,o,hla,⟨by omega,by omega⟩,_,at_ 6 (by decide),at_ 6 (by decide),room_spec ⟨_,rfl,?_⟩⟩
 rw[pc_len (od 4) (od 5)]
 have o4:=od 4
 have o5:=od 5
 have o6:=od 6
 have hN:pcN (bs.drop a)<=100000:=by unfold pcN;omega
 have eN:((bs.drop a).getD 4 0).toNat+((bs.drop a).getD 5 0).toNat*256=pcN (bs.drop a):=rfl
 rw[eN]
 have wN:wrap .i64 (7+((pcN (bs.drop a):Nat):Int))=((7+pcN (bs.drop a):Nat):Int):=by rw[wrap_i64 (by omega) (by omega)];omega
 have wE:wrap .i64 (((a+7:Nat):Int)+((pcN (bs.drop a):Nat):Int))=((a+7+pcN (bs.drop a):Nat):Int):=by rw[wrap_i64 (by omega) (by omega)];omega
 have wy:wrap .i64 ((bs.drop a).getD 6 0)=(bs.drop a).getD 6 0:=wrap_i64 (by omega) (by omega)
 rw[wN,wE,wy]
 have hnone:(512-a % 512<7+pcN (bs.drop a)\/(bs.drop a).length<7+pcN (bs.drop a)\/(bs.drop a).getD 6 0<1\/4<(bs.drop a).getD 6 0)->pieceAt a (bs.drop a)=none:=λc=>by
  unfold pieceAt;rw[if_neg (by omega),if_pos c]
 refine⟨λc=>h0 (hnone (.inl (by omega))) h (Keep.refl _),λc1=>⟨λc=>h0 (hnone (.inr (.inl (by omega)))) h (Keep.refl _),λc2=>⟨λc=>h0 (hnone (.inr (.inr (.inl (by omega))))) h (Keep.refl _),λc3=>⟨λc=>h0 (hnone (.inr (.inr (.inr (by omega))))) h (Keep.refl _),λc4=>?_⟩⟩⟩⟩
 have r4:=cut_mid hr (i:=a) (j:=a+4) (m:=l.c) (by omega) (by omega) (by omega)
 have rB:=cut_mid hr (i:=a+4) (j:=a+7+pcN (bs.drop a)) (m:=l.c) (by omega) (by omega) (by omega)
 have rP:=cut_mid hr (i:=a+7) (j:=a+7+pcN (bs.drop a)) (m:=l.c) (by omega) (by omega) (by omega)
 rw[bv_cut,show a+4-a=4 by omega,<- toB_V (okB8_cut hok a 4)] at r4
 rw[bv_cut,<- List.drop_drop,show a+7+pcN (bs.drop a)-(a+4)=3+pcN (bs.drop a) by omega] at rB
 rw[bv_cut,<- List.drop_drop,show a+7+pcN (bs.drop a)-(a+7)=pcN (bs.drop a) by omega] at rP
 have okd:okB8 (bs.drop a):=λc hc=>hok c (List.mem_of_mem_drop hc)
 refine⟨⟨by omega,by omega,by omega,by omega⟩,⟨by omega,by omega,by omega,by omega⟩,_,r4,sum_spec T rB (okB8_cut okd _ _) (by rw[length_take,length_drop];omega) ⟨_,rfl,r4,four_log λl1 h3 B1 K1 N1=>⟨l1,rfl,K1.row r4,toB (fourB (sumB (((bs.drop a).drop 4).take (3+pcN (bs.drop a))))),by rw[toB_V (fourB_ok _)];exact buf_bytes B1,λe=>⟨⟨by omega,by omega,by omega,by omega⟩,?_⟩,λe=>?_⟩⟩⟩
 ·have e1:=congrArg bytesV e
  rw[toB_V (fourB_ok _),toB_V (okB8_cut hok a 4)] at e1
  refine h1 _ _ ?_ _ h3 K1 (K1.row rP)
  unfold pieceAt
  rw[if_neg (by omega),if_neg (by omega),if_pos (bv_inj e1)]
 ·refine h0 ?_ h3 K1
  unfold pieceAt
  rw[if_neg (by omega),if_neg (by omega),if_neg (λe1=>e (by rw[e1]))]
end Go.Eng.YtblghgacokoklaaDoor
end
section
namespace Go.Eng.YtblghgacokoklaaDoor
theorem piece_some{a:Nat}{d p:List Int}{k:Int}(h:pieceAt a d=some (k,p)):7+p.length<=d.length/\7+p.length<=512-a % 512/\1<=k/\k<=4:=by
 unfold pieceAt at h
 split at h
 ·cases h
 ·split at h
  ·cases h
  ·split at h
   ·cases h
    rw[length_take,length_drop]
    omega
   ·cases h
theorem rec_next{h4:Hp}{l1 l2:Sl}{acc p:List Int}{a1:Nat}{k:Int}{QN:Hp->Prop}{QT LP:Sl->Hp->Prop}(B:Buf h4 l1 1 5 (bv acc))(hrow:h4.row l2.a l2.n (bv p))(hb:a1+acc.length+p.length<=2000000000000)
  (hT:(k=1\/(k=4/\0<p.length))->∀ (l3:Sl) (h5:Hp),Buf h5 l3 1 5 (bv (acc++p))->Upd h4 h5 l1 l3->QT l3 h5)
  (hN:¬ (k=1\/(k=4/\0<p.length))->(k=4\/(a1+7+p.length) % 512≠0)->∀ (l3:Sl) (h5:Hp),Upd h4 h5 l1 l3->QN h5)
  (hL:¬ (k=1\/(k=4/\0<p.length))->¬ (k=4\/(a1+7+p.length) % 512≠0)->∀ (l3:Sl) (h5:Hp),Buf h5 l3 1 5 (bv (acc++p))->Upd h4 h5 l1 l3->LP l3 h5) :
  ∃ vs,h4.row l2.a (l2.n*1) vs/\(∀ v∈vs,Value.oneCell' v=true)/\appendD l1 5 1 1 [.int .u8 0] l2.n vs h4 λl3 h5=>F100.T (wrap .i64 ((a1:Int)+(wrap .i64 (7+(l2.n:Int))))) h5 λr1 h6=>retI .i64 r1 λn4=>par (n4=512) (∃ J2:Bool->Hp->Prop,((∀ h7:Hp,J2 true h7->QT l3 h7)/\(∀ h7:Hp,J2 false h7->par (k=4) (QN h7) (LP l3 h7)))/\(par (k=1) (J2 true h6) (par (k=4) (par ((0:Int)<(l2.n:Int)) (J2 true h6) (J2 false h6)) (J2 false h6)))) (∃ J3:Bool->Hp->Prop,((∀ h8:Hp,J3 true h8->QT l3 h8)/\(∀ h8:Hp,J3 false h8->par (k=4) (QN h8) (QN h8)))/\(par (k=1) (J3 true h6) (par (k=4) (par ((0:Int)<(l2.n:Int)) (J3 true h6) (J3 false h6)) (J3 false h6)))):=by
 have hl2:l2.n=p.length:=by have:=hrow.1;rw[bv_length] at this;exact this.symm
 have hl1:l1.n=acc.length:=by have:=B.len;rw[bv_length] at this;omega
 refine⟨_,by rw[Nat.mul_one];exact hrow,bv_one _,?_⟩
 refine append_buf B rfl (by rw[bv_length];omega) (by omega) λl3 h5 B3 hn3 U3=>?_
 rw[<- bv_append] at B3
 have w:wrap .i64 ((a1:Int)+(wrap .i64 (7+(l2.n:Int))))=((a1+7+p.length:Nat):Int):=by
  rw[wrap_i64 (n:=7+(l2.n:Int)) (by omega) (by omega),wrap_i64 (by omega) (by omega)];omega
 rw[w]
 refine room_spec ⟨_,rfl,?_⟩
 have key:∀ (R:Bool->Hp->Prop),(R=λb h7=>h7=h5/\(b=true↔(k=1\/(k=4/\0<p.length))))->par (k=1) (R true h5) (par (k=4) (par ((0:Int)<(l2.n:Int)) (R true h5) (R false h5)) (R false h5)):=λR e=>by
  subst e
  refine⟨λc=>⟨rfl,λ_=>.inl c,λ_=>rfl⟩,λc=>⟨λc4=>⟨λc0=>⟨rfl,λ_=>.inr ⟨c4,by omega⟩,λ_=>rfl⟩,λc0=>⟨rfl,λe=>(by cases e),λe=>absurd e (by omega)⟩⟩,λc4=>⟨rfl,λe=>(by cases e),λe=>absurd e (by omega)⟩⟩⟩
 refine⟨λc=>⟨_,⟨?_,?_⟩,key _ rfl⟩,λc=>⟨_,⟨?_,?_⟩,key _ rfl⟩⟩
 ·rintro h7 ⟨rfl,e⟩;exact hT (e.1 rfl) l3 h7 B3 U3
 ·rintro h7 ⟨rfl,e⟩
  have ne:¬ (k=1\/(k=4/\0<p.length)):=λx=>by have:=e.2 x;cases this
  exact⟨λc4=>hN ne (.inl c4) l3 h7 U3,λc4=>hL ne (by omega) l3 h7 B3 U3⟩
 ·rintro h7 ⟨rfl,e⟩;exact hT (e.1 rfl) l3 h7 B3 U3
 ·rintro h7 ⟨rfl,e⟩
  have ne:¬ (k=1\/(k=4/\0<p.length)):=λx=>by have:=e.2 x;cases this
  exact⟨λc4=>hN ne (.inl c4) l3 h7 U3,λc4=>hN ne (.inr (by omega)) l3 h7 U3⟩
theorem rec_read{h:Hp}{l:Sl}{bs:List Int}{a:Nat}{Q:Value->Hp->Prop}(T:TabC h)(hr:h.row l.a l.n (bv bs))(hc:l.n<=l.c)(hok:okB8 bs)(hs:bs.length<=500000000000)(ha:a<=bs.length)
  (h0:recAt a (bs.drop a)=none->∀ h',Keep h h'->Q (.tuple ⟨[.slice none 0 0,.int .i64 0,.bool false]⟩) h')
  (h1:∀ r e,recAt a (bs.drop a)=some (r,e)->a<e->e<=bs.length->∀ (l2:Sl) (h':Hp),Keep h h'->Buf h' l2 1 5 (bv r)->(l2.a=none\/New h l2)->Q (.tuple ⟨[.slice l2.a l2.n l2.c,.int .i64 (e:Int),.bool true]⟩) h'):F113.T l (a:Int) h Q:=by
 unfold F113.T F113.G
 have hln:l.n=bs.length:=by have:=hr.1;rw[bv_length] at this;exact this.symm
 refine⟨λn1 h1=>∃ a1 f:Nat,n1=(a1:Int)/\a<=a1/\a1<=bs.length/\bs.length-a1<f/\recAt a (bs.drop a)=recLoop f a1 false [] (bs.drop a1)/\Keep h h1,?_,?_⟩
 ·rintro n1 hh1 ⟨a1,f,rfl,haa,hab,hf,hrec,K1⟩
  refine⟨λn l3 bg h2=>∃ (a2 g:Nat) (acc:List Int),n=(a2:Int)/\a<=a2/\a2<=bs.length/\bs.length-a2<g/\recAt a (bs.drop a)=recLoop g a2 bg acc (bs.drop a2)/\acc.length<=a2/\Buf h2 l3 1 5 (bv acc)/\Keep h h2/\(l3.a=none\/New h l3),λn _ _ _=>bs.length+1-n.toNat,⟨a1,f,[],rfl,haa,hab,hf,hrec,Nat.zero_le _,Buf.nil hh1 1 5,K1,.inl rfl⟩,?_⟩
  intro n2 l1
  have step:∀ (bg:Bool) (h2:Hp) (a2 g:Nat) (acc:List Int),n2=(a2:Int)->a<=a2->a2<=bs.length->bs.length-a2<g->recAt a (bs.drop a)=recLoop g a2 bg acc (bs.drop a2)->acc.length<=a2->Buf h2 l1 1 5 (bv acc)->Keep h h2->(l1.a=none\/New h l1) ->
    (pieceAt a2 (bs.drop a2)=none->recAt a (bs.drop a)=none)/\∀ k p,pieceAt a2 (bs.drop a2)=some (k,p)->(bg≠decide (k=3\/k=4)->recAt a (bs.drop a)=none) /\
     (bg=decide (k=3\/k=4)->∀ (l2:Sl) (h4:Hp),Keep h2 h4->h4.row l2.a l2.n (bv p) ->
      ((k=1\/(k=4/\0<p.length))->∀ (l3:Sl) (h5:Hp),Buf h5 l3 1 5 (bv (acc++p))->Upd h4 h5 l1 l3->Q (.tuple ⟨[.slice l3.a l3.n l3.c,.int .i64 (wrap .i64 ((a2:Int)+(wrap .i64 (7+(l2.n:Int))))),.bool true]⟩) h5) /\
      (¬ (k=1\/(k=4/\0<p.length))->(k=4\/(a2+7+p.length) % 512≠0)->∀ (l3:Sl) (h5:Hp),Upd h4 h5 l1 l3->Q (.tuple ⟨[.slice none 0 0,.int .i64 0,.bool false]⟩) h5) /\
      (¬ (k=1\/(k=4/\0<p.length))->¬ (k=4\/(a2+7+p.length) % 512≠0)->∀ (l3:Sl) (h5:Hp),Buf h5 l3 1 5 (bv (acc++p))->Upd h4 h5 l1 l3 ->
       (∃ (a3 g:Nat) (acc:List Int),wrap .i64 ((a2:Int)+(wrap .i64 (7+(l2.n:Int))))=(a3:Int)/\a<=a3/\a3<=bs.length/\bs.length-a3<g/\recAt a (bs.drop a)=recLoop g a3 true acc (bs.drop a3)/\acc.length<=a3/\Buf h5 l3 1 5 (bv acc)/\Keep h h5/\(l3.a=none\/New h l3))/\bs.length+1-(wrap .i64 ((a2:Int)+(wrap .i64 (7+(l2.n:Int))))).toNat<bs.length+1-n2.toNat)):=by
   rintro bg h2 a2 g acc rfl q1 q2 q3 q4 q5 B2 K2 N2
   obtain⟨g,rfl⟩:∃ g',g=g'+1:=⟨g-1,by omega⟩
   refine⟨λe=>by rw[q4];unfold recLoop;rw[e],λk p e=>?_⟩
   obtain⟨p1,p2,p3,p4⟩:=piece_some e
   rw[length_drop] at p1
   refine⟨λne=>by rw[q4];unfold recLoop;rw[e];dsimp only;rw[if_neg ne],λeb l2 h4 K4 hrow=>?_⟩
   have hl2:l2.n=p.length:=by have:=hrow.1;rw[bv_length] at this;exact this.symm
   have w:wrap .i64 ((a2:Int)+(wrap .i64 (7+(l2.n:Int))))=((a2+7+p.length:Nat):Int):=by
    rw[wrap_i64 (n:=7+(l2.n:Int)) (by omega) (by omega),wrap_i64 (by omega) (by omega)];omega
   rw[w]
   have un:recLoop (g+1) a2 bg acc (bs.drop a2)=if k=1\/(k=4/\0<p.length) then some (acc++p,a2+7+p.length) else if k=4\/(a2+7+p.length) % 512≠0 then none else recLoop g (a2+7+p.length) true (acc++p) ((bs.drop a2).drop (7+p.length)):=by
    conv=>lhs;unfold recLoop
    rw[e];dsimp only;rw[if_pos eb]
   rw[un] at q4
   refine⟨λc l3 h5 B5 U5=>?_,λc c2 l3 h5 U5=>?_,λc c2 l3 h5 B5 U5=>?_⟩
   ·rw[if_pos c] at q4
    obtain⟨K5,N5⟩:=keep_grow (K2.trans K4) N2 U5
    exact h1 _ _ q4 (by omega) (by omega) l3 h5 K5 B5 N5
   ·rw[if_neg c,if_pos c2] at q4
    exact h0 q4 h5 (keep_grow (K2.trans K4) N2 U5).1
   ·rw[if_neg c,if_neg c2,List.drop_drop,<- Nat.add_assoc] at q4
    obtain⟨K5,N5⟩:=keep_grow (K2.trans K4) N2 U5
    exact⟨⟨a2+7+p.length,g,acc++p,rfl,by omega,by omega,by omega,q4,by rw[length_append];omega,B5,K5,N5⟩,by rw[Int.toNat_natCast,Int.toNat_natCast];omega⟩
  refine⟨?_,?_⟩
  ·rintro h2 ⟨a2,g,acc,rfl,q1,q2,q3,q4,q5,B2,K2,N2⟩
   obtain⟨s0,s1⟩:=step true h2 a2 g acc rfl q1 q2 q3 q4 q5 B2 K2 N2
   refine piece_read (T.keep K2) (K2.row hr) hc hok (by omega) q2 (λe h' K'=>⟨0,⟨none,0,0⟩,false,λc=>(by cases c),λ_=>⟨rfl,λ_=>False,λ_ hf=>hf.elim,h0 (s0 e) h' (K2.trans K')⟩⟩) λk p e l2 h3 K3 hrow=>⟨k,l2,true,λ_=>⟨rfl,λh4=>h4=h3/\true=decide (k=3\/k=4),?_,?_⟩,λc=>(by cases c)⟩
   ·rintro h4 ⟨rfl,eb⟩
    obtain⟨t1,t2,t3⟩:=(s1 k p e).2 eb l2 h4 K3 hrow
    have hp:=(piece_some e).1
    rw[length_drop] at hp
    exact rec_next (B2.keep K3) hrow (by omega) t1 t2 t3
   ·have none_:true≠decide (k=3\/k=4)->Q (.tuple ⟨[.slice none 0 0,.int .i64 0,.bool false]⟩) h3:=λne=>h0 ((s1 k p e).1 ne) h3 (K2.trans K3)
    exact⟨λc=>⟨λ_=>⟨rfl,(decide_eq_true (.inl c)).symm⟩,λx=>absurd rfl x⟩,λc=>⟨λc4=>⟨λ_=>⟨rfl,(decide_eq_true (.inr c4)).symm⟩,λx=>absurd rfl x⟩,λc4=>⟨λx=>(by cases x),λ_=>none_ (by rw[decide_eq_false (by omega)];decide)⟩⟩⟩
  ·rintro h2 ⟨a2,g,acc,rfl,q1,q2,q3,q4,q5,B2,K2,N2⟩
   obtain⟨s0,s1⟩:=step false h2 a2 g acc rfl q1 q2 q3 q4 q5 B2 K2 N2
   refine piece_read (T.keep K2) (K2.row hr) hc hok (by omega) q2 (λe h' K'=>⟨0,⟨none,0,0⟩,false,λc=>(by cases c),λ_=>⟨rfl,λ_=>False,λ_ hf=>hf.elim,h0 (s0 e) h' (K2.trans K')⟩⟩) λk p e l2 h3 K3 hrow=>⟨k,l2,true,λ_=>⟨rfl,λh4=>h4=h3/\false=decide (k=3\/k=4),?_,?_⟩,λc=>(by cases c)⟩
   ·rintro h4 ⟨rfl,eb⟩
    obtain⟨t1,t2,t3⟩:=(s1 k p e).2 eb l2 h4 K3 hrow
    have hp:=(piece_some e).1
    rw[length_drop] at hp
    exact rec_next (B2.keep K3) hrow (by omega) t1 t2 t3
   ·have none_:false≠decide (k=3\/k=4)->Q (.tuple ⟨[.slice none 0 0,.int .i64 0,.bool false]⟩) h3:=λne=>h0 ((s1 k p e).1 ne) h3 (K2.trans K3)
    exact⟨λc=>⟨λx=>(by cases x),λ_=>none_ (by rw[decide_eq_true (.inl c)];decide)⟩,λc=>⟨λc4=>⟨λx=>(by cases x),λ_=>none_ (by rw[decide_eq_true (.inr c4)];decide)⟩,λc4=>⟨λ_=>⟨rfl,(decide_eq_false (by omega)).symm⟩,λx=>absurd rfl x⟩⟩⟩
 ·refine room_spec ⟨_,rfl,?_⟩
  have hdl:(bs.drop a).length=bs.length-a:=length_drop
  generalize hz:512-a % 512=z
  have wz:wrap .i64 ((a:Int)+((z:Nat):Int))=((a+z:Nat):Int):=by rw[wrap_i64 (by omega) (by omega)];omega
  dsimp only
  rw[wz]
  refine⟨λc=>⟨λc1=>h0 ?_ h (Keep.refl _),λc1=>⟨⟨by omega,by omega,by omega,by omega⟩,?_⟩⟩,λc=>⟨a,(bs.drop a).length+1,rfl,Nat.le_refl _,ha,by omega,?_,Keep.refl _⟩⟩
  ·unfold recAt
   rw[hz,if_pos (by omega),if_pos (by omega)]
  ·have rz:=cut_mid hr (i:=a) (j:=a+z) (m:=l.c) (by omega) (by omega) hc
   rw[bv_cut,show a+z-a=z by omega] at rz
   have hzn:(Sl.cut l 1 (a:Int) ((a+z:Nat):Int) (l.c:Int)).n=z:=by simp[Sl.cut];omega
   rw[hzn] at rz
   rw[hzn]
   have hzl:((bs.drop a).take z).length=z:=by rw[length_take];omega
   refine⟨λn hh=>hh=h/\∃ i:Nat,n=(i:Int)/\i<=z/\∀ j,j<i->((bs.drop a).take z).getD j 0=0,λn _=>z-n.toNat,⟨rfl,0,rfl,Nat.zero_le _,λj hj=>absurd hj (by omega)⟩,?_⟩
   rintro n hh ⟨rfl,i,rfl,hi,hall⟩
   refine⟨λhlt=>?_,λhge=>?_⟩
   ·obtain⟨b,o,ha1,hat⟩:=row_get rz (i:=i) (by omega)
    have wi:wrap .i64 ((i:Int)+1)=((i+1:Nat):Int):=by rw[wrap_i64 (by omega) (by omega)];omega
    refine⟨b,o,ha1,⟨by omega,hlt⟩,_,by rw[Int.toNat_natCast,hat i (by omega),bv_get (by omega)],λe0=>?_,λne=>?_⟩
    ·rw[wi]
     refine⟨⟨rfl,i+1,rfl,by omega,λj hj=>?_⟩,by dsimp only;omega⟩
     by_cases hji:j=i
     ·rw[hji];exact e0
     ·exact hall j (by omega)
    ·refine h0 ?_ hh (Keep.refl _)
     unfold recAt
     rw[hz,if_pos (by omega),if_neg (by omega),if_neg]
     intro hA
     rw[List.all_eq_true] at hA
     have hi':i<((bs.drop a).take z).length:=by omega
     have:=hA _ (List.getElem_mem hi')
     refine ne ?_
     rw[List.getD_eq_getElem?_getD,getElem?_eq_getElem hi']
     simpa using this
   ·refine⟨a+z,(bs.drop a).length+1,rfl,by omega,by omega,by omega,?_,Keep.refl _⟩
    unfold recAt
    rw[hz,if_pos (by omega),if_neg (by omega),if_pos,List.drop_drop]
    rw[List.all_eq_true]
    intro x hx
    obtain⟨j,hj,rfl⟩:=List.getElem_of_mem hx
    have:=hall j (by omega)
    rw[List.getD_eq_getElem?_getD,getElem?_eq_getElem hj] at this
    simpa using this
  ·unfold recAt
   rw[hz,if_neg (by omega)]
end Go.Eng.YtblghgacokoklaaDoor
end
section
namespace Go.Eng.YtblghgacokoklaaDoor
theorem readL_stop{f a:Nat}{d:List Int}(h:d=[]\/recAt a d=none):readL (f+1) a d=[]:=by
 unfold readL
 by_cases hd:d=[]
 ·rw[if_pos hd]
 ·rw[if_neg hd,h.resolve_left hd]
theorem readL_cons{f a e:Nat}{d r:List Int}(hne:d≠[])(h:recAt a d=some (r,e)):readL (f+1) a d=r::readL f e (d.drop (e-a)):=by
 conv=>lhs;unfold readL
 rw[if_neg hne,h]
theorem log_read{h:Hp}{l:Sl}{bs:List Int}{Q:Value->Hp->Prop}(T:TabC h)(hr:h.row l.a l.n (bv bs))(hc:l.n<=l.c)(hok:okB8 bs)(hs:bs.length<=500000000000)
  (hQ:∀ (l1:Sl) (ss:List Sl) (n e:Int) (h':Hp),Buf h' l1 1 23 (slV ss)->RowsAt h' ss (readL (bs.length+1) 0 bs)->Keep h h'->(l1.a=none\/New h l1)->Q (.tuple ⟨[.slice l1.a l1.n l1.c,.int .i64 n,.int .i64 e]⟩) h'):F78.T l h Q:=by
 unfold F78.T F78.G
 have hln:l.n=bs.length:=by have:=hr.1;rw[bv_length] at this;exact this.symm
 refine⟨λl1 n h1=>∃ (a fu:Nat) (ss:List Sl) (done:List (List Int)),n=(a:Int)/\a<=bs.length/\bs.length-a<fu/\done++readL fu a (bs.drop a)=readL (bs.length+1) 0 bs/\Buf h1 l1 1 23 (slV ss)/\RowsAt h1 ss done/\Keep h h1/\(l1.a=none\/New h l1)/\done.length<=a,λ_ n _=>bs.length-n.toNat,⟨0,bs.length+1,[],[],rfl,Nat.zero_le _,by omega,by simp,Buf.nil h 1 23,RowsAt.nil h,Keep.refl h,.inl rfl,Nat.le_refl _⟩,?_⟩
 rintro l1 n h1 ⟨a,fu,ss,done,rfl,ha,hf,hd,B,R,K,N,hda⟩
 obtain⟨fu,rfl⟩:∃ g,fu=g+1:=⟨fu-1,by omega⟩
 have hl1:l1.n=ss.length:=by have:=B.len;rw[slV_length] at this;omega
 have hsd:ss.length=done.length:=R.1
 refine⟨λhlt=>?_,λhge=>?_⟩
 ·have hne:bs.drop a≠[]:=λe=>by have:=congrArg List.length e;rw[length_drop,length_nil] at this;omega
  refine rec_read (T.keep K) (K.row hr) hc hok hs ha (λe h' K'=>⟨⟨none,0,0⟩,0,false,λc=>(by cases c),λ_=>⟨rfl,?_⟩⟩) λr e he hae heb l2 h' K' B' N'=>⟨l2,e,true,λ_=>⟨rfl,?_⟩,λc=>(by cases c)⟩
  ·refine hQ l1 ss _ _ h' (B.keep K') ?_ (K.trans K') N
   rw[readL_stop (.inr e),append_nil] at hd
   rw[<- hd]
   exact R.keep K'
  ·refine append_buf (B.keep K') rfl rfl (by omega) λs' h4 B4 hn4 U4=>?_
   obtain⟨K4,N4⟩:=keep_grow (K.trans K') N U4
   refine⟨⟨e,fu,ss++[l2],done++[r],rfl,heb,by omega,?_,by simpa[slV] using B4,?_,K4,N4,by rw[length_append,length_singleton];omega⟩,by dsimp only;omega⟩
   ·rw[<- hd,readL_cons hne he,List.append_assoc,List.drop_drop,show a+(e-a)=e by omega]
    rfl
   ·exact RowsAt.snoc ((R.keep K').upd U4 (B.keep K') (by decide)) (B'.upd U4 (buf_off B' (B.keep K') (by decide)))
 ·have hnil:bs.drop a=[]:=List.drop_eq_nil_of_le (by omega)
  refine hQ l1 ss _ _ h1 B ?_ K N
  rw[readL_stop (.inl hnil),append_nil] at hd
  rw[<- hd];exact R
end Go.Eng.YtblghgacokoklaaDoor
end
section
namespace Go.Eng
def kd:Obj->Nat
 |.cells _ t _=>t+2
 |.map _ _=>0
 |_=>1
structure Ck(κ:List Nat)(h h':Hp):Prop where
 keep:∀ k x,h k=some x->kd x∉κ->h' k=some x
 dom:∀ k,h' k=none->h k=none
theorem Ck.refl(κ:List Nat)(h:Hp):Ck κ h h:=⟨λ_ _ e _=>e,λ_ e=>e⟩
theorem Ck.trans{κ:List Nat}{a b c:Hp}(x:Ck κ a b)(y:Ck κ b c):Ck κ a c:=⟨λk o e n=>y.keep k o (x.keep k o e n) n,λk e=>x.dom k (y.dom k e)⟩
theorem Ck.mono{κ μ:List Nat}{a b:Hp}(x:Ck κ a b)(h:∀ i∈κ,i∈μ):Ck μ a b:=⟨λk o e n=>x.keep k o e (λm=>n (h _ m)),x.dom⟩
theorem Ck.of_keep{κ:List Nat}{a b:Hp}(k:Keep a b):Ck κ a b:=⟨λi x e _=>k i x e,k.dom⟩
theorem Ck.of_upd{h h':Hp}{s s':Sl}{sz t:Nat}{vs:List Value}(B:Buf h s sz t vs)(U:Upd h h' s s'):Ck [t+2] h h':=by
 refine⟨λk x e n=>U.keep k x (λo hs=>?_) e,U.dom⟩
 rcases B.own with⟨ha,_⟩|⟨b,c,f,ha,hb,_⟩
 ·rw[ha] at hs;cases hs
 ·rw[ha] at hs
  simp only[Option.some.injEq,Addr.mk.injEq] at hs
  rw[hs.1,e] at hb
  cases hb
  exact n (mem_singleton.2 rfl)
theorem Ck.put{h:Hp}{b:Nat}{x o:Obj}(hb:h b=some x):Ck [kd x] h (h.new b o):=by
 refine⟨λk y e n=>?_,λk e=>?_⟩
 ·unfold Hp.new
  by_cases hk:k=b
  ·subst hk;rw[hb] at e;cases e;exact absurd (mem_singleton.2 rfl) n
  ·rw[if_neg hk];exact e
 ·unfold Hp.new at e
  by_cases hk:k=b
  ·rw[if_pos hk] at e;cases e
  ·rw[if_neg hk] at e;exact e
theorem Ck.wr{h:Hp}{b o t:Nat}{c:Array Value}{f:Nat×Nat}{vs:List Value}(hb:h b=some (.cells c t f)):Ck [t+2] h (h.wr b o vs):=by
 have e:h.wr b o vs=h.new b (.cells (setL c.toList o vs).toArray t f):=by
  funext k
  unfold Hp.wr Hp.new
  by_cases hk:k=b
  ·rw[if_pos hk,if_pos hk,hb]
  ·rw[if_neg hk,if_neg hk]
 rw[e]
 exact Ck.put hb
theorem Ck.buf{κ:List Nat}{h h':Hp}(C:Ck κ h h'){s:Sl}{sz t:Nat}{vs:List Value}(ht:t+2∉κ)(B:Buf h s sz t vs):Buf h' s sz t vs:=by
 refine⟨B.len,B.cap,B.own.imp id ?_⟩
 rintro⟨b,c,f,h1,h2,h3,h4,h5⟩
 exact⟨b,c,f,h1,C.keep b _ h2 ht,h3,h4,h5⟩
theorem Ck.at{κ:List Nat}{h h':Hp}(C:Ck κ h h'){b o t:Nat}{c:Array Value}{f:Nat×Nat}(hb:h b=some (.cells c t f))(ht:t+2∉κ):h'.at b o=c[o]?:=by
 unfold Hp.at;rw[C.keep b _ hb ht]
theorem at_of{h:Hp}{b t:Nat}{c:Array Value}{f:Nat×Nat}(hb:h b=some (.cells c t f))(o:Nat):h.at b o=c[o]?:=by
 unfold Hp.at;rw[hb]
theorem new_wr(h:Hp)(b t:Nat)(c:Array Value)(f:Nat×Nat)(o:Nat)(vs:List Value):(h.new b (.cells c t f)).wr b o vs=h.new b (.cells (setL c.toList o vs).toArray t f):=by
 funext k
 unfold Hp.wr Hp.new
 by_cases hk:k=b
 ·rw[if_pos hk,if_pos hk,if_pos rfl]
 ·rw[if_neg hk,if_neg hk,if_neg hk]
theorem new_at(h:Hp)(b:Nat)(o:Obj):(h.new b o) b=some o:=by unfold Hp.new;rw[if_pos rfl]
theorem new_ne(h:Hp){b k:Nat}(o:Obj)(hk:k≠b):(h.new b o) k=h k:=by unfold Hp.new;rw[if_neg hk]
theorem ne_of{h:Hp}{a b:Nat}{x:Obj}(ha:h a=some x)(hb:h b=none):a≠b:=by rintro rfl;rw[ha] at hb;cases hb
theorem ne_kd{h:Hp}{a b:Nat}{x y:Obj}(ha:h a=some x)(hb:h b=some y)(hk:kd x≠kd y):a≠b:=by rintro rfl;rw[ha] at hb;cases hb;exact hk rfl
theorem canW_new{h:Hp}{b t:Nat}{c:Array Value}{o n:Nat}(hb:h b=some (.cells c t (0,0)))(hn:o+n<=c.size):h.canW b o n:=⟨c,t,(0,0),hb,hn,λj _ _=>by simp⟩
theorem Keep.wr{g h:Hp}(K:Keep g h){b:Nat}(hg:g b=none)(o:Nat)(vs:List Value):Keep g (h.wr b o vs):=λk x e=>by
 unfold Hp.wr;rw[if_neg (ne_of e hg)];exact K k x e
structure One(b:Nat)(h h':Hp):Prop where
 keep:∀ k x,k≠b->h k=some x->h' k=some x
 dom:∀ k,h' k=none->h k=none
theorem One.refl(b:Nat)(h:Hp):One b h h:=⟨λ_ _ _ e=>e,λ_ e=>e⟩
theorem One.trans{b:Nat}{h h1 h2:Hp}(x:One b h h1)(y:One b h1 h2):One b h h2:=⟨λk o n e=>y.keep k o n (x.keep k o n e),λk e=>x.dom k (y.dom k e)⟩
theorem One.new{h:Hp}{b:Nat}(o:Obj)(hb:h b≠none):One b h (h.new b o):=⟨λk x n e=>by rw[new_ne _ _ n];exact e,λk e=>by
 by_cases hk:k=b
 ·subst hk;rw[new_at] at e;cases e
 ·rw[new_ne _ _ hk] at e;exact e⟩
theorem One.ck{b:Nat}{h h':Hp}{x:Obj}(O:One b h h')(hb:h b=some x):Ck [kd x] h h':=⟨λk y e n=>O.keep k y (λhk=>by subst hk;rw[hb] at e;cases e;exact n (mem_singleton.2 rfl)) e,O.dom⟩
theorem One.at{b:Nat}{h h':Hp}{es:Array MapEntry}{c:Nat}(O:One b h h')(hb:h b=some (.map es c)){k o:Nat}{v:Value}(ha:h.at k o=some v):h'.at k o=some v:=by
 unfold Hp.at at ha ⊢
 cases hk:h k with
 |none=>rw[hk] at ha;cases ha
 |some x=>
  have hne:k≠b:=by rintro rfl;rw[hb] at hk;cases hk;rw[hb] at ha;cases ha
  rw[O.keep k x hne hk];rw[hk] at ha;exact ha
theorem One.row{b:Nat}{h h':Hp}{es:Array MapEntry}{c:Nat}(O:One b h h')(hb:h b=some (.map es c)){A:Option Addr}{n:Nat}{vs:List Value}(hr:h.row A n vs):h'.row A n vs:=by
 refine⟨hr.1,hr.2.imp id ?_⟩
 rintro⟨k,o,hA,hat⟩
 refine⟨k,o,hA,λj hj=>?_⟩
 have h1:=hat j hj
 have hl:j<vs.length:=by rw[hr.1];exact hj
 rw[getElem?_eq_getElem hl] at h1 ⊢
 exact O.at hb h1
theorem Ck.one{κ:List Nat}{b:Nat}{h h1 h2:Hp}(C:Ck κ h h1)(O:One b h1 h2)(hb:h b=none):Ck κ h h2:=⟨λk x e n=>O.keep k x (ne_of e hb) (C.keep k x e n),λk e=>C.dom k (O.dom k e)⟩
theorem Keep.one{g h h':Hp}{b:Nat}(K:Keep g h)(O:One b h h')(hb:g b=none):Keep g h':=λk x e=>O.keep k x (ne_of e hb) (K k x e)
def NewN(g:Hp)(s:Sl):Prop:=s.a=none\/∃ b,s.a=some ⟨b,0,none⟩/\g b=none
theorem NewN.nil(g:Hp):NewN g ⟨none,0,0⟩:=.inl rfl
theorem NewN.mono{g h:Hp}(d:∀ k,h k=none->g k=none){s:Sl}(N:NewN h s):NewN g s:=N.imp id λ⟨b,e,n⟩=>⟨b,e,d b n⟩
theorem NewN.upd{g h h':Hp}(K:Keep g h){s s':Sl}(N:NewN g s)(U:Upd h h' s s'):Keep g h'/\NewN g s':=by
 refine⟨λk x e=>U.keep k x (λo hs=>?_) (K k x e),?_⟩
 ·rcases N with hn|⟨b,hb,hn⟩
  ·rw[hn] at hs;cases hs
  ·rw[hb] at hs
   simp only[Option.some.injEq,Addr.mk.injEq] at hs
   rw[<- hs.1,hn] at e;cases e
 ·rcases U.at_ with h0|⟨b,hb,hn⟩
  ·unfold NewN;rw[h0];exact N
  ·exact .inr ⟨b,hb,K.dom b hn⟩
theorem NewN.off{g:Hp}{s r:Sl}{sz t:Nat}{vs:List Value}(N:NewN g s)(B:Buf g r sz t vs):Off r s/\Off s r:=by
 rcases B.own with⟨ha,_⟩|⟨b,c,f,ha,hb,_⟩
 ·exact⟨λk o o' e=>(by rw[ha] at e;cases e),λk o o' _ e=>(by rw[ha] at e;cases e)⟩
 ·rcases N with hn|⟨b',hb',hn⟩
  ·exact⟨λk o o' _ e=>(by rw[hn] at e;cases e),λk o o' e=>(by rw[hn] at e;cases e)⟩
  ·have:b≠b':=ne_of hb hn
   exact⟨λk o o' e e'=>(by rw[ha] at e;rw[hb'] at e';simp only[Option.some.injEq,Addr.mk.injEq] at e e';exact this (e.1.trans e'.1.symm)),
    λk o o' e e'=>(by rw[ha] at e';rw[hb'] at e;simp only[Option.some.injEq,Addr.mk.injEq] at e e';exact this (e'.1.trans e.1.symm))⟩
theorem off_nil{s t:Sl}(h:s.a=none\/t.a=none):Off s t:=λb o o' e e'=>by
 rcases h with h|h
 ·rw[h] at e;cases e
 ·rw[h] at e';cases e'
theorem buf_make(h:Hp)(b n t:Nat)(z:List Value)(hz:0<z.length):Buf (h.new b (.cells (Builtin.zeroCells z.toArray n) t (0,0))) ⟨some ⟨b,0,none⟩,n,n⟩ z.length t (zerosV z n):=by
 have hl:(zerosV z n).length=n*z.length:=zerosV_length n
 refine⟨hl,Nat.le_refl _,.inr ⟨b,_,(0,0),rfl,new_at _ _ _,?_,λj _=>by simp,?_⟩⟩
 ·show n*z.length<=(Builtin.zeroCells z.toArray n).size
  have:(Builtin.zeroCells z.toArray n).size=(zerosV z n).length:=by unfold zerosV;simp
  omega
 ·show(Builtin.zeroCells z.toArray n).toList.take _=_
  exact List.take_length
theorem zerosV_one(v:Value)(n:Nat):zerosV [v] n=List.replicate n v:=by
 unfold zerosV Builtin.zeroCells
 apply List.ext_getElem (by simp)
 intro i h1 h2
 simp[Nat.mod_one]
def U64s(es:Array MapEntry):Prop:=∀ e∈es.toList,∃ k,e.key=.int .u64 k
theorem U64s.fit{es:Array MapEntry}(U:U64s es)(k:Int):keysFit (.int .u64 k) es:=λe he=>by
 obtain⟨j,hj⟩:=U e he
 rw[hj];simp[kFit]
theorem kEq_u(a b:Int):kEq (.int .u64 a) (.int .u64 b)=(a == b):=by simp[kEq]
theorem find_mod(v:Value)(k:Int):∀ (l:List MapEntry) (i:Nat),(∀ e∈l,∃ k,e.key=.int .u64 k)->l.findIdx? (λe=>kEq (.int .u64 k) e.key)=some i ->
  ∀ j:Int,((l.modify i λe=>{ e with key:=.int .u64 k,val:=v }).find? λe=>kEq (.int .u64 j) e.key).map (·.val)=if j=k then some v else(l.find? λe=>kEq (.int .u64 j) e.key).map (·.val)
 |[],i,_,h,j=>by cases h
 |e::l,i,hu,h,j=>by
  obtain⟨q,hq⟩:=hu e mem_cons_self
  rw[List.findIdx?_cons] at h
  rw[hq,kEq_u] at h
  by_cases hk:k=q
  ·subst hk
   simp only[beq_self_eq_true,if_true,Option.some.injEq] at h
   subst h
   simp only[List.modify_zero_cons,List.find?_cons,kEq_u,hq]
   by_cases hj:j=k
   ·subst hj;simp
   ·rw[if_neg hj]
    have hj':(j == k)=false:=by simp[hj]
    simp only[hj']
  ·have hk':(k == q)=false:=by simp[hk]
   rw[hk',if_neg (by simp)] at h
   cases hf:l.findIdx? (λe=>kEq (.int .u64 k) e.key) with
   |none=>rw[hf] at h;cases h
   |some i'=>
    rw[hf] at h
    simp only[Option.map_some,Option.some.injEq] at h
    subst h
    have ih:=find_mod v k l i' (λe he=>hu e (mem_cons_of_mem _ he)) hf j
    simp only[List.modify_succ_cons,List.find?_cons,hq,kEq_u]
    by_cases hj:j=q
    ·subst hj
     rw[if_neg (λh=>hk h.symm)]
     simp
    ·have hj':(j == q)=false:=by simp[hj]
     simp only[hj']
     exact ih
theorem mget_eq(es:Array MapEntry)(k z:Value):mget es k z=((es.toList.find? λe=>kEq k e.key).map (·.val)).getD z:=by
 unfold mget
 split
 ·next e h=>rw[h];rfl
 ·next h=>rw[h];rfl
theorem mput{es:Array MapEntry}{c:Nat}(U:U64s es)(k:Int)(v:Value):∃ es' c',mPut es c (.int .u64 k) v=.map es' c'/\U64s es'/\∀ j z,mget es' (.int .u64 j) z=if j=k then v else mget es (.int .u64 j) z:=by
 unfold mPut
 split
 ·next i h=>
  refine⟨_,_,rfl,?_,λj z=>?_⟩
  ·intro e he
   rw[Array.toList_modify] at he
   obtain⟨n,hn,rfl⟩:=List.mem_iff_getElem.1 he
   rw[List.getElem_modify]
   split
   ·exact⟨k,rfl⟩
   ·exact U _ (List.getElem_mem _)
  ·rw[mget_eq,mget_eq,Array.toList_modify,find_mod v k _ i U h j]
   by_cases hj:j=k
   ·rw[if_pos hj,if_pos hj];rfl
   ·rw[if_neg hj,if_neg hj]
 ·next h=>
  refine⟨_,_,rfl,?_,λj z=>?_⟩
  ·intro e he
   rw[Array.toList_push,mem_append,mem_singleton] at he
   rcases he with he|rfl
   ·exact U e he
   ·exact⟨k,rfl⟩
  ·rw[mget_eq,mget_eq,Array.toList_push,List.find?_append]
   by_cases hj:j=k
   ·subst hj
    rw[if_pos rfl]
    have hn:es.toList.find? (λe=>kEq (.int .u64 j) e.key)=none:=by
     rw[List.find?_eq_none]
     intro e he
     have:=List.findIdx?_eq_none_iff.1 h e he
     simp[this]
    rw[hn]
    simp[kEq_u]
   ·rw[if_neg hj]
    have:([({ key:=.int .u64 k,val:=v,born:=c }:MapEntry)].find? λe=>kEq (.int .u64 j) e.key)=none:=by
     simp[kEq_u,hj]
    rw[this,Option.or_none]
def Mp(h:Hp)(b:Nat)(f:Int->Int):Prop:=∃ es c,h b=some (.map es c)/\U64s es/\∀ k,mget es (.int .u64 k) (.int .i64 0)=.int .i64 (f k)
theorem Mp.new(h:Hp)(b c:Nat):Mp (h.new b (.map #[] c)) b λ_=>0:=⟨_,_,new_at _ _ _,λe he=>by simp at he,λk=>rfl⟩
theorem Mp.keep{h h':Hp}{b:Nat}{f:Int->Int}(k:Keep h h')(M:Mp h b f):Mp h' b f:=by
 obtain⟨es,c,h1,h2⟩:=M
 exact⟨es,c,k _ _ h1,h2⟩
theorem Mp.ck{κ:List Nat}{h h':Hp}{b:Nat}{f:Int->Int}(C:Ck κ h h')(hk:0∉κ)(M:Mp h b f):Mp h' b f:=by
 obtain⟨es,c,h1,h2⟩:=M
 exact⟨es,c,C.keep _ _ h1 hk,h2⟩
theorem Mp.get{h:Hp}{b:Nat}{f:Int->Int}(M:Mp h b f)(k:Int){K:Array MapEntry->Nat->Int->Prop}(hK:∀ es c,K es c (f k)) :
  ∃ es c,h.mp (some b) es c/\keysFit (.int .u64 k) es/\∃ n:Int,mget es (.int .u64 k) (.int .i64 0)=.int .i64 n/\K es c n:=by
 obtain⟨es,c,h1,h2,h3⟩:=M
 exact⟨es,c,h1,h2.fit k,f k,h3 k,hK es c⟩
theorem Mp.add{h:Hp}{b:Nat}{f:Int->Int}(M:Mp h b f)(k:Int){K:Array MapEntry->Nat->Int->Nat->Array MapEntry->Nat->Prop}
  (hK:∀ es c,h b=some (.map es c)->Mp (h.new b (mPut es c (.int .u64 k) (.int .i64 (wrap .i64 (f k+1))))) b (λj=>if j=k then wrap .i64 (f k+1) else f j)->K es c (f k) b es c) :
  ∃ es c,h.mp (some b) es c/\keysFit (.int .u64 k) es/\∃ n:Int,mget es (.int .u64 k) (.int .i64 0)=.int .i64 n/\∃ b3 es1 c1,(some b:Option Nat)=some b3/\h b3=some (.map es1 c1)/\keysFit (.int .u64 k) es1/\K es c n b3 es1 c1:=by
 obtain⟨es,c,h1,h2,h3⟩:=M
 obtain⟨es',c',e1,e2,e3⟩:=mput (c:=c) h2 k (.int .i64 (wrap .i64 (f k+1)))
 refine⟨es,c,h1,h2.fit k,f k,h3 k,b,es,c,rfl,h1,h2.fit k,hK es c h1 ?_⟩
 rw[e1]
 refine⟨es',c',new_at _ _ _,e2,λj=>?_⟩
 rw[e3]
 dsimp only
 by_cases hj:j=k
 ·rw[if_pos hj,if_pos hj]
 ·rw[if_neg hj,if_neg hj];exact h3 j
end Go.Eng
end
section
namespace Go.Eng.YtblghgacokoklaaDoor
theorem setL_app:∀ (V A U B:List Value),U.length=V.length->setL (A++(U++B)) A.length V=A++(V++B)
 |[],A,U,B,h=>by
  have:U=[]:=eq_nil_of_length_eq_zero h
  subst this;rfl
 |v::V,A,[],B,h=>(by cases h)
 |v::V,A,u::U,B,h=>by
  unfold setL
  have e:(A++(u::U++B)).set A.length v=(A++[v])++(U++B):=by simp
  have l:A.length+1=(A++[v]).length:=by simp
  rw[e,l,setL_app V (A++[v]) U B (by simpa using h)]
  simp
theorem bufWr{h:Hp}{s:Sl}{sz t:Nat}{A U V B:List Value}(Bf:Buf h s sz t (A++(U++B)))(hu:U.length=V.length)(h0:0<U.length):∃ b,s.a=some ⟨b,0,none⟩/\h.canW b A.length V.length/\Upd h (h.wr b A.length V) s s/\Buf (h.wr b A.length V) s sz t (A++(V++B)):=by
 have hlen0:(A++(U++B)).length=A.length+(U.length+B.length):=by simp
 have hlen1:(A++(V++B)).length=A.length+(U.length+B.length):=by simp[hu]
 rcases Bf.own with⟨ha,hc⟩|⟨b,c,f,ha,hb,hsz,hf,ht⟩
 ·have h1:=Bf.len
  have h2:=Bf.cap
  have:s.n=0:=by omega
  rw[this,Nat.zero_mul] at h1
  omega
 ·have hcl:(A++(U++B)).length<=c.size:=by
   rw[Bf.len]
   exact Nat.le_trans (Nat.mul_le_mul_right _ Bf.cap) hsz
  have hct:c.toList=A++(U++(B++c.toList.drop (A++(U++B)).length)):=by
   have:=List.take_append_drop (A++(U++B)).length c.toList
   rw[ht] at this
   rw[<- this]
   simp
  refine⟨b,ha,⟨c,t,f,hb,by omega,λj h1 h2=>hf j (by omega)⟩,⟨λj x hj e=>?_,.inl rfl,λj e=>?_⟩,⟨by rw[hlen1,<- hlen0];exact Bf.len,Bf.cap,.inr ⟨b,(setL c.toList A.length V).toArray,f,ha,wr_at hb,?_,?_,?_⟩⟩⟩
  ·have hjb:j≠b:=λq=>hj 0 (by rw[q];exact ha)
   unfold Hp.wr
   rw[if_neg hjb]
   exact e
  ·unfold Hp.wr at e
   by_cases hjb:j=b
   ·rw[if_pos hjb,hb] at e;cases e
   ·rw[if_neg hjb] at e;exact e
  ·simp only[List.size_toArray,setL_length,Array.length_toList];exact hsz
  ·intro j hj
   simp only[List.size_toArray,setL_length,Array.length_toList] at hj
   exact hf j hj
  ·show((setL c.toList A.length V).take (A++(V++B)).length)=A++(V++B)
   rw[hct,setL_app V A U _ hu,show A++(V++(B++c.toList.drop (A++(U++B)).length))=(A++(V++B))++c.toList.drop (A++(U++B)).length by simp,List.take_left' rfl]
def lcmp:List UInt8->List UInt8->Int:=Go.Lib.compareBytes
theorem lcmp_cons(a b:UInt8)(l m:List UInt8):lcmp (a::l) (b::m)=if a<b then -1 else if b<a then 1 else lcmp l m:=rfl
theorem u8_tri(a b:UInt8):a<b\/b<a\/a=b:=by
 rcases Nat.lt_trichotomy a.toNat b.toNat with h|h|h
 ·exact .inl h
 ·exact .inr (.inr (UInt8.toNat_inj.1 h))
 ·exact .inr (.inl h)
theorem u8_irr{a:UInt8}:¬ a<a:=λh=>Nat.lt_irrefl _ (show a.toNat<a.toNat from h)
theorem u8_asym{a b:UInt8}(h:a<b):¬ b<a:=λk=>Nat.lt_asymm (show a.toNat<b.toNat from h) k
theorem u8_trans{a b c:UInt8}(h:a<b)(k:b<c):a<c:=Nat.lt_trans (show a.toNat<b.toNat from h) k
theorem lcmp_flip:∀ l m,lcmp l m=- lcmp m l
 |[],[]=>rfl
 |[],_::_=>rfl
 |_::_,[]=>rfl
 |a::l,b::m=>by
  rw[lcmp_cons,lcmp_cons]
  rcases u8_tri a b with h|h|rfl
  ·rw[if_pos h,if_neg (u8_asym h),if_pos h]
  ·rw[if_neg (u8_asym h),if_pos h,if_pos h];rfl
  ·rw[if_neg u8_irr,if_neg u8_irr,if_neg u8_irr,if_neg u8_irr,lcmp_flip l m]
theorem lcmp_zero:∀ l m,lcmp l m=0->l=m
 |[],[],_=>rfl
 |[],_::_,h=>(by cases h)
 |_::_,[],h=>(by cases h)
 |a::l,b::m,h=>by
  rw[lcmp_cons] at h
  rcases u8_tri a b with k|k|rfl
  ·rw[if_pos k] at h;cases h
  ·rw[if_neg (u8_asym k),if_pos k] at h;cases h
  ·rw[if_neg u8_irr,if_neg u8_irr] at h;rw[lcmp_zero l m h]
theorem lcmp_trans:∀ l m n,lcmp l m<0->lcmp m n<0->lcmp l n<0
 |[],[],_,h,_=>(by cases h)
 |_::_,[],_,h,_=>absurd h (by decide:¬ (1:Int)<0)
 |[],_::_,[],_,k=>absurd k (by decide:¬ (1:Int)<0)
 |[],_::_,_::_,_,_=>(by decide:(-1:Int)<0)
 |_::_,_::_,[],_,k=>absurd k (by decide:¬ (1:Int)<0)
 |a::l,b::m,c::n,h,k=>by
  rw[lcmp_cons] at h k ⊢
  rcases u8_tri a b with x|x|rfl
  ·rcases u8_tri b c with y|y|rfl
   ·rw[if_pos (u8_trans x y)];decide
   ·rw[if_neg (u8_asym y),if_pos y] at k;exact absurd k (by decide)
   ·rw[if_pos x];decide
  ·rw[if_neg (u8_asym x),if_pos x] at h;exact absurd h (by decide)
  ·rw[if_neg u8_irr,if_neg u8_irr] at h
   rcases u8_tri a c with y|y|rfl
   ·rw[if_pos y];decide
   ·rw[if_neg (u8_asym y),if_pos y] at k;exact absurd k (by decide)
   ·rw[if_neg u8_irr,if_neg u8_irr] at k ⊢
    exact lcmp_trans l m n h k
def Bl(a b:ByteArray):Prop:=cmpI a b<0
theorem cmpI_eq(a b:ByteArray):cmpI a b=lcmp a.data.toList b.data.toList:=rfl
theorem Bl.trans{a b c:ByteArray}(h:Bl a b)(k:Bl b c):Bl a c:=lcmp_trans _ _ _ h k
theorem Bl.asym{a b:ByteArray}(h:Bl a b):¬ Bl b a:=by
 unfold Bl at h ⊢
 rw[cmpI_eq,lcmp_flip] at h
 rw[cmpI_eq]
 omega
theorem Bl.irr{a:ByteArray}:¬ Bl a a:=λh=>h.asym h
theorem bl_tri(a b:ByteArray):Bl a b\/Bl b a\/a=b:=by
 unfold Bl
 have h:=lcmp_flip a.data.toList b.data.toList
 rw[cmpI_eq,cmpI_eq]
 rcases Int.lt_trichotomy (lcmp a.data.toList b.data.toList) 0 with k|k|k
 ·exact .inl k
 ·right;right
  have:=lcmp_zero _ _ k
  exact ByteArray.ext (Array.ext' this)
 ·exact .inr (.inl (by omega))
def Le(a b:ByteArray):Prop:=¬ Bl b a
theorem Le.refl(a:ByteArray):Le a a:=Bl.irr
theorem Le.of{a b:ByteArray}(h:Bl a b):Le a b:=h.asym
theorem Le.trans{a b c:ByteArray}(h:Le a b)(k:Le b c):Le a c:=by
 intro hc
 rcases bl_tri a b with x|x|rfl
 ·exact k (hc.trans x)
 ·exact h x
 ·exact k hc
theorem Le.bl{a b c:ByteArray}(h:Le a b)(k:Bl b c):Bl a c:=by
 rcases bl_tri a b with x|x|rfl
 ·exact x.trans k
 ·exact absurd x h
 ·exact k
theorem bytesLess_eq:∀ l m,Op.bytesLess l m=decide (lcmp l m<0)
 |[],[]=>rfl
 |_::_,[]=>rfl
 |[],_::_=>rfl
 |a::l,b::m=>by
  rw[lcmp_cons]
  unfold Op.bytesLess
  rcases u8_tri a b with h|h|rfl
  ·rw[if_pos h,decide_eq_true h];rfl
  ·have hne:(a == b)=false:=by
    rw[beq_eq_false_iff_ne];rintro rfl;exact u8_irr h
   rw[if_neg (u8_asym h),if_pos h,decide_eq_false (u8_asym h),hne];rfl
  ·rw[if_neg u8_irr,if_neg u8_irr,decide_eq_false u8_irr,beq_self_eq_true,bytesLess_eq l m];rfl
theorem sLt_bl(a b:ByteArray):sLt a b↔Bl a b:=by
 unfold sLt Bl
 rw[ByteArray.toList_eq,ByteArray.toList_eq,bytesLess_eq,decide_eq_true_eq]
 rfl
structure Tab where
 num:Int
 weight:Int
 bytes:Int
 entries:Int
 least:ByteArray
 greatest:ByteArray
def Tab.cells(t:Tab):List Value:=[.int .u64 t.num,.int .i64 t.weight,.int .i64 t.bytes,.int .i64 t.entries,.string t.least,.string t.greatest]
def tabV(ts:List Tab):List Value:=ts.flatMap Tab.cells
theorem tabV_len(ts:List Tab):(tabV ts).length=ts.length*6:=flat_length Tab.cells 6 (λ_=>rfl) ts
def TB(h:Hp)(l:Sl)(ts:List Tab):Prop:=Buf h l 6 106 (tabV ts)
theorem TB.n{h:Hp}{l:Sl}{ts:List Tab}(B:TB h l ts):l.n=ts.length:=by
 have:=Buf.len B;rw[tabV_len] at this;omega
theorem tab_rd{h:Hp}{l:Sl}{P R:List Tab}{t:Tab}(hr:h.row l.a (l.n*6) (tabV (P++t::R))){i:Int}(hi:i=(P.length:Int)){K:Nat->Nat->Int->Int->Int->Int->ByteArray->ByteArray->Prop}(hK:∀ b o,K b o t.num t.weight t.bytes t.entries t.least t.greatest) :
  ∃ b o,(l.a:Option Addr)=some ⟨b,o,none⟩/\((0:Int)<=i/\i<(l.n:Int))/\∃ n4:Int,h.at b (o+i.toNat*6)=some (.int .u64 n4)/\∃ n5:Int,h.at b ((o+i.toNat*6)+1)=some (.int .i64 n5)/\∃ n6:Int,h.at b ((o+i.toNat*6)+2)=some (.int .i64 n6)/\∃ n7:Int,h.at b ((o+i.toNat*6)+3)=some (.int .i64 n7)/\∃ s:ByteArray,h.at b ((o+i.toNat*6)+4)=some (.string s)/\∃ s1:ByteArray,h.at b ((o+i.toNat*6)+5)=some (.string s1)/\K b o n4 n5 n6 n7 s s1:=by
 subst hi
 have hl:=hr.1
 rw[tabV_len,length_append,length_cons] at hl
 obtain⟨b,o,ha,hat⟩:=row_get hr (i:=P.length*6) (by omega)
 have c:∀ j,j<6->h.at b ((o+(P.length:Int).toNat*6)+j)=(Tab.cells t)[j]?:=λj hj=>by
  rw[Int.toNat_natCast,Nat.add_assoc,hat _ (by omega)]
  have:=flat_get Tab.cells 6 (λ_=>rfl) (P++t::R) P.length j (by rw[length_append,length_cons];omega) hj
  rw[List.getElem_append_right (Nat.le_refl _)] at this
  simp only[Nat.sub_self,List.getElem_cons_zero] at this
  exact this
 exact⟨b,o,ha,⟨by omega,by omega⟩,_,c 0 (by decide),_,c 1 (by decide),_,c 2 (by decide),_,c 3 (by decide),_,c 4 (by decide),_,c 5 (by decide),hK b o⟩
theorem TB.rd{h:Hp}{l:Sl}{ts P R:List Tab}{t:Tab}(B:TB h l ts)(e:ts=P++t::R){i:Int}(hi:i=(P.length:Int)){K:Nat->Nat->Int->Int->Int->Int->ByteArray->ByteArray->Prop}(hK:∀ b o,K b o t.num t.weight t.bytes t.entries t.least t.greatest) :
  ∃ b o,(l.a:Option Addr)=some ⟨b,o,none⟩/\((0:Int)<=i/\i<(l.n:Int))/\∃ n4:Int,h.at b (o+i.toNat*6)=some (.int .u64 n4)/\∃ n5:Int,h.at b ((o+i.toNat*6)+1)=some (.int .i64 n5)/\∃ n6:Int,h.at b ((o+i.toNat*6)+2)=some (.int .i64 n6)/\∃ n7:Int,h.at b ((o+i.toNat*6)+3)=some (.int .i64 n7)/\∃ s:ByteArray,h.at b ((o+i.toNat*6)+4)=some (.string s)/\∃ s1:ByteArray,h.at b ((o+i.toNat*6)+5)=some (.string s1)/\K b o n4 n5 n6 n7 s s1:=by
 subst e
 exact tab_rd (Buf.row B) hi hK
theorem TB.wr{h:Hp}{l:Sl}{ts P R:List Tab}{x t:Tab}(B:TB h l ts)(e:ts=P++x::R){i:Int}(hi:i=(P.length:Int)){K:Nat->Nat->Prop}(hK:∀ b,TB (h.wr b (0+i.toNat*6) [.int .u64 t.num,.int .i64 t.weight,.int .i64 t.bytes,.int .i64 t.entries,.string t.least,.string t.greatest]) l (P++t::R)->Upd h (h.wr b (0+i.toNat*6) [.int .u64 t.num,.int .i64 t.weight,.int .i64 t.bytes,.int .i64 t.entries,.string t.least,.string t.greatest]) l l->K b 0) :
  ∃ b o,(l.a:Option Addr)=some ⟨b,o,none⟩/\((0:Int)<=i/\i<(l.n:Int))/\h.canW b (o+i.toNat*6) 6/\K b o:=by
 subst e hi
 have hn:=B.n
 rw[length_append,length_cons] at hn
 have e2:∀ t:Tab,tabV (P++t::R)=tabV P++(t.cells++tabV R):=λt=>by unfold tabV;simp
 have B':Buf h l 6 106 (tabV P++(x.cells++tabV R)):=by rw[<- e2];exact B
 obtain⟨b,ha,hc,U,Bw⟩:=bufWr (V:=t.cells) B' rfl (show 0<6 by decide)
 rw[tabV_len] at hc U Bw
 refine⟨b,0,ha,⟨by omega,by omega⟩,by rw[Nat.zero_add,Int.toNat_natCast];exact hc,hK b ?_ ?_⟩
 ·rw[Nat.zero_add,Int.toNat_natCast]
  show Buf _ l 6 106 (tabV (P++t::R))
  rw[e2];exact Bw
 ·rw[Nat.zero_add,Int.toNat_natCast];exact U
theorem cmp_spec{h:Hp}{x y:Tab}{Q:Value->Hp->Prop}(h1:Bl x.least y.least->∀ n:Int,n<0->Q (.int .i64 n) h)(h2:Le y.least x.least->∀ n:Int,¬ n<0->Q (.int .i64 n) h):F110.T x.num x.weight x.bytes x.entries x.least x.greatest y.num y.weight y.bytes y.entries y.least y.greatest h Q:=by
 unfold F110.T F111.T F129.T F110.G F111.G F129.G
 refine⟨_,rfl,⟨_,rfl,⟨_,rfl,?_⟩⟩⟩
 by_cases hc:Bl x.least y.least
 ·exact h1 hc _ hc
 ·exact h2 hc _ hc
def Srt(ts:List Tab):Prop:=ts.Pairwise λx y=>Le x.least y.least
structure Sv(h h':Hp)(l:Sl)(ts:List Tab):Prop where
 b:TB h' l ts
 up:Upd h h' l l
end Go.Eng.YtblghgacokoklaaDoor
end
section
namespace Go.Eng.YtblghgacokoklaaDoor
def uvs(vs:List Int):List Value:=vs.map λn=>.int .u64 n
theorem uvs_len(vs:List Int):(uvs vs).length=vs.length:=length_map _
theorem wr64{x:Int}(h0:-1000000000000<=x)(h1:x<=1000000000000):wrap .i64 x=x:=wrap_i64 (by omega) (by omega)
theorem wS{j:Nat}(h:1<=j)(h1:j<=1000000000000):wrap .i64 ((j:Int)-1)=((j-1:Nat):Int):=by rw[wr64 (by omega) (by omega)];omega
theorem wA{j:Nat}(h1:j<=900000000000):wrap .i64 ((j:Int)+1)=((j+1:Nat):Int):=by rw[wr64 (by omega) (by omega)];omega
theorem wP{i j:Nat}(h1:i+j<=1000000000000):wrap .i64 ((i:Int)+(j:Int))=((i+j:Nat):Int):=by rw[wr64 (by omega) (by omega)];omega
theorem wM{i j:Nat}(h:j<=i)(h1:i<=1000000000000):wrap .i64 ((i:Int)-(j:Int))=((i-j:Nat):Int):=by rw[wr64 (by omega) (by omega)];omega
abbrev ltI:=Go.Sort.ltInt
structure Dx(h h':Hp)(l:Sl)(d:Array Int):Prop where
 u:Buf h' l 1 22 (uvs d.toList)
 up:Upd h h' l l
theorem Dx.sz{h h':Hp}{l:Sl}{d:Array Int}(S:Dx h h' l d):d.size=l.n:=by
 have:=S.u.len
 rw[uvs_len,Array.length_toList] at this;omega
theorem Dx.refl{h:Hp}{l:Sl}{d:Array Int}(B:Buf h l 1 22 (uvs d.toList)):Dx h h l d:=⟨B,Upd.refl _ _⟩
theorem Dx.from{a b c:Hp}{l:Sl}{d d':Array Int}(x:Dx a b l d)(y:Dx b c l d'):Dx a c l d':=⟨y.u,x.up.trans y.up⟩
theorem Dx.rd{h g:Hp}{l:Sl}{d:Array Int}(S:Dx h g l d){i:Nat}(hi:i<l.n){K:Nat->Nat->Int->Prop}(hK:∀ b,K b 0 d[i]!):ix l.a (i:Int) l.n λb o=>ldI .u64 g b (o+((i:Nat):Int).toNat) λn=>K b o n:=by
 have hs:=S.sz
 obtain⟨b,ha,hat,_,_⟩:=buf_set S.u (k:=i) (by rw[uvs_len,Array.length_toList];omega)
 refine⟨b,0,ha,⟨by omega,by omega⟩,d[i]!,?_,hK b⟩
 rw[Nat.zero_add,Int.toNat_natCast,hat]
 unfold uvs
 rw[getElem?_map,Array.getElem?_toList,Array.getElem?_eq_getElem (by omega),getElem!_pos d i (by omega)];rfl
theorem Dx.wr{h g:Hp}{l:Sl}{d:Array Int}(S:Dx h g l d){i:Nat}(hi:i<l.n)(v:Int){K:Hp->Prop}(hK:∀ g',Dx h g' l (d.setIfInBounds i v)->K g'):ix l.a (i:Int) l.n λb o=>st g b (o+((i:Nat):Int).toNat) 1 [.int .u64 v] K:=by
 have hs:=S.sz
 obtain⟨b,ha,hat,hc,hw⟩:=buf_set S.u (k:=i) (by rw[uvs_len,Array.length_toList];omega)
 obtain⟨U1,B1⟩:=hw (.int .u64 v)
 refine⟨b,0,ha,⟨by omega,by omega⟩,?_⟩
 dsimp only
 rw[Nat.zero_add,Int.toNat_natCast]
 refine⟨hc,hK _ ⟨?_,S.up.trans U1⟩⟩
 have:(uvs d.toList).set i (.int .u64 v)=uvs (d.setIfInBounds i v).toList:=by unfold uvs;rw[Array.toList_setIfInBounds,List.map_set]
 rw[<- this];exact B1
theorem Dx.swp{h g:Hp}{l:Sl}{d:Array Int}(S:Dx h g l d){i j:Nat}(hi:i<l.n)(hj:j<l.n){K:Hp->Prop}(hK:∀ g',Dx h g' l (Go.Sort.swp d j i)->K g') :
  ix l.a (i:Int) l.n λb o=>ldI .u64 g b (o+((i:Nat):Int).toNat) λn=>ix l.a (j:Int) l.n λb1 o1=>ldI .u64 g b1 (o1+((j:Nat):Int).toNat) λn1=>ix l.a (j:Int) l.n λb2 o2=>st g b2 (o2+((j:Nat):Int).toNat) 1 [.int .u64 n] λg1=>ix l.a (i:Int) l.n λb3 o3=>st g1 b3 (o3+((i:Nat):Int).toNat) 1 [.int .u64 n1] K:=
 S.rd hi λ_=>S.rd hj λ_=>S.wr hj _ λg1 S1=>S1.wr hi _ λg2 S2=>hK g2 S2
theorem less_s{h:Hp}{n n1:Int}{Q:Value->Hp->Prop}(hQ:Q (.bool (ltI n n1)) h):F144.T n n1 h Q:=by
 unfold ltI Go.Sort.ltInt at hQ
 refine⟨λ_=>⟨false,rfl,λh0=>(by cases h0),λ_=>⟨λhl=>?_,λhl=>?_⟩⟩,λh0=>absurd rfl h0⟩
 ·rw[decide_eq_true hl] at hQ;exact hQ
 ·rw[decide_eq_false hl] at hQ;exact hQ
theorem Dx.less{h g:Hp}{l:Sl}{d:Array Int}(S:Dx h g l d){i j:Nat}(hi:i<l.n)(hj:j<l.n){X Y:Hp->Prop}(hX:ltI d[i]! d[j]! = true->X g)(hY:ltI d[i]! d[j]! = false->Y g) :
  ix l.a (i:Int) l.n λb o=>ldI .u64 g b (o+((i:Nat):Int).toNat) λn=>ix l.a (j:Int) l.n λb1 o1=>ldI .u64 g b1 (o1+((j:Nat):Int).toNat) λn1=>F144.T n n1 g λr h3=>retB r (X h3) (Y h3):=
 S.rd hi λ_=>S.rd hj λ_=>less_s ⟨_,rfl,hX,hY⟩
section
open Go.Sort
variable{h:Hp}{l:Sl}{d:Array Int}{a b:Nat}{Q:Value->Hp->Prop}
theorem insertion_s(B:Buf h l 1 22 (uvs d.toList))(hb:b<=l.n)(ha:a<=l.n)(hn:l.n<=100000000000)(hQ:∀ h',Dx h h' l (insertionSort ltI d a b)->Q (.tuple ⟨[]⟩) h'):F138.T l (a:Int) (b:Int) h Q:=by
 unfold F138.T F138.G
 rw[wA (by omega)]
 generalize hD:insertionSort ltI d a b=D at hQ
 unfold insertionSort at hD
 refine⟨λn2 h1=>∃ i d',n2=((i:Nat):Int)/\a+1<=i/\i<=100000000001/\Dx h h1 l d'/\insOuter ltI a b i d'=D,λn2 _=>b-n2.toNat,⟨a+1,d,rfl,Nat.le_refl _,by omega,Dx.refl B,hD⟩,?_⟩
 rintro n2 g1 ⟨i,d1,rfl,i0,i1,S,e⟩
 unfold insOuter at e
 refine⟨λhlt=>?_,λhge=>?_⟩
 ·rw[if_pos (by omega)] at e
  rw[wA (by omega)]
  refine⟨λn3 h2=>∃ j d',n3=((j:Nat):Int)/\a<=j/\j<=i/\Dx h h2 l d'/\insOuter ltI a b (i+1) (insInner ltI a j d')=D,λn3 _=>n3.toNat,⟨i,d1,rfl,by omega,Nat.le_refl _,S,e⟩,?_⟩
  rintro n3 g ⟨j,d2,rfl,j0,j1,S,e⟩
  refine⟨λhlt2=>?_,λhge2=>⟨⟨i+1,d2,rfl,by omega,by omega,S,?_⟩,by dsimp only;omega⟩⟩
  ·obtain⟨k,rfl⟩:∃ k,j=k+1:=⟨j-1,by omega⟩
   unfold insInner at e
   rw[wS (by omega) (by omega)]
   refine S.less (by omega) (by omega) (λhl=>?_) (λhl=>⟨⟨i+1,d2,rfl,by omega,by omega,S,?_⟩,by dsimp only;omega⟩)
   ·refine S.swp (i:=k+1-1) (j:=k+1) (by omega) (by omega) λg' S'=>⟨⟨k+1-1,_,rfl,by omega,by omega,S',?_⟩,by dsimp only;omega⟩
    rw[Nat.add_sub_cancel] at hl ⊢
    rw[if_pos (by rw[hl];simp;omega)] at e
    exact e
   ·rw[Nat.add_sub_cancel] at hl
    rw[if_neg (by rw[hl];simp)] at e
    exact e
  ·cases j with
   |zero=>exact e
   |succ k=>
    unfold insInner at e
    rw[if_neg (by simp;omega)] at e
    exact e
 ·rw[if_neg (by omega)] at e
  subst e
  exact hQ g1 S
theorem reverse_s(B:Buf h l 1 22 (uvs d.toList))(hb:b<=l.n)(h0:1<=b)(ha:a<=l.n)(hn:l.n<=100000000000)(hQ:∀ h',Dx h h' l (reverseRange d a b)->Q (.tuple ⟨[]⟩) h'):F142.T l (a:Int) (b:Int) h Q:=by
 unfold F142.T
 rw[wS h0 (by omega)]
 generalize hD:reverseRange d a b=D at hQ
 unfold reverseRange at hD
 refine⟨λn2 n3 h1=>∃ i j d',n2=((i:Nat):Int)/\n3=((j:Nat):Int)/\i<=200000000000/\j<b/\Dx h h1 l d'/\reverseLoop i j d'=D,λn2 n3 _=>n3.toNat-n2.toNat,⟨a,b-1,d,rfl,rfl,by omega,by omega,Dx.refl B,hD⟩,?_⟩
 rintro n2 n3 g ⟨i,j,d2,rfl,rfl,i0,j0,S,e⟩
 unfold reverseLoop at e
 refine⟨λhlt=>?_,λhge=>?_⟩
 ·rw[if_pos (by omega)] at e
  rw[wA (by omega),wS (by omega) (by omega)]
  exact S.swp (i:=j) (j:=i) (by omega) (by omega) λg' S'=>⟨⟨i+1,j-1,_,rfl,rfl,by omega,by omega,S',e⟩,by dsimp only;omega⟩
 ·rw[if_neg (by omega)] at e
  subst e
  exact hQ g S
theorem sift_s{lo hi fi:Nat}(B:Buf h l 1 22 (uvs d.toList))(h1:fi+hi<=l.n)(hlo:lo<=l.n)(hn:l.n<=100000000000)(hQ:∀ h',Dx h h' l (siftDown ltI hi fi lo d)->Q (.tuple ⟨[]⟩) h'):F150.T l (lo:Int) (hi:Int) (fi:Int) h Q:=by
 unfold F150.T F150.G
 generalize hD:siftDown ltI hi fi lo d=D at hQ
 refine⟨λn h1=>∃ r d',n=((r:Nat):Int)/\r<=l.n/\Dx h h1 l d'/\siftDown ltI hi fi r d'=D,λn _=>l.n-n.toNat,⟨lo,d,rfl,hlo,Dx.refl B,hD⟩,?_⟩
 rintro n g ⟨r,d1,rfl,hr,S,e⟩
 have w1:wrap .i64 (2*(r:Int))=((2*r:Nat):Int):=by rw[wr64 (by omega) (by omega)];omega
 rw[w1,wA (by omega)]
 unfold siftDown at e
 refine⟨λhge=>?_,λhlt=>?_⟩
 ·rw[dif_pos (by omega)] at e
  subst e
  exact hQ g S
 rw[dif_neg (by omega)] at e
 rw[wA (by omega),wP (by omega),wP (by omega),wA (by omega)]
 have fin:∀ c:Nat,c<hi->r<c->(if (!ltI d1[fi+r]! d1[fi+c]!)=true then d1 else siftDown ltI hi fi c (Go.Sort.swp d1 (fi+r) (fi+c)))=D->∃ c':Nat,((c:Nat):Int)=((c':Nat):Int)/\c'<hi/\r<c'/\Dx h g l d1/\(if (!ltI d1[fi+r]! d1[fi+c']!)=true then d1 else siftDown ltI hi fi c' (Go.Sort.swp d1 (fi+r) (fi+c')))=D:=λc hc hrc e=>⟨c,rfl,hc,hrc,S,e⟩
 refine⟨λn h2=>∃ c:Nat,n=((c:Nat):Int)/\c<hi/\r<c/\Dx h h2 l d1/\(if (!ltI d1[fi+r]! d1[fi+c]!)=true then d1 else siftDown ltI hi fi c (Go.Sort.swp d1 (fi+r) (fi+c)))=D,?_,λhlt2=>?_,λhge2=>?_⟩
 ·rintro n g2 ⟨c,rfl,c1,c2,S2,e2⟩
  rw[wP (by omega)]
  refine S2.less (by omega) (by omega) (λhl=>?_) (λhl=>?_)
  ·rw[if_neg (by rw[hl];decide)] at e2
   exact S2.swp (i:=fi+c) (j:=fi+r) (by omega) (by omega) λg' S'=>⟨⟨c,_,rfl,by omega,S',e2⟩,by dsimp only;omega⟩
  ·rw[if_pos (by rw[hl];decide)] at e2
   subst e2
   exact hQ g2 S2
 ·refine S.less (by omega) (by omega) (λhl=>?_) (λhl=>?_)
  ·rw[if_pos (by rw[Nat.add_assoc fi] at hl;simp only[Bool.and_eq_true,decide_eq_true_eq];exact⟨by omega,hl⟩)] at e
   rw[dif_pos (by omega)] at e
   exact fin (2*r+1+1) (by omega) (by omega) e
  ·rw[if_neg (by simp only[Bool.and_eq_true,decide_eq_true_eq];intro hc;rw[hc.2] at hl;cases hl)] at e
   exact fin (2*r+1) (by omega) (by omega) e
 ·rw[if_neg (by simp only[Bool.and_eq_true,decide_eq_true_eq];intro hc;omega)] at e
  exact fin (2*r+1) (by omega) (by omega) e
theorem heap_s(B:Buf h l 1 22 (uvs d.toList))(hab:a<=b)(hb:b<=l.n)(hn:l.n<=100000000000)(hQ:∀ h',Dx h h' l (heapSort ltI d a b)->Q (.tuple ⟨[]⟩) h'):F139.T l (a:Int) (b:Int) h Q:=by
 unfold F139.T F139.G
 rw[wM hab (by omega)]
 generalize hD:heapSort ltI d a b=D at hQ
 unfold heapSort at hD
 have st0:∃ k:Nat,wrap .i64 (Int.tdiv (wrap .i64 (((b-a:Nat):Int)-1)) 2)=(k:Int)-1/\k<=b-a+1/\k=(b-a-1) / 2+1:=by
  refine⟨(b-a-1) / 2+1,?_,by omega,rfl⟩
  rw[wr64 (x:=((b-a:Nat):Int)-1) (by omega) (by omega)]
  by_cases h0:b-a=0
  ·rw[h0];decide
  ·rw[Int.tdiv_eq_ediv_of_nonneg (by omega),wr64 (by omega) (by omega)];omega
 obtain⟨k0,e0,hk0,ek⟩:=st0
 rw[<- ek] at hD
 rw[e0]
 refine⟨by decide,λn h1=>∃ k d',n=((k:Nat):Int)-1/\k<=b-a+1/\Dx h h1 l d'/\heapPop ltI a (b-a) (heapBuild ltI (b-a) a k d')=D,λn _=>(n+1).toNat,⟨k0,d,rfl,hk0,Dx.refl B,hD⟩,?_⟩
 rintro n g ⟨k,d1,rfl,hk,S,e⟩
 refine⟨λhge=>?_,λhlt=>?_⟩
 ·obtain⟨k,rfl⟩:∃ j,k=j+1:=⟨k-1,by omega⟩
  have ek':((k+1:Nat):Int)-1=((k:Nat):Int):=by omega
  rw[ek',wr64 (x:=(k:Int)-1) (by omega) (by omega)]
  unfold heapBuild at e
  exact sift_s S.u (by omega) (by omega) hn λg2 S2=>⟨⟨k,_,rfl,by omega,S.from S2,e⟩,by dsimp only;omega⟩
 ·have hk0:k=0:=by omega
  subst hk0
  unfold heapBuild at e
  refine⟨λn h1=>∃ k d',n=((k:Nat):Int)-1/\k<=b-a/\Dx h h1 l d'/\heapPop ltI a k d'=D,λn _=>(n+1).toNat,⟨b-a,d1,by rw[wr64 (by omega) (by omega)],Nat.le_refl _,S,e⟩,?_⟩
  rintro n g ⟨k,d1,rfl,hk,S,e⟩
  refine⟨λhge=>?_,λhlt=>?_⟩
  ·obtain⟨k,rfl⟩:∃ j,k=j+1:=⟨k-1,by omega⟩
   have ek':((k+1:Nat):Int)-1=((k:Nat):Int):=by omega
   rw[ek',wP (by omega),wr64 (x:=(k:Int)-1) (by omega) (by omega)]
   unfold heapPop at e
   refine S.swp (i:=a+k) (j:=a) (by omega) (by omega) λg1 S1=>?_
   exact sift_s (lo:=0) S1.u (by omega) (by omega) hn λg2 S2=>⟨⟨k,_,rfl,by omega,S1.from S2,e⟩,by dsimp only;omega⟩
  ·have hk0:k=0:=by omega
   subst hk0
   unfold heapPop at e
   subst e
   exact hQ g S
end
end Go.Eng.YtblghgacokoklaaDoor
end
section
namespace Go.Eng.YtblghgacokoklaaDoor
theorem srt_ins{P S:List Tab}{x:Tab}(h:Srt (P++S))(h1:P=[]\/∃ P' y,P=P'++[y]/\Le y.least x.least)(h2:∀ s∈S,Bl x.least s.least):Srt (P++x::S):=by
 unfold Srt at h ⊢
 rw[List.pairwise_append] at h ⊢
 obtain⟨a,b,c⟩:=h
 have hx:∀ z∈P,Le z.least x.least:=by
  rcases h1 with rfl|⟨P',y,rfl,hy⟩
  ·intro z hz;cases hz
  ·intro z hz
   rw[List.pairwise_append] at a
   rcases mem_append.1 hz with hz|hz
   ·exact(a.2.2 z hz y (mem_singleton.2 rfl)).trans hy
   ·rw[mem_singleton] at hz;subst hz;exact hy
 refine⟨a,pairwise_cons.2 ⟨λs hs=>.of (h2 s hs),b⟩,λz hz w hw=>?_⟩
 rcases mem_cons.1 hw with rfl|hw
 ·exact hx z hz
 ·exact c z hz w hw
theorem snoc_of{α:Type}{P:List α}(h:P≠[]):∃ P' y,P=P'++[y]:=⟨P.dropLast,P.getLast h,(List.dropLast_concat_getLast h).symm⟩
theorem insertion_t{h:Hp}{l:Sl}{A M B:List Tab}{lo hi:Int}{Q:Value->Hp->Prop}(T:TB h l (A++(M++B)))(h1:lo=(A.length:Int))(h2:hi=((A.length+M.length:Nat):Int))(hn:l.n<=5000000)
  (hQ:∀ h' M',Sv h h' l (A++(M'++B))->M'.Perm M->Srt M'->Q (.tuple ⟨[]⟩) h'):F135.T l lo hi h Q:=by
 have hl:=T.n
 simp only[length_append] at hl
 unfold F135.T F135.G
 rw[wr64 (x:=lo+1) (by omega) (by omega)]
 cases M with
 |nil=>
  refine⟨λn g=>n=lo+1/\g=h,λ_ _=>0,⟨rfl,rfl⟩,?_⟩
  rintro n g ⟨rfl,rfl⟩
  refine⟨λhlt=>absurd hlt (by simp at h2;omega),λ_=>hQ g [] ⟨T,Upd.refl _ _⟩ (List.Perm.refl _) List.Pairwise.nil⟩
 |cons m0 M0=>
  simp only[length_cons] at h2 hl
  refine⟨λn g=>∃ D R,Sv h g l (A++(D++(R++B)))/\(D++R).Perm (m0::M0)/\Srt D/\n=((A.length+D.length:Nat):Int)/\D.length+R.length=M0.length+1,λn _=>(hi-n).toNat,⟨[m0],M0,⟨by simpa using T,Upd.refl _ _⟩,List.Perm.refl _,List.pairwise_singleton _ _,by simp;omega,by simp;omega⟩,?_⟩
  rintro n g ⟨D,R,S,hp,hs,rfl,hlen⟩
  refine⟨λhlt=>?_,λhge=>?_⟩
  ·cases R with
   |nil=>simp only[length_nil] at hlen;omega
   |cons x R=>
    simp only[length_cons] at hlen
    rw[wr64 (x:=((A.length+D.length:Nat):Int)+1) (by omega) (by omega)]
    have nxt:∀ {g:Hp} {P S':List Tab},Sv h g l (A++(P++x::(S'++(R++B))))->P++S'=D->Srt (P++x::S')->(∃ D R,Sv h g l (A++(D++(R++B)))/\(D++R).Perm (m0::M0)/\Srt D/\((A.length+(D).length:Nat):Int)=((A.length+(P++S').length:Nat):Int)+1/\D.length+R.length=M0.length+1):=by
     intro g P S' Sg hD hsrt
     refine⟨P++x::S',R,by simpa using Sg,?_,hsrt,by simp;omega,by rw[<- hD] at hlen;simp at hlen ⊢;omega⟩
     refine List.Perm.trans ?_ hp
     rw[<- hD]
     have:(P++x::S'++R)=P++([x]++S'++R):=by simp
     rw[this]
     have:(P++S'++x::R)=P++(S'++[x]++R):=by simp
     rw[this]
     exact((List.perm_append_comm (l₁:=[x]) (l₂:=S')).append_right R).append_left P
    have out:∀ {g:Hp} {P S':List Tab},Sv h g l (A++(P++x::(S'++(R++B))))->P++S'=D->Srt (P++x::S')->(∃ D_1 R,Sv h g l (A++(D_1++(R++B)))/\(D_1++R).Perm (m0::M0)/\Srt D_1/\((A.length+D.length:Nat):Int)+1=((A.length+D_1.length:Nat):Int)/\D_1.length+R.length=M0.length+1):=by
     intro g P S' Sg hD hsrt
     obtain⟨D1,R1,a1,a2,a3,a4,a5⟩:=nxt Sg hD hsrt
     exact⟨D1,R1,a1,a2,a3,by rw[a4,hD],a5⟩
    refine⟨λn3 g=>∃ P S',Sv h g l (A++(P++x::(S'++(R++B))))/\P++S'=D/\(∀ s∈S',Bl x.least s.least)/\n3=((A.length+P.length:Nat):Int),λn3 _=>n3.toNat,⟨D,[],by simpa using S,by simp,λs hs=>(by cases hs),rfl⟩,?_⟩
    rintro n3 g ⟨P,S',S,hD,hb,rfl⟩
    have hDl:P.length+S'.length=D.length:=by rw[<- hD];simp
    refine⟨λhlt2=>?_,λhge2=>?_⟩
    ·have hP:P≠[]:=λe=>by subst e;simp at hlt2;omega
     obtain⟨P',y,rfl⟩:=snoc_of hP
     simp only[length_append,length_singleton] at hDl hlt2
     have hi1:((A.length+(P'++[y]).length:Nat):Int)=((A.length+P'.length:Nat):Int)+1:=by simp;omega
     rw[hi1,wr64 (x:=((A.length+P'.length:Nat):Int)+1-1) (by omega) (by omega)]
     rw[show((A.length+P'.length:Nat):Int)+1-1=((A.length+P'.length:Nat):Int) by omega]
     have S1:Sv h g l ((A++P')++y::([]++x::(S'++(R++B)))):=⟨by simpa using S.b,S.up⟩
     refine S1.b.rd (P:=A++P'++[y]) (t:=x) (R:=S'++(R++B)) (by simp) (by simp<;>omega) λb1 o1=>S1.b.rd (P:=A++P') (t:=y) (R:=x::(S'++(R++B))) (by simp) (by simp) λb2 o2=>?_
     refine cmp_spec (λhbl n hn0=>⟨n,rfl,λ_=>?_,λhc=>absurd hn0 hc⟩) (λhle n hn0=>⟨n,rfl,λhc=>absurd hc hn0,λ_=>⟨out S hD (srt_ins (by rw[hD];exact hs) (.inr ⟨P',y,rfl,hle⟩) hb),by dsimp only;omega⟩⟩)
     clear b1 o1 b2 o2
     refine S1.b.rd (P:=(A++P')) (t:=y) (R:=[]++x::(S'++(R++B))) (by simp) (i:=((A.length+P'.length:Nat):Int)) (by simp<;>omega) λb1 o1=>S1.b.rd (P:=(A++P')++y::([])) (t:=x) (R:=S'++(R++B)) (by simp) (i:=((A.length+P'.length:Nat):Int)+1) (by simp<;>omega) λb2 o2=>TB.wr S1.b (P:=(A++P')++y::([])) (x:=x) (t:=y) (R:=S'++(R++B)) (by simp) (i:=((A.length+P'.length:Nat):Int)+1) (by simp<;>omega) λb3 B3 p3=>TB.wr B3 (P:=(A++P')) (x:=y) (t:=x) (R:=[]++y::(S'++(R++B))) (by simp) (i:=((A.length+P'.length:Nat):Int)) (by simp<;>omega) λb4 B4 p4=>?_
     have S2:Sv h ((g.wr b3 (0+(((A.length+P'.length:Nat):Int)+1).toNat*6) [.int .u64 y.num,.int .i64 y.weight,.int .i64 y.bytes,.int .i64 y.entries,.string y.least,.string y.greatest]).wr b4 (0+(((A.length+P'.length:Nat):Int)).toNat*6) [.int .u64 x.num,.int .i64 x.weight,.int .i64 x.bytes,.int .i64 x.entries,.string x.least,.string x.greatest]) l ((A++P')++x::([]++y::(S'++(R++B)))):=⟨by simpa using B4,(S1.up.trans p3).trans p4⟩
     generalize ((g.wr b3 (0+(((A.length+P'.length:Nat):Int)+1).toNat*6) [.int .u64 y.num,.int .i64 y.weight,.int .i64 y.bytes,.int .i64 y.entries,.string y.least,.string y.greatest]).wr b4 (0+(((A.length+P'.length:Nat):Int)).toNat*6) [.int .u64 x.num,.int .i64 x.weight,.int .i64 x.bytes,.int .i64 x.entries,.string x.least,.string x.greatest])=g2 at S2 ⊢
     clear B3 p3 B4 p4 b1 b2 b3 b4 o1 o2
     refine⟨⟨P',y::S',⟨by simpa using S2.b,S2.up⟩,by rw[<- hD];simp,λs hs=>?_,rfl⟩,by dsimp only;omega⟩
     rcases mem_cons.1 hs with rfl|hs
     ·exact hbl
     ·exact hb s hs
    ·have hP:P=[]:=eq_nil_of_length_eq_zero (by omega)
     subst hP
     exact⟨out S hD (srt_ins (by rw[hD];exact hs) (.inl rfl) hb),by dsimp only;omega⟩
  ·have hR:R=[]:=eq_nil_of_length_eq_zero (by omega)
   subst hR
   rw[append_nil] at hp
   exact hQ g D (by simpa using S) hp hs
theorem swap_range{h:Hp}{l:Sl}{A U M V B:List Tab}{a b n:Int}{Q:Value->Hp->Prop}(T:TB h l (A++(U++(M++(V++B)))))(hUV:U.length=V.length)(h1:a=(A.length:Int))(h2:b=((A.length+U.length+M.length:Nat):Int))(h3:n=(U.length:Int))(hn:l.n<=5000000)
  (hQ:∀ h',Sv h h' l (A++(V++(M++(U++B))))->Q (.tuple ⟨[]⟩) h'):F156.T l a b n h Q:=by
 have hl:=T.n
 simp only[length_append] at hl
 refine⟨λk g=>∃ U1 U2 V1 V2,U=U1++U2/\V=V1++V2/\U1.length=V1.length/\k=(U1.length:Int)/\Sv h g l (A++(V1++(U2++(M++(U1++(V2++B)))))),λk _=>(n-k).toNat,⟨[],U,[],V,rfl,rfl,rfl,rfl,⟨by simpa using T,Upd.refl _ _⟩⟩,?_⟩
 rintro k g ⟨U1,U2,V1,V2,rfl,rfl,hlen,rfl,S⟩
 simp only[length_append] at hUV h2 h3 hl
 refine⟨λhlt=>?_,λhge=>?_⟩
 ·cases U2 with
  |nil=>simp only[length_nil] at h3;omega
  |cons u U2=>
   cases V2 with
   |nil=>simp only[length_nil,length_cons] at hUV;omega
   |cons v V2=>
    simp only[length_cons] at hUV h2 h3 hl
    rw[wr64 (x:=b+(U1.length:Int)) (by omega) (by omega),wr64 (x:=a+(U1.length:Int)) (by omega) (by omega),wr64 (x:=(U1.length:Int)+1) (by omega) (by omega)]
    have S1:Sv h g l ((A++V1)++u::((U2++(M++U1))++v::(V2++B))):=⟨by simpa using S.b,S.up⟩
    refine S1.b.rd (P:=(A++V1)++u::((U2++(M++U1)))) (t:=v) (R:=V2++B) (by simp) (i:=b+(U1.length:Int)) (by simp<;>omega) λb1 o1=>S1.b.rd (P:=(A++V1)) (t:=u) (R:=(U2++(M++U1))++v::(V2++B)) (by simp) (i:=a+(U1.length:Int)) (by simp<;>omega) λb2 o2=>TB.wr S1.b (P:=(A++V1)) (x:=u) (t:=v) (R:=(U2++(M++U1))++v::(V2++B)) (by simp) (i:=a+(U1.length:Int)) (by simp<;>omega) λb3 B3 p3=>TB.wr B3 (P:=(A++V1)++v::((U2++(M++U1)))) (x:=v) (t:=u) (R:=V2++B) (by simp) (i:=b+(U1.length:Int)) (by simp<;>omega) λb4 B4 p4=>?_
    have S2:Sv h ((g.wr b3 (0+(a+(U1.length:Int)).toNat*6) [.int .u64 v.num,.int .i64 v.weight,.int .i64 v.bytes,.int .i64 v.entries,.string v.least,.string v.greatest]).wr b4 (0+(b+(U1.length:Int)).toNat*6) [.int .u64 u.num,.int .i64 u.weight,.int .i64 u.bytes,.int .i64 u.entries,.string u.least,.string u.greatest]) l ((A++V1)++v::((U2++(M++U1))++u::(V2++B))):=⟨by simpa using B4,(S1.up.trans p3).trans p4⟩
    generalize ((g.wr b3 (0+(a+(U1.length:Int)).toNat*6) [.int .u64 v.num,.int .i64 v.weight,.int .i64 v.bytes,.int .i64 v.entries,.string v.least,.string v.greatest]).wr b4 (0+(b+(U1.length:Int)).toNat*6) [.int .u64 u.num,.int .i64 u.weight,.int .i64 u.bytes,.int .i64 u.entries,.string u.least,.string u.greatest])=g2 at S2 ⊢
    clear B3 p3 B4 p4 b1 b2 b3 b4 o1 o2
    exact⟨⟨U1++[u],U2,V1++[v],V2,by simp,by simp,by simp;omega,by simp,⟨by simpa using S2.b,S2.up⟩⟩,by dsimp only;omega⟩
 ·have hU:U2=[]:=eq_nil_of_length_eq_zero (by omega)
  have hV:V2=[]:=eq_nil_of_length_eq_zero (by rw[hU] at hUV;simp at hUV;omega)
  subst hU hV
  exact hQ g ⟨by simpa using S.b,S.up⟩
theorem rotate_t{h:Hp}{l:Sl}{A U V B:List Tab}{a m b:Int}{Q:Value->Hp->Prop}(T:TB h l (A++(U++(V++B))))(hU:0<U.length)(hV:0<V.length)(h1:a=(A.length:Int))(h2:m=((A.length+U.length:Nat):Int))(h3:b=((A.length+U.length+V.length:Nat):Int))(hn:l.n<=5000000)
  (hQ:∀ h',Sv h h' l (A++(V++(U++B)))->Q (.tuple ⟨[]⟩) h'):F149.T l a m b h Q:=by
 have hl:=T.n
 simp only[length_append] at hl
 unfold F149.T F149.G
 rw[wr64 (x:=m-a) (by omega) (by omega),wr64 (x:=b-m) (by omega) (by omega)]
 refine⟨λi j g=>∃ P U' V' S',P++(V'++(U'++S'))=V++U/\Sv h g l (A++(P++(U'++(V'++(S'++B)))))/\i=(U'.length:Int)/\j=(V'.length:Int)/\0<U'.length/\0<V'.length/\m=((A.length+P.length+U'.length:Nat):Int),λi j _=>(i+j).toNat,⟨[],U,V,[],by simp,⟨by simpa using T,Upd.refl _ _⟩,by omega,by omega,hU,hV,by simp;omega⟩,?_⟩
 rintro i j g ⟨P,U',V',S',he,S,rfl,rfl,u0,v0,hm⟩
 have hlen:=congrArg List.length he
 simp only[length_append] at hlen
 rw[wr64 (x:=m-(U'.length:Int)) (by omega) (by omega)]
 refine⟨λheq=>?_,λhne=>⟨λhlt=>?_,λhge=>?_⟩⟩
 ·refine swap_range (A:=A++P) (U:=U') (M:=[]) (V:=V') (B:=S'++B) (by simpa using S.b) (by omega) (by simp<;>omega) (by simp<;>omega) rfl hn λg2 S2=>hQ g2 ⟨?_,S.up.trans S2.up⟩
  have e:A++(V++(U++B))=A++((V++U)++B):=by simp
  rw[e,<- he]
  simpa using S2.b
 ·obtain⟨U1,U2,rfl,hu1⟩:∃ U1 U2,U'=U1++U2/\U1.length=V'.length:=⟨U'.take V'.length,U'.drop V'.length,(List.take_append_drop _ _).symm,by rw[length_take];omega⟩
  simp only[length_append] at hlen u0 hlt hm hne
  refine swap_range (A:=A++P) (U:=U1) (M:=U2) (V:=V') (B:=S'++B) (by simpa using S.b) hu1 (by simp<;>omega) (by simp<;>omega) (by omega) hn λg2 S2=>?_
  rw[wr64 (by simp<;>omega) (by simp<;>omega)]
  refine⟨⟨P++V',U2,U1,S',by rw[<- he];simp,⟨by simpa using S2.b,S.up.trans S2.up⟩,by simp;omega,by omega,by omega,by omega,by simp;omega⟩,by simp;omega⟩
 ·obtain⟨V1,V2,rfl,hv2⟩:∃ V1 V2,V'=V1++V2/\V2.length=U'.length:=⟨V'.take (V'.length-U'.length),V'.drop (V'.length-U'.length),(List.take_append_drop _ _).symm,by rw[length_drop];omega⟩
  simp only[length_append] at hlen v0 hge hm hne
  have e1:wrap .i64 (wrap .i64 (m+((V1++V2).length:Int))-(U'.length:Int))=m+(V1.length:Int):=by
   simp only[length_append]
   rw[wr64 (x:=m+((V1.length+V2.length:Nat):Int)) (by omega) (by omega),wr64 (by omega) (by omega)];omega
  rw[e1]
  refine swap_range (A:=A++P) (U:=U') (M:=V1) (V:=V2) (B:=S'++B) (by simpa using S.b) (by omega) (by simp<;>omega) (by simp<;>omega) rfl hn λg2 S2=>?_
  rw[wr64 (by simp<;>omega) (by simp<;>omega)]
  refine⟨⟨P,V2,V1,U'++S',by rw[<- he];simp,⟨by simpa using S2.b,S.up.trans S2.up⟩,by omega,by simp;omega,by omega,by omega,by omega⟩,by simp;omega⟩
end Go.Eng.YtblghgacokoklaaDoor
end
section
namespace Go.Eng.YtblghgacokoklaaDoor
theorem half{x y:Int}(h0:0<=x+y)(h1:x+y<=100000000):wrap .i64 (shrI .u64 (wrap .u64 (wrap .i64 (x+y))) 1)=(x+y) / 2:=by
 rw[wr64 (x:=x+y) (by omega) (by omega),wrap_u64 (by omega) (by omega)]
 unfold shrI
 have:(2:Int) ^ (min (1:Int).toNat (IntKind.bits .u64))=2:=by decide
 rw[this,Int.fdiv_eq_ediv_of_nonneg _ (by decide),wr64 (by omega) (by omega)]
theorem cut_at{α:Type}{l:List α}{k:Nat}(h:k<=l.length):∃ A B,l=A++B/\A.length=k:=⟨l.take k,l.drop k,(List.take_append_drop _ _).symm,by rw[length_take];omega⟩
theorem split_i{α:Type}{l:List α}{i:Nat}(h:i<l.length):∃ A x B,l=A++x::B/\A.length=i/\l[i]?=some x:=
 ⟨l.take i,l[i],l.drop (i+1),by rw[<- List.drop_eq_getElem_cons h,List.take_append_drop],by rw[length_take];omega,getElem?_eq_getElem h⟩
theorem srt_app{P S:List Tab}(hP:Srt P)(hS:Srt S)(h:∀ x∈P,∀ y∈S,Le x.least y.least):Srt (P++S):=List.pairwise_append.2 ⟨hP,hS,h⟩
theorem srt_l{P S:List Tab}(h:Srt (P++S)):Srt P:=(List.pairwise_append.1 h).1
theorem srt_r{P S:List Tab}(h:Srt (P++S)):Srt S:=(List.pairwise_append.1 h).2.1
theorem last_le{P:List Tab}{x:Tab}(h:Srt P)(hx:P[P.length-1]?=some x):∀ z∈P,Le z.least x.least:=by
 have hne:P≠[]:=λe=>by subst e;simp at hx
 obtain⟨P',y,rfl⟩:=snoc_of hne
 have:y=x:=by simpa using hx
 subst this
 intro z hz
 rcases mem_append.1 hz with hz|hz
 ·exact(List.pairwise_append.1 h).2.2 z hz y (mem_singleton.2 rfl)
 ·rw[mem_singleton] at hz;subst hz;exact Le.refl _
theorem first_le{S:List Tab}{y:Tab}(h:Srt S)(hy:S[0]?=some y):∀ z∈S,Le y.least z.least:=by
 cases S with
 |nil=>simp at hy
 |cons a S=>
  have:a=y:=by simpa using hy
  subst this
  intro z hz
  rcases mem_cons.1 hz with rfl|hz
  ·exact Le.refl _
  ·exact(pairwise_cons.1 h).1 z hz
theorem cross{P S:List Tab}(hP:Srt P)(hS:Srt S)(h:P=[]\/S=[]\/∃ x y,P[P.length-1]?=some x/\S[0]?=some y/\Le x.least y.least):∀ x∈P,∀ y∈S,Le x.least y.least:=by
 rcases h with rfl|rfl|⟨x,y,h1,h2,h3⟩
 ·intro x hx;cases hx
 ·intro x _ y hy;cases hy
 ·exact λz hz w hw=>((last_le hP h1 z hz).trans h3).trans (first_le hS h2 w hw)
theorem get_l{P S:List Tab}(h:P≠[]):(P++S)[P.length-1]?=P[P.length-1]?:=List.getElem?_append_left (by have:=List.length_pos_iff.2 h;omega)
theorem get_r{P S:List Tab}:(P++S)[P.length]?=S[0]?:=by rw[List.getElem?_append_right (Nat.le_refl _),Nat.sub_self]
def MergeOk(l:Sl)(T:Sl->Int->Int->Int->PT)(N:Nat):Prop:=∀ (A X Y B:List Tab) (a m b:Int) (h:Hp) (Q:Value->Hp->Prop),TB h l (A++(X++(Y++B)))->Srt X->Srt Y->0<X.length->0<Y.length->X.length+Y.length<N ->
 a=(A.length:Int)->m=((A.length+X.length:Nat):Int)->b=((A.length+X.length+Y.length:Nat):Int)->(∀ h' Z,Sv h h' l (A++(Z++B))->Z.Perm (X++Y)->Srt Z->Q (.tuple ⟨[]⟩) h')->T l a m b h Q
theorem merge_step{l:Sl}(hn:l.n<=5000000){T:Sl->Int->Int->Int->PT}{N:Nat}(hT:MergeOk l T N){A X Y B:List Tab}{a m b:Int}{h:Hp}{Q:Value->Hp->Prop}(Tb:TB h l (A++(X++(Y++B))))(hX:Srt X)(hY:Srt Y)(x0:0<X.length)(y0:0<Y.length)(hN:X.length+Y.length<=N)
  (ea:a=(A.length:Int)) (em:m=((A.length+X.length:Nat):Int)) (eb:b=((A.length+X.length+Y.length:Nat):Int)) (hQ:∀ h' Z,Sv h h' l (A++(Z++B))->Z.Perm (X++Y)->Srt Z->Q (.tuple ⟨[]⟩) h'):F136.G T l a m b h Q:=by
 have hl:=Tb.n
 simp only[length_append] at hl
 unfold F136.G F136.B
 rw[wr64 (x:=m-a) (by omega) (by omega),wr64 (x:=b-m) (by omega) (by omega)]
 refine⟨λh1=>?_,λhne1=>⟨λh1=>?_,λhne2=>?_⟩⟩
 ·-- one on the left
  obtain⟨x,rfl⟩:∃ x,X=[x]:=by
   match X,x0 with
   |[x],_=>exact⟨x,rfl⟩
   |_::_::_,_=>simp only[length_cons] at em;omega
  simp only[length_cons,length_nil] at em eb hl hN
  refine⟨λi j g=>∃ i' j':Nat,i=m+(i':Int)/\j=m+(j':Int)/\i'<=j'/\j'<=Y.length/\(i'=0\/∃ y,Y[i'-1]?=some y/\Bl y.least x.least)/\(j'=Y.length\/∃ y,Y[j']?=some y/\Le x.least y.least)/\h=g,λi j _=>(j-i).toNat,⟨0,Y.length,by omega,by omega,Nat.zero_le _,Nat.le_refl _,.inl rfl,.inl rfl,rfl⟩,?_⟩
  rintro i j g ⟨i',j',rfl,rfl,hij,hj,f1,f2,rfl⟩
  refine⟨λhlt=>⟨by decide,?_⟩,λhge=>?_⟩
  ·rw[half (x:=m+(i':Int)) (y:=m+(j':Int)) (by omega) (by omega)]
   obtain⟨c,hc⟩:∃ c:Nat,(m+(i':Int)+(m+(j':Int))) / 2=m+(c:Int):=⟨((m+(i':Int)+(m+(j':Int))) / 2-m).toNat,by omega⟩
   have c0:i'<=c:=by omega
   have c1:c<j':=by omega
   rw[hc,wr64 (x:=m+(c:Int)+1) (by omega) (by omega)]
   obtain⟨Y1,y,Y2,hYs,hy1,hyc⟩:=split_i (l:=Y) (i:=c) (by omega)
   refine Tb.rd (P:=A++x::Y1) (t:=y) (R:=Y2++B) (by rw[hYs];simp) (by simp;omega) λb1 o1=>Tb.rd (P:=A) (t:=x) (R:=Y++B) (by simp) ea λb2 o2=>cmp_spec (λhb n hn0=>⟨n,rfl,λ_=>?_,λhc=>absurd hn0 hc⟩) (λhle n hn0=>⟨n,rfl,λhc=>absurd hc hn0,λ_=>?_⟩)
   ·exact⟨⟨c+1,j',by omega,rfl,by omega,hj,.inr ⟨y,by simpa using hyc,hb⟩,f2,rfl⟩,by dsimp only;omega⟩
   ·exact⟨⟨i',c,rfl,rfl,by omega,by omega,f1,.inr ⟨y,hyc,hle⟩,rfl⟩,by dsimp only;omega⟩
  ·have hij':i'=j':=by omega
   subst hij'
   obtain⟨Y1,Y2,hYs,hy1⟩:=cut_at (l:=Y) hj
   subst hYs
   rw[wr64 (x:=m+(i':Int)-1) (by omega) (by omega)]
   have srt:Srt (Y1++x::Y2):=by
    refine srt_app (srt_l hY) (srt_app (P:=[x]) (List.pairwise_singleton _ _) (srt_r hY) (cross (List.pairwise_singleton _ _) (srt_r hY) ?_)) ?_
    ·rcases f2 with f|⟨y,f,g⟩
     ·right;left;apply eq_nil_of_length_eq_zero;rw[length_append] at f;omega
     ·right;right;rw[<- hy1,get_r] at f;exact⟨x,y,rfl,f,g⟩
    ·refine cross (srt_l hY) ?_ ?_
     ·exact srt_app (P:=[x]) (List.pairwise_singleton _ _) (srt_r hY) (cross (List.pairwise_singleton _ _) (srt_r hY) (by
       rcases f2 with f|⟨y,f,g⟩
       ·right;left;apply eq_nil_of_length_eq_zero;rw[length_append] at f;omega
       ·right;right;rw[<- hy1,get_r] at f;exact⟨x,y,rfl,f,g⟩))
     ·rcases f1 with f|⟨y,f,g⟩
      ·left;exact eq_nil_of_length_eq_zero (by omega)
      ·by_cases hne:Y1=[]
       ·left;exact hne
       ·right;right;rw[<- hy1,get_l hne] at f;exact⟨y,x,f,rfl,.of g⟩
   refine⟨λk g=>∃ W W',Y1=W++W'/\k=((A.length+W.length:Nat):Int)/\Sv h g l (A++(W++x::(W'++(Y2++B)))),λk _=>(m+(i':Int)-k).toNat,⟨[],Y1,rfl,by simp;omega,⟨by simpa using Tb,Upd.refl _ _⟩⟩,?_⟩
   rintro k g ⟨W,W',rfl,rfl,S⟩
   simp only[length_append] at hy1
   refine⟨λhlt=>?_,λhge=>?_⟩
   ·cases W' with
    |nil=>simp only[length_nil] at hy1;omega
    |cons w W'=>
     simp only[length_cons] at hy1
     rw[wr64 (x:=((A.length+W.length:Nat):Int)+1) (by omega) (by omega)]
     have S1:Sv h g l ((A++W)++x::([]++w::(W'++(Y2++B)))):=⟨by simpa using S.b,S.up⟩
     refine S1.b.rd (P:=(A++W)++x::([])) (t:=w) (R:=W'++(Y2++B)) (by simp) (i:=((A.length+W.length:Nat):Int)+1) (by simp<;>omega) λb1 o1=>S1.b.rd (P:=(A++W)) (t:=x) (R:=[]++w::(W'++(Y2++B))) (by simp) (i:=((A.length+W.length:Nat):Int)) (by simp<;>omega) λb2 o2=>TB.wr S1.b (P:=(A++W)) (x:=x) (t:=w) (R:=[]++w::(W'++(Y2++B))) (by simp) (i:=((A.length+W.length:Nat):Int)) (by simp<;>omega) λb3 B3 p3=>TB.wr B3 (P:=(A++W)++w::([])) (x:=w) (t:=x) (R:=W'++(Y2++B)) (by simp) (i:=((A.length+W.length:Nat):Int)+1) (by simp<;>omega) λb4 B4 p4=>?_
     have S2:Sv h ((g.wr b3 (0+(((A.length+W.length:Nat):Int)).toNat*6) [.int .u64 w.num,.int .i64 w.weight,.int .i64 w.bytes,.int .i64 w.entries,.string w.least,.string w.greatest]).wr b4 (0+(((A.length+W.length:Nat):Int)+1).toNat*6) [.int .u64 x.num,.int .i64 x.weight,.int .i64 x.bytes,.int .i64 x.entries,.string x.least,.string x.greatest]) l ((A++W)++w::([]++x::(W'++(Y2++B)))):=⟨by simpa using B4,(S1.up.trans p3).trans p4⟩
     generalize ((g.wr b3 (0+(((A.length+W.length:Nat):Int)).toNat*6) [.int .u64 w.num,.int .i64 w.weight,.int .i64 w.bytes,.int .i64 w.entries,.string w.least,.string w.greatest]).wr b4 (0+(((A.length+W.length:Nat):Int)+1).toNat*6) [.int .u64 x.num,.int .i64 x.weight,.int .i64 x.bytes,.int .i64 x.entries,.string x.least,.string x.greatest])=g2 at S2 ⊢
     clear B3 p3 B4 p4 b1 b2 b3 b4 o1 o2
     exact⟨⟨W++[w],W',by simp,by simp;omega,⟨by simpa using S2.b,S2.up⟩⟩,by dsimp only;omega⟩
   ·have hW:W'=[]:=eq_nil_of_length_eq_zero (by omega)
    subst hW
    refine hQ g (W++x::Y2) ⟨by simpa using S.b,S.up⟩ ?_ (by simpa using srt)
    simp only[append_nil,List.singleton_append]
    exact List.perm_middle
 ·-- one on the right
  obtain⟨y,rfl⟩:∃ y,Y=[y]:=by
   match Y,y0 with
   |[y],_=>exact⟨y,rfl⟩
   |_::_::_,_=>simp only[length_cons] at eb;omega
  simp only[length_cons,length_nil] at eb hl hN
  refine⟨λi j g=>∃ i' j':Nat,i=a+(i':Int)/\j=a+(j':Int)/\i'<=j'/\j'<=X.length/\(i'=0\/∃ x,X[i'-1]?=some x/\Le x.least y.least)/\(j'=X.length\/∃ x,X[j']?=some x/\Bl y.least x.least)/\h=g,λi j _=>(j-i).toNat,⟨0,X.length,by omega,by omega,Nat.zero_le _,Nat.le_refl _,.inl rfl,.inl rfl,rfl⟩,?_⟩
  rintro i j g ⟨i',j',rfl,rfl,hij,hj,f1,f2,rfl⟩
  refine⟨λhlt=>⟨by decide,?_⟩,λhge=>?_⟩
  ·rw[half (x:=a+(i':Int)) (y:=a+(j':Int)) (by omega) (by omega)]
   obtain⟨c,hc⟩:∃ c:Nat,(a+(i':Int)+(a+(j':Int))) / 2=a+(c:Int):=⟨((a+(i':Int)+(a+(j':Int))) / 2-a).toNat,by omega⟩
   have c0:i'<=c:=by omega
   have c1:c<j':=by omega
   rw[hc,wr64 (x:=a+(c:Int)+1) (by omega) (by omega)]
   obtain⟨X1,x,X2,hXs,hx1,hxc⟩:=split_i (l:=X) (i:=c) (by omega)
   refine Tb.rd (P:=A++X) (t:=y) (R:=B) (by simp) (by simp;omega) λb1 o1=>Tb.rd (P:=A++X1) (t:=x) (R:=X2++([y]++B)) (by rw[hXs];simp) (by simp;omega) λb2 o2=>cmp_spec (λhb n hn0=>⟨n,rfl,λ_=>?_,λhc=>absurd hn0 hc⟩) (λhle n hn0=>⟨n,rfl,λhc=>absurd hc hn0,λ_=>?_⟩)
   ·exact⟨⟨i',c,rfl,rfl,by omega,by omega,f1,.inr ⟨x,hxc,hb⟩,rfl⟩,by dsimp only;omega⟩
   ·exact⟨⟨c+1,j',by omega,rfl,by omega,hj,.inr ⟨x,by simpa using hxc,hle⟩,f2,rfl⟩,by dsimp only;omega⟩
  ·have hij':i'=j':=by omega
   subst hij'
   obtain⟨X1,X2,hXs,hx1⟩:=cut_at (l:=X) hj
   subst hXs
   have s2:Srt ([y]++X2):=srt_app (List.pairwise_singleton _ _) (srt_r hX) (cross (List.pairwise_singleton _ _) (srt_r hX) (by
    rcases f2 with f|⟨x,f,g⟩
    ·right;left;apply eq_nil_of_length_eq_zero;rw[length_append] at f;omega
    ·right;right;rw[<- hx1,get_r] at f;exact⟨y,x,rfl,f,.of g⟩))
   have srt:Srt (X1++y::X2):=by
    refine srt_app (srt_l hX) s2 (cross (srt_l hX) s2 ?_)
    rcases f1 with f|⟨x,f,g⟩
    ·left;exact eq_nil_of_length_eq_zero (by omega)
    ·by_cases hne:X1=[]
     ·left;exact hne
     ·right;right;rw[<- hx1,get_l hne] at f;exact⟨x,y,f,rfl,g⟩
   simp only[length_append] at em eb hl
   refine⟨λk g=>∃ W W',X2=W++W'/\k=((A.length+X1.length+W.length:Nat):Int)/\Sv h g l (A++(X1++(W++y::(W'++B)))),λk _=>k.toNat,⟨X2,[],by simp,by omega,⟨by simpa using Tb,Upd.refl _ _⟩⟩,?_⟩
   rintro k g ⟨W,W',rfl,rfl,S⟩
   simp only[length_append] at em eb hl
   refine⟨λhlt=>?_,λhge=>?_⟩
   ·have hne:W≠[]:=λe=>by subst e;simp at hlt;omega
    obtain⟨W0,w,rfl⟩:=snoc_of hne
    simp only[length_append,length_singleton] at em eb hl hlt
    have e1:((A.length+X1.length+(W0++[w]).length:Nat):Int)=((A.length+X1.length+W0.length:Nat):Int)+1:=by simp;omega
    rw[e1,wr64 (x:=((A.length+X1.length+W0.length:Nat):Int)+1-1) (by omega) (by omega),show((A.length+X1.length+W0.length:Nat):Int)+1-1=((A.length+X1.length+W0.length:Nat):Int) by omega]
    have S1:Sv h g l ((A++(X1++W0))++w::([]++y::(W'++B))):=⟨by simpa using S.b,S.up⟩
    refine S1.b.rd (P:=(A++(X1++W0))) (t:=w) (R:=[]++y::(W'++B)) (by simp) (i:=((A.length+X1.length+W0.length:Nat):Int)) (by simp<;>omega) λb1 o1=>S1.b.rd (P:=(A++(X1++W0))++w::([])) (t:=y) (R:=W'++B) (by simp) (i:=((A.length+X1.length+W0.length:Nat):Int)+1) (by simp<;>omega) λb2 o2=>TB.wr S1.b (P:=(A++(X1++W0))++w::([])) (x:=y) (t:=w) (R:=W'++B) (by simp) (i:=((A.length+X1.length+W0.length:Nat):Int)+1) (by simp<;>omega) λb3 B3 p3=>TB.wr B3 (P:=(A++(X1++W0))) (x:=w) (t:=y) (R:=[]++w::(W'++B)) (by simp) (i:=((A.length+X1.length+W0.length:Nat):Int)) (by simp<;>omega) λb4 B4 p4=>?_
    have S2:Sv h ((g.wr b3 (0+(((A.length+X1.length+W0.length:Nat):Int)+1).toNat*6) [.int .u64 w.num,.int .i64 w.weight,.int .i64 w.bytes,.int .i64 w.entries,.string w.least,.string w.greatest]).wr b4 (0+(((A.length+X1.length+W0.length:Nat):Int)).toNat*6) [.int .u64 y.num,.int .i64 y.weight,.int .i64 y.bytes,.int .i64 y.entries,.string y.least,.string y.greatest]) l ((A++(X1++W0))++y::([]++w::(W'++B))):=⟨by simpa using B4,(S1.up.trans p3).trans p4⟩
    generalize ((g.wr b3 (0+(((A.length+X1.length+W0.length:Nat):Int)+1).toNat*6) [.int .u64 w.num,.int .i64 w.weight,.int .i64 w.bytes,.int .i64 w.entries,.string w.least,.string w.greatest]).wr b4 (0+(((A.length+X1.length+W0.length:Nat):Int)).toNat*6) [.int .u64 y.num,.int .i64 y.weight,.int .i64 y.bytes,.int .i64 y.entries,.string y.least,.string y.greatest])=g2 at S2 ⊢
    clear B3 p3 B4 p4 b1 b2 b3 b4 o1 o2
    exact⟨⟨W0,w::W',by simp,rfl,⟨by simpa using S2.b,S2.up⟩⟩,by dsimp only;omega⟩
   ·have hW:W=[]:=eq_nil_of_length_eq_zero (by omega)
    subst hW
    refine hQ g (X1++y::W') ⟨by simpa using S.b,S.up⟩ ?_ (by simpa using srt)
    simp only[List.nil_append]
    rw[List.append_assoc]
    refine List.Perm.append_left X1 ?_
    exact(List.perm_append_comm (l₁:=[y]) (l₂:=W'))
 ·-- more
  have hm:=half (x:=a) (y:=b) (by omega) (by omega)
  rw[hm]
  obtain⟨d,hd⟩:∃ d:Nat,(a+b) / 2=((A.length+d:Nat):Int):=⟨((a+b) / 2-a).toNat,by omega⟩
  have d0:0<d:=by omega
  have d1:2*d<=X.length+Y.length:=by omega
  have d2:X.length+Y.length<=2*d+1:=by omega
  rw[hd]
  have hN2:3<=X.length+Y.length:=by omega
  generalize hmid:((A.length+d:Nat):Int)=mid
  rw[wr64 (x:=mid+m) (by omega) (by omega),wr64 (x:=mid+m-1) (by omega) (by omega),wr64 (x:=mid+m-b) (by omega) (by omega)]
  refine⟨by decide,λlo hi g=>h=g/\((mid<m/\lo=mid+m-b/\hi=mid)\/(m<=mid/\lo=a/\hi=m)),?_,λhc=>⟨rfl,.inl ⟨hc,rfl,rfl⟩⟩,λhc=>⟨rfl,.inr ⟨by omega,rfl,rfl⟩⟩⟩
  rintro lo hi g ⟨rfl,hcase⟩
  have lo0:a<=lo:=by omega
  have hi0:hi<=m:=by omega
  have him:hi<=mid:=by omega
  have lohi:lo<=hi:=by omega
  have lob:mid+m-lo<=b:=by omega
  have him2:m<=mid+m-hi:=by omega
  refine⟨λs r g=>lo<=s/\s<=r/\r<=hi/\(s=lo\/∃ x y,X[(s-1-a).toNat]?=some x/\Y[(mid-s).toNat]?=some y/\Le x.least y.least)/\(r=hi\/∃ x y,X[(r-a).toNat]?=some x/\Y[(mid-1-r).toNat]?=some y/\Bl y.least x.least)/\h=g,λs r _=>(r-s).toNat,⟨Int.le_refl _,lohi,Int.le_refl _,.inl rfl,.inl rfl,rfl⟩,?_⟩
  rintro s r g ⟨s0,s1,s2,f1,f2,rfl⟩
  refine⟨λhlt=>⟨by decide,?_⟩,λhge=>?_⟩
  ·rw[half (x:=s) (y:=r) (by omega) (by omega)]
   obtain⟨c,hc⟩:∃ c:Int,(s+r) / 2=c:=⟨_,rfl⟩
   rw[hc,wr64 (x:=mid+m-1-c) (by omega) (by omega),wr64 (x:=c+1) (by omega) (by omega)]
   have c0:s<=c:=by omega
   have c1:c<r:=by omega
   obtain⟨X1,x,X2,hXs,hx1,hxc⟩:=split_i (l:=X) (i:=(c-a).toNat) (by omega)
   obtain⟨Y1,y,Y2,hYs,hy1,hyc⟩:=split_i (l:=Y) (i:=(mid-1-c).toNat) (by omega)
   refine Tb.rd (P:=A++(X++Y1)) (t:=y) (R:=Y2++B) (by rw[hYs];simp) (by simp;omega) λb1 o1=>Tb.rd (P:=A++X1) (t:=x) (R:=X2++(Y++B)) (by rw[hXs];simp) (by simp;omega) λb2 o2=>cmp_spec (λhb n hn0=>⟨n,rfl,λ_=>?_,λhc=>absurd hn0 hc⟩) (λhle n hn0=>⟨n,rfl,λhc=>absurd hc hn0,λ_=>?_⟩)
   ·exact⟨⟨s0,by omega,by omega,f1,.inr ⟨x,y,hxc,hyc,hb⟩,rfl⟩,by dsimp only;omega⟩
   ·exact⟨⟨by omega,by omega,by omega,.inr ⟨x,y,by rw[show c+1-1-a=c-a by omega];exact hxc,by rw[show mid-(c+1)=mid-1-c by omega];exact hyc,hle⟩,f2,rfl⟩,by dsimp only;omega⟩
  ·have hsr:r=s:=by omega
   subst hsr
   rw[wr64 (x:=mid+m-r) (by omega) (by omega)]
   obtain⟨X1,X2,hXs,hx1⟩:=cut_at (l:=X) (k:=(r-a).toNat) (by omega)
   obtain⟨Y1,Y2,hYs,hy1⟩:=cut_at (l:=Y) (k:=(mid-r).toNat) (by omega)
   have hxl:X.length=X1.length+X2.length:=by rw[hXs,length_append]
   have hyl:Y.length=Y1.length+Y2.length:=by rw[hYs,length_append]
   subst hXs hYs
   have k1:∀ x∈X1,∀ y∈Y2,Le x.least y.least:=by
    refine cross (srt_l hX) (srt_r hY) ?_
    rcases f1 with f|⟨x,y,fx,fy,g⟩
    ·rcases hcase with⟨c1,c2,c3⟩|⟨c1,c2,c3⟩
     ·right;left;exact eq_nil_of_length_eq_zero (by omega)
     ·left;exact eq_nil_of_length_eq_zero (by omega)
    ·by_cases hne:X1=[]
     ·left;exact hne
     ·right;right
      refine⟨x,y,?_,?_,g⟩
      ·rw[<- get_l (S:=X2) hne,hx1,<- fx];congr 1;omega
      ·rw[<- hy1,get_r] at fy;exact fy
   have k2:∀ y∈Y1,∀ x∈X2,Le y.least x.least:=by
    refine cross (srt_l hY) (srt_r hX) ?_
    rcases f2 with f|⟨x,y,fx,fy,g⟩
    ·rcases hcase with⟨c1,c2,c3⟩|⟨c1,c2,c3⟩
     ·left;exact eq_nil_of_length_eq_zero (by omega)
     ·right;left;exact eq_nil_of_length_eq_zero (by omega)
    ·by_cases hne:Y1=[]
     ·left;exact hne
     ·right;right
      refine⟨y,x,?_,?_,.of g⟩
      ·rw[<- get_l (S:=Y2) hne,hy1,<- fy];congr 1;omega
      ·rw[<- hx1,get_r] at fx;exact fx
   have k3:=(List.pairwise_append.1 hX).2.2
   have k4:=(List.pairwise_append.1 hY).2.2
   refine⟨λg=>Sv h g l (A++(X1++(Y1++(X2++(Y2++B))))),?_,?_⟩
   ·intro g S
    refine⟨λg=>∃ Z1,Sv h g l (A++(Z1++(X2++(Y2++B))))/\Z1.Perm (X1++Y1)/\Srt Z1,?_,?_⟩
    ·rintro g ⟨Z1,S,hp1,hs1⟩
     have hz1:Z1.length=d:=by have:=hp1.length_eq;rw[length_append] at this;omega
     have fin:∀ {g:Hp} {Z2:List Tab},Sv h g l (A++(Z1++(Z2++B)))->Z2.Perm (X2++Y2)->Srt Z2->Q (.tuple ⟨[]⟩) g:=by
      intro g Z2 S hp2 hs2
      refine hQ g (Z1++Z2) ⟨by simpa using S.b,S.up⟩ ?_ (srt_app hs1 hs2 λz hz w hw=>?_)
      ·refine(hp1.append hp2).trans ?_
       have e1:X1++Y1++(X2++Y2)=X1++((Y1++X2)++Y2):=by simp
       have e2:X1++X2++(Y1++Y2)=X1++((X2++Y1)++Y2):=by simp
       rw[e1,e2]
       exact List.Perm.append_left X1 (List.Perm.append_right Y2 List.perm_append_comm)
      ·have hz':=hp1.mem_iff.1 hz
       have hw':=hp2.mem_iff.1 hw
       rcases mem_append.1 hz' with hz'|hz'<;>rcases mem_append.1 hw' with hw'|hw'
       ·exact k3 z hz' w hw'
       ·exact k1 z hz' w hw'
       ·exact k2 z hz' w hw'
       ·exact k4 z hz' w hw'
     refine⟨λc1=>⟨λc2=>?_,λc2=>?_⟩,λc1=>?_⟩
     ·refine hT (A++Z1) X2 Y2 B mid (mid+m-r) b g _ (by simpa using S.b) (srt_r hX) (srt_r hY) (by omega) (by omega) (by omega) (by simp;omega) (by simp;omega) (by simp;omega) λg2 Z2 S2 hp2 hs2=>fin ⟨by simpa using S2.b,S.up.trans S2.up⟩ hp2 hs2
     ·have:Y2=[]:=eq_nil_of_length_eq_zero (by omega)
      subst this
      exact fin (Z2:=X2) (by simpa using S) (by simp) (srt_r hX)
     ·have:X2=[]:=eq_nil_of_length_eq_zero (by omega)
      subst this
      exact fin (Z2:=Y2) (by simpa using S) (by simp) (srt_r hY)
    ·refine⟨λc1=>⟨λc2=>?_,λc2=>?_⟩,λc1=>?_⟩
     ·refine hT A X1 Y1 (X2++(Y2++B)) a r mid g _ S.b (srt_l hX) (srt_l hY) (by omega) (by omega) (by omega) ea (by omega) (by omega) λg2 Z1 S2 hp1 hs1=>⟨Z1,⟨S2.b,S.up.trans S2.up⟩,hp1,hs1⟩
     ·have:Y1=[]:=eq_nil_of_length_eq_zero (by omega)
      subst this
      exact⟨X1,by simpa using S,by simp,srt_l hX⟩
     ·have:X1=[]:=eq_nil_of_length_eq_zero (by omega)
      subst this
      exact⟨Y1,by simpa using S,by simp,srt_l hY⟩
   ·refine⟨λc1=>⟨λc2=>?_,λc2=>?_⟩,λc1=>?_⟩
    ·refine rotate_t (A:=A++X1) (U:=X2) (V:=Y1) (B:=Y2++B) (by simpa using Tb) (by omega) (by omega) (by simp;omega) (by simp;omega) (by simp;omega) hn λg2 S2=>⟨by simpa using S2.b,S2.up⟩
    ·have:Y1=[]:=eq_nil_of_length_eq_zero (by omega)
     subst this
     exact⟨by simpa using Tb,Upd.refl _ _⟩
    ·have:X2=[]:=eq_nil_of_length_eq_zero (by omega)
     subst this
     exact⟨by simpa using Tb,Upd.refl _ _⟩
theorem merge_ok{l:Sl}(hn:l.n<=5000000):∀ (nf:Nat),MergeOk l (F136.TN nf) nf
 |0=>λA X Y B a m b h Q T hX hY x0 y0 hN ea em eb hQ=>absurd hN (by omega)
 |nf+1=>λA X Y B a m b h Q T hX hY x0 y0 hN ea em eb hQ=>merge_step hn (merge_ok hn nf) T hX hY x0 y0 (by omega) ea em eb hQ
theorem merge_t{h:Hp}{l:Sl}(hn:l.n<=5000000){A X Y B:List Tab}{a m b:Int}{Q:Value->Hp->Prop}(T:TB h l (A++(X++(Y++B))))(hX:Srt X)(hY:Srt Y)(x0:0<X.length)(y0:0<Y.length)
  (ea:a=(A.length:Int)) (em:m=((A.length+X.length:Nat):Int)) (eb:b=((A.length+X.length+Y.length:Nat):Int)) (hQ:∀ h' Z,Sv h h' l (A++(Z++B))->Z.Perm (X++Y)->Srt Z->Q (.tuple ⟨[]⟩) h'):F136.T l a m b h Q:=
 ⟨X.length+Y.length+1,merge_ok hn (X.length+Y.length+1) A X Y B a m b h Q T hX hY x0 y0 (by omega) ea em eb hQ⟩
end Go.Eng.YtblghgacokoklaaDoor
end
section
set_option maxRecDepth 10000000
namespace Go.Eng.YtblghgacokoklaaDoor
def Blk(k:Nat)(bl:List (List Tab)):Prop:=∀ b∈bl,Srt b/\b.length=k
theorem blk_len{k:Nat}:∀ {bl:List (List Tab)},Blk k bl->bl.flatten.length=bl.length*k
 |[],_=>by simp
 |b::bl,h=>by
  have h1:=(h b mem_cons_self).2
  have h2:=blk_len (bl:=bl) λc hc=>h c (mem_cons_of_mem _ hc)
  rw[List.flatten_cons,length_append,h1,h2,length_cons,Nat.succ_mul];omega
theorem blk_snoc{k:Nat}{bl:List (List Tab)}{b:List Tab}(h:Blk k bl)(h1:Srt b)(h2:b.length=k):Blk k (bl++[b]):=λc hc=>by
 rcases mem_append.1 hc with hc|hc
 ·exact h c hc
 ·rw[mem_singleton] at hc;subst hc;exact⟨h1,h2⟩
theorem fl_snoc(bl:List (List Tab))(b:List Tab):(bl++[b]).flatten=bl.flatten++b:=by simp
def Runs(k:Nat)(ts:List Tab):Prop:=∃ bl R,ts=bl.flatten++R/\Blk k bl/\Srt R/\R.length<k
theorem runs_end{k:Nat}{ts:List Tab}(h:Runs k ts)(hk:ts.length<=k):Srt ts:=by
 obtain⟨bl,R,rfl,hb,hs,hl⟩:=h
 rw[length_append,blk_len hb] at hk
 match bl,hb with
 |[],_=>simpa using hs
 |[b],hb=>
  have:=hb b mem_cons_self
  simp only[length_cons,length_nil] at hk
  have hR:R=[]:=eq_nil_of_length_eq_zero (by omega)
  subst hR
  simpa using this.1
 |_::_::bl,_=>
  exfalso
  simp only[length_cons] at hk
  have:(bl.length+1+1)*k=bl.length*k+2*k:=by rw[Nat.succ_mul,Nat.succ_mul];omega
  have h0:0<=bl.length*k:=Nat.zero_le _
  omega
theorem stable_t{h:Hp}{l:Sl}{ts:List Tab}{Q:Value->Hp->Prop}(T:TB h l ts)(hn:l.n<=5000000)(hQ:∀ h' us,Sv h h' l us->us.Perm ts->Srt us->Q (.tuple ⟨[]⟩) h'):F109.T l h Q:=by
 have hl:=T.n
 unfold F109.T F128.T F109.G F128.G
 refine⟨λa b g=>∃ bl R,Sv h g l (bl.flatten++R)/\(bl.flatten++R).Perm ts/\Blk 20 bl/\a=((bl.flatten.length:Nat):Int)/\b=a+20/\bl.flatten.length+R.length=l.n,λa _ _=>((l.n:Int)-a).toNat,⟨[],ts,⟨T,Upd.refl _ _⟩,List.Perm.refl _,λb hb=>(by cases hb),rfl,rfl,by simp;omega⟩,?_⟩
 rintro a b g ⟨bl,R,S,hp,hb,rfl,rfl,hlen⟩
 refine⟨λhle=>?_,λhgt=>?_⟩
 ·obtain⟨R1,R2,rfl,hr1⟩:=cut_at (l:=R) (k:=20) (by omega)
  rw[length_append] at hlen
  rw[wr64 (by omega) (by omega)]
  refine insertion_t (A:=bl.flatten) (M:=R1) (B:=R2) (by simpa using S.b) rfl (by omega) hn λg2 M' S2 hp2 hs2=>?_
  have hml:=hp2.length_eq
  refine⟨⟨bl++[M'],R2,⟨by simpa using S2.b,S.up.trans S2.up⟩,?_,blk_snoc hb hs2 (by omega),by rw[fl_snoc,length_append];omega,by omega,by rw[fl_snoc,length_append];omega⟩,by dsimp only;omega⟩
  refine List.Perm.trans ?_ hp
  have e1:(bl++[M']).flatten++R2=bl.flatten++(M'++R2):=by simp
  rw[e1]
  exact List.Perm.append_left _ (hp2.append_right R2)
 ·refine insertion_t (A:=bl.flatten) (M:=R) (B:=[]) (by simpa using S.b) rfl (by omega) hn λg2 M' S2 hp2 hs2=>?_
  have hml:=hp2.length_eq
  have hp':(bl.flatten++M').Perm ts:=(List.Perm.append_left _ hp2).trans hp
  have hruns:Runs 20 (bl.flatten++M'):=⟨bl,M',rfl,hb,hs2,by omega⟩
  have hlen':(bl.flatten++M').length=l.n:=by rw[length_append];omega
  have S3:Sv h g2 l (bl.flatten++M'):=⟨by simpa using S2.b,S.up.trans S2.up⟩
  generalize bl.flatten++M'=us at hp' hruns hlen' S3
  clear hp hb hlen hgt S S2 hp2 hs2 hml bl R M' g
  refine⟨λk g=>∃ us kk,k=((kk:Nat):Int)/\20<=kk/\kk<=20000000/\Sv h g l us/\us.Perm ts/\Runs kk us,λk _=>((l.n:Int)-k).toNat,⟨us,20,rfl,by decide,by decide,S3,hp',hruns⟩,?_⟩
  clear S3 hp' hruns hlen' us g2
  rintro k g ⟨us,kk,rfl,k0,k1,S,hp,hr⟩
  have hul:us.length=l.n:=by have:=S.b.n;omega
  refine⟨λhlt=>?_,λhge=>hQ g us S hp (runs_end hr (by omega))⟩
  rw[wr64 (x:=2*(kk:Int)) (by omega) (by omega),wr64 (x:=(kk:Int)*2) (by omega) (by omega)]
  obtain⟨bl,R,rfl,hb,hs,hR⟩:=hr
  refine⟨λa b g=>∃ d bl,Sv h g l (d.flatten++(bl.flatten++R))/\(d.flatten++(bl.flatten++R)).Perm ts/\Blk (2*kk) d/\Blk kk bl/\a=((d.flatten.length:Nat):Int)/\b=a+2*(kk:Int)/\d.flatten.length+(bl.flatten.length+R.length)=l.n,λa _ _=>((l.n:Int)-a).toNat,⟨[],bl,by simpa using S,by simpa using hp,λb hb=>(by cases hb),hb,rfl,by simp,by rw[length_append] at hul;simp only[List.flatten_nil,length_nil];omega⟩,?_⟩
  clear hul hp hb S bl
  rintro a b g ⟨d,bl,S,hp,hd,hb,rfl,rfl,hlen⟩
  have hbl:=blk_len hb
  have nxt:∀ {g:Hp} {R':List Tab},Sv h g l (d.flatten++R')->R'.Perm (bl.flatten++R)->Srt R'->R'.length<2*kk->(∃ us kk_1,((2*kk:Nat):Int)=((kk_1:Nat):Int)/\20<=kk_1/\kk_1<=20000000/\Sv h g l us/\us.Perm ts/\Runs kk_1 us):=λSg hp2 hs2 hl2=>⟨_,2*kk,rfl,by omega,by omega,Sg,(List.Perm.append_left _ hp2).trans hp,d,_,rfl,hd,hs2,hl2⟩
  rw[wr64 (x:=((d.flatten.length:Nat):Int)+(kk:Int)) (by omega) (by omega),wr64 (x:=((d.flatten.length:Nat):Int)+2*(kk:Int)+2*(kk:Int)) (by omega) (by omega)]
  have ek:(kk:Int)*2=((2*kk:Nat):Int):=by omega
  refine⟨λhle=>?_,λhgt=>⟨λhm=>?_,λhm=>?_⟩⟩
  ·match bl,hb with
   |[],hb=>simp only[List.flatten_nil,length_nil] at hlen hbl;omega
   |[b0],hb=>
    simp only[length_cons,length_nil] at hbl
    omega
   |b0::b1::bl,hb=>
    have h0:=hb b0 mem_cons_self
    have h1:=hb b1 (mem_cons_of_mem _ mem_cons_self)
    have hlen2:d.flatten.length+(b0.length+(b1.length+bl.flatten.length)+R.length)=l.n:=by
     rw[List.flatten_cons,List.flatten_cons,length_append,length_append] at hlen;omega
    refine merge_t (A:=d.flatten) (X:=b0) (Y:=b1) (B:=bl.flatten++R) hn (by simpa using S.b) h0.1 h1.1 (by omega) (by omega) rfl (by omega) (by omega) λg2 Z S2 hp2 hs2=>?_
    have hzl:=hp2.length_eq
    rw[length_append] at hzl
    refine⟨⟨d++[Z],bl,⟨by rw[fl_snoc];simpa using S2.b,S.up.trans S2.up⟩,?_,blk_snoc hd hs2 (by omega),λc hc=>hb c (mem_cons_of_mem _ (mem_cons_of_mem _ hc)),by rw[fl_snoc,length_append];omega,by omega,by rw[fl_snoc,length_append];omega⟩,by dsimp only;omega⟩
    refine List.Perm.trans ?_ hp
    have e1:(d++[Z]).flatten++(bl.flatten++R)=d.flatten++(Z++(bl.flatten++R)):=by simp
    have e2:d.flatten++((b0::b1::bl).flatten++R)=d.flatten++((b0++b1)++(bl.flatten++R)):=by simp
    rw[e1,e2]
    exact List.Perm.append_left _ (hp2.append_right _)
  ·match bl,hb with
   |[],hb=>simp only[List.flatten_nil,length_nil] at hlen hbl;omega
   |[b0],hb=>
    have h0:=hb b0 mem_cons_self
    have e0:[b0].flatten=b0:=by simp
    rw[e0] at S hp hlen hbl nxt
    refine merge_t (A:=d.flatten) (X:=b0) (Y:=R) (B:=[]) hn (by simpa using S.b) h0.1 hs (by omega) (by omega) rfl (by omega) (by omega) λg2 Z S2 hp2 hs2=>?_
    have hzl:=hp2.length_eq
    rw[length_append] at hzl
    rw[ek]
    exact⟨nxt (R':=Z) ⟨by simpa using S2.b,S.up.trans S2.up⟩ hp2 hs2 (by omega),by dsimp only;omega⟩
   |b0::b1::bl,hb=>
    exfalso
    simp only[length_cons] at hbl
    have:(bl.length+1+1)*kk=bl.length*kk+2*kk:=by rw[Nat.succ_mul,Nat.succ_mul];omega
    have h0:0<=bl.length*kk:=Nat.zero_le _
    omega
  ·rw[ek]
   match bl,hb with
   |[],hb=>exact⟨nxt (R':=R) (by simpa using S) (by simp) hs (by omega),by dsimp only;omega⟩
   |[b0],hb=>
    have h0:=hb b0 mem_cons_self
    have e0:[b0].flatten=b0:=by simp
    rw[e0] at S hp hlen hbl nxt
    have hR0:R=[]:=eq_nil_of_length_eq_zero (by omega)
    subst hR0
    exact⟨nxt (R':=b0) (by simpa using S) (by simp) h0.1 (by omega),by dsimp only;omega⟩
   |b0::b1::bl,hb=>
    exfalso
    simp only[length_cons] at hbl
    have:(bl.length+1+1)*kk=bl.length*kk+2*kk:=by rw[Nat.succ_mul,Nat.succ_mul];omega
    have h0:0<=bl.length*kk:=Nat.zero_le _
    omega
end Go.Eng.YtblghgacokoklaaDoor
end
section
namespace Go.Eng.YtblghgacokoklaaDoor
def Placed.tab(p:Placed):Tab:=⟨p.num,p.weight,p.bytes,p.entries,p.least,p.greatest⟩
abbrev Lv:=List (List Tab)
def blB(a b:ByteArray):Bool:=decide (cmpI a b<0)
theorem blB_t{a b:ByteArray}:blB a b=true↔Bl a b:=by unfold blB Bl;exact decide_eq_true_iff
def cutN(n:Int):List Tab->Option (List Tab)
 |[]=>none
 |t::ts=>if t.num=n then some ts else(cutN n ts).map (t::·)
theorem cutN_some{n:Int}:∀ {P:List Tab} {x:Tab} {R:List Tab},(∀ y∈P,y.num≠n)->x.num=n->cutN n (P++x::R)=some (P++R)
 |[],x,R,_,hx=>by simp[cutN,hx]
 |y::P,x,R,hP,hx=>by
  simp only[List.cons_append,cutN]
  rw[if_neg (hP y mem_cons_self),cutN_some (λz hz=>hP z (mem_cons_of_mem _ hz)) hx]
  rfl
theorem cutN_none{n:Int}:∀ {ts:List Tab},(∀ y∈ts,y.num≠n)->cutN n ts=none
 |[],_=>rfl
 |y::P,hP=>by
  simp only[cutN]
  rw[if_neg (hP y mem_cons_self),cutN_none (λz hz=>hP z (mem_cons_of_mem _ hz))]
  rfl
theorem cutN_sub{n:Int}:∀ {ts us:List Tab},cutN n ts=some us->us.length<=ts.length/\∀ y∈us,y∈ts
 |[],us,h=>by cases h
 |t::ts,us,h=>by
  simp only[cutN] at h
  by_cases ht:t.num=n
  ·rw[if_pos ht] at h;cases h;exact⟨by simp,λy hy=>mem_cons_of_mem _ hy⟩
  ·rw[if_neg ht] at h
   cases hc:cutN n ts with
   |none=>rw[hc] at h;cases h
   |some vs=>
    rw[hc] at h;cases h
    have:=cutN_sub hc
    exact⟨by simp;exact this.1,λy hy=>by
     rcases mem_cons.1 hy with rfl|hy
     ·exact mem_cons_self
     ·exact mem_cons_of_mem _ (this.2 y hy)⟩
def totL(lv:Lv):Nat:=(lv.map List.length).sum
def nums(lv:Lv):List Int:=lv.flatten.map Tab.num
def Hulls(lv:Lv):Prop:=∀ l∈lv,∀ t∈l,Le t.least t.greatest
def outM:List Place->Lv->Int×Lv
 |[],lv=>(0,lv)
 |p::ps,lv=>if p.lv<0 then(133,lv) else match lv[p.lv.toNat]? with
  |none=>(133,lv)
  |some ts=>match cutN p.num ts with
   |none=>(130,lv)
   |some us=>outM ps (lv.set p.lv.toNat us)
def inM:List Placed->Lv->Int×Lv
 |[],lv=>(0,lv)
 |p::ps,lv=>if p.lv<0 then(133,lv) else match lv[p.lv.toNat]? with
  |none=>(133,lv)
  |some ts=>if p.num∈nums lv then(131,lv) else if blB p.greatest p.least then(132,lv) else inM ps (lv.set p.lv.toNat (ts++[p.tab]))
theorem totL_set:∀ {lv:Lv} {k:Nat} {ts us:List Tab},lv[k]?=some ts->totL (lv.set k us)+ts.length=totL lv+us.length
 |[],k,ts,us,h=>by simp at h
 |l::lv,0,ts,us,h=>by
  simp only[List.getElem?_cons_zero,Option.some.injEq] at h
  subst h
  simp only[totL,List.set_cons_zero,map_cons,List.sum_cons];omega
 |l::lv,k+1,ts,us,h=>by
  simp only[List.getElem?_cons_succ] at h
  have:=totL_set (us:=us) h
  simp only[totL,List.set_cons_succ,map_cons,List.sum_cons] at this ⊢;omega
theorem totL_mem:∀ {lv:Lv} {l:List Tab},l∈lv->l.length<=totL lv
 |[],l,h=>by cases h
 |m::lv,l,h=>by
  simp only[totL,map_cons,List.sum_cons]
  rcases mem_cons.1 h with rfl|h
  ·omega
  ·have:=totL_mem h;unfold totL at this;omega
theorem Hulls.set{lv:Lv}(H:Hulls lv){k:Nat}{us:List Tab}(hu:∀ t∈us,Le t.least t.greatest):Hulls (lv.set k us):=λl hl=>by
 rcases List.mem_or_eq_of_mem_set hl with h|rfl
 ·exact H l h
 ·exact hu
theorem outM_sum:∀ (ps:List Place) (lv:Lv),totL (outM ps lv).2<=totL lv/\(outM ps lv).2.length=lv.length/\(Hulls lv->Hulls (outM ps lv).2)
 |[],lv=>⟨Nat.le_refl _,rfl,id⟩
 |p::ps,lv=>by
  unfold outM
  split
  ·exact⟨Nat.le_refl _,rfl,id⟩
  ·split
   ·exact⟨Nat.le_refl _,rfl,id⟩
   ·next ts h=>
    split
    ·exact⟨Nat.le_refl _,rfl,id⟩
    ·next us hc=>
     obtain⟨h1,h2,h3⟩:=outM_sum ps (lv.set p.lv.toNat us)
     have h4:=totL_set (us:=us) h
     have h5:=cutN_sub hc
     refine⟨by omega,by rw[h2,List.length_set],λH=>h3 (H.set λt ht=>H ts (mem_of_getElem? h) t (h5.2 t ht))⟩
theorem inM_sum:∀ (ps:List Placed) (lv:Lv),totL (inM ps lv).2<=totL lv+ps.length/\(inM ps lv).2.length=lv.length/\(Hulls lv->Hulls (inM ps lv).2)
 |[],lv=>⟨Nat.le_refl _,rfl,id⟩
 |p::ps,lv=>by
  unfold inM
  split
  ·exact⟨Nat.le_add_right _ _,rfl,id⟩
  ·split
   ·exact⟨Nat.le_add_right _ _,rfl,id⟩
   ·next ts h=>
    split
    ·exact⟨Nat.le_add_right _ _,rfl,id⟩
    ·split
     ·exact⟨Nat.le_add_right _ _,rfl,id⟩
     ·next hb=>
      obtain⟨h1,h2,h3⟩:=inM_sum ps (lv.set p.lv.toNat (ts++[p.tab]))
      have h4:=totL_set (us:=ts++[p.tab]) h
      rw[length_append,length_singleton] at h4
      refine⟨by simp only[length_cons];omega,by rw[h2,List.length_set],λH=>h3 (H.set λt ht=>?_)⟩
      rcases mem_append.1 ht with ht|ht
      ·exact H ts (mem_of_getElem? h) t ht
      ·rw[mem_singleton] at ht;subst ht
       intro hbl
       exact hb (blB_t.2 hbl)
def Adj(us:List Tab):Prop:=∀ i x y,us[i]?=some x->us[i+1]?=some y->Bl x.greatest y.least
theorem adj_strict{us:List Tab}(A:Adj us)(H:∀ t∈us,Le t.least t.greatest):us.Pairwise λx y=>Bl x.least y.least:=by
 rw[List.pairwise_iff_getElem]
 intro i j hi hj hij
 induction j with
 |zero=>omega
 |succ j ih=>
  have h1:Bl us[j].least us[j+1].least:=(H us[j] (List.getElem_mem _)).bl (A j _ _ (getElem?_eq_getElem (by omega)) (getElem?_eq_getElem hj))
  by_cases he:i=j
  ·subst he;exact h1
  ·exact(ih (by omega) (by omega)).trans h1
theorem srt_unique:∀ {us vs:List Tab},us.Perm vs->us.Pairwise (λx y=>Bl x.least y.least)->Srt vs->us=vs
 |[],vs,hp,_,_=>(List.nil_perm.1 hp).symm
 |x::us,[],hp,_,_=>absurd hp.length_eq (by simp)
 |x::us,y::vs,hp,hu,hv=>by
  rw[pairwise_cons] at hu
  have hv':=pairwise_cons.1 hv
  have hxy:x=y:=by
   have h1:x∈y::vs:=hp.mem_iff.1 mem_cons_self
   have h2:y∈x::us:=hp.mem_iff.2 mem_cons_self
   rcases mem_cons.1 h1 with h1|h1
   ·exact h1
   ·rcases mem_cons.1 h2 with h2|h2
    ·exact h2.symm
    ·exact absurd (hu.1 y h2) (hv'.1 x h1)
  subst hxy
  rw[srt_unique (List.Perm.cons_inv hp) hu.2 hv'.2]
def Fine(ts us:List Tab):Prop:=us.Perm ts/\Srt us/\Adj us
def Bad(ts:List Tab):Prop:=∃ us:List Tab,us.Perm ts/\Srt us/\∃ (i:Nat) (x y:Tab),us[i]?=some x/\us[i+1]?=some y/\¬ Bl x.greatest y.least
theorem good_one{ts us vs:List Tab}(H:∀ t∈ts,Le t.least t.greatest)(hu:Fine ts us)(hv:vs.Perm ts)(hs:Srt vs):us=vs:=
 srt_unique (hu.1.trans hv.symm) (adj_strict hu.2.2 λt ht=>H t (hu.1.mem_iff.1 ht)) hs
theorem good_bad{ts us:List Tab}(H:∀ t∈ts,Le t.least t.greatest)(hu:Fine ts us):¬ Bad ts:=by
 rintro⟨vs,hp,hs,i,x,y,h1,h2,h3⟩
 obtain rfl:=good_one H hu hp hs
 exact h3 (hu.2.2 i x y h1 h2)
def Sorted(lv lw:Lv):Prop:=lw.length=lv.length/\lw[0]?=lv[0]?/\∀ i ts us,1<=i->lv[i]?=some ts->lw[i]?=some us->Fine ts us
theorem Sorted.one{lv lw lx:Lv}(H:Hulls lv)(h:Sorted lv lw)(k:Sorted lv lx):lw=lx:=by
 apply List.ext_getElem?
 intro i
 rcases Nat.eq_zero_or_pos i with rfl|hi
 ·rw[h.2.1,k.2.1]
 ·by_cases hl:i<lv.length
  ·have a1:=getElem?_eq_getElem hl
   have b1:=getElem?_eq_getElem (l:=lw) (i:=i) (by rw[h.1];exact hl)
   have c1:=getElem?_eq_getElem (l:=lx) (i:=i) (by rw[k.1];exact hl)
   rw[b1,c1,good_one (H _ (mem_of_getElem? a1)) (h.2.2 i _ _ hi a1 b1) (k.2.2 i _ _ hi a1 c1).1 (k.2.2 i _ _ hi a1 c1).2.1]
  ·rw[List.getElem?_eq_none (by rw[h.1];omega),List.getElem?_eq_none (by rw[k.1];omega)]
def Res(lv:Lv)(e:Edit)(c:Int)(lw:Lv):Prop:=
 if e.ptr.length=lv.length then
  if (outM e.out lv).1=0 then
   if (inM e.inn (outM e.out lv).2).1=0 then
    (c=132/\∃ i ts,1<=i/\(inM e.inn (outM e.out lv).2).2[i]?=some ts/\Bad ts)\/(c=0/\Sorted (inM e.inn (outM e.out lv).2).2 lw)
   else c=(inM e.inn (outM e.out lv).2).1
  else c=(outM e.out lv).1
 else c=133
theorem Res.one{lv lw lx:Lv}{e:Edit}{c d:Int}(H:Hulls lv)(h:Res lv e c lw)(k:Res lv e d lx):c=d/\(c=0->lw=lx):=by
 unfold Res at h k
 by_cases h1:e.ptr.length=lv.length
 ·rw[if_pos h1] at h k
  by_cases h2:(outM e.out lv).1=0
  ·rw[if_pos h2] at h k
   by_cases h3:(inM e.inn (outM e.out lv).2).1=0
   ·rw[if_pos h3] at h k
    have H2:Hulls (inM e.inn (outM e.out lv).2).2:=(inM_sum _ _).2.2 ((outM_sum _ _).2.2 H)
    generalize (inM e.inn (outM e.out lv).2).2=l2 at h k H2
    have no:∀ {l3:Lv},Sorted l2 l3->¬ ∃ i ts,1<=i/\l2[i]?=some ts/\Bad ts:=λ{l3} S=>by
     rintro⟨i,ts,hi,hts,hb⟩
     have hl:i<l3.length:=by rw[S.1];exact(List.getElem?_eq_some_iff.1 hts).1
     exact good_bad (H2 _ (mem_of_getElem? hts)) (S.2.2 i ts _ hi hts (getElem?_eq_getElem hl)) hb
    rcases h with⟨rfl,hb⟩|⟨rfl,hs⟩<;>rcases k with⟨rfl,kb⟩|⟨rfl,ks⟩
    ·exact⟨rfl,λh=>absurd h (by decide)⟩
    ·exact absurd hb (no ks)
    ·exact absurd kb (no hs)
    ·exact⟨rfl,λ_=>hs.one H2 ks⟩
   ·rw[if_neg h3] at h k
    exact⟨h.trans k.symm,λh0=>absurd (h.symm.trans h0) h3⟩
  ·rw[if_neg h2] at h k
   exact⟨h.trans k.symm,λh0=>absurd (h.symm.trans h0) h2⟩
 ·rw[if_neg h1] at h k
  exact⟨h.trans k.symm,λh0=>absurd (h.symm.trans h0) (by decide)⟩
theorem Sorted.hulls{lv lw:Lv}(H:Hulls lv)(h:Sorted lv lw):Hulls lw:=λl hl t ht=>by
 obtain⟨i,hi,rfl⟩:=List.mem_iff_getElem.1 hl
 have hi':i<lv.length:=by rw[<- h.1];exact hi
 have a1:=getElem?_eq_getElem hi
 have b1:=getElem?_eq_getElem hi'
 rcases Nat.eq_zero_or_pos i with rfl|h0
 ·have:=h.2.1
  rw[a1,b1] at this
  simp only[Option.some.injEq] at this
  exact H _ (List.getElem_mem hi') t (by rw[<- this];exact ht)
 ·exact H _ (List.getElem_mem hi') t ((h.2.2 i _ _ h0 b1 a1).1.mem_iff.1 ht)
theorem Sorted.totL{lv lw:Lv}(h:Sorted lv lw):totL lw=totL lv:=by
 have:lw.map List.length=lv.map List.length:=by
  apply List.ext_getElem (by simp[h.1])
  intro i h1 h2
  simp only[length_map] at h1 h2
  simp only[List.getElem_map]
  have a1:=getElem?_eq_getElem h1
  have b1:=getElem?_eq_getElem h2
  rcases Nat.eq_zero_or_pos i with rfl|h0
  ·have:=h.2.1
   rw[a1,b1] at this
   simp only[Option.some.injEq] at this
   rw[this]
  ·exact(h.2.2 i _ _ h0 b1 a1).1.length_eq
 unfold Go.Eng.YtblghgacokoklaaDoor.totL;rw[this]
theorem Res.ok{lv lw:Lv}{e:Edit}(h:Res lv e 0 lw):e.ptr.length=lv.length/\∃ l2,Sorted l2 lw/\totL l2<=totL lv+e.inn.length/\l2.length=lv.length/\(Hulls lv->Hulls l2):=by
 unfold Res at h
 split at h
 ·next h1=>
  split at h
  ·split at h
   ·rcases h with⟨h,_⟩|⟨_,h⟩
    ·exact absurd h (by decide)
    ·have a:=outM_sum e.out lv
     have b:=inM_sum e.inn (outM e.out lv).2
     exact⟨h1,_,h,by omega,by omega,λH=>b.2.2 (a.2.2 H)⟩
   ·next h3=>exact absurd h.symm h3
  ·next h2=>exact absurd h.symm h2
 ·exact absurd h (by decide)
end Go.Eng.YtblghgacokoklaaDoor
end
section
namespace Go.Eng.YtblghgacokoklaaDoor
theorem wr_nil(h:Hp)(b o:Nat):h.wr b o []=h:=by
 funext k
 unfold Hp.wr
 by_cases hk:k=b
 ·subst hk
  rw[if_pos rfl]
  split
  ·next c t f e=>rw[e];simp[setL]
  ·rfl
 ·rw[if_neg hk]
theorem bufWr'{h:Hp}{s:Sl}{sz t b:Nat}{A U V B:List Value}(Bf:Buf h s sz t (A++(U++B)))(hu:U.length=V.length)(hb:s.a=some ⟨b,0,none⟩) :
  h.canWA (some ⟨b,A.length,none⟩) V.length/\Upd h (h.wrA (some ⟨b,A.length,none⟩) V) s s/\Buf (h.wrA (some ⟨b,A.length,none⟩) V) s sz t (A++(V++B)):=by
 rcases Nat.eq_zero_or_pos U.length with h0|h0
 ·have hU:U=[]:=eq_nil_of_length_eq_zero h0
  have hV:V=[]:=eq_nil_of_length_eq_zero (by omega)
  subst hU hV
  refine⟨.inl rfl,?_⟩
  show Upd h (h.wr b A.length []) s s/\Buf (h.wr b A.length []) s sz t _
  rw[wr_nil]
  exact⟨Upd.refl _ _,Bf⟩
 ·obtain⟨b',hb',hc,Up,Bw⟩:=bufWr Bf hu h0
  rw[hb] at hb'
  simp only[Option.some.injEq,Addr.mk.injEq,and_true] at hb'
  subst hb'
  exact⟨.inr ⟨_,_,rfl,hc⟩,Up,Bw⟩
theorem buf_shrink{h:Hp}{s:Sl}{sz t k:Nat}{A B:List Value}(Bf:Buf h s sz t (A++B))(hA:A.length=k*sz)(hk:k<=s.n):Buf h ⟨s.a,k,s.c⟩ sz t A:=by
 refine⟨hA,Nat.le_trans hk Bf.cap,Bf.own.imp id ?_⟩
 rintro⟨b,c,f,h1,h2,h3,h4,h5⟩
 refine⟨b,c,f,h1,h2,h3,h4,?_⟩
 have:=congrArg (List.take A.length) h5
 rw[List.take_take,List.take_left' rfl,length_append,Nat.min_eq_left (Nat.le_add_right _ _)] at this
 exact this
theorem tabV_app(P R:List Tab):tabV (P++R)=tabV P++tabV R:=by unfold tabV;simp
theorem tabV_cons(x:Tab)(R:List Tab):tabV (x::R)=x.cells++tabV R:=by unfold tabV;simp
theorem tab_one:∀ (ts:List Tab),∀ v∈tabV ts,Value.oneCell' v=true
 |[],v,h=>by cases h
 |t::ts,v,h=>by
  rw[tabV_cons,mem_append] at h
  rcases h with h|h
  ·simp only[Tab.cells,mem_cons,List.not_mem_nil,or_false] at h
   rcases h with rfl|rfl|rfl|rfl|rfl|rfl<;>rfl
  ·exact tab_one ts v h
def zT:Tab:=⟨0,0,0,0,⟨#[]⟩,⟨#[]⟩⟩
theorem zeros_tab(n:Nat):zerosV [.int .u64 0,.int .i64 0,.int .i64 0,.int .i64 0,.string ⟨#[]⟩,.string ⟨#[]⟩] n=tabV (List.replicate n zT):=by
 apply List.ext_getElem
 ·rw[zerosV_length,tabV_len,List.length_replicate];rfl
 ·intro i h1 h2
  rw[tabV_len,List.length_replicate] at h2
  have hg:(tabV (List.replicate n zT))[i / 6*6+i % 6]?=(Tab.cells zT)[i % 6]?:=by
   have:=flat_get Tab.cells 6 (λ_=>rfl) (List.replicate n zT) (i / 6) (i % 6) (by rw[List.length_replicate];omega) (by omega)
   rw[List.getElem_replicate] at this
   exact this
  have he:i / 6*6+i % 6=i:=by omega
  rw[he] at hg
  rw[<- Option.some_inj,<- getElem?_eq_getElem,<- getElem?_eq_getElem,hg]
  unfold zerosV Builtin.zeroCells
  have hi:i<n*6:=h2
  rw[Array.toList_map,Array.toList_range]
  simp only[getElem?_map,List.size_toArray,length_cons,length_nil]
  rw[List.getElem?_range (by simpa using hi)]
  simp only[Option.map_some]
  have hm:i % 6<6:=Nat.mod_lt _ (by decide)
  generalize i % 6=j at hm
  match j,hm with
  |0,_=>rfl
  |1,_=>rfl
  |2,_=>rfl
  |3,_=>rfl
  |4,_=>rfl
  |5,_=>rfl
theorem off_upd{h h1:Hp}{s s' y:Sl}{sz t:Nat}{vs:List Value}(U:Upd h h1 s s')(B:Buf h y sz t vs)(o:Off s y/\Off y s):Off s' y/\Off y s':=by
 rcases U.at_ with e|⟨b,e,hn⟩
 ·exact⟨λk p q a=>o.1 k p q (by rw[<- e];exact a),λk p q a a'=>o.2 k p q a (by rw[<- e];exact a')⟩
 ·have:=NewN.off (s:=s') (.inr ⟨b,e,hn⟩) B
  exact⟨this.2,this.1⟩
structure Lvs(g h:Hp)(ls:Sl)(xs:List (Sl×List Tab)):Prop where
 k:Keep g h
 nl:NewN g ls
 l:Buf h ls 1 124 (slV (xs.map (·.1)))
 t:∀ x∈xs,TB h x.1 x.2
 n:∀ x∈xs,NewN g x.1
 d:∀ (i j:Nat) x y,xs[i]?=some x->xs[j]?=some y->i≠j->Off x.1 y.1
variable{g h h1:Hp}{ls:Sl}{xs:List (Sl×List Tab)}
theorem Lvs.len(L:Lvs g h ls xs):ls.n=xs.length:=by have:=L.l.len;rw[slV_length,length_map] at this;omega
theorem Lvs.ck{κ:List Nat}(L:Lvs g h ls xs)(C:Ck κ h h1)(K:Keep g h1)(a:126∉κ)(b:108∉κ):Lvs g h1 ls xs:=
 ⟨K,L.nl,C.buf a L.l,λx hx=>C.buf b (L.t x hx),L.n,L.d⟩
theorem Lvs.keep(L:Lvs g h ls xs)(K:Keep h h1):Lvs g h1 ls xs:=L.ck (κ:=[]) (Ck.of_keep K) (L.k.trans K) (by simp) (by simp)
theorem Lvs.rd(L:Lvs g h ls xs){i:Nat}{x:Sl×List Tab}(hx:xs[i]?=some x):∃ b,ls.a=some ⟨b,0,none⟩/\h.at b i=some (.slice x.1.a x.1.n x.1.c):=by
 have hi:i<xs.length:=(List.getElem?_eq_some_iff.1 hx).1
 obtain⟨b,ha,hat,_⟩:=buf_set L.l (k:=i) (by rw[slV_length,length_map];exact hi)
 refine⟨b,ha,?_⟩
 rw[hat]
 unfold slV
 rw[getElem?_map,getElem?_map,hx]
 rfl
theorem set_get{α:Type}{xs:List α}{i j:Nat}{a y:α}(h:(xs.set i a)[j]?=some y):(j=i/\y=a/\i<xs.length)\/(j≠i/\xs[j]?=some y):=by
 rw[List.getElem?_set] at h
 by_cases hj:i=j
 ·rw[if_pos hj] at h
  split at h
  ·next hl=>exact .inl ⟨hj.symm,(Option.some.inj h).symm,hl⟩
  ·cases h
 ·rw[if_neg hj] at h
  exact .inr ⟨λe=>hj e.symm,h⟩
theorem Lvs.put(L:Lvs g h ls xs){i:Nat}{x:Sl×List Tab}(hx:xs[i]?=some x){s':Sl}{us:List Tab}(U:Upd h h1 x.1 s')(T:TB h1 s' us) :
  ∃ b,ls.a=some ⟨b,0,none⟩/\h1.at b i=some (.slice x.1.a x.1.n x.1.c)/\h1.canW b i 1/\Lvs g (h1.wr b i [.slice s'.a s'.n s'.c]) ls (xs.set i (s',us))/\Ck [108,126] h (h1.wr b i [.slice s'.a s'.n s'.c]):=by
 have hm:x∈xs:=mem_of_getElem? hx
 have hi:i<xs.length:=(List.getElem?_eq_some_iff.1 hx).1
 have C1:Ck [108] h h1:=Ck.of_upd (L.t x hm) U
 have B1:=C1.buf (by decide) L.l
 obtain⟨K1,N1⟩:=(L.n x hm).upd L.k U
 obtain⟨b,ha,hat,hc,hw⟩:=buf_set B1 (k:=i) (by rw[slV_length,length_map];exact hi)
 obtain⟨U2,B2⟩:=hw (.slice s'.a s'.n s'.c)
 have C2:Ck [126] h1 _:=Ck.of_upd B1 U2
 refine⟨b,ha,?_,hc,⟨(L.nl.upd K1 U2).1,L.nl,?_,?_,?_,?_⟩,(C1.mono (by simp)).trans (C2.mono (by simp))⟩
 ·rw[hat];unfold slV;rw[getElem?_map,getElem?_map,hx];rfl
 ·have e:(slV (xs.map (·.1))).set i (.slice s'.a s'.n s'.c)=slV ((xs.set i (s',us)).map (·.1)):=by
   unfold slV;rw[List.map_set,List.map_set]
  rw[<- e];exact B2
 ·intro y hy
  obtain⟨j,hj⟩:=List.mem_iff_getElem?.1 hy
  rcases set_get hj with⟨_,rfl,_⟩|⟨hne,hj⟩
  ·exact C2.buf (by decide) T
  ·exact C2.buf (by decide) ((L.t y (mem_of_getElem? hj)).upd U (L.d j i y x hj hx hne))
 ·intro y hy
  obtain⟨j,hj⟩:=List.mem_iff_getElem?.1 hy
  rcases set_get hj with⟨_,rfl,_⟩|⟨hne,hj⟩
  ·exact N1
  ·exact L.n y (mem_of_getElem? hj)
 ·intro p q y z hp hq hpq
  rcases set_get hp with⟨rfl,rfl,_⟩|⟨hne,hp'⟩<;>rcases set_get hq with⟨rfl,rfl,_⟩|⟨hne2,hq'⟩
  ·exact absurd rfl hpq
  ·exact(off_upd U (L.t z (mem_of_getElem? hq')) ⟨L.d _ _ x z hx hq' hpq,L.d _ _ z x hq' hx (Ne.symm hpq)⟩).1
  ·exact(off_upd U (L.t y (mem_of_getElem? hp')) ⟨L.d _ _ x y hx hp' (Ne.symm hpq),L.d _ _ y x hp' hx hpq⟩).2
  ·exact L.d p q y z hp' hq' hpq
theorem Lvs.fill(L:Lvs g h ls xs){i:Nat}{x:Sl×List Tab}(hx:xs[i]?=some x){us:List Tab}(U:Upd h h1 x.1 x.1)(T:TB h1 x.1 us):Lvs g h1 ls (xs.set i (x.1,us))/\Ck [108] h h1:=by
 have hm:x∈xs:=mem_of_getElem? hx
 have C1:Ck [108] h h1:=Ck.of_upd (L.t x hm) U
 obtain⟨K1,N1⟩:=(L.n x hm).upd L.k U
 have eq1:(xs.set i (x.1,us)).map (·.1)=xs.map (·.1):=by
  rw[List.map_set]
  apply List.ext_getElem?
  intro j
  rw[List.getElem?_set]
  by_cases hj:i=j
  ·subst hj
   rw[if_pos rfl,getElem?_map,hx]
   simp[(List.getElem?_eq_some_iff.1 hx).1]
  ·rw[if_neg hj]
 refine⟨⟨K1,L.nl,by rw[eq1];exact C1.buf (by decide) L.l,?_,?_,?_⟩,C1⟩
 ·intro y hy
  obtain⟨j,hj⟩:=List.mem_iff_getElem?.1 hy
  rcases set_get hj with⟨_,rfl,_⟩|⟨hne,hj⟩
  ·exact T
  ·exact(L.t y (mem_of_getElem? hj)).upd U (L.d j i y x hj hx hne)
 ·intro y hy
  obtain⟨j,hj⟩:=List.mem_iff_getElem?.1 hy
  rcases set_get hj with⟨_,rfl,_⟩|⟨hne,hj⟩
  ·exact N1
  ·exact L.n y (mem_of_getElem? hj)
 ·intro p q y z hp hq hpq
  rcases set_get hp with⟨rfl,rfl,_⟩|⟨hne,hp'⟩<;>rcases set_get hq with⟨rfl,rfl,_⟩|⟨hne2,hq'⟩
  ·exact absurd rfl hpq
  ·exact L.d _ _ x z hx hq' hpq
  ·exact L.d _ _ y x hp' hx hpq
  ·exact L.d p q y z hp' hq' hpq
end Go.Eng.YtblghgacokoklaaDoor
end
