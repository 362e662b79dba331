/-
  TEXTS OF MINE, JOINED: YJA YRV RM0 BK0 BK1 BK2 BK3 BK4 BK5 BK6 BK7 BK8.
-/
import Derived.Test.YtbjnlacacapjiaaGreatDoorK5
import Derived.Test.YtbjnlacacapjiaaGreatDoorK2
import Derived.Test.YtbjnlacacapjiaaGreatDoorProg
import Derived.ChangeSlices
import Derived.SizedLaws
import Derived.Below
set_option linter.unusedSimpArgs false
set_option linter.unusedVariables false
section
set_option maxRecDepth 100000
open Go.Proofs
namespace Go.Eng.YtbjnlacacapjiaaGreatDoor
@[reducible] def F12.G (T16 T17:I9 <| I9 <| I9 <| Option Addr→PT) (T18:Sl→Sl→PT) (T20:I9 <| I9 <| I9 <| Option Addr→Sl→Int→PT) (T21:I9 <| I9 <| I9 <| Option Addr→Sl→Sl→PT) (T22:Int→Sl→Sl→ByteArray→Bool→Int→Sl→Sl→ByteArray→Bool→PT) (T69:PT):PT:=fun h Q=>
 T69 h fun r h1=>∃ n n1:Int,∃ n2 n3:Int,∃ n4 n5:Int,∃ n6 n7:Int,∃ n8 n9:Int,∃ n10 n11:Int,∃ n12 n13:Int,∃ n14 n15:Int,∃ n16 n17:Int,∃ n18 n19:Int,∃ n20 n21:Int,∃ n22 n23:Int,∃ n24 n25 n26:Int,∃ p:Option Addr,r=.tuple ⟨[.agg ⟨[.int .i64 n,.int .i64 n1,.int .i64 n2,.int .i64 n3,.int .i64 n4,.int .i64 n5,.int .i64 n6,.int .i64 n7,.int .i64 n8,.int .i64 n9,.int .i64 n10,.int .i64 n11,.int .i64 n12,.int .i64 n13,.int .i64 n14,.int .i64 n15,.int .i64 n16,.int .i64 n17,.int .i64 n18,.int .i64 n19,.int .i64 n20,.int .i64 n21,.int .i64 n22,.int .i64 n23,.int .i64 n24,.int .i64 n25,.int .i64 n26]⟩,.pointer p]⟩∧okPtr h1 p none∧par ((p:Option Addr)=none) (Q (.bool false) h1) (T16 n n1 n2 n3 n4 n5 n6 n7 n8 n9 n10 n11 n12 n13 n14 n15 n16 n17 n18 n19 n20 n21 n22 n23 n24 n25 n26 p h1 fun r1 h2=>∃ l:Sl,r1=.slice l.a l.n l.c∧∀ b,h2 b=none→T18 l ⟨(some ⟨b,0,none⟩),3,3⟩ (h2.new b (.cells ⟨[.int .i64 1000,.int .i64 1220,.int .i64 1098]⟩ 3 (0,0))) fun r2 h3=>∃ b1:Bool,r2=.bool b1∧parB b1 (T17 n n1 n2 n3 n4 n5 n6 n7 n8 n9 n10 n11 n12 n13 n14 n15 n16 n17 n18 n19 n20 n21 n22 n23 n24 n25 n26 p h3 fun r3 h4=>∃ l1:Sl,r3=.slice l1.a l1.n l1.c∧∀ b2,h4 b2=none→T18 l1 ⟨(some ⟨b2,0,none⟩),3,3⟩ (h4.new b2 (.cells ⟨[.int .i64 1,.int .i64 2,.int .i64 0]⟩ 3 (0,0))) fun r4 h5=>∃ b3:Bool,r4=.bool b3∧parB b3 (∀ b4,h5 b4=none→T20 n n1 n2 n3 n4 n5 n6 n7 n8 n9 n10 n11 n12 n13 n14 n15 n16 n17 n18 n19 n20 n21 n22 n23 n24 n25 n26 p ⟨(some ⟨b4,0,none⟩),2,2⟩ 1 (h5.new b4 (.cells ⟨[.string ⟨#[]⟩,.string (ByteArray.mk #[99])]⟩ 9 (0,0))) fun r5 h6=>∃ n27:Int,∃ l2 l3:Sl,∃ s:ByteArray,∃ b5:Bool,parB b5 (∃ b6:Bool,parB b6 (r5=.tuple ⟨[.agg ⟨[.int .i64 n27,.slice l2.a l2.n l2.c,.slice l3.a l3.n l3.c,.string s,.bool true]⟩,.bool true]⟩∧∀ b7,h6 b7=none→∀ b8,(h6.new b7 (.cells ⟨[.string ⟨#[]⟩,.string (ByteArray.mk #[99])]⟩ 9 (0,0))) b8=none→T21 n n1 n2 n3 n4 n5 n6 n7 n8 n9 n10 n11 n12 n13 n14 n15 n16 n17 n18 n19 n20 n21 n22 n23 n24 n25 n26 p ⟨(some ⟨b7,0,none⟩),2,2⟩ ⟨(some ⟨b8,0,none⟩),1,1⟩ ((h6.new b7 (.cells ⟨[.string ⟨#[]⟩,.string (ByteArray.mk #[99])]⟩ 9 (0,0))).new b8 (.cells ⟨[.int .u64 9]⟩ 48 (0,0))) fun r6 h7=>∃ n28:Int,∃ l4 l5:Sl,∃ s1:ByteArray,∃ b9:Bool,parB b9 (∃ n29:Int,r6=.tuple ⟨[.agg ⟨[.int .i64 n28,.slice l4.a l4.n l4.c,.slice l5.a l5.n l5.c,.string s1,.bool true]⟩,.int .i64 n29]⟩∧∀ b10,h7 b10=none→∀ b11,(h7.new b10 (.cells ⟨[.string ⟨#[]⟩,.string (ByteArray.mk #[99])]⟩ 9 (0,0))) b11=none→T21 n n1 n2 n3 n4 n5 n6 n7 n8 n9 n10 n11 n12 n13 n14 n15 n16 n17 n18 n19 n20 n21 n22 n23 n24 n25 n26 p ⟨(some ⟨b10,0,none⟩),2,2⟩ ⟨(some ⟨b11,0,none⟩),1,1⟩ ((h7.new b10 (.cells ⟨[.string ⟨#[]⟩,.string (ByteArray.mk #[99])]⟩ 9 (0,0))).new b11 (.cells ⟨[.int .u64 7]⟩ 48 (0,0))) fun r7 h8=>∃ n30:Int,∃ l6 l7:Sl,∃ s2:ByteArray,∃ b12:Bool,parB b12 (∃ n31:Int,r7=.tuple ⟨[.agg ⟨[.int .i64 n30,.slice l6.a l6.n l6.c,.slice l7.a l7.n l7.c,.string s2,.bool true]⟩,.int .i64 n31]⟩∧par ((l2.n:Int)=1) (∃ b13 o,(l2.a:Option Addr)=some ⟨b13,o,none⟩∧((0:Int)≤0∧0 < (l2.n:Int))∧∃ n32:Int,h8.at b13 (o+(0:Int).toNat*6)=some (.int .u64 n32)∧par (n32=4) (par ((l3.n:Int)=2) (∃ b14 o1,(l3.a:Option Addr)=some ⟨b14,o1,none⟩∧((0:Int)≤1∧1 < (l3.n:Int))∧∃ n33:Int,h8.at b14 (o1+(1:Int).toNat*6)=some (.int .u64 n33)∧par (n33=7) (par (s=(ByteArray.mk #[107])) (Q (.bool false) h8) (Q (.bool false) h8)) (Q (.bool false) h8)) (Q (.bool false) h8)) (Q (.bool false) h8)) (Q (.bool false) h8)) (∃ n34:Int,r7=.tuple ⟨[.agg ⟨[.int .i64 n30,.slice l6.a l6.n l6.c,.slice l7.a l7.n l7.c,.string s2,.bool false]⟩,.int .i64 n34]⟩∧par ((l2.n:Int)=1) (∃ b15 o2,(l2.a:Option Addr)=some ⟨b15,o2,none⟩∧((0:Int)≤0∧0 < (l2.n:Int))∧∃ n35:Int,h8.at b15 (o2+(0:Int).toNat*6)=some (.int .u64 n35)∧par (n35=4) (par ((l3.n:Int)=2) (∃ b16 o3,(l3.a:Option Addr)=some ⟨b16,o3,none⟩∧((0:Int)≤1∧1 < (l3.n:Int))∧∃ n36:Int,h8.at b16 (o3+(1:Int).toNat*6)=some (.int .u64 n36)∧par (n36=7) (par (s=(ByteArray.mk #[107])) (Q (.bool false) h8) (Q (.bool false) h8)) (Q (.bool false) h8)) (Q (.bool false) h8)) (Q (.bool false) h8)) (Q (.bool false) h8))) (∃ n37:Int,r6=.tuple ⟨[.agg ⟨[.int .i64 n28,.slice l4.a l4.n l4.c,.slice l5.a l5.n l5.c,.string s1,.bool false]⟩,.int .i64 n37]⟩∧∀ b17,h7 b17=none→∀ b18,(h7.new b17 (.cells ⟨[.string ⟨#[]⟩,.string (ByteArray.mk #[99])]⟩ 9 (0,0))) b18=none→T21 n n1 n2 n3 n4 n5 n6 n7 n8 n9 n10 n11 n12 n13 n14 n15 n16 n17 n18 n19 n20 n21 n22 n23 n24 n25 n26 p ⟨(some ⟨b17,0,none⟩),2,2⟩ ⟨(some ⟨b18,0,none⟩),1,1⟩ ((h7.new b17 (.cells ⟨[.string ⟨#[]⟩,.string (ByteArray.mk #[99])]⟩ 9 (0,0))).new b18 (.cells ⟨[.int .u64 7]⟩ 48 (0,0))) fun r8 h9=>∃ n38:Int,∃ l8 l9:Sl,∃ s3:ByteArray,∃ b19:Bool,parB b19 (∃ n39:Int,r8=.tuple ⟨[.agg ⟨[.int .i64 n38,.slice l8.a l8.n l8.c,.slice l9.a l9.n l9.c,.string s3,.bool true]⟩,.int .i64 n39]⟩∧par ((l2.n:Int)=1) (∃ b20 o4,(l2.a:Option Addr)=some ⟨b20,o4,none⟩∧((0:Int)≤0∧0 < (l2.n:Int))∧∃ n40:Int,h9.at b20 (o4+(0:Int).toNat*6)=some (.int .u64 n40)∧par (n40=4) (par ((l3.n:Int)=2) (∃ b21 o5,(l3.a:Option Addr)=some ⟨b21,o5,none⟩∧((0:Int)≤1∧1 < (l3.n:Int))∧∃ n41:Int,h9.at b21 (o5+(1:Int).toNat*6)=some (.int .u64 n41)∧par (n41=7) (par (s=(ByteArray.mk #[107])) (Q (.bool false) h9) (Q (.bool false) h9)) (Q (.bool false) h9)) (Q (.bool false) h9)) (Q (.bool false) h9)) (Q (.bool false) h9)) (∃ n42:Int,r8=.tuple ⟨[.agg ⟨[.int .i64 n38,.slice l8.a l8.n l8.c,.slice l9.a l9.n l9.c,.string s3,.bool false]⟩,.int .i64 n42]⟩∧par ((l2.n:Int)=1) (∃ b22 o6,(l2.a:Option Addr)=some ⟨b22,o6,none⟩∧((0:Int)≤0∧0 < (l2.n:Int))∧∃ n43:Int,h9.at b22 (o6+(0:Int).toNat*6)=some (.int .u64 n43)∧par (n43=4) (par ((l3.n:Int)=2) (∃ b23 o7,(l3.a:Option Addr)=some ⟨b23,o7,none⟩∧((0:Int)≤1∧1 < (l3.n:Int))∧∃ n44:Int,h9.at b23 (o7+(1:Int).toNat*6)=some (.int .u64 n44)∧par (n44=7) (par (s=(ByteArray.mk #[107])) (Q (.bool false) h9) (Q (.bool false) h9)) (Q (.bool false) h9)) (Q (.bool false) h9)) (Q (.bool false) h9)) (Q (.bool false) h9)))) (r5=.tuple ⟨[.agg ⟨[.int .i64 n27,.slice l2.a l2.n l2.c,.slice l3.a l3.n l3.c,.string s,.bool true]⟩,.bool false]⟩∧∀ b24,h6 b24=none→∀ b25,(h6.new b24 (.cells ⟨[.string ⟨#[]⟩,.string (ByteArray.mk #[99])]⟩ 9 (0,0))) b25=none→T21 n n1 n2 n3 n4 n5 n6 n7 n8 n9 n10 n11 n12 n13 n14 n15 n16 n17 n18 n19 n20 n21 n22 n23 n24 n25 n26 p ⟨(some ⟨b24,0,none⟩),2,2⟩ ⟨(some ⟨b25,0,none⟩),1,1⟩ ((h6.new b24 (.cells ⟨[.string ⟨#[]⟩,.string (ByteArray.mk #[99])]⟩ 9 (0,0))).new b25 (.cells ⟨[.int .u64 9]⟩ 48 (0,0))) fun r9 h10=>∃ n45:Int,∃ l10 l11:Sl,∃ s4:ByteArray,∃ b26:Bool,parB b26 (∃ n46:Int,r9=.tuple ⟨[.agg ⟨[.int .i64 n45,.slice l10.a l10.n l10.c,.slice l11.a l11.n l11.c,.string s4,.bool true]⟩,.int .i64 n46]⟩∧∀ b27,h10 b27=none→∀ b28,(h10.new b27 (.cells ⟨[.string ⟨#[]⟩,.string (ByteArray.mk #[99])]⟩ 9 (0,0))) b28=none→T21 n n1 n2 n3 n4 n5 n6 n7 n8 n9 n10 n11 n12 n13 n14 n15 n16 n17 n18 n19 n20 n21 n22 n23 n24 n25 n26 p ⟨(some ⟨b27,0,none⟩),2,2⟩ ⟨(some ⟨b28,0,none⟩),1,1⟩ ((h10.new b27 (.cells ⟨[.string ⟨#[]⟩,.string (ByteArray.mk #[99])]⟩ 9 (0,0))).new b28 (.cells ⟨[.int .u64 7]⟩ 48 (0,0))) fun r10 h11=>∃ n47:Int,∃ l12 l13:Sl,∃ s5:ByteArray,∃ b29:Bool,parB b29 (∃ n48:Int,r10=.tuple ⟨[.agg ⟨[.int .i64 n47,.slice l12.a l12.n l12.c,.slice l13.a l13.n l13.c,.string s5,.bool true]⟩,.int .i64 n48]⟩∧Q (.bool false) h11) (∃ n49:Int,r10=.tuple ⟨[.agg ⟨[.int .i64 n47,.slice l12.a l12.n l12.c,.slice l13.a l13.n l13.c,.string s5,.bool false]⟩,.int .i64 n49]⟩∧Q (.bool false) h11)) (∃ n50:Int,r9=.tuple ⟨[.agg ⟨[.int .i64 n45,.slice l10.a l10.n l10.c,.slice l11.a l11.n l11.c,.string s4,.bool false]⟩,.int .i64 n50]⟩∧∀ b30,h10 b30=none→∀ b31,(h10.new b30 (.cells ⟨[.string ⟨#[]⟩,.string (ByteArray.mk #[99])]⟩ 9 (0,0))) b31=none→T21 n n1 n2 n3 n4 n5 n6 n7 n8 n9 n10 n11 n12 n13 n14 n15 n16 n17 n18 n19 n20 n21 n22 n23 n24 n25 n26 p ⟨(some ⟨b30,0,none⟩),2,2⟩ ⟨(some ⟨b31,0,none⟩),1,1⟩ ((h10.new b30 (.cells ⟨[.string ⟨#[]⟩,.string (ByteArray.mk #[99])]⟩ 9 (0,0))).new b31 (.cells ⟨[.int .u64 7]⟩ 48 (0,0))) fun r11 h12=>∃ n51:Int,∃ l14 l15:Sl,∃ s6:ByteArray,∃ b32:Bool,parB b32 (∃ n52:Int,r11=.tuple ⟨[.agg ⟨[.int .i64 n51,.slice l14.a l14.n l14.c,.slice l15.a l15.n l15.c,.string s6,.bool true]⟩,.int .i64 n52]⟩∧Q (.bool false) h12) (∃ n53:Int,r11=.tuple ⟨[.agg ⟨[.int .i64 n51,.slice l14.a l14.n l14.c,.slice l15.a l15.n l15.c,.string s6,.bool false]⟩,.int .i64 n53]⟩∧Q (.bool false) h12)))) (∃ b33:Bool,parB b33 (r5=.tuple ⟨[.agg ⟨[.int .i64 n27,.slice l2.a l2.n l2.c,.slice l3.a l3.n l3.c,.string s,.bool false]⟩,.bool true]⟩∧∀ b34,h6 b34=none→∀ b35,(h6.new b34 (.cells ⟨[.string ⟨#[]⟩,.string (ByteArray.mk #[99])]⟩ 9 (0,0))) b35=none→T21 n n1 n2 n3 n4 n5 n6 n7 n8 n9 n10 n11 n12 n13 n14 n15 n16 n17 n18 n19 n20 n21 n22 n23 n24 n25 n26 p ⟨(some ⟨b34,0,none⟩),2,2⟩ ⟨(some ⟨b35,0,none⟩),1,1⟩ ((h6.new b34 (.cells ⟨[.string ⟨#[]⟩,.string (ByteArray.mk #[99])]⟩ 9 (0,0))).new b35 (.cells ⟨[.int .u64 9]⟩ 48 (0,0))) fun r12 h13=>∃ n54:Int,∃ l16 l17:Sl,∃ s7:ByteArray,∃ b36:Bool,parB b36 (∃ n55:Int,r12=.tuple ⟨[.agg ⟨[.int .i64 n54,.slice l16.a l16.n l16.c,.slice l17.a l17.n l17.c,.string s7,.bool true]⟩,.int .i64 n55]⟩∧∀ b37,h13 b37=none→∀ b38,(h13.new b37 (.cells ⟨[.string ⟨#[]⟩,.string (ByteArray.mk #[99])]⟩ 9 (0,0))) b38=none→T21 n n1 n2 n3 n4 n5 n6 n7 n8 n9 n10 n11 n12 n13 n14 n15 n16 n17 n18 n19 n20 n21 n22 n23 n24 n25 n26 p ⟨(some ⟨b37,0,none⟩),2,2⟩ ⟨(some ⟨b38,0,none⟩),1,1⟩ ((h13.new b37 (.cells ⟨[.string ⟨#[]⟩,.string (ByteArray.mk #[99])]⟩ 9 (0,0))).new b38 (.cells ⟨[.int .u64 7]⟩ 48 (0,0))) fun r13 h14=>∃ n56:Int,∃ l18 l19:Sl,∃ s8:ByteArray,∃ b39:Bool,parB b39 (∃ n57:Int,r13=.tuple ⟨[.agg ⟨[.int .i64 n56,.slice l18.a l18.n l18.c,.slice l19.a l19.n l19.c,.string s8,.bool true]⟩,.int .i64 n57]⟩∧par ((l2.n:Int)=1) (∃ b40 o8,(l2.a:Option Addr)=some ⟨b40,o8,none⟩∧((0:Int)≤0∧0 < (l2.n:Int))∧∃ n58:Int,h14.at b40 (o8+(0:Int).toNat*6)=some (.int .u64 n58)∧par (n58=4) (par ((l3.n:Int)=2) (∃ b41 o9,(l3.a:Option Addr)=some ⟨b41,o9,none⟩∧((0:Int)≤1∧1 < (l3.n:Int))∧∃ n59:Int,h14.at b41 (o9+(1:Int).toNat*6)=some (.int .u64 n59)∧par (n59=7) (par (s=(ByteArray.mk #[107])) (par (n55=2) (T22 n54 l16 l17 s7 true n27 l2 l3 s false h14 fun r14 h15=>∃ b42:Bool,r14=.bool b42∧parB b42 (par (n57=1) (Q (.bool true) h15) (Q (.bool false) h15)) (Q (.bool false) h15)) (Q (.bool false) h14)) (Q (.bool false) h14)) (Q (.bool false) h14)) (Q (.bool false) h14)) (Q (.bool false) h14)) (Q (.bool false) h14)) (∃ n60:Int,r13=.tuple ⟨[.agg ⟨[.int .i64 n56,.slice l18.a l18.n l18.c,.slice l19.a l19.n l19.c,.string s8,.bool false]⟩,.int .i64 n60]⟩∧par ((l2.n:Int)=1) (∃ b43 o10,(l2.a:Option Addr)=some ⟨b43,o10,none⟩∧((0:Int)≤0∧0 < (l2.n:Int))∧∃ n61:Int,h14.at b43 (o10+(0:Int).toNat*6)=some (.int .u64 n61)∧par (n61=4) (par ((l3.n:Int)=2) (∃ b44 o11,(l3.a:Option Addr)=some ⟨b44,o11,none⟩∧((0:Int)≤1∧1 < (l3.n:Int))∧∃ n62:Int,h14.at b44 (o11+(1:Int).toNat*6)=some (.int .u64 n62)∧par (n62=7) (par (s=(ByteArray.mk #[107])) (par (n55=2) (T22 n54 l16 l17 s7 true n27 l2 l3 s false h14 fun r15 h16=>∃ b45:Bool,r15=.bool b45∧parB b45 (par (n60=1) (Q (.bool true) h16) (Q (.bool false) h16)) (Q (.bool false) h16)) (Q (.bool false) h14)) (Q (.bool false) h14)) (Q (.bool false) h14)) (Q (.bool false) h14)) (Q (.bool false) h14)) (Q (.bool false) h14))) (∃ n63:Int,r12=.tuple ⟨[.agg ⟨[.int .i64 n54,.slice l16.a l16.n l16.c,.slice l17.a l17.n l17.c,.string s7,.bool false]⟩,.int .i64 n63]⟩∧∀ b46,h13 b46=none→∀ b47,(h13.new b46 (.cells ⟨[.string ⟨#[]⟩,.string (ByteArray.mk #[99])]⟩ 9 (0,0))) b47=none→T21 n n1 n2 n3 n4 n5 n6 n7 n8 n9 n10 n11 n12 n13 n14 n15 n16 n17 n18 n19 n20 n21 n22 n23 n24 n25 n26 p ⟨(some ⟨b46,0,none⟩),2,2⟩ ⟨(some ⟨b47,0,none⟩),1,1⟩ ((h13.new b46 (.cells ⟨[.string ⟨#[]⟩,.string (ByteArray.mk #[99])]⟩ 9 (0,0))).new b47 (.cells ⟨[.int .u64 7]⟩ 48 (0,0))) fun r16 h17=>∃ n64:Int,∃ l20 l21:Sl,∃ s9:ByteArray,∃ b48:Bool,parB b48 (∃ n65:Int,r16=.tuple ⟨[.agg ⟨[.int .i64 n64,.slice l20.a l20.n l20.c,.slice l21.a l21.n l21.c,.string s9,.bool true]⟩,.int .i64 n65]⟩∧par ((l2.n:Int)=1) (∃ b49 o12,(l2.a:Option Addr)=some ⟨b49,o12,none⟩∧((0:Int)≤0∧0 < (l2.n:Int))∧∃ n66:Int,h17.at b49 (o12+(0:Int).toNat*6)=some (.int .u64 n66)∧par (n66=4) (par ((l3.n:Int)=2) (∃ b50 o13,(l3.a:Option Addr)=some ⟨b50,o13,none⟩∧((0:Int)≤1∧1 < (l3.n:Int))∧∃ n67:Int,h17.at b50 (o13+(1:Int).toNat*6)=some (.int .u64 n67)∧par (n67=7) (par (s=(ByteArray.mk #[107])) (par (n63=2) (T22 n54 l16 l17 s7 false n27 l2 l3 s false h17 fun r17 h18=>∃ b51:Bool,r17=.bool b51∧parB b51 (par (n65=1) (Q (.bool true) h18) (Q (.bool false) h18)) (Q (.bool false) h18)) (Q (.bool false) h17)) (Q (.bool false) h17)) (Q (.bool false) h17)) (Q (.bool false) h17)) (Q (.bool false) h17)) (Q (.bool false) h17)) (∃ n68:Int,r16=.tuple ⟨[.agg ⟨[.int .i64 n64,.slice l20.a l20.n l20.c,.slice l21.a l21.n l21.c,.string s9,.bool false]⟩,.int .i64 n68]⟩∧par ((l2.n:Int)=1) (∃ b52 o14,(l2.a:Option Addr)=some ⟨b52,o14,none⟩∧((0:Int)≤0∧0 < (l2.n:Int))∧∃ n69:Int,h17.at b52 (o14+(0:Int).toNat*6)=some (.int .u64 n69)∧par (n69=4) (par ((l3.n:Int)=2) (∃ b53 o15,(l3.a:Option Addr)=some ⟨b53,o15,none⟩∧((0:Int)≤1∧1 < (l3.n:Int))∧∃ n70:Int,h17.at b53 (o15+(1:Int).toNat*6)=some (.int .u64 n70)∧par (n70=7) (par (s=(ByteArray.mk #[107])) (par (n63=2) (T22 n54 l16 l17 s7 false n27 l2 l3 s false h17 fun r18 h19=>∃ b54:Bool,r18=.bool b54∧parB b54 (par (n68=1) (Q (.bool true) h19) (Q (.bool false) h19)) (Q (.bool false) h19)) (Q (.bool false) h17)) (Q (.bool false) h17)) (Q (.bool false) h17)) (Q (.bool false) h17)) (Q (.bool false) h17)) (Q (.bool false) h17)))) (r5=.tuple ⟨[.agg ⟨[.int .i64 n27,.slice l2.a l2.n l2.c,.slice l3.a l3.n l3.c,.string s,.bool false]⟩,.bool false]⟩∧∀ b55,h6 b55=none→∀ b56,(h6.new b55 (.cells ⟨[.string ⟨#[]⟩,.string (ByteArray.mk #[99])]⟩ 9 (0,0))) b56=none→T21 n n1 n2 n3 n4 n5 n6 n7 n8 n9 n10 n11 n12 n13 n14 n15 n16 n17 n18 n19 n20 n21 n22 n23 n24 n25 n26 p ⟨(some ⟨b55,0,none⟩),2,2⟩ ⟨(some ⟨b56,0,none⟩),1,1⟩ ((h6.new b55 (.cells ⟨[.string ⟨#[]⟩,.string (ByteArray.mk #[99])]⟩ 9 (0,0))).new b56 (.cells ⟨[.int .u64 9]⟩ 48 (0,0))) fun r19 h20=>∃ n71:Int,∃ l22 l23:Sl,∃ s10:ByteArray,∃ b57:Bool,parB b57 (∃ n72:Int,r19=.tuple ⟨[.agg ⟨[.int .i64 n71,.slice l22.a l22.n l22.c,.slice l23.a l23.n l23.c,.string s10,.bool true]⟩,.int .i64 n72]⟩∧∀ b58,h20 b58=none→∀ b59,(h20.new b58 (.cells ⟨[.string ⟨#[]⟩,.string (ByteArray.mk #[99])]⟩ 9 (0,0))) b59=none→T21 n n1 n2 n3 n4 n5 n6 n7 n8 n9 n10 n11 n12 n13 n14 n15 n16 n17 n18 n19 n20 n21 n22 n23 n24 n25 n26 p ⟨(some ⟨b58,0,none⟩),2,2⟩ ⟨(some ⟨b59,0,none⟩),1,1⟩ ((h20.new b58 (.cells ⟨[.string ⟨#[]⟩,.string (ByteArray.mk #[99])]⟩ 9 (0,0))).new b59 (.cells ⟨[.int .u64 7]⟩ 48 (0,0))) fun r20 h21=>∃ n73:Int,∃ l24 l25:Sl,∃ s11:ByteArray,∃ b60:Bool,parB b60 (∃ n74:Int,r20=.tuple ⟨[.agg ⟨[.int .i64 n73,.slice l24.a l24.n l24.c,.slice l25.a l25.n l25.c,.string s11,.bool true]⟩,.int .i64 n74]⟩∧Q (.bool false) h21) (∃ n75:Int,r20=.tuple ⟨[.agg ⟨[.int .i64 n73,.slice l24.a l24.n l24.c,.slice l25.a l25.n l25.c,.string s11,.bool false]⟩,.int .i64 n75]⟩∧Q (.bool false) h21)) (∃ n76:Int,r19=.tuple ⟨[.agg ⟨[.int .i64 n71,.slice l22.a l22.n l22.c,.slice l23.a l23.n l23.c,.string s10,.bool false]⟩,.int .i64 n76]⟩∧∀ b61,h20 b61=none→∀ b62,(h20.new b61 (.cells ⟨[.string ⟨#[]⟩,.string (ByteArray.mk #[99])]⟩ 9 (0,0))) b62=none→T21 n n1 n2 n3 n4 n5 n6 n7 n8 n9 n10 n11 n12 n13 n14 n15 n16 n17 n18 n19 n20 n21 n22 n23 n24 n25 n26 p ⟨(some ⟨b61,0,none⟩),2,2⟩ ⟨(some ⟨b62,0,none⟩),1,1⟩ ((h20.new b61 (.cells ⟨[.string ⟨#[]⟩,.string (ByteArray.mk #[99])]⟩ 9 (0,0))).new b62 (.cells ⟨[.int .u64 7]⟩ 48 (0,0))) fun r21 h22=>∃ n77:Int,∃ l26 l27:Sl,∃ s12:ByteArray,∃ b63:Bool,parB b63 (∃ n78:Int,r21=.tuple ⟨[.agg ⟨[.int .i64 n77,.slice l26.a l26.n l26.c,.slice l27.a l27.n l27.c,.string s12,.bool true]⟩,.int .i64 n78]⟩∧Q (.bool false) h22) (∃ n79:Int,r21=.tuple ⟨[.agg ⟨[.int .i64 n77,.slice l26.a l26.n l26.c,.slice l27.a l27.n l27.c,.string s12,.bool false]⟩,.int .i64 n79]⟩∧Q (.bool false) h22))))) (Q (.bool false) h5)) (Q (.bool false) h3))
def F12.T:=F12.G F16.T F17.T F18.T F20.T F21.T F22.T F69.T
theorem F12.gen (V T16 T17 T18 T20 T21 T22 T69):denF Tryz.prog [1,3,5,7] [(16,F16.W T16),(17,F17.W T17),(18,F18.W T18),(20,F20.W T20),(21,F21.W T21),(22,F22.W T22),(69,F69.W T69)] V [] Tryz.f12 []=F12.G T16 T17 T18 T20 T21 T22 T69 :=by kernel_rfl
def F12.W (T12:PT) (args:List Value):PT:=match args with
 | []=>T12
 | _=>fun _ _=>False
def F12.V:List Value→PT:=F12.W F12.T
theorem F12.ok:FOk Tryz.prog 12 F12.V:=by
 refine ⟨⟨_,Tryz.func12,rfl,rfl⟩,fun args=>?_⟩
 unfold F12.V F12.W
 split
 ·exact denF_okE (GOk.cons F16.ok (GOk.cons F17.ok (GOk.cons F18.ok (GOk.cons F20.ok (GOk.cons F21.ok (GOk.cons F22.ok (GOk.cons F69.ok (GOk.nil)))))))) noV_ok Tryz.func12 (F12.gen noV F16.T F17.T F18.T F20.T F21.T F22.T F69.T )
 ·exact fun _ _ h=>h.elim
@[reducible] def F13.G (T29:Int→PT) (T31:Option Addr→PT) (T70:Option Addr→Int→PT) (T71:Option Addr→ByteArray→PT) (l l1:Sl):PT:=fun h Q=>
 T29 10000 h fun r h1=>∃ p:Option Addr,r=.pointer p∧T70 p (l.n:Int) h1 fun r1 h2=>∃ b:Bool,r1=.bool b∧parB b (∃ (I:Int→Hp→Prop) (m:Int→Hp→Nat),I 0 h2∧(∀ n:Int,∀ h3:Hp,I n h3→par (n < (l1.n:Int)) (T31 p h3 fun r2 h4=>∃ b1:Bool,r2=.bool b1∧parB b1 (∃ b2 o,(l1.a:Option Addr)=some ⟨b2,o,none⟩∧((0:Int)≤n∧n < (l1.n:Int))∧∃ s:ByteArray,h4.at b2 (o+n.toNat)=some (.string s)∧T71 p s h4 fun r3 h5=>I (IntKind.wrap .i64 (n+1)) h5∧m (IntKind.wrap .i64 (n+1)) h5 < m n h3) (T31 p h4 fun r4 h6=>∃ b3:Bool,r4=.bool b3∧parB b3 (Q (.bool true) h6) (Q (.bool false) h6))) (T31 p h3 fun r5 h7=>∃ b4:Bool,r5=.bool b4∧parB b4 (Q (.bool true) h7) (Q (.bool false) h7)))) (∃ (I1:Int→Hp→Prop) (m1:Int→Hp→Nat),I1 0 h2∧(∀ n1:Int,∀ h8:Hp,I1 n1 h8→par (n1 < (l1.n:Int)) (T31 p h8 fun r6 h9=>∃ b5:Bool,r6=.bool b5∧parB b5 (∃ b6 o1,(l1.a:Option Addr)=some ⟨b6,o1,none⟩∧((0:Int)≤n1∧n1 < (l1.n:Int))∧∃ s1:ByteArray,h9.at b6 (o1+n1.toNat)=some (.string s1)∧T71 p s1 h9 fun r7 h10=>I1 (IntKind.wrap .i64 (n1+1)) h10∧m1 (IntKind.wrap .i64 (n1+1)) h10 < m1 n1 h8) (T31 p h9 fun r8 h11=>∃ b7:Bool,r8=.bool b7∧parB b7 (Q (.bool true) h11) (Q (.bool false) h11))) (T31 p h8 fun r9 h12=>∃ b8:Bool,r9=.bool b8∧parB b8 (Q (.bool true) h12) (Q (.bool false) h12))))
def F13.T:=F13.G F29.T F31.T F70.T F71.T
theorem F13.gen (V T29 T31 T70 T71 l l1):denF Tryz.prog [] [(29,F29.W T29),(31,F31.W T31),(70,F70.W T70),(71,F71.W T71)] V [(122,.loop [(6,.int .i64)] [])] Tryz.f13 [.v (.slice l.a l.n l.c),.v (.slice l1.a l1.n l1.c)]=F13.G T29 T31 T70 T71 l l1:=by kernel_rfl
def F13.W (T13:Sl→Sl→PT) (args:List Value):PT:=match args with
 | [.slice l_a l_n l_c,.slice l1_a l1_n l1_c]=>T13 ⟨l_a,l_n,l_c⟩ ⟨l1_a,l1_n,l1_c⟩
 | _=>fun _ _=>False
def F13.V:List Value→PT:=F13.W F13.T
theorem F13.ok:FOk Tryz.prog 13 F13.V:=by
 refine ⟨⟨_,Tryz.func13,rfl,rfl⟩,fun args=>?_⟩
 unfold F13.V F13.W
 split
 ·exact denF_okE (GOk.cons F29.ok (GOk.cons F31.ok (GOk.cons F70.ok (GOk.cons F71.ok (GOk.nil))))) noV_ok Tryz.func13 (F13.gen noV F29.T F31.T F70.T F71.T ⟨_,_,_⟩ ⟨_,_,_⟩)
 ·exact fun _ _ h=>h.elim
def F72.T (n n1:Int):PT:=fun h Q=>
 par (n < 0) (n1≠0∧Q (.int .i64 (Int.tmod (IntKind.wrap .i64 (0 - (IntKind.wrap .i64 (n+1)))) n1)) h) (n1≠0∧Q (.int .i64 (Int.tmod n n1)) h)
theorem F72.den (V n n1):denF Tryz.prog [] [] V [] Tryz.f72 [.v (.int .i64 n),.v (.int .i64 n1)]=F72.T n n1:=by kernel_rfl
def F72.W (T72:Int→Int→PT) (args:List Value):PT:=match args with
 | [.int .i64 n,.int .i64 n1]=>T72 n n1
 | _=>fun _ _=>False
def F72.V:List Value→PT:=F72.W F72.T
theorem F72.ok:FOk Tryz.prog 72 F72.V:=by
 refine ⟨⟨_,Tryz.func72,rfl,rfl⟩,fun args=>?_⟩
 unfold F72.V F72.W
 split
 ·exact denF_okE (GOk.nil) noV_ok Tryz.func72 (F72.den noV _ _)
 ·exact fun _ _ h=>h.elim
@[reducible] def F14.G (T72:Int→Int→PT) (n n1 n2 n3 n4 n5 n6 n7 n8 n9 n10 n11 n12 n13 n14 n15 n16 n17 n18 n19 n20 n21 n22 n23 n24 n25 n26:Int):PT:=fun h Q=>
 T72 n8 3 h fun r h1=>∃ n27:Int,r=.int .i64 n27∧T72 n9 16773121 h1 fun r1 h2=>∃ n28:Int,r1=.int .i64 n28∧T72 n10 9 h2 fun r2 h3=>∃ n29:Int,r2=.int .i64 n29∧T72 n5 16 h3 fun r3 h4=>∃ n30:Int,r3=.int .i64 n30∧T72 n7 16 h4 fun r4 h5=>∃ n31:Int,r4=.int .i64 n31∧T72 n12 16 h5 fun r5 h6=>∃ n32:Int,r5=.int .i64 n32∧Q (.agg ⟨[.int .i64 n,.int .i64 n1,.int .i64 n2,.int .i64 n3,.int .i64 n4,.int .i64 (IntKind.wrap .i64 (1+n30)),.int .i64 n6,.int .i64 (iMax (iMax 2 (IntKind.wrap .i64 (1+n30))) (IntKind.wrap .i64 (1+n31))),.int .i64 (IntKind.wrap .i64 (3+n27)),.int .i64 (IntKind.wrap .i64 (4096+n28)),.int .i64 (IntKind.wrap .i64 (2+n29)),.int .i64 n11,.int .i64 (IntKind.wrap .i64 (1+n32)),.int .i64 n13,.int .i64 n14,.int .i64 n15,.int .i64 n16,.int .i64 n17,.int .i64 n18,.int .i64 n19,.int .i64 n20,.int .i64 n21,.int .i64 n22,.int .i64 n23,.int .i64 n24,.int .i64 n25,.int .i64 n26]⟩) h6
def F14.T:=F14.G F72.T
theorem F14.gen (V T72 n n1 n2 n3 n4 n5 n6 n7 n8 n9 n10 n11 n12 n13 n14 n15 n16 n17 n18 n19 n20 n21 n22 n23 n24 n25 n26):denF Tryz.prog [1,2] [(72,F72.W T72)] V [(126,.order [0,1,2,3,4,5,6,7,8])] Tryz.f14 [.v (.agg ⟨[.int .i64 n,.int .i64 n1,.int .i64 n2,.int .i64 n3,.int .i64 n4,.int .i64 n5,.int .i64 n6,.int .i64 n7,.int .i64 n8,.int .i64 n9,.int .i64 n10,.int .i64 n11,.int .i64 n12,.int .i64 n13,.int .i64 n14,.int .i64 n15,.int .i64 n16,.int .i64 n17,.int .i64 n18,.int .i64 n19,.int .i64 n20,.int .i64 n21,.int .i64 n22,.int .i64 n23,.int .i64 n24,.int .i64 n25,.int .i64 n26]⟩)]=F14.G T72 n n1 n2 n3 n4 n5 n6 n7 n8 n9 n10 n11 n12 n13 n14 n15 n16 n17 n18 n19 n20 n21 n22 n23 n24 n25 n26:=by kernel_rfl
def F14.W (T14:I9 <| I9 <| I9 <| PT) (args:List Value):PT:=match args with
 | [.agg ⟨[.int .i64 n,.int .i64 n1,.int .i64 n2,.int .i64 n3,.int .i64 n4,.int .i64 n5,.int .i64 n6,.int .i64 n7,.int .i64 n8,.int .i64 n9,.int .i64 n10,.int .i64 n11,.int .i64 n12,.int .i64 n13,.int .i64 n14,.int .i64 n15,.int .i64 n16,.int .i64 n17,.int .i64 n18,.int .i64 n19,.int .i64 n20,.int .i64 n21,.int .i64 n22,.int .i64 n23,.int .i64 n24,.int .i64 n25,.int .i64 n26]⟩]=>T14 n n1 n2 n3 n4 n5 n6 n7 n8 n9 n10 n11 n12 n13 n14 n15 n16 n17 n18 n19 n20 n21 n22 n23 n24 n25 n26
 | _=>fun _ _=>False
def F14.V:List Value→PT:=F14.W F14.T
theorem F14.ok:FOk Tryz.prog 14 F14.V:=by
 refine ⟨⟨_,Tryz.func14,rfl,rfl⟩,fun args=>?_⟩
 unfold F14.V F14.W
 split
 ·exact denF_okE (GOk.cons F72.ok (GOk.nil)) noV_ok Tryz.func14 (F14.gen noV F72.T _ _ _ _ _ _ _ _ _ _ _ _ _ _ _ _ _ _ _ _ _ _ _ _ _ _ _)
 ·exact fun _ _ h=>h.elim
@[reducible] def F15.G (T25:Int→PT) (T27:Option Addr→PT) (T33:Option Addr→Int→Int→Int→Sl→Sl→Sl→PT) (T72:Int→Int→PT) (T73:Option Addr→Int→PT) (n n1 n2 n3 n4 n5 n6 n7 n8 n9 n10 n11 n12 n13 n14 n15 n16 n17 n18 n19 n20 n21 n22 n23 n24 n25 n26:Int) (l:Sl):PT:=fun h Q=>
 T25 n8 h fun r h1=>∃ p:Option Addr,r=.pointer p∧okPtr h1 p none∧par ((p:Option Addr)=none) (Q (.tuple ⟨[.pointer none,.slice none 0 0]⟩) h1) (((0:Int)≤n8∧n8≤n8∧16*n8≤281474976710656)∧∀ b,h1 b=none→∃ J:Hp→Prop,(∀ h2:Hp,J h2→T27 p h2 fun r1 h3=>∃ p1:Option Addr,r1=.pointer p1∧∃ (I:Sl→Int→Hp→Prop) (m:Sl→Int→Hp→Nat),I ⟨none,0,0⟩ 0 h3∧(∀ l1:Sl,∀ n27:Int,∀ h4:Hp,I l1 n27 h4→par (n27 < n8) (T73 p1 n27 h4 fun r2 h5=>∃ l2:Sl,r2=.slice l2.a l2.n l2.c∧appendD l1 77 1 24 [.slice none 0 0] 1 [.slice l2.a l2.n l2.c] h5 fun l3 h6=>I l3 (IntKind.wrap .i64 (n27+1)) h6∧m l3 (IntKind.wrap .i64 (n27+1)) h6 < m l1 n27 h4) (Q (.tuple ⟨[.pointer p1,.slice l1.a l1.n l1.c]⟩) h4)))∧(∃ (I1:Int→Hp→Prop) (m1:Int→Hp→Nat),I1 0 (h1.new b (.cells (Builtin.zeroCells (List.toArray [.string ⟨#[]⟩]) (n8:Int).toNat) 9 (0,0)))∧(∀ n28:Int,∀ h7:Hp,I1 n28 h7→par (n28 < (l.n:Int)) (par (n28 < 400) (∃ b1 o,(l.a:Option Addr)=some ⟨b1,o,none⟩∧((0:Int)≤n28∧n28 < (l.n:Int))∧∃ n29:Int,h7.at b1 (o+n28.toNat*7)=some (.int .i64 n29)∧∃ n30:Int,h7.at b1 ((o+n28.toNat*7)+1)=some (.int .u64 n30)∧∃ n31:Int,h7.at b1 ((o+n28.toNat*7)+2)=some (.int .i64 n31)∧∃ n32:Int,h7.at b1 ((o+n28.toNat*7)+3)=some (.int .i64 n32)∧∃ n33:Int,h7.at b1 ((o+n28.toNat*7)+4)=some (.int .i64 n33)∧∃ s:ByteArray,h7.at b1 ((o+n28.toNat*7)+5)=some (.string s)∧∃ s1:ByteArray,h7.at b1 ((o+n28.toNat*7)+6)=some (.string s1)∧T72 n29 n8 h7 fun r3 h8=>∃ n34:Int,r3=.int .i64 n34∧T72 n31 2147483648 h8 fun r4 h9=>∃ n35:Int,r4=.int .i64 n35∧∀ b2,h9 b2=none→T33 p 0 0 0 ⟨none,0,0⟩ ⟨(some ⟨b2,0,none⟩),1,1⟩ ⟨(some ⟨b,0,none⟩),(n8:Int).toNat,(n8:Int).toNat⟩ (h9.new b2 (.cells ⟨[.int .i64 n34,.int .u64 n30,.int .i64 n35,.int .i64 n32,.int .i64 n33,.string s,.string s1]⟩ 65 (0,0))) fun r5 h10=>∃ l4:Sl,∃ n36:Int,r5=.tuple ⟨[.slice l4.a l4.n l4.c,.int .i64 n36]⟩∧I1 (IntKind.wrap .i64 (n28+1)) h10∧m1 (IntKind.wrap .i64 (n28+1)) h10 < m1 n28 h7) (J h7)) (J h7))))
def F15.T:=F15.G F25.T F27.T F33.T F72.T F73.T
theorem F15.gen (V T25 T27 T33 T72 T73 n n1 n2 n3 n4 n5 n6 n7 n8 n9 n10 n11 n12 n13 n14 n15 n16 n17 n18 n19 n20 n21 n22 n23 n24 n25 n26 l):denF Tryz.prog [2,9,65] [(25,F25.W T25),(27,F27.W T27),(33,F33.W T33),(72,F72.W T72),(73,F73.W T73)] V [(31,.join [] []),(250,.loop [(8,.int .i64)] []),(2042,.loop [(11,.sl),(12,.int .i64)] [])] Tryz.f15 [.v (.agg ⟨[.int .i64 n,.int .i64 n1,.int .i64 n2,.int .i64 n3,.int .i64 n4,.int .i64 n5,.int .i64 n6,.int .i64 n7,.int .i64 n8,.int .i64 n9,.int .i64 n10,.int .i64 n11,.int .i64 n12,.int .i64 n13,.int .i64 n14,.int .i64 n15,.int .i64 n16,.int .i64 n17,.int .i64 n18,.int .i64 n19,.int .i64 n20,.int .i64 n21,.int .i64 n22,.int .i64 n23,.int .i64 n24,.int .i64 n25,.int .i64 n26]⟩),.v (.slice l.a l.n l.c)]=F15.G T25 T27 T33 T72 T73 n n1 n2 n3 n4 n5 n6 n7 n8 n9 n10 n11 n12 n13 n14 n15 n16 n17 n18 n19 n20 n21 n22 n23 n24 n25 n26 l:=by kernel_rfl
def F15.W (T15:I9 <| I9 <| I9 <| Sl→PT) (args:List Value):PT:=match args with
 | [.agg ⟨[.int .i64 n,.int .i64 n1,.int .i64 n2,.int .i64 n3,.int .i64 n4,.int .i64 n5,.int .i64 n6,.int .i64 n7,.int .i64 n8,.int .i64 n9,.int .i64 n10,.int .i64 n11,.int .i64 n12,.int .i64 n13,.int .i64 n14,.int .i64 n15,.int .i64 n16,.int .i64 n17,.int .i64 n18,.int .i64 n19,.int .i64 n20,.int .i64 n21,.int .i64 n22,.int .i64 n23,.int .i64 n24,.int .i64 n25,.int .i64 n26]⟩,.slice l_a l_n l_c]=>T15 n n1 n2 n3 n4 n5 n6 n7 n8 n9 n10 n11 n12 n13 n14 n15 n16 n17 n18 n19 n20 n21 n22 n23 n24 n25 n26 ⟨l_a,l_n,l_c⟩
 | _=>fun _ _=>False
def F15.V:List Value→PT:=F15.W F15.T
theorem F15.ok:FOk Tryz.prog 15 F15.V:=by
 refine ⟨⟨_,Tryz.func15,rfl,rfl⟩,fun args=>?_⟩
 unfold F15.V F15.W
 split
 ·exact denF_okE (GOk.cons F25.ok (GOk.cons F27.ok (GOk.cons F33.ok (GOk.cons F72.ok (GOk.cons F73.ok (GOk.nil)))))) noV_ok Tryz.func15 (F15.gen noV F25.T F27.T F33.T F72.T F73.T _ _ _ _ _ _ _ _ _ _ _ _ _ _ _ _ _ _ _ _ _ _ _ _ _ _ _ ⟨_,_,_⟩)
 ·exact fun _ _ h=>h.elim
end Go.Eng.YtbjnlacacapjiaaGreatDoor
end
section
open Go.Proofs
namespace Go.Eng.YtbjnlacacapjiaaGreatDoor
open Go.ChangeShapes Go.WideShapes Go.RowKit
def wh (W:World):Hp:=fun b=>W.heap[b]?
theorem own_wh (W:World):Own (fun _=>none) (wh W) W:=⟨fun _ _ h=>h,fun _ _ h=>(by cases h),fun _=>.inr rfl⟩
theorem below_of {W W':World} {h':Hp} (hw:Wr W W') (ho:Own (fun _=>none) h' W') (K:Keep (wh W) h'):Below W.heap.size W W':=by
 refine ⟨hw.os,hw.tape,hw.output,hw.size,fun k hk=>?_⟩
 have h1:wh W k=some W.heap[k]:=by unfold wh; exact Array.getElem?_eq_getElem hk
 have h2:=ho.hh k _ (K k _ h1)
 rw [h2,Array.getElem?_eq_getElem hk]
theorem cell_at {W:World} {b o:Nat} {v:Value} (h:W.cell? ⟨b,o,none⟩=some v):(wh W).at b o=some v:=by
 unfold World.cell? at h
 unfold Hp.at wh
 cases hb:W.heap[b]? with
 | none=>rw [hb] at h; cases h
 | some x=>
  rw [hb] at h
  cases x with
  | cells c t f=>simpa using h
  | _=>cases h
theorem spot_none {W:World} {a:Addr} {v:Value} (h:W.cell? (a.add 0)=some v):a=⟨a.block,a.off,none⟩:=by
 obtain ⟨b,o,p⟩:=a
 cases p with
 | none=>rfl
 | some p=>
  exfalso
  unfold World.cell? at h
  simp only [Addr.add,if_pos] at h
  cases hb:W.heap[b]? with
  | none=>rw [hb] at h; cases h
  | some x=>
   rw [hb] at h
   cases x with
   | cells c t f=>simp at h
   | _=>cases h
theorem row_of_cells {W:World} {a:Addr} {n:Nat} {vs:List Value} (hl:vs.length=n) (h:∀ i,(hi:i < n)→W.cell? (a.add i)=vs[i]?):(wh W).row (some a) n vs:=by
 refine ⟨hl,?_⟩
 by_cases h0:n=0
 ·exact .inl h0
 right
 have hz:=h 0 (by omega)
 rw [List.getElem?_eq_getElem (by omega)] at hz
 have ha:=spot_none hz
 refine ⟨a.block,a.off,by rw [← ha],fun j hj=>?_⟩
 have hj':=h j hj
 rw [List.getElem?_eq_getElem (by omega)] at hj' ⊢
 rw [ha,addr_add] at hj'
 exact cell_at hj'
theorem add_add' (a:Addr) (m n:Nat):(a.add m).add n=a.add (m+n):=by
 unfold Addr.add
 by_cases h1:m=0
 ·subst h1; simp
 ·by_cases h2:n=0
  ·subst h2; simp [h1]
  ·simp [h1,h2,Nat.add_assoc]
theorem wf_i64 {n:Int} (h:(Lit.int .i64 n).wf=true):iI n:=by
 simp [Lit.wf,IntKind.min,IntKind.max,IntKind.signed,IntKind.bits] at h
 exact ⟨by omega,by omega⟩
theorem weights_mem_all {H:Type} {P:Program} {e:TypeId}:∀ {E:List (DataW H)} {d:DataW H},d∈E→∀ n∈d.weights P e,n∈DataW.weightsAll P e E
 | x::E,d,hd,n,hn=>by
  simp only [DataW.weightsAll,List.mem_append]
  rcases List.mem_cons.1 hd with rfl | hd
  ·exact .inl hn
  ·exact .inr (weights_mem_all hd n hn)
def WB {H:Type} (P:Program) (t:TypeId) (d:DataW H):Prop:=∀ n∈d.weights P t,n≤reachBytes
theorem reach_le {n:Nat} (h:n≤reachBytes):n≤140737488355328:=by have:=reachBytes_lt; omega
section
variable {H:Type} {enc:TypeId×Value→H} {P:Program} {W:World} {base:Nat} {held:Bool}
theorem slice_rowsW {α:Type} {t e:TypeId} {fuel:Nat} {s:Sl} {y:DataW H×List MemPlace} (sz:Nat) (f:α→List Value) (ok:α→Prop) (hsz:0 < sz) (ht:P.underlying t=some (.slice e)) (hc:P.cellsOf e=sz) (hf:∀ x,(f x).length=sz)
  (each:∀ (fuel:Nat) (cs:List Value) (z:DataW H×List MemPlace),cs.length=sz→DataW.trod enc P W base (fun _=>true) held fuel e cs=some z→WB P e z.1→∃ a,cs=f a∧ok a)
  (h:DataW.trod enc P W base (fun _=>true) held fuel t [.slice s.a s.n s.c]=some y) (hw:WB P t y.1):∃ l:List α,(wh W).row s.a (s.n*sz) (l.flatMap f)∧s.n≤s.c∧(s.a=none→s.n=0)∧l.length=s.n∧(s.n*P.bytesOf e≤reachBytes)∧∀ a∈l,ok a:=by
 rcases DataW.trod_slice ht h with ⟨hcs,_⟩ | ⟨x,len,cap,elems,rest,n,_,hcs,hyy,hb,hl,hm,hlen,hel,_,_⟩
 ·simp only [List.cons.injEq,Value.slice.injEq,and_true] at hcs
  obtain ⟨h1,h2,h3⟩:=hcs
  exact ⟨[],by rw [h1,h2]; exact ⟨by simp,.inl (by simp)⟩,by omega,fun _=>h2,by rw [h2]; rfl,by rw [h2]; omega,fun a ha=>(by cases ha)⟩
 ·simp only [List.cons.injEq,Value.slice.injEq,and_true] at hcs
  obtain ⟨h1,h2,h3⟩:=hcs
  have hwl:∀ n∈(DataW.slice (elems.map (·.1)) (rest.map (·.1))).weights P t,n≤reachBytes:=by rw [hyy] at hw; exact hw
  have hws:(DataW.slice (elems.map (·.1)) (rest.map (·.1))).weights P t=((elems.map (·.1)).length+(rest.map (·.1)).length)*P.bytesOf e::(DataW.weightsAll P e (elems.map (·.1))++DataW.weightsAll P e (rest.map (·.1))):=by simp [DataW.weights,ht]
  have ea:∀ i:Fin len,∃ a:α,(∀ j,j < sz→W.cell? (x.add (i.1*sz+j))=(f a)[j]?)∧ok a:=by
   rintro ⟨i,hi⟩
   have q:=hel i hi
   rw [hc,List.getElem?_eq_getElem (by omega),Option.bind_eq_some_iff] at q
   obtain ⟨cs',hcs',hy⟩:=q
   obtain ⟨_,hcl,hcell⟩:=World.cells?_some hcs'
   obtain ⟨a,rfl,hok⟩:=each _ _ _ hcl hy (fun m hm=>hwl m (by
    rw [hws]
    refine List.mem_cons_of_mem _ (List.mem_append_left _ (weights_mem_all (List.mem_map_of_mem (List.getElem_mem (l:=elems) (n:=i) (by omega))) m hm))))
   refine ⟨a,fun j hj=>?_,hok⟩
   rw [← hcell j hj,add_add']
  obtain ⟨g,hg⟩:=Classical.axiomOfChoice ea
  refine ⟨List.ofFn g,?_,by omega,fun hn=>(by rw [h1] at hn; cases hn),by rw [List.length_ofFn]; omega,?_,fun a ha=>?_⟩
  ·rw [h1,h2]
   have hll:((List.ofFn g).flatMap f).length=len*sz:=by rw [flat_length f sz hf,List.length_ofFn]
   refine row_of_cells hll fun k hk=>?_
   have hi:k / sz < len:=Nat.div_lt_of_lt_mul (by rw [Nat.mul_comm]; exact hk)
   have hj:k % sz < sz:=Nat.mod_lt _ hsz
   have hkk:k=k / sz*sz+k % sz:=by rw [Nat.mul_comm]; exact (Nat.div_add_mod k sz).symm
   have q:=(hg ⟨k / sz,hi⟩).1 (k % sz) hj
   have q2:=flat_get f sz hf (List.ofFn g) (k / sz) (k % sz) (by rw [List.length_ofFn]; exact hi) hj
   simp only at q
   rw [← hkk] at q q2
   rw [q,q2]
   simp
  ·have:=hwl _ (by rw [hws]; exact List.mem_cons_self)
   rw [List.length_map,List.length_map] at this
   exact Nat.le_trans (Nat.mul_le_mul_right _ (by omega)) this
  ·obtain ⟨i,rfl⟩:=(List.mem_ofFn ..).1 ha
   exact (hg i).2
theorem some_at {xs:List (DataW H×List MemPlace)} {n i:Nat} (h:xs.length=n) (hi:i < n):∃ y,xs[i]?=some y:=⟨_,List.getElem?_eq_getElem (by omega)⟩
end
section
variable {H:Type} {enc:TypeId×Value→H} {W:World} {base:Nat} {held:Bool}
theorem flat_one {α:Type} (g:α→Value):∀ l:List α,l.flatMap (fun x=>[g x])=l.map g
 | []=>rfl
 | a::l=>by rw [List.flatMap_cons,flat_one g l]; rfl
theorem c3:Tryz.prog.cellsOf 3=1:=by kernel_rfl
theorem c9:Tryz.prog.cellsOf 9=1:=by kernel_rfl
theorem c33:Tryz.prog.cellsOf 48=1:=by kernel_rfl
theorem c47:Tryz.prog.cellsOf 63=6:=by kernel_rfl
theorem c49:Tryz.prog.cellsOf 65=7:=by kernel_rfl
theorem c58:Tryz.prog.cellsOf 68=27:=by kernel_rfl
theorem b9:Tryz.prog.bytesOf 9=16:=by kernel_rfl
theorem b49:Tryz.prog.bytesOf 65=72:=by kernel_rfl
theorem wf_u64 {n:Int} (h:(Lit.int .u64 n).wf=true):okU n:=by
 simp [Lit.wf,IntKind.min,IntKind.max,IntKind.signed,IntKind.bits] at h
 exact ⟨by omega,by omega⟩
theorem int_cell {fuel:Nat} {c:Value} {y:DataW H×List MemPlace} (h:DataW.trod enc Tryz.prog W base (fun _=>true) held fuel 3 [c]=some y):∃ n,c=.int .i64 n∧iI n:=by
 obtain ⟨n,hn,_,hw⟩:=DataW.trod_int Tryz.underlying3 h
 exact ⟨n,by simpa using hn,wf_i64 hw⟩
theorem num_cell {fuel:Nat} {c:Value} {y:DataW H×List MemPlace} (h:DataW.trod enc Tryz.prog W base (fun _=>true) held fuel 48 [c]=some y):∃ n,c=.int .u64 n∧okU n:=by
 obtain ⟨n,hn,_,hw⟩:=DataW.trod_int Tryz.underlying48 h
 exact ⟨n,by simpa using hn,wf_u64 hw⟩
theorem str_cell {fuel : Nat} {c : Value} {y : DataW H × List MemPlace} (h : DataW.trod enc Tryz.prog W base (fun _ => true) held fuel 9 [c] = some y) : ∃ s : ByteArray, c = .string s ∧ s.size ≤ 9223372036854775807 := by
  obtain ⟨s, hn, _, hw⟩ := DataW.trod_string Tryz.underlying9 h
  exact ⟨s, by simpa using hn, by have : maxLen = 9223372036854775807 := by decide
                                  omega⟩
def okP (p:Placed):Prop:=iI p.lv∧okU p.num∧iI p.weight∧iI p.bytes∧iI p.entries∧p.least.size≤9223372036854775807∧p.greatest.size≤9223372036854775807
theorem placed_each (fuel:Nat) (cs:List Value) (z:DataW H×List MemPlace) (hl:cs.length=7) (h:DataW.trod enc Tryz.prog W base (fun _=>true) held fuel 65 cs=some z) (hw:WB Tryz.prog 65 z.1):∃ p:Placed,cs=p.cells∧okP p:=by
 obtain ⟨xs,n,_,rfl,_,hxs,hf⟩:=DataW.trod_struct Tryz.underlying65 h
 rcases cs with _ | ⟨a0,_ | ⟨a1,_ | ⟨a2,_ | ⟨a3,_ | ⟨a4,_ | ⟨a5,_ | ⟨a6,_ | ⟨a7,cs⟩⟩⟩⟩⟩⟩⟩⟩
 case cons.cons.cons.cons.cons.cons.cons.nil=>
  obtain ⟨y0,h0⟩:=some_at hxs (i:=0) (by decide)
  obtain ⟨y1,h1⟩:=some_at hxs (i:=1) (by decide)
  have f0:DataW.trod enc Tryz.prog W base (fun _=>true) held n 3 (([a0,a1,a2,a3,a4,a5,a6].drop 0).take (Tryz.prog.cellsOf 3))=xs[0]?:=hf 0 _ rfl
  have f1:DataW.trod enc Tryz.prog W base (fun _=>true) held n 63 (([a0,a1,a2,a3,a4,a5,a6].drop 1).take (Tryz.prog.cellsOf 63))=xs[1]?:=hf 1 _ rfl
  rw [c3,h0] at f0
  rw [c47,h1] at f1
  have f1:DataW.trod enc Tryz.prog W base (fun _=>true) held n 63 [a1,a2,a3,a4,a5,a6]=some y1:=f1
  obtain ⟨ys,m,_,_,_,hys,hg⟩:=DataW.trod_struct Tryz.underlying63 f1
  obtain ⟨ye0,he0⟩:=some_at hys (i:=0) (by decide)
  have e0:DataW.trod enc Tryz.prog W base (fun _=>true) held m 48 (([a1,a2,a3,a4,a5,a6].drop 0).take (Tryz.prog.cellsOf 48))=ys[0]?:=hg 0 _ rfl
  rw [c33,he0] at e0
  obtain ⟨ye1,he1⟩:=some_at hys (i:=1) (by decide)
  have e1:DataW.trod enc Tryz.prog W base (fun _=>true) held m 3 (([a1,a2,a3,a4,a5,a6].drop 1).take (Tryz.prog.cellsOf 3))=ys[1]?:=hg 1 _ rfl
  rw [c3,he1] at e1
  obtain ⟨ye2,he2⟩:=some_at hys (i:=2) (by decide)
  have e2:DataW.trod enc Tryz.prog W base (fun _=>true) held m 3 (([a1,a2,a3,a4,a5,a6].drop 2).take (Tryz.prog.cellsOf 3))=ys[2]?:=hg 2 _ rfl
  rw [c3,he2] at e2
  obtain ⟨ye3,he3⟩:=some_at hys (i:=3) (by decide)
  have e3:DataW.trod enc Tryz.prog W base (fun _=>true) held m 3 (([a1,a2,a3,a4,a5,a6].drop 3).take (Tryz.prog.cellsOf 3))=ys[3]?:=hg 3 _ rfl
  rw [c3,he3] at e3
  obtain ⟨ye4,he4⟩:=some_at hys (i:=4) (by decide)
  have e4:DataW.trod enc Tryz.prog W base (fun _=>true) held m 9 (([a1,a2,a3,a4,a5,a6].drop 4).take (Tryz.prog.cellsOf 9))=ys[4]?:=hg 4 _ rfl
  rw [c9,he4] at e4
  obtain ⟨ye5,he5⟩:=some_at hys (i:=5) (by decide)
  have e5:DataW.trod enc Tryz.prog W base (fun _=>true) held m 9 (([a1,a2,a3,a4,a5,a6].drop 5).take (Tryz.prog.cellsOf 9))=ys[5]?:=hg 5 _ rfl
  rw [c9,he5] at e5
  obtain ⟨n0,rfl,g0⟩:=int_cell (c:=a0) f0
  obtain ⟨n1,rfl,g1⟩:=num_cell (c:=a1) e0
  obtain ⟨n2,rfl,g2⟩:=int_cell (c:=a2) e1
  obtain ⟨n3,rfl,g3⟩:=int_cell (c:=a3) e2
  obtain ⟨n4,rfl,g4⟩:=int_cell (c:=a4) e3
  obtain ⟨s5,rfl,g5⟩:=str_cell (c:=a5) e4
  obtain ⟨s6,rfl,g6⟩:=str_cell (c:=a6) e5
  exact ⟨⟨n0,n1,n2,n3,n4,s5,s6⟩,rfl,g0,g1,g2,g3,g4,g5,g6⟩
 all_goals simp at hl
theorem open_placed {fuel:Nat} {a:Option Addr} {len cap:Nat} {y:DataW H×List MemPlace} (h:DataW.trod enc Tryz.prog W base (fun _=>true) held fuel 50 [.slice a len cap]=some y) (hw:WB Tryz.prog 50 y.1):∃ L:List Placed,(wh W).row a (len*7) (inV L)∧len≤140737488355328∧len≤cap∧L.length=len∧∀ p∈L,okP p:=by
 obtain ⟨L,r,hc,_,hl,hb,k⟩:=slice_rowsW (s:=⟨a,len,cap⟩) 7 Placed.cells okP (by decide) Tryz.underlying50 c49 (fun _=>rfl) placed_each h hw
 rw [b49] at hb
 dsimp only at hb hl r
 exact ⟨L,r,by have:=reach_le hb; omega,hc,hl,k⟩
theorem open_texts {fuel:Nat} {a:Option Addr} {len cap:Nat} {y:DataW H×List MemPlace} (h:DataW.trod enc Tryz.prog W base (fun _=>true) held fuel 51 [.slice a len cap]=some y) (hw:WB Tryz.prog 51 y.1):∃ L:List ByteArray,(wh W).row a len (ptrV L)∧len≤140737488355328∧L.length=len∧∀ s∈L,s.size≤9223372036854775807:=by
 obtain ⟨L,r,_,_,hl,hb,k⟩:=slice_rowsW (s:=⟨a,len,cap⟩) 1 (fun s:ByteArray=>[Value.string s]) (fun s=>s.size≤9223372036854775807) (by decide) Tryz.underlying51 c9 (fun _=>rfl) (fun fuel cs z hl h _=>by
  rcases cs with _ | ⟨a,_ | ⟨a1,cs⟩⟩
  ·cases hl
  ·obtain ⟨s,rfl,hs⟩:=str_cell h
   exact ⟨s,rfl,hs⟩
  ·simp at hl) h hw
 rw [b9] at hb
 dsimp only at hb hl r
 rw [flat_one,Nat.mul_one] at r
 exact ⟨L,r,by have:=reach_le hb; omega,hl,k⟩
theorem list27:∀ {cs:List Value},cs.length=27→∃ a0 a1 a2 a3 a4 a5 a6 a7 a8 a9 a10 a11 a12 a13 a14 a15 a16 a17 a18 a19 a20 a21 a22 a23 a24 a25 a26,cs=[a0,a1,a2,a3,a4,a5,a6,a7,a8,a9,a10,a11,a12,a13,a14,a15,a16,a17,a18,a19,a20,a21,a22,a23,a24,a25,a26]
 | [a0,a1,a2,a3,a4,a5,a6,a7,a8,a9,a10,a11,a12,a13,a14,a15,a16,a17,a18,a19,a20,a21,a22,a23,a24,a25,a26],_=>⟨_,_,_,_,_,_,_,_,_,_,_,_,_,_,_,_,_,_,_,_,_,_,_,_,_,_,_,rfl⟩
set_option maxHeartbeats 2000000 in
theorem open_config {fuel:Nat} {cs:List Value} {y:DataW H×List MemPlace} (hl:cs.length=27) (h:DataW.trod enc Tryz.prog W base (fun _=>true) held fuel 68 cs=some y):∃ m0 m1 m2 m3 m4 m5 m6 m7 m8 m9 m10 m11 m12 m13 m14 m15 m16 m17 m18 m19 m20 m21 m22 m23 m24 m25 m26:Int,cs=[.int .i64 m0,.int .i64 m1,.int .i64 m2,.int .i64 m3,.int .i64 m4,.int .i64 m5,.int .i64 m6,.int .i64 m7,.int .i64 m8,.int .i64 m9,.int .i64 m10,.int .i64 m11,.int .i64 m12,.int .i64 m13,.int .i64 m14,.int .i64 m15,.int .i64 m16,.int .i64 m17,.int .i64 m18,.int .i64 m19,.int .i64 m20,.int .i64 m21,.int .i64 m22,.int .i64 m23,.int .i64 m24,.int .i64 m25,.int .i64 m26]∧(∀ x∈[m0,m1,m2,m3,m4,m5,m6,m7,m8,m9,m10,m11,m12,m13,m14,m15,m16,m17,m18,m19,m20,m21,m22,m23,m24,m25,m26],iI x):=by
 obtain ⟨xs,n,_,rfl,_,hxs,hf⟩:=DataW.trod_struct Tryz.underlying68 h
 obtain ⟨a0,a1,a2,a3,a4,a5,a6,a7,a8,a9,a10,a11,a12,a13,a14,a15,a16,a17,a18,a19,a20,a21,a22,a23,a24,a25,a26,rfl⟩:=list27 hl
 obtain ⟨yf0,hf0⟩:=some_at hxs (i:=0) (by decide)
 have f0:DataW.trod enc Tryz.prog W base (fun _=>true) held n 3 (([a0,a1,a2,a3,a4,a5,a6,a7,a8,a9,a10,a11,a12,a13,a14,a15,a16,a17,a18,a19,a20,a21,a22,a23,a24,a25,a26].drop 0).take (Tryz.prog.cellsOf 3))=xs[0]?:=hf 0 _ rfl
 rw [c3,hf0] at f0
 obtain ⟨yf1,hf1⟩:=some_at hxs (i:=1) (by decide)
 have f1:DataW.trod enc Tryz.prog W base (fun _=>true) held n 3 (([a0,a1,a2,a3,a4,a5,a6,a7,a8,a9,a10,a11,a12,a13,a14,a15,a16,a17,a18,a19,a20,a21,a22,a23,a24,a25,a26].drop 1).take (Tryz.prog.cellsOf 3))=xs[1]?:=hf 1 _ rfl
 rw [c3,hf1] at f1
 obtain ⟨yf2,hf2⟩:=some_at hxs (i:=2) (by decide)
 have f2:DataW.trod enc Tryz.prog W base (fun _=>true) held n 3 (([a0,a1,a2,a3,a4,a5,a6,a7,a8,a9,a10,a11,a12,a13,a14,a15,a16,a17,a18,a19,a20,a21,a22,a23,a24,a25,a26].drop 2).take (Tryz.prog.cellsOf 3))=xs[2]?:=hf 2 _ rfl
 rw [c3,hf2] at f2
 obtain ⟨yf3,hf3⟩:=some_at hxs (i:=3) (by decide)
 have f3:DataW.trod enc Tryz.prog W base (fun _=>true) held n 3 (([a0,a1,a2,a3,a4,a5,a6,a7,a8,a9,a10,a11,a12,a13,a14,a15,a16,a17,a18,a19,a20,a21,a22,a23,a24,a25,a26].drop 3).take (Tryz.prog.cellsOf 3))=xs[3]?:=hf 3 _ rfl
 rw [c3,hf3] at f3
 obtain ⟨yf4,hf4⟩:=some_at hxs (i:=4) (by decide)
 have f4:DataW.trod enc Tryz.prog W base (fun _=>true) held n 3 (([a0,a1,a2,a3,a4,a5,a6,a7,a8,a9,a10,a11,a12,a13,a14,a15,a16,a17,a18,a19,a20,a21,a22,a23,a24,a25,a26].drop 4).take (Tryz.prog.cellsOf 3))=xs[4]?:=hf 4 _ rfl
 rw [c3,hf4] at f4
 obtain ⟨yf5,hf5⟩:=some_at hxs (i:=5) (by decide)
 have f5:DataW.trod enc Tryz.prog W base (fun _=>true) held n 3 (([a0,a1,a2,a3,a4,a5,a6,a7,a8,a9,a10,a11,a12,a13,a14,a15,a16,a17,a18,a19,a20,a21,a22,a23,a24,a25,a26].drop 5).take (Tryz.prog.cellsOf 3))=xs[5]?:=hf 5 _ rfl
 rw [c3,hf5] at f5
 obtain ⟨yf6,hf6⟩:=some_at hxs (i:=6) (by decide)
 have f6:DataW.trod enc Tryz.prog W base (fun _=>true) held n 3 (([a0,a1,a2,a3,a4,a5,a6,a7,a8,a9,a10,a11,a12,a13,a14,a15,a16,a17,a18,a19,a20,a21,a22,a23,a24,a25,a26].drop 6).take (Tryz.prog.cellsOf 3))=xs[6]?:=hf 6 _ rfl
 rw [c3,hf6] at f6
 obtain ⟨yf7,hf7⟩:=some_at hxs (i:=7) (by decide)
 have f7:DataW.trod enc Tryz.prog W base (fun _=>true) held n 3 (([a0,a1,a2,a3,a4,a5,a6,a7,a8,a9,a10,a11,a12,a13,a14,a15,a16,a17,a18,a19,a20,a21,a22,a23,a24,a25,a26].drop 7).take (Tryz.prog.cellsOf 3))=xs[7]?:=hf 7 _ rfl
 rw [c3,hf7] at f7
 obtain ⟨yf8,hf8⟩:=some_at hxs (i:=8) (by decide)
 have f8:DataW.trod enc Tryz.prog W base (fun _=>true) held n 3 (([a0,a1,a2,a3,a4,a5,a6,a7,a8,a9,a10,a11,a12,a13,a14,a15,a16,a17,a18,a19,a20,a21,a22,a23,a24,a25,a26].drop 8).take (Tryz.prog.cellsOf 3))=xs[8]?:=hf 8 _ rfl
 rw [c3,hf8] at f8
 obtain ⟨yf9,hf9⟩:=some_at hxs (i:=9) (by decide)
 have f9:DataW.trod enc Tryz.prog W base (fun _=>true) held n 3 (([a0,a1,a2,a3,a4,a5,a6,a7,a8,a9,a10,a11,a12,a13,a14,a15,a16,a17,a18,a19,a20,a21,a22,a23,a24,a25,a26].drop 9).take (Tryz.prog.cellsOf 3))=xs[9]?:=hf 9 _ rfl
 rw [c3,hf9] at f9
 obtain ⟨yf10,hf10⟩:=some_at hxs (i:=10) (by decide)
 have f10:DataW.trod enc Tryz.prog W base (fun _=>true) held n 3 (([a0,a1,a2,a3,a4,a5,a6,a7,a8,a9,a10,a11,a12,a13,a14,a15,a16,a17,a18,a19,a20,a21,a22,a23,a24,a25,a26].drop 10).take (Tryz.prog.cellsOf 3))=xs[10]?:=hf 10 _ rfl
 rw [c3,hf10] at f10
 obtain ⟨yf11,hf11⟩:=some_at hxs (i:=11) (by decide)
 have f11:DataW.trod enc Tryz.prog W base (fun _=>true) held n 3 (([a0,a1,a2,a3,a4,a5,a6,a7,a8,a9,a10,a11,a12,a13,a14,a15,a16,a17,a18,a19,a20,a21,a22,a23,a24,a25,a26].drop 11).take (Tryz.prog.cellsOf 3))=xs[11]?:=hf 11 _ rfl
 rw [c3,hf11] at f11
 obtain ⟨yf12,hf12⟩:=some_at hxs (i:=12) (by decide)
 have f12:DataW.trod enc Tryz.prog W base (fun _=>true) held n 3 (([a0,a1,a2,a3,a4,a5,a6,a7,a8,a9,a10,a11,a12,a13,a14,a15,a16,a17,a18,a19,a20,a21,a22,a23,a24,a25,a26].drop 12).take (Tryz.prog.cellsOf 3))=xs[12]?:=hf 12 _ rfl
 rw [c3,hf12] at f12
 obtain ⟨yf13,hf13⟩:=some_at hxs (i:=13) (by decide)
 have f13:DataW.trod enc Tryz.prog W base (fun _=>true) held n 3 (([a0,a1,a2,a3,a4,a5,a6,a7,a8,a9,a10,a11,a12,a13,a14,a15,a16,a17,a18,a19,a20,a21,a22,a23,a24,a25,a26].drop 13).take (Tryz.prog.cellsOf 3))=xs[13]?:=hf 13 _ rfl
 rw [c3,hf13] at f13
 obtain ⟨yf14,hf14⟩:=some_at hxs (i:=14) (by decide)
 have f14:DataW.trod enc Tryz.prog W base (fun _=>true) held n 3 (([a0,a1,a2,a3,a4,a5,a6,a7,a8,a9,a10,a11,a12,a13,a14,a15,a16,a17,a18,a19,a20,a21,a22,a23,a24,a25,a26].drop 14).take (Tryz.prog.cellsOf 3))=xs[14]?:=hf 14 _ rfl
 rw [c3,hf14] at f14
 obtain ⟨yf15,hf15⟩:=some_at hxs (i:=15) (by decide)
 have f15:DataW.trod enc Tryz.prog W base (fun _=>true) held n 3 (([a0,a1,a2,a3,a4,a5,a6,a7,a8,a9,a10,a11,a12,a13,a14,a15,a16,a17,a18,a19,a20,a21,a22,a23,a24,a25,a26].drop 15).take (Tryz.prog.cellsOf 3))=xs[15]?:=hf 15 _ rfl
 rw [c3,hf15] at f15
 obtain ⟨yf16,hf16⟩:=some_at hxs (i:=16) (by decide)
 have f16:DataW.trod enc Tryz.prog W base (fun _=>true) held n 3 (([a0,a1,a2,a3,a4,a5,a6,a7,a8,a9,a10,a11,a12,a13,a14,a15,a16,a17,a18,a19,a20,a21,a22,a23,a24,a25,a26].drop 16).take (Tryz.prog.cellsOf 3))=xs[16]?:=hf 16 _ rfl
 rw [c3,hf16] at f16
 obtain ⟨yf17,hf17⟩:=some_at hxs (i:=17) (by decide)
 have f17:DataW.trod enc Tryz.prog W base (fun _=>true) held n 3 (([a0,a1,a2,a3,a4,a5,a6,a7,a8,a9,a10,a11,a12,a13,a14,a15,a16,a17,a18,a19,a20,a21,a22,a23,a24,a25,a26].drop 17).take (Tryz.prog.cellsOf 3))=xs[17]?:=hf 17 _ rfl
 rw [c3,hf17] at f17
 obtain ⟨yf18,hf18⟩:=some_at hxs (i:=18) (by decide)
 have f18:DataW.trod enc Tryz.prog W base (fun _=>true) held n 3 (([a0,a1,a2,a3,a4,a5,a6,a7,a8,a9,a10,a11,a12,a13,a14,a15,a16,a17,a18,a19,a20,a21,a22,a23,a24,a25,a26].drop 18).take (Tryz.prog.cellsOf 3))=xs[18]?:=hf 18 _ rfl
 rw [c3,hf18] at f18
 obtain ⟨yf19,hf19⟩:=some_at hxs (i:=19) (by decide)
 have f19:DataW.trod enc Tryz.prog W base (fun _=>true) held n 3 (([a0,a1,a2,a3,a4,a5,a6,a7,a8,a9,a10,a11,a12,a13,a14,a15,a16,a17,a18,a19,a20,a21,a22,a23,a24,a25,a26].drop 19).take (Tryz.prog.cellsOf 3))=xs[19]?:=hf 19 _ rfl
 rw [c3,hf19] at f19
 obtain ⟨yf20,hf20⟩:=some_at hxs (i:=20) (by decide)
 have f20:DataW.trod enc Tryz.prog W base (fun _=>true) held n 3 (([a0,a1,a2,a3,a4,a5,a6,a7,a8,a9,a10,a11,a12,a13,a14,a15,a16,a17,a18,a19,a20,a21,a22,a23,a24,a25,a26].drop 20).take (Tryz.prog.cellsOf 3))=xs[20]?:=hf 20 _ rfl
 rw [c3,hf20] at f20
 obtain ⟨yf21,hf21⟩:=some_at hxs (i:=21) (by decide)
 have f21:DataW.trod enc Tryz.prog W base (fun _=>true) held n 3 (([a0,a1,a2,a3,a4,a5,a6,a7,a8,a9,a10,a11,a12,a13,a14,a15,a16,a17,a18,a19,a20,a21,a22,a23,a24,a25,a26].drop 21).take (Tryz.prog.cellsOf 3))=xs[21]?:=hf 21 _ rfl
 rw [c3,hf21] at f21
 obtain ⟨yf22,hf22⟩:=some_at hxs (i:=22) (by decide)
 have f22:DataW.trod enc Tryz.prog W base (fun _=>true) held n 3 (([a0,a1,a2,a3,a4,a5,a6,a7,a8,a9,a10,a11,a12,a13,a14,a15,a16,a17,a18,a19,a20,a21,a22,a23,a24,a25,a26].drop 22).take (Tryz.prog.cellsOf 3))=xs[22]?:=hf 22 _ rfl
 rw [c3,hf22] at f22
 obtain ⟨yf23,hf23⟩:=some_at hxs (i:=23) (by decide)
 have f23:DataW.trod enc Tryz.prog W base (fun _=>true) held n 3 (([a0,a1,a2,a3,a4,a5,a6,a7,a8,a9,a10,a11,a12,a13,a14,a15,a16,a17,a18,a19,a20,a21,a22,a23,a24,a25,a26].drop 23).take (Tryz.prog.cellsOf 3))=xs[23]?:=hf 23 _ rfl
 rw [c3,hf23] at f23
 obtain ⟨yf24,hf24⟩:=some_at hxs (i:=24) (by decide)
 have f24:DataW.trod enc Tryz.prog W base (fun _=>true) held n 3 (([a0,a1,a2,a3,a4,a5,a6,a7,a8,a9,a10,a11,a12,a13,a14,a15,a16,a17,a18,a19,a20,a21,a22,a23,a24,a25,a26].drop 24).take (Tryz.prog.cellsOf 3))=xs[24]?:=hf 24 _ rfl
 rw [c3,hf24] at f24
 obtain ⟨yf25,hf25⟩:=some_at hxs (i:=25) (by decide)
 have f25:DataW.trod enc Tryz.prog W base (fun _=>true) held n 3 (([a0,a1,a2,a3,a4,a5,a6,a7,a8,a9,a10,a11,a12,a13,a14,a15,a16,a17,a18,a19,a20,a21,a22,a23,a24,a25,a26].drop 25).take (Tryz.prog.cellsOf 3))=xs[25]?:=hf 25 _ rfl
 rw [c3,hf25] at f25
 obtain ⟨yf26,hf26⟩:=some_at hxs (i:=26) (by decide)
 have f26:DataW.trod enc Tryz.prog W base (fun _=>true) held n 3 (([a0,a1,a2,a3,a4,a5,a6,a7,a8,a9,a10,a11,a12,a13,a14,a15,a16,a17,a18,a19,a20,a21,a22,a23,a24,a25,a26].drop 26).take (Tryz.prog.cellsOf 3))=xs[26]?:=hf 26 _ rfl
 rw [c3,hf26] at f26
 obtain ⟨k0,rfl,g0⟩:=int_cell (c:=a0) f0
 obtain ⟨k1,rfl,g1⟩:=int_cell (c:=a1) f1
 obtain ⟨k2,rfl,g2⟩:=int_cell (c:=a2) f2
 obtain ⟨k3,rfl,g3⟩:=int_cell (c:=a3) f3
 obtain ⟨k4,rfl,g4⟩:=int_cell (c:=a4) f4
 obtain ⟨k5,rfl,g5⟩:=int_cell (c:=a5) f5
 obtain ⟨k6,rfl,g6⟩:=int_cell (c:=a6) f6
 obtain ⟨k7,rfl,g7⟩:=int_cell (c:=a7) f7
 obtain ⟨k8,rfl,g8⟩:=int_cell (c:=a8) f8
 obtain ⟨k9,rfl,g9⟩:=int_cell (c:=a9) f9
 obtain ⟨k10,rfl,g10⟩:=int_cell (c:=a10) f10
 obtain ⟨k11,rfl,g11⟩:=int_cell (c:=a11) f11
 obtain ⟨k12,rfl,g12⟩:=int_cell (c:=a12) f12
 obtain ⟨k13,rfl,g13⟩:=int_cell (c:=a13) f13
 obtain ⟨k14,rfl,g14⟩:=int_cell (c:=a14) f14
 obtain ⟨k15,rfl,g15⟩:=int_cell (c:=a15) f15
 obtain ⟨k16,rfl,g16⟩:=int_cell (c:=a16) f16
 obtain ⟨k17,rfl,g17⟩:=int_cell (c:=a17) f17
 obtain ⟨k18,rfl,g18⟩:=int_cell (c:=a18) f18
 obtain ⟨k19,rfl,g19⟩:=int_cell (c:=a19) f19
 obtain ⟨k20,rfl,g20⟩:=int_cell (c:=a20) f20
 obtain ⟨k21,rfl,g21⟩:=int_cell (c:=a21) f21
 obtain ⟨k22,rfl,g22⟩:=int_cell (c:=a22) f22
 obtain ⟨k23,rfl,g23⟩:=int_cell (c:=a23) f23
 obtain ⟨k24,rfl,g24⟩:=int_cell (c:=a24) f24
 obtain ⟨k25,rfl,g25⟩:=int_cell (c:=a25) f25
 obtain ⟨k26,rfl,g26⟩:=int_cell (c:=a26) f26
 refine ⟨k0,k1,k2,k3,k4,k5,k6,k7,k8,k9,k10,k11,k12,k13,k14,k15,k16,k17,k18,k19,k20,k21,k22,k23,k24,k25,k26,rfl,fun x hx=>?_⟩
 simp only [List.mem_cons,List.not_mem_nil,or_false] at hx
 rcases hx with rfl | rfl | rfl | rfl | rfl | rfl | rfl | rfl | rfl | rfl | rfl | rfl | rfl | rfl | rfl | rfl | rfl | rfl | rfl | rfl | rfl | rfl | rfl | rfl | rfl | rfl | rfl
 all_goals assumption
theorem wb_arg {ts:List TypeId} {ds:List (DataW H)} (h:(DataW.weightsEach Tryz.prog ts ds).all (·≤reachBytes)=true) {j:Nat} {t:TypeId} {d:DataW H} (ht:ts[j]?=some t) (hd:ds[j]?=some d):WB Tryz.prog t d:=fun n hn=>by
 have:=List.all_eq_true.1 h _ (DataW.weights_mem_each ht hd n hn)
 simpa using this
end
end Go.Eng.YtbjnlacacapjiaaGreatDoor
end
section
namespace Go.Eng
def NewB (g:Hp) (s:Sl):Prop:=s.a=none∨∃ b,s.a=some ⟨b,0,none⟩∧g b=none
theorem NewB.mono {g h:Hp} (d:∀ k,h k=none→g k=none) {s:Sl} (N:NewB h s):NewB g s:=N.imp id fun ⟨b,e,n⟩=>⟨b,e,d b n⟩
theorem NewB.off {g:Hp} {s r:Sl} {sz t:Nat} {vs:List Value} (N:NewB g s) (B:Buf g r sz t vs):Off r s∧Off s r:=by
 rcases B.own with ⟨ha,_⟩ | ⟨b,c,f,ha,hb,_⟩
 ·exact ⟨fun k o o' e=>(by rw [ha] at e; cases e),fun k o o' _ e=>(by rw [ha] at e; cases e)⟩
 ·rcases N with hn | ⟨b',hb',hn⟩
  ·exact ⟨fun k o o' _ e=>(by rw [hn] at e; cases e),fun k o o' e=>(by rw [hn] at e; cases e)⟩
  ·have:b≠b':=fun e=>by rw [e,hn] at hb; cases hb
   refine ⟨fun k o o' e1 e2=>this ?_,fun k o o' e1 e2=>this ?_⟩
   ·rw [ha] at e1; rw [hb'] at e2
    simp only [Option.some.injEq,Addr.mk.injEq] at e1 e2
    rw [e1.1,e2.1]
   ·rw [hb'] at e1; rw [ha] at e2
    simp only [Option.some.injEq,Addr.mk.injEq] at e1 e2
    rw [e1.1,e2.1]
theorem keepB {g h h':Hp} (K:Keep g h) {s s':Sl} (N:NewB g s) (U:Upd h h' s s'):Keep g h':=fun k x e=>U.keep k x (fun o hs=>by
 rcases N with hn | ⟨b,hb,hn⟩
 ·rw [hn] at hs; cases hs
 ·rw [hb] at hs
  simp only [Option.some.injEq,Addr.mk.injEq] at hs
  rw [← hs.1,hn] at e; cases e) (K k x e)
theorem newB {g h h':Hp} (K:Keep g h) {s s':Sl} (N:NewB g s) (U:Upd h h' s s'):NewB g s':=by
 rcases U.at_ with h0 | ⟨b,hb,hn⟩
 ·unfold NewB; rw [h0]; exact N
 ·exact .inr ⟨b,hb,K.dom b hn⟩
structure Bf where
 s:Sl
 sz:Nat
 t:Nat
 vs:List Value
abbrev Key:=Nat×Nat×Nat
abbrev Mem:=Key→Option Bf
structure Mine (h0 h:Hp) (m:Mem):Prop where
 keep:Keep h0 h
 buf:∀ k x,m k=some x→Buf h x.s x.sz x.t x.vs
 new:∀ k x,m k=some x→NewB h0 x.s
 off:∀ k k' x x',k≠k'→m k=some x→m k'=some x'→Off x.s x'.s
def Mem.put (m:Mem) (k:Key) (x:Bf):Mem:=fun j=>if j=k then some x else m j
theorem put_self (m:Mem) (k:Key) (x:Bf):(m.put k x) k=some x:=if_pos rfl
theorem put_ne (m:Mem) {k j:Key} (x:Bf) (h:j≠k):(m.put k x) j=m j:=if_neg h
theorem Mine.keepH {h0 h h':Hp} {m:Mem} (O:Mine h0 h m) (K:Keep h h'):Mine h0 h' m:=⟨O.keep.trans K,fun k x e=>(O.buf k x e).keep K,O.new,O.off⟩
theorem Mine.start (h:Hp):Mine h h (fun _=>none):=⟨Keep.refl h,fun _ _ e=>(by cases e),fun _ _ e=>(by cases e),fun _ _ _ _ _ e=>(by cases e)⟩
theorem Mine.sub {h0 h:Hp} {m m':Mem} (O:Mine h0 h m) (e:∀ k x,m' k=some x→m k=some x):Mine h0 h m':=
 ⟨O.keep,fun k x h=>O.buf k x (e k x h),fun k x h=>O.new k x (e k x h),fun k k' x x' n h h'=>O.off k k' x x' n (e k x h) (e k' x' h')⟩
theorem Mine.write {h0 h h':Hp} {m:Mem} {k:Key} {x:Bf} {s':Sl} {sz t:Nat} {vs:List Value} (O:Mine h0 h m) (hk:m k=some x) (U:Upd h h' x.s s') (B:Buf h' s' sz t vs):Mine h0 h' (m.put k ⟨s',sz,t,vs⟩):=by
 have N:=O.new k x hk
 have off1:∀ j y,j≠k→m j=some y→Off y.s s'∧Off s' y.s:=fun j y hj e=>by
  have o1:=O.off j k y x hj e hk
  have o2:=O.off k j x y (Ne.symm hj) hk e
  rcases U.at_ with h0' | hn
  ·exact ⟨fun b p q e1 e2=>o1 b p q e1 (by rw [← h0']; exact e2),fun b p q e1 e2=>o2 b p q (by rw [← h0']; exact e1) e2⟩
  ·exact NewB.off (.inr hn) (O.buf j y e)
 refine ⟨keepB O.keep N U,fun j y e=>?_,fun j y e=>?_,fun j j' y y' hne e e'=>?_⟩
 ·unfold Mem.put at e
  by_cases hj:j=k
  ·rw [if_pos hj] at e; cases e; exact B
  ·rw [if_neg hj] at e
   exact (O.buf j y e).upd U (O.off j k y x hj e hk)
 ·unfold Mem.put at e
  by_cases hj:j=k
  ·rw [if_pos hj] at e; cases e; exact newB O.keep N U
  ·rw [if_neg hj] at e; exact O.new j y e
 ·unfold Mem.put at e e'
  by_cases hj:j=k
  ·rw [if_pos hj] at e; cases e
   rw [if_neg (fun c=>hne (by rw [hj,c]))] at e'
   exact (off1 j' y' (fun c=>hne (by rw [hj,c])) e').2
  ·rw [if_neg hj] at e
   by_cases hj':j'=k
   ·rw [if_pos hj'] at e'; cases e'
    exact (off1 j y hj e).1
   ·rw [if_neg hj'] at e'
    exact O.off j j' y y' hne e e'
theorem Mine.add {h0 h h':Hp} {m:Mem} {k:Key} {s:Sl} {sz t:Nat} {vs:List Value} (O:Mine h0 h m) (hk:m k=none) (K:Keep h h') (N:NewB h s) (B:Buf h' s sz t vs):Mine h0 h' (m.put k ⟨s,sz,t,vs⟩):=by
 refine ⟨O.keep.trans K,fun j y e=>?_,fun j y e=>?_,fun j j' y y' hne e e'=>?_⟩
 ·unfold Mem.put at e
  by_cases hj:j=k
  ·rw [if_pos hj] at e; cases e; exact B
  ·rw [if_neg hj] at e; exact (O.buf j y e).keep K
 ·unfold Mem.put at e
  by_cases hj:j=k
  ·rw [if_pos hj] at e; cases e; exact N.mono O.keep.dom
  ·rw [if_neg hj] at e; exact O.new j y e
 ·unfold Mem.put at e e'
  by_cases hj:j=k
  ·rw [if_pos hj] at e; cases e
   rw [if_neg (fun c=>hne (by rw [hj,c]))] at e'
   exact (N.off (O.buf j' y' e')).2
  ·rw [if_neg hj] at e
   by_cases hj':j'=k
   ·rw [if_pos hj'] at e'; cases e'
    exact (N.off (O.buf j y e)).1
   ·rw [if_neg hj'] at e'
    exact O.off j j' y y' hne e e'
theorem buf_new {h:Hp} {b t sz n:Nat} (vs:List Value) (hl:vs.length=n*sz):Buf (h.new b (.cells ⟨vs⟩ t (0,0))) ⟨some ⟨b,0,none⟩,n,n⟩ sz t vs:=
 ⟨hl,Nat.le_refl _,.inr ⟨b,_,(0,0),rfl,by unfold Hp.new; rw [if_pos rfl],by show n*sz≤vs.length; omega,fun j _=>by simp,by show vs.take vs.length=vs; exact List.take_length⟩⟩
theorem buf_wr {h:Hp} {s:Sl} {sz t:Nat} {A U V B:List Value} (Bf:Buf h s sz t (A++(U++B))) (hu:U.length=V.length) (h0:0 < U.length):∃ b,s.a=some ⟨b,0,none⟩∧h.canW b A.length V.length∧Upd h (h.wr b A.length V) s s∧Buf (h.wr b A.length V) s sz t (A++(V++B)):=by
 have app:∀ (V A U B:List Value),U.length=V.length→setL (A++(U++B)) A.length V=A++(V++B):=fun V=>by
  induction V with
  | nil=>intro A U B h; have:U=[]:=List.eq_nil_of_length_eq_zero h; subst this; rfl
  | cons v V ih=>
   intro A U B h
   rcases U with _ | ⟨u,U⟩
   ·cases h
   unfold setL
   have e:(A++(u::U++B)).set A.length v=(A++[v])++(U++B):=by simp
   have l:A.length+1=(A++[v]).length:=by simp
   rw [e,l,ih (A++[v]) U B (by simpa using h)]
   simp
 have slen:∀ (vs c:List Value) (o:Nat),(setL c o vs).length=c.length:=fun vs=>by
  induction vs with
  | nil=>intro c o; rfl
  | cons v vs ih=>intro c o; unfold setL; rw [ih,List.length_set]
 have hlen0:(A++(U++B)).length=A.length+(U.length+B.length):=by simp
 have hlen1:(A++(V++B)).length=A.length+(U.length+B.length):=by simp [hu]
 rcases Bf.own with ⟨ha,hc⟩ | ⟨b,c,f,ha,hb,hsz,hf,ht⟩
 ·have h1:=Bf.len
  have h2:=Bf.cap
  have:s.n=0:=by omega
  rw [this,Nat.zero_mul] at h1
  omega
 ·have hcl:(A++(U++B)).length≤c.size:=by
   rw [Bf.len]
   exact Nat.le_trans (Nat.mul_le_mul_right _ Bf.cap) hsz
  have hct:c.toList=A++(U++(B++c.toList.drop (A++(U++B)).length)):=by
   have:=List.take_append_drop (A++(U++B)).length c.toList
   rw [ht] at this
   rw [← this]
   simp
  have wrs:(h.wr b A.length V) b=some (.cells (setL c.toList A.length V).toArray t f):=by unfold Hp.wr; rw [if_pos rfl,hb]
  refine ⟨b,ha,⟨c,t,f,hb,by omega,fun j h1 h2=>hf j (by omega)⟩,⟨fun j x hj e=>?_,.inl rfl,fun j e=>?_⟩,⟨by rw [hlen1,← hlen0]; exact Bf.len,Bf.cap,.inr ⟨b,(setL c.toList A.length V).toArray,f,ha,wrs,?_,?_,?_⟩⟩⟩
  ·have hjb:j≠b:=fun q=>hj 0 (by rw [q]; exact ha)
   unfold Hp.wr
   rw [if_neg hjb]
   exact e
  ·unfold Hp.wr at e
   by_cases hjb:j=b
   ·rw [if_pos hjb,hb] at e; cases e
   ·rw [if_neg hjb] at e; exact e
  ·simp only [List.size_toArray,slen,Array.length_toList]; exact hsz
  ·intro j hj
   simp only [List.size_toArray,slen,Array.length_toList] at hj
   exact hf j hj
  ·show ((setL c.toList A.length V).take (A++(V++B)).length)=A++(V++B)
   rw [hct,app V A U _ hu,show A++(V++(B++c.toList.drop (A++(U++B)).length))=(A++(V++B))++c.toList.drop (A++(U++B)).length by simp,List.take_left' rfl]
theorem buf_wr1 {h:Hp} {s:Sl} {sz t k:Nat} {vs:List Value} (B:Buf h s sz t vs) (hk:k < vs.length) (v:Value):∃ b,s.a=some ⟨b,0,none⟩∧h.canW b k 1∧Upd h (h.wr b k [v]) s s∧Buf (h.wr b k [v]) s sz t (vs.set k v):=by
 have e:vs=vs.take k++([vs[k]]++vs.drop (k+1)):=by
  have e:=List.take_append_drop k vs
  rw [List.drop_eq_getElem_cons hk] at e
  exact e.symm
 have lt:(vs.take k).length=k:=by rw [List.length_take]; omega
 have e2:vs.set k v=vs.take k++([v]++vs.drop (k+1)):=by
  rw [List.set_eq_take_append_cons_drop,if_pos hk]; rfl
 have B':Buf h s sz t (vs.take k++([vs[k]]++vs.drop (k+1))):=by rw [← e]; exact B
 obtain ⟨b,ha,hc,U,Bw⟩:=buf_wr (V:=[v]) B' rfl (by simp)
 rw [lt] at hc U Bw
 rw [← e2] at Bw
 exact ⟨b,ha,hc,U,Bw⟩
theorem buf_at {h:Hp} {s:Sl} {sz t k:Nat} {vs:List Value} (B:Buf h s sz t vs) (hk:k < vs.length):∃ b,s.a=some ⟨b,0,none⟩∧h.at b (0+k)=vs[k]?:=by
 rcases B.own with ⟨ha,hc⟩ | ⟨b,c,f,ha,hb,hsz,hf,ht⟩
 ·have h1:=B.len
  have h2:=B.cap
  have:s.n=0:=by omega
  rw [this,Nat.zero_mul] at h1
  omega
 ·refine ⟨b,ha,?_⟩
  unfold Hp.at
  rw [hb,Nat.zero_add]
  show c[k]?=_
  rw [← ht,List.getElem?_take,if_pos hk,Array.getElem?_toList]
def markL (mk:Nat→List Value) (k:Nat):List Value:=(List.range k).flatMap mk
theorem flatG {α:Type} (f:α→List Value) (sz:Nat) (hf:∀ x,(f x).length=sz):∀ (l:List α) (i c:Nat) (hi:i < l.length),c < sz→(l.flatMap f)[i*sz+c]?=(f l[i])[c]?
 | [],i,c,hi,_=>absurd hi (by simp)
 | x::l,0,c,_,hc=>by rw [List.flatMap_cons,List.getElem?_append_left (by rw [hf]; omega)]; simp
 | x::l,i+1,c,hi,hc=>by
  rw [List.flatMap_cons,List.getElem?_append_right (by rw [hf,Nat.add_mul]; omega),hf,show (i+1)*sz+c - sz=i*sz+c by rw [Nat.add_mul]; omega]
  exact flatG f sz hf l i c (by simpa using hi) hc
theorem nx_i {k n:Nat} (hk:k < n) (hn:n < 9223372036854775807):IntKind.wrap .i64 ((k:Int)+1)=((k+1:Nat):Int):=by rw [wrap_i64 (by omega) (by omega)]; omega
end Go.Eng
end
section
namespace Go.Eng
def Mem.del (m:Mem) (k:Key):Mem:=fun j=>if j=k then none else m j
theorem del_self (m:Mem) (k:Key):(m.del k) k=none:=if_pos rfl
theorem del_ne (m:Mem) {k j:Key} (h:j≠k):(m.del k) j=m j:=if_neg h
theorem Mine.del {h0 h:Hp} {m:Mem} (O:Mine h0 h m) (k:Key):Mine h0 h (m.del k):=O.sub fun j x e=>by
 unfold Mem.del at e
 by_cases hj:j=k
 ·rw [if_pos hj] at e; cases e
 ·rw [if_neg hj] at e; exact e
theorem Mine.freeze {g h:Hp} {m:Mem} {k:Key} {x:Bf} (O:Mine g h m) (hk:m k=some x):∃ g1,Keep g g1∧Mine g1 h (m.del k)∧Buf g1 x.s x.sz x.t x.vs:=by
 have B:=O.buf k x hk
 rcases B.own with ⟨ha,hc⟩ | ⟨b,c,f,ha,hb,h3,h4,h5⟩
 ·exact ⟨g,Keep.refl g,O.del k,B.len,B.cap,.inl ⟨ha,hc⟩⟩
 ·have gb:g b=none:=by
   rcases O.new k x hk with hn | ⟨b',hb',hn⟩
   ·rw [hn] at ha; cases ha
   ·rw [ha] at hb'
    simp only [Option.some.injEq,Addr.mk.injEq] at hb'
    rw [hb'.1]; exact hn
  have K1:Keep g (g.new b (.cells c x.t f)):=Keep.new gb _
  have e1:(g.new b (.cells c x.t f)) b=some (.cells c x.t f):=by unfold Hp.new; rw [if_pos rfl]
  refine ⟨g.new b (.cells c x.t f),K1,⟨fun j y e=>?_,fun j y e=>(O.del k).buf j y e,fun j y e=>?_,fun j j' y y' n e e'=>(O.del k).off j j' y y' n e e'⟩,B.len,B.cap,.inr ⟨b,c,f,ha,e1,h3,h4,h5⟩⟩
  ·unfold Hp.new at e
   by_cases hj:j=b
   ·rw [if_pos hj] at e; cases e; rw [hj]; exact hb
   ·rw [if_neg hj] at e; exact O.keep j y e
  ·have hjk:j≠k:=fun q=>by rw [q,del_self] at e; cases e
   rw [del_ne _ hjk] at e
   rcases O.new j y e with hn | ⟨b',hb',hn⟩
   ·exact .inl hn
   ·refine .inr ⟨b',hb',?_⟩
    have hbb:b'≠b:=fun q=>O.off j k y x hjk e hk b' 0 0 hb' (by rw [ha,q])
    unfold Hp.new; rw [if_neg hbb]; exact hn
def kB:Key:=(0,0,0)
def bkF (pb R t:Nat) (cs:List Value):Bf:=⟨⟨some ⟨pb,0,none⟩,1,1⟩,R,t,cs⟩
theorem Mine.cell {g h:Hp} {m:Mem} {pb R t i:Nat} {cs:List Value} {v:Value} (O:Mine g h m) (hb:m kB=some (bkF pb R t cs)) (hv:cs[i]?=some v):h.at pb (0+i)=some v:=by
 have hi:i < cs.length:=(List.getElem?_eq_some_iff.1 hv).1
 obtain ⟨b,e,ha⟩:=buf_at (O.buf kB _ hb) (k:=i) hi
 cases e
 rw [ha]; exact hv
theorem Mem.put_put (m:Mem) (k:Key) (x y:Bf):(m.put k x).put k y=m.put k y:=funext fun j=>by
 unfold Mem.put
 by_cases hj:j=k
 ·rw [if_pos hj,if_pos hj]
 ·rw [if_neg hj,if_neg hj,if_neg hj]
theorem Mine.setCell {g h:Hp} {m:Mem} {pb R t i:Nat} {cs:List Value} {v0:Value} (O:Mine g h m) (hb:m kB=some (bkF pb R t cs)) (hi:cs[i]?=some v0) (v:Value) :
  h.canW pb (0+i) 1∧Mine g (h.wr pb (0+i) [v]) (m.put kB (bkF pb R t (cs.set i v))):=by
 have hl:i < cs.length:=(List.getElem?_eq_some_iff.1 hi).1
 obtain ⟨b,e,hc,U,B⟩:=buf_wr1 (O.buf kB _ hb) (k:=i) hl v
 cases e
 rw [Nat.zero_add]
 exact ⟨hc,O.write hb U B⟩
def NoK (cs:List Value) (s:Nat):Prop:=∀ f,f < 8→cs[s+f]?=some (.slice none 0 0)
theorem set_same {cs:List Value} {i:Nat} {v:Value} (h:cs[i]?=some v):cs.set i v=cs:=by
 apply List.ext_getElem?
 intro j
 rw [List.getElem?_set]
 by_cases hij:i=j
 ·subst hij
  rw [if_pos rfl]
  have hl:i < cs.length:=(List.getElem?_eq_some_iff.1 h).1
  rw [if_pos hl,h]
 ·rw [if_neg hij]
theorem put_same {m:Mem} {k:Key} {x:Bf} (h:m k=some x):m.put k x=m:=funext fun j=>by
 unfold Mem.put
 by_cases hj:j=k
 ·rw [if_pos hj,hj,h]
 ·rw [if_neg hj]
@[reducible] def nilMarkT (pb s:Nat) (h:Hp) (Q:Value→Hp→Prop):Prop:=
 dr (some ⟨pb,0,none⟩) fun b o=>ldS h b (o+(s+2)) fun l=>dr (some ⟨pb,0,none⟩) fun b1 o1=>ldS h b1 (o1+(s+3)) fun l1=>dr (some ⟨pb,0,none⟩) fun b2 o2=>ldS h b2 (o2+(s+5)) fun l2=>dr (some ⟨pb,0,none⟩) fun b3 o3=>ldS h b3 (o3+(s+6)) fun l3=>par ((l.n:Int)=0) (Q (.tuple ⟨[]⟩) h) False
@[reducible] def nilGrowT (pb s:Nat) (h:Hp) (Q:Value→Hp→Prop):Prop:=
 ∃ (I:Int→Hp→Prop) (m:Int→Hp→Nat),I 0 h∧(∀ n:Int,∀ h1:Hp,I n h1→dr (some ⟨pb,0,none⟩) fun b o=>ldS h1 b (o+(s+4)) fun l=>par (n < (l.n:Int)) (False) (dr (some ⟨pb,0,none⟩) fun b1 o1=>st h1 b1 (o1+(s+4)) 1 [.slice none 0 0] fun h2=>dr (some ⟨pb,0,none⟩) fun b2 o2=>st h2 b2 (o2+(s+7)) 1 [.slice none 0 0] fun h3=>Q (.tuple ⟨[]⟩) h3))
@[reducible] def nilKeepT (pb s:Nat) (h:Hp) (Q:Value→Hp→Prop):Prop:=
 ∃ (I:Int→Hp→Prop) (m:Int→Hp→Nat),I 0 h∧(∀ n:Int,∀ h1:Hp,I n h1→dr (some ⟨pb,0,none⟩) fun b o=>ldS h1 b (o+s) fun l=>par (n < (l.n:Int)) (False) (∃ (I1:Int→Hp→Prop) (m1:Int→Hp→Nat),I1 0 h1∧(∀ n1:Int,∀ h2:Hp,I1 n1 h2→dr (some ⟨pb,0,none⟩) fun b1 o1=>ldS h2 b1 (o1+(s+2)) fun l1=>par (n1 < (l1.n:Int)) (False) (Q (.bool true) h2))))
section
variable {g h:Hp} {m:Mem} {pb R t s:Nat} {cs:List Value} {Q:Value→Hp→Prop}
theorem nil_mark (O:Mine g h m) (hb:m kB=some (bkF pb R t cs)) (N:NoK cs s) (hQ:Q (.tuple ⟨[]⟩) h) :
  nilMarkT pb s h Q:=
 ⟨pb,0,rfl,⟨none,0,0⟩,O.cell hb (N 2 (by decide)),pb,0,rfl,⟨none,0,0⟩,O.cell hb (N 3 (by decide)),pb,0,rfl,⟨none,0,0⟩,O.cell hb (N 5 (by decide)),pb,0,rfl,⟨none,0,0⟩,O.cell hb (N 6 (by decide)),fun _=>hQ,fun hh=>absurd rfl hh⟩
theorem nil_grow (O:Mine g h m) (hb:m kB=some (bkF pb R t cs)) (N:NoK cs s) (hQ:∀ h',Mine g h' m→Q (.tuple ⟨[]⟩) h') :
  nilGrowT pb s h Q:=by
 refine ⟨fun n h1=>n=0∧h1=h,fun _ _=>0,⟨rfl,rfl⟩,?_⟩
 rintro n h1 ⟨rfl,rfl⟩
 refine ⟨pb,0,rfl,⟨none,0,0⟩,O.cell hb (N 4 (by decide)),fun hh=>absurd hh (by decide),fun _=>?_⟩
 obtain ⟨c1,O1⟩:=O.setCell hb (N 4 (by decide)) (.slice none 0 0)
 rw [set_same (N 4 (by decide)),put_same hb] at O1
 obtain ⟨c2,O2⟩:=O1.setCell hb (N 7 (by decide)) (.slice none 0 0)
 rw [set_same (N 7 (by decide)),put_same hb] at O2
 exact ⟨pb,0,rfl,c1,pb,0,rfl,c2,hQ _ O2⟩
theorem nil_keep (O:Mine g h m) (hb:m kB=some (bkF pb R t cs)) (N:NoK cs s) (hQ:Q (.bool true) h) :
  nilKeepT pb s h Q:=by
 refine ⟨fun n h1=>n=0∧h1=h,fun _ _=>0,⟨rfl,rfl⟩,?_⟩
 rintro n h1 ⟨rfl,rfl⟩
 refine ⟨pb,0,rfl,⟨none,0,0⟩,O.cell hb (N 0 (by decide)),fun hh=>absurd hh (by decide),fun _=>?_⟩
 refine ⟨fun n h2=>n=0∧h2=h1,fun _ _=>0,⟨rfl,rfl⟩,?_⟩
 rintro n h2 ⟨rfl,rfl⟩
 exact ⟨pb,0,rfl,⟨none,0,0⟩,O.cell hb (N 2 (by decide)),fun hh=>absurd hh (by decide),fun _=>hQ⟩
end
end Go.Eng
end
section
namespace Go.Eng
def slv (s:Sl):Value:=.slice s.a s.n s.c
def kA (c f:Nat):Key:=(1,c,f)
def kL (c i:Nat):Key:=(2,c,i)
theorem kA_kB (c f:Nat):kA c f≠kB:=fun e=>by cases e
theorem kL_kB (c f:Nat):kL c f≠kB:=fun e=>by cases e
theorem kL_kA (c i d f:Nat):kL c i≠kA d f:=fun e=>by cases e
theorem kA_ne {c d f e:Nat} (h:f≠e):kA c f≠kA d e:=fun q=>h (by cases q; rfl)
@[reducible] def addT (pb s tL t sz bytes:Nat) (zs:List Value) (l:Sl) (mark:Int) (U:Int→Hp→(Value→Hp→Prop)→Prop) (D:Hp→(Value→Hp→Prop)→Prop) (h:Hp) (Q:Value→Hp→Prop):Prop:=
 dr (some ⟨pb,0,none⟩) fun b o=>ldI .i64 h b (o+3) fun n1=>dr (some ⟨pb,0,none⟩) fun b1 o1=>st h b1 (o1+3) 1 [.int .i64 (IntKind.wrap .i64 (n1+1))] fun h1=>dr (some ⟨pb,0,none⟩) fun b2 o2=>ldS h1 b2 (o2+(s+2)) fun l1=>appendD l1 tL 1 24 [.slice none 0 0] 1 [.slice l.a l.n l.c] h1 fun l2 h2=>dr (some ⟨pb,0,none⟩) fun b3 o3=>st h2 b3 (o3+(s+2)) 1 [.slice l2.a l2.n l2.c] fun h3=>dr (some ⟨pb,0,none⟩) fun b4 o4=>ldS h3 b4 (o4+(s+3)) fun l3=>nw h3 (.cells ⟨[]⟩ t (0,0)) fun b5 h4=>h4.at b4 (o4+(s+3))=some (.slice l3.a l3.n l3.c)∧∃ vs,h4.row l.a (l.n*sz) vs∧(∀ v∈vs,Value.oneCell' v=true)∧appendD ⟨(some ⟨b5,0,none⟩),0,0⟩ t sz bytes zs l.n vs h4 fun l4 h5=>h5.at b4 (o4+(s+3))=some (.slice l3.a l3.n l3.c)∧h5.at b4 (o4+(s+3))=some (.slice l3.a l3.n l3.c)∧appendD l3 tL 1 24 [.slice none 0 0] 1 [.slice l4.a l4.n l4.c] h5 fun l5 h6=>dr (some ⟨pb,0,none⟩) fun b6 o5=>st h6 b6 (o5+(s+3)) 1 [.slice l5.a l5.n l5.c] fun h7=>dr (some ⟨pb,0,none⟩) fun b7 o6=>ldS h7 b7 (o6+(s+5)) fun l6=>appendD l6 3 1 8 [.int .i64 0] 1 [.int .i64 mark] h7 fun l7 h8=>dr (some ⟨pb,0,none⟩) fun b8 o7=>st h8 b8 (o7+(s+5)) 1 [.slice l7.a l7.n l7.c] fun h9=>dr (some ⟨pb,0,none⟩) fun b9 o8=>ldS h9 b9 (o8+(s+6)) fun l8=>dr (some ⟨pb,0,none⟩) fun b10 o9=>ldI .i64 h9 b10 (o9+(s+8)) fun n2=>U n2 h9 fun r h10=>retI .i64 r fun n3=>h10.at b9 (o8+(s+6))=some (.slice l8.a l8.n l8.c)∧h10.at b9 (o8+(s+6))=some (.slice l8.a l8.n l8.c)∧appendD l8 3 1 8 [.int .i64 0] 1 [.int .i64 n3] h10 fun l9 h11=>dr (some ⟨pb,0,none⟩) fun b11 o10=>st h11 b11 (o10+(s+6)) 1 [.slice l9.a l9.n l9.c] fun h12=>dr (some ⟨pb,0,none⟩) fun b12 o11=>ldI .i64 h12 b12 (o11+(s+8)) fun n4=>dr (some ⟨pb,0,none⟩) fun b13 o12=>st h12 b13 (o12+(s+8)) 1 [.int .i64 (IntKind.wrap .i64 (n4+1))] fun h13=>D h13 fun r1 h14=>Q (.tuple ⟨[]⟩) h14
section
variable {g h:Hp} {m:Mem} {pb R t s f c tA bt:Nat} {cs us:List Value} {z v:Value} {A:Sl} {K:Hp→Prop}
theorem app_f (O:Mine g h m) (hb:m kB=some (bkF pb R t cs)) (ha:m (kA c f)=some ⟨A,1,tA,us⟩) (hc:cs[s+f]?=some (slv A)) (hl:(us.length+1)*bt≤140737488355328)
  (hK:∀ h' A' m' cs',Mine g h' m'→m' kB=some (bkF pb R t cs')→m' (kA c f)=some ⟨A',1,tA,us++[v]⟩→(∀ j,j≠kB→j≠kA c f→m' j=m j)→cs'[s+f]?=some (slv A')→(∀ i,i≠s+f→cs'[i]?=cs[i]?)→K h') :
  appendD A tA 1 bt [z] 1 [v] h fun l2 h2=>dr (some ⟨pb,0,none⟩) fun b3 o3=>st h2 b3 (o3+(s+f)) 1 [.slice l2.a l2.n l2.c] fun h3=>K h3:=by
 have B:=O.buf _ _ ha
 have hn:A.n=us.length:=by have:=B.len; simp only [Nat.mul_one] at this; omega
 refine append_buf B rfl rfl (by rw [hn]; exact hl) fun l2 h2 B2 _ U2=>?_
 have O2:=O.write ha U2 B2
 have hb2:(m.put (kA c f) ⟨l2,1,tA,us++[v]⟩) kB=some (bkF pb R t cs):=by rw [put_ne _ _ (Ne.symm (kA_kB c f))]; exact hb
 obtain ⟨c2,O3⟩:=O2.setCell hb2 hc (slv l2)
 refine ⟨pb,0,rfl,c2,hK _ l2 _ _ O3 (put_self _ _ _) (by rw [put_ne _ _ (kA_kB c f),put_self]) (fun j h1 h2=>by rw [put_ne _ _ h1,put_ne _ _ h2]) (List.getElem?_set_self (List.getElem?_eq_some_iff.1 hc).1) fun i hi=>List.getElem?_set_ne (Ne.symm hi)⟩
def kT:Key:=(9,9,9)
theorem put_del {m:Mem} {k:Key} (h:m k=none) (x:Bf):(m.put k x).del k=m:=funext fun j=>by
 unfold Mem.del Mem.put
 by_cases hj:j=k
 ·rw [if_pos hj,hj,h]
 ·rw [if_neg hj,if_neg hj]
theorem copy_f {sz bytes:Nat} {zs vs:List Value} {l:Sl} {P:Hp→Prop} {K:Sl→Hp→Prop} (hP:∀ h',Keep h h'→P h') (O:Mine g h m) (hk:m kT=none) (hr:h.row l.a (l.n*sz) vs) (hone:∀ v∈vs,Value.oneCell' v=true) (hz:zs.length=sz) (hn:l.n*bytes≤140737488355328)
  (hK:∀ (l4:Sl) (h5 g':Hp),Keep g g'→Mine g' h5 m→g'.row l4.a (l4.n*sz) vs→l4.n=l.n→Keep h h5→K l4 h5) :
  nw h (.cells ⟨[]⟩ t (0,0)) fun b5 h4=>P h4∧∃ vs,h4.row l.a (l.n*sz) vs∧(∀ v∈vs,Value.oneCell' v=true)∧appendD ⟨(some ⟨b5,0,none⟩),0,0⟩ t sz bytes zs l.n vs h4 fun l4 h5=>K l4 h5:=by
 intro b hbn
 have k0:=Keep.new hbn (.cells ⟨[]⟩ t (0,0))
 have B0:=buf_new (h:=h) (b:=b) (t:=t) (sz:=sz) (n:=0) [] (by simp)
 have N0:NewB h ⟨some ⟨b,0,none⟩,0,0⟩:=.inr ⟨b,rfl,hbn⟩
 have r0:=k0.row hr
 generalize h.new b (.cells ⟨[]⟩ t (0,0))=h1 at k0 B0 r0 ⊢
 refine ⟨hP _ k0,vs,r0,hone,?_⟩
 refine append_buf B0 hz r0.1 (by show (0+l.n)*bytes≤_; rw [Nat.zero_add]; exact hn) fun l4 h5 B5 hn5 U5=>?_
 rw [List.nil_append] at B5
 have K5:Keep h h5:=keepB k0 N0 U5
 have N5:NewB h l4:=newB k0 N0 U5
 have O5:=O.add hk K5 N5 B5
 obtain ⟨g',Kg,Og,Bg⟩:=O5.freeze (put_self _ _ _)
 rw [put_del hk] at Og
 exact hK l4 h5 g' Kg Og Bg.row (by rw [hn5]; show 0+l.n=_; omega) K5
theorem keep_at {h h':Hp} (K:Keep h h') {b o:Nat} {v:Value} (e:h.at b o=some v):h'.at b o=some v:=by
 unfold Hp.at at e ⊢
 cases hb:h b with
 | none=>rw [hb] at e; cases e
 | some x=>rw [hb] at e; rw [K b x hb]; exact e
structure AddK (g:Hp) (m:Mem) (cs:List Value) (c s:Nat) (tL:Nat) (v2 v3 v5 v6:List Value) (seen deep:Int) (l nt:Sl) (mark due:Int) (m':Mem) (cs':List Value):Prop where
 a2:∃ A,m' (kA c 2)=some ⟨A,1,tL,v2++[slv l]⟩∧cs'[s+2]?=some (slv A)
 a3:∃ A,m' (kA c 3)=some ⟨A,1,tL,v3++[slv nt]⟩∧cs'[s+3]?=some (slv A)
 a5:∃ A,m' (kA c 5)=some ⟨A,1,3,v5++[.int .i64 mark]⟩∧cs'[s+5]?=some (slv A)
 a6:∃ A,m' (kA c 6)=some ⟨A,1,3,v6++[.int .i64 due]⟩∧cs'[s+6]?=some (slv A)
 seen:cs'[s+8]?=some (.int .i64 (IntKind.wrap .i64 (seen+1)))
 deep:cs'[3]?=some (.int .i64 (IntKind.wrap .i64 (deep+1)))
 rest:∀ i,i≠3→i≠s+2→i≠s+3→i≠s+5→i≠s+6→i≠s+8→cs'[i]?=cs[i]?
 mem:∀ j,j≠kB→j≠kA c 2→j≠kA c 3→j≠kA c 5→j≠kA c 6→m' j=m j
theorem add_k {tL sz bytes:Nat} {zs vs v2 v3 v5 v6:List Value} {l A2 A3 A5 A6:Sl} {seen deep turn mark:Int} {U:Int→Hp→(Value→Hp→Prop)→Prop} {D:Hp→(Value→Hp→Prop)→Prop} {Q:Value→Hp→Prop}
  (hU:∀ n h9 K,h9.at pb (0+0)=some (.bool false)→h9.at pb (0+2)=some (.int .i64 turn)→(∀ d,K (.int .i64 d) h9)→U n h9 K)
  (O:Mine g h m) (hb:m kB=some (bkF pb R tA cs)) (hk:m kT=none) (hs:4≤s)
  (c0:cs[0]?=some (.bool false)) (c2:cs[2]?=some (.int .i64 turn)) (c3:cs[3]?=some (.int .i64 deep)) (c8:cs[s+8]?=some (.int .i64 seen))
  (m2:m (kA c 2)=some ⟨A2,1,tL,v2⟩) (e2:cs[s+2]?=some (slv A2)) (m3:m (kA c 3)=some ⟨A3,1,tL,v3⟩) (e3:cs[s+3]?=some (slv A3))
  (m5:m (kA c 5)=some ⟨A5,1,3,v5⟩) (e5:cs[s+5]?=some (slv A5)) (m6:m (kA c 6)=some ⟨A6,1,3,v6⟩) (e6:cs[s+6]?=some (slv A6))
  (l2:v2.length≤1000000) (l3:v3.length≤1000000) (l5:v5.length≤1000000) (l6:v6.length≤1000000)
  {id:Nat} (hl:m (kL c id)=some ⟨l,sz,t,vs⟩) (hone:∀ v∈vs,Value.oneCell' v=true) (hz:zs.length=sz) (hn:l.n*bytes≤140737488355328)
  (hD:∀ h' g' m' cs' nt due,Keep g g'→Mine g' h' m'→m' kB=some (bkF pb R tA cs')→AddK g m cs c s tL v2 v3 v5 v6 seen deep l nt mark due m' cs'→g'.row nt.a (nt.n*sz) vs→nt.n=l.n→D h' fun r1 h14=>Q (.tuple ⟨[]⟩) h14) :
  addT pb s tL t sz bytes zs l mark U D h Q:=by
 obtain ⟨w1,O1⟩:=O.setCell hb c3 (.int .i64 (IntKind.wrap .i64 (deep+1)))
 refine ⟨pb,0,rfl,deep,O.cell hb c3,pb,0,rfl,w1,?_⟩
 generalize hcs1:cs.set 3 (.int .i64 (IntKind.wrap .i64 (deep+1)))=cs1 at O1
 have g1:∀ i,i≠3→cs1[i]?=cs[i]?:=fun i hi=>by rw [← hcs1,List.getElem?_set_ne (Ne.symm hi)]
 have d1:cs1[3]?=some (.int .i64 (IntKind.wrap .i64 (deep+1))):=by rw [← hcs1,List.getElem?_set_self (List.getElem?_eq_some_iff.1 c3).1]
 have hb1:=put_self m kB (bkF pb R tA cs1)
 have n1:∀ j,j≠kB→(m.put kB (bkF pb R tA cs1)) j=m j:=fun j hj=>put_ne _ _ hj
 generalize m.put kB (bkF pb R tA cs1)=M1 at O1 hb1 n1
 generalize h.wr pb (0+3) _=h1 at O1 ⊢
 refine ⟨pb,0,rfl,A2,O1.cell hb1 (by rw [g1 _ (by omega)]; exact e2),?_⟩
 refine app_f (v:=slv l) O1 hb1 (by rw [n1 _ (kA_kB _ _)]; exact m2) (by rw [g1 _ (by omega)]; exact e2) (by omega) fun h3 B2 M2 cs2 O2 hb2 p2 n2 q2 g2=>?_
 have f3:cs2[s+3]?=some (slv A3):=by rw [g2 _ (by omega),g1 _ (by omega)]; exact e3
 refine ⟨pb,0,rfl,A3,O2.cell hb2 f3,?_⟩
 have hl2:M2 (kL c id)=some ⟨l,sz,t,vs⟩:=by rw [n2 _ (kL_kB _ _) (kL_kA _ _ _ _),n1 _ (kL_kB _ _)]; exact hl
 have hk2:M2 kT=none:=by rw [n2 _ (fun e=>by cases e) (fun e=>by cases e),n1 _ (fun e=>by cases e)]; exact hk
 refine copy_f (fun h' K'=>keep_at K' (O2.cell hb2 f3)) O2 hk2 (O2.buf _ _ hl2).row hone hz hn fun nt h5 g' Kg O3 rnt hnt K5=>?_
 refine ⟨O3.cell hb2 f3,O3.cell hb2 f3,?_⟩
 refine app_f (v:=slv nt) O3 hb2 (by rw [n2 _ (kA_kB _ _) (kA_ne (by decide)),n1 _ (kA_kB _ _)]; exact m3) f3 (by omega) fun h7 B3 M3 cs3 O4 hb3 p3 n3 q3 g3=>?_
 have f5:cs3[s+5]?=some (slv A5):=by rw [g3 _ (by omega),g2 _ (by omega),g1 _ (by omega)]; exact e5
 refine ⟨pb,0,rfl,A5,O4.cell hb3 f5,?_⟩
 refine app_f (v:=.int .i64 mark) O4 hb3 (by rw [n3 _ (kA_kB _ _) (kA_ne (by decide)),n2 _ (kA_kB _ _) (kA_ne (by decide)),n1 _ (kA_kB _ _)]; exact m5) f5 (by omega) fun h9 B5 M5 cs5 O5 hb5 p5 n5 q5 g5=>?_
 have f6:cs5[s+6]?=some (slv A6):=by rw [g5 _ (by omega),g3 _ (by omega),g2 _ (by omega),g1 _ (by omega)]; exact e6
 have f8:cs5[s+8]?=some (.int .i64 seen):=by rw [g5 _ (by omega),g3 _ (by omega),g2 _ (by omega),g1 _ (by omega)]; exact c8
 refine ⟨pb,0,rfl,A6,O5.cell hb5 f6,pb,0,rfl,seen,O5.cell hb5 f8,?_⟩
 refine hU _ _ _ (O5.cell hb5 (by rw [g5 _ (by omega),g3 _ (by omega),g2 _ (by omega),g1 _ (by omega)]; exact c0)) (O5.cell hb5 (by rw [g5 _ (by omega),g3 _ (by omega),g2 _ (by omega),g1 _ (by omega)]; exact c2)) fun due=>⟨due,rfl,O5.cell hb5 f6,O5.cell hb5 f6,?_⟩
 refine app_f (v:=.int .i64 due) O5 hb5 (by rw [n5 _ (kA_kB _ _) (kA_ne (by decide)),n3 _ (kA_kB _ _) (kA_ne (by decide)),n2 _ (kA_kB _ _) (kA_ne (by decide)),n1 _ (kA_kB _ _)]; exact m6) f6 (by omega) fun h12 B6 M6 cs6 O6 hb6 p6 n6 q6 g6=>?_
 have f8':cs6[s+8]?=some (.int .i64 seen):=by rw [g6 _ (by omega)]; exact f8
 obtain ⟨w7,O7⟩:=O6.setCell hb6 f8' (.int .i64 (IntKind.wrap .i64 (seen+1)))
 refine ⟨pb,0,rfl,seen,O6.cell hb6 f8',pb,0,rfl,w7,?_⟩
 have g7:∀ i,i≠s+8→(cs6.set (s+8) (.int .i64 (IntKind.wrap .i64 (seen+1))))[i]?=cs6[i]?:=fun i hi=>List.getElem?_set_ne (Ne.symm hi)
 have n7:∀ j,j≠kB→(M6.put kB (bkF pb R tA (cs6.set (s+8) (.int .i64 (IntKind.wrap .i64 (seen+1)))))) j=M6 j:=fun j hj=>put_ne _ _ hj
 refine hD _ g' _ _ nt due Kg O7 (put_self _ _ _) ⟨⟨B2,?_,?_⟩,⟨B3,?_,?_⟩,⟨B5,?_,?_⟩,⟨B6,?_,?_⟩,List.getElem?_set_self (List.getElem?_eq_some_iff.1 f8').1,?_,fun i h3 h2 h3' h5 h6 h8=>?_,fun j hB h2 h3 h5 h6=>?_⟩ rnt hnt
 ·rw [n7 _ (kA_kB _ _),n6 _ (kA_kB _ _) (kA_ne (by decide)),n5 _ (kA_kB _ _) (kA_ne (by decide)),n3 _ (kA_kB _ _) (kA_ne (by decide))]; exact p2
 ·rw [g7 _ (by omega),g6 _ (by omega),g5 _ (by omega),g3 _ (by omega)]; exact q2
 ·rw [n7 _ (kA_kB _ _),n6 _ (kA_kB _ _) (kA_ne (by decide)),n5 _ (kA_kB _ _) (kA_ne (by decide))]; exact p3
 ·rw [g7 _ (by omega),g6 _ (by omega),g5 _ (by omega)]; exact q3
 ·rw [n7 _ (kA_kB _ _),n6 _ (kA_kB _ _) (kA_ne (by decide))]; exact p5
 ·rw [g7 _ (by omega),g6 _ (by omega)]; exact q5
 ·rw [n7 _ (kA_kB _ _)]; exact p6
 ·rw [g7 _ (by omega)]; exact q6
 ·rw [g7 _ (by omega),g6 _ (by omega),g5 _ (by omega),g3 _ (by omega),g2 _ (by omega)]; exact d1
 ·rw [g7 _ h8,g6 _ h6,g5 _ h5,g3 _ h3',g2 _ h2,g1 _ h3]
 ·rw [n7 _ hB,n6 _ hB h6,n5 _ hB h5,n3 _ hB h3,n2 _ hB h2,n1 _ hB]
end
end Go.Eng
end
section
namespace Go.Eng
theorem append_two {h:Hp} {s:Sl} {sz t bytes m:Nat} {z vs us:List Value} {K:Sl→Hp→Prop} (B:Buf h s sz t vs) (hz:z.length=sz) (hu:us.length=m*sz) (hb:(s.n+m)*bytes≤140737488355328)
  (hK1:∀ s' h',Buf h' s' sz t (vs++us)→s'.n=s.n+m→s'.a=s.a→Upd h h' s s'→K s' h') (hK2:∀ s' h',Buf h' s' sz t (vs++us)→s'.n=s.n+m→NewB h s'→Keep h h'→K s' h'):appendD s t sz bytes z m us h K:=by
 refine ⟨hb,fun hle=>?_,fun hlt=>⟨vs,B.row,fun b c hbn hc=>?_⟩⟩
 ·rcases B.own with ⟨ha,hc⟩ | ⟨b,c,f,ha,hbb,hsz,hf,ht⟩
  ·have hm:m=0∧s.n=0:=by omega
   have hus:us=[]:=List.eq_nil_of_length_eq_zero (by rw [hu,hm.1]; simp)
   subst hus
   refine ⟨.inl rfl,hK1 _ _ ⟨?_,by show s.n+m≤s.c; omega,.inl ⟨ha,hc⟩⟩ rfl rfl ⟨fun k x _ e=>?_,.inl rfl,fun k e=>?_⟩⟩
   ·have:=B.len; simp only [List.append_nil,this,hm.1,Nat.add_zero]
   ·rw [wrA_nil]; exact e
   ·rw [wrA_nil] at e; exact e
  ·have hmul:s.n*sz+m*sz≤c.size:=by
    rw [← Nat.add_mul]
    exact Nat.le_trans (Nat.mul_le_mul_right _ hle) hsz
   have haddr:s.a.map (·.add (s.n*sz))=some ⟨b,s.n*sz,none⟩:=by rw [ha]; simp [addr_add]
   rw [haddr]
   have hcl:c.toList.length=c.size:=by simp
   refine ⟨.inr ⟨b,s.n*sz,rfl,c,t,f,hbb,by omega,fun j h1 h2=>hf j (by omega)⟩,hK1 _ _ ⟨?_,by show s.n+m≤s.c; exact hle,.inr ⟨b,(setL c.toList (s.n*sz) us).toArray,f,ha,?_,?_,?_,?_⟩⟩ rfl rfl ⟨fun k x hk e=>?_,.inl rfl,fun k e=>?_⟩⟩
   ·simp only [List.length_append,B.len,hu,Nat.add_mul]
   ·simp only [Hp.wrA,Hp.wr,if_pos,hbb]
   ·simp only [List.size_toArray,setL_length,hcl]; exact hsz
   ·intro j hj
    simp only [List.size_toArray,setL_length,hcl] at hj
    exact hf j hj
   ·apply List.ext_getElem?
    intro j
    rw [List.getElem?_take]
    simp only [List.toList_toArray]
    rw [setL_get' _ _ _ _ (by rw [hcl,hu]; exact hmul)]
    have hl:=B.len
    by_cases h1:j < (vs++us).length
    ·rw [if_pos h1]
     simp only [List.length_append] at h1
     by_cases h2:s.n*sz≤j
     ·rw [if_pos ⟨h2,by omega⟩,List.getElem?_append_right (by omega),hl]
     ·rw [if_neg (by omega),List.getElem?_append_left (by omega)]
      rw [← ht,List.getElem?_take,if_pos (by omega)]
    ·rw [if_neg h1,List.getElem?_eq_none (by omega)]
   ·simp only [Hp.wrA,Hp.wr]
    rw [if_neg (fun e=>hk 0 (by rw [e]; exact ha))]
    exact e
   ·simp only [Hp.wrA,Hp.wr] at e
    by_cases hkb:k=b
    ·rw [if_pos hkb,hbb] at e; cases e
    ·rw [if_neg hkb] at e; exact e
 ·have hsize:(vs++us++zerosV z (c - (s.n+m))).length=c*sz:=by
   simp only [List.length_append,B.len,hu,zerosV_length,hz]
   rw [← Nat.add_mul,← Nat.add_mul]
   congr 1
   omega
  refine hK2 _ _ ⟨?_,hc,.inr ⟨b,_,(0,0),rfl,by unfold Hp.new; rw [if_pos rfl],?_,fun j _=>by simp,?_⟩⟩ rfl (.inr ⟨b,rfl,hbn⟩) (Keep.new hbn _)
  ·simp only [List.length_append,B.len,hu,Nat.add_mul]
  ·simp only [List.size_toArray,hsize,Nat.le_refl]
  ·simp only [List.toList_toArray]
   rw [List.take_left' rfl]
def Cols (KD:Nat→Value→Prop) (sz:Nat) (vs:List Value):Prop:=∀ i v,vs[i]?=some v→KD (i % sz) v
theorem Cols.nil (KD:Nat→Value→Prop) (sz:Nat):Cols KD sz []:=fun i v e=>by simp at e
theorem Cols.app {KD:Nat→Value→Prop} {sz n:Nat} {vs us:List Value} (A:Cols KD sz vs) (B:Cols KD sz us) (hl:vs.length=n*sz):Cols KD sz (vs++us):=fun i v e=>by
 by_cases hi:i < vs.length
 ·rw [List.getElem?_append_left hi] at e; exact A i v e
 ·rw [List.getElem?_append_right (by omega)] at e
  have:=B _ v e
  rw [hl] at this hi
  have e2:i=(i - n*sz)+n*sz:=by omega
  rw [e2,Nat.add_mul_mod_self_right]
  exact this
theorem Cols.take {KD:Nat→Value→Prop} {sz:Nat} {vs:List Value} (A:Cols KD sz vs) (k:Nat):Cols KD sz (vs.take k):=fun i v e=>by
 rw [List.getElem?_take] at e
 by_cases hi:i < k
 ·rw [if_pos hi] at e; exact A i v e
 ·rw [if_neg hi] at e; cases e
theorem Cols.drop {KD:Nat→Value→Prop} {sz:Nat} {vs:List Value} (A:Cols KD sz vs) (k:Nat):Cols KD sz (vs.drop (k*sz)):=fun i v e=>by
 rw [List.getElem?_drop] at e
 have:=A _ v e
 rw [Nat.add_comm,Nat.add_mul_mod_self_right] at this
 exact this
theorem Cols.one {KD:Nat→Value→Prop} {sz:Nat} {vs:List Value} (A:Cols KD sz vs) (h:∀ c v,KD c v→Value.oneCell' v=true):∀ v∈vs,Value.oneCell' v=true:=fun v hv=>by
 obtain ⟨i,hi,e⟩:=List.getElem_of_mem hv
 exact h _ v (A i v (by rw [List.getElem?_eq_getElem hi,e]))
theorem row_pre {h:Hp} {A:Option Addr} {n k:Nat} {vs us:List Value} (R:h.row A n (vs++us)) (hk:vs.length=k):h.row A k vs:=by
 refine ⟨hk,?_⟩
 have hl:=R.1
 rw [List.length_append] at hl
 rcases R.2 with h0 | ⟨b,o,ha,hat⟩
 ·exact .inl (by omega)
 ·refine .inr ⟨b,o,ha,fun j hj=>?_⟩
  rw [hat j (by omega),List.getElem?_append_left (by omega)]
theorem del_put (m:Mem) (k:Key) (x y:Bf):((m.put k x).del k).put k y=m.put k y:=funext fun j=>by
 by_cases hj:j=k
 ·rw [hj,put_self,put_self]
 ·rw [put_ne _ _ hj,del_ne _ hj,put_ne _ _ hj,put_ne _ _ hj]
theorem del_put' (m:Mem) (k:Key) (x:Bf):(m.put k x).del k=m.del k:=funext fun j=>by
 by_cases hj:j=k
 ·rw [hj,del_self,del_self]
 ·rw [del_ne _ hj,put_ne _ _ hj,del_ne _ hj]
section
variable {g h:Hp} {m:Mem} {pb R t s c tA bt sz bytes:Nat} {cs us zs fv:List Value} {z v:Value} {fs:Sl}
theorem lay_on {KD:Nat→Value→Prop} {k:Key} {MK:Int→List Value} {K:Sl→Hp→Prop} (O:Mine g h m) (hl:m k=some ⟨fs,sz,t,fv⟩) (hmk:∀ i,(MK i).length=sz) (hmo:∀ i,Cols KD sz (MK i)) (hone:Cols KD sz fv) (hz:zs.length=sz) (hn:(fs.n+30)*bytes≤140737488355328)
  (hK:∀ (l4:Sl) (h2 g':Hp) (us:List Value),Keep g g'→Mine g' h2 (m.del k)→g'.row fs.a (fs.n*sz) fv→g'.row l4.a (l4.n*sz) us→Cols KD sz us→l4.n=fs.n+30→K l4 h2) :
  ∃ (I1:Sl→Int→Hp→Prop) (m1:Sl→Int→Hp→Nat),I1 fs 0 h∧(∀ l4:Sl,∀ n2:Int,∀ h2:Hp,I1 l4 n2 h2→par (n2 < 30) (appendD l4 t sz bytes zs 1 (MK n2) h2 fun l5 h3=>I1 l5 (IntKind.wrap .i64 (n2+1)) h3∧m1 l5 (IntKind.wrap .i64 (n2+1)) h3 < m1 l4 n2 h2) (K l4 h2)):=by
 have hfl:fv.length=fs.n*sz:=(O.buf _ _ hl).len
 have mulle:∀ x:Nat,x≤fs.n+30→x*bytes≤140737488355328:=fun x hx=>Nat.le_trans (Nat.mul_le_mul_right _ hx) hn
 refine ⟨fun l4 n2 h2=>∃ (j:Nat) (us:List Value) (g':Hp),n2=(j:Int)∧j≤30∧Keep g g'∧Mine g' h2 (m.put k ⟨l4,sz,t,fv++us⟩)∧Cols KD sz us∧us.length=j*sz∧l4.n=fs.n+j∧(l4.a=fs.a∨g'.row fs.a (fs.n*sz) fv),fun _ n2 _=>30 - n2.toNat,⟨0,[],g,rfl,by decide,Keep.refl g,by rw [List.append_nil,put_same hl]; exact O,Cols.nil _ _,by simp,rfl,.inl rfl⟩,?_⟩
 rintro l4 n2 h2 ⟨j,us,g',rfl,hj,Kg,O2,hus,hul,hn4,hor⟩
 have B2:=O2.buf k _ (put_self _ _ _)
 refine ⟨fun hlt=>?_,fun hge=>?_⟩
 ·have w3:IntKind.wrap .i64 ((j:Int)+1)=((j+1:Nat):Int):=nx_i (n:=30) (by omega) (by omega)
  rw [w3]
  have hus':Cols KD sz (us++MK (j:Int)):=hus.app (hmo _) hul
  have hul':(us++MK (j:Int)).length=(j+1)*sz:=by rw [List.length_append,hmk,hul,Nat.add_mul,Nat.one_mul]
  refine append_two B2 hz (by rw [hmk,Nat.one_mul]) (mulle _ (by omega)) (fun l5 h3 B3 hn5 ha U3=>?_) (fun l5 h3 B3 hn5 N3 K3=>?_)
  ·have O3:=O2.write (put_self _ _ _) U3 B3
   rw [Mem.put_put,List.append_assoc] at O3
   exact ⟨⟨j+1,us++MK (j:Int),g',rfl,by omega,Kg,O3,hus',hul',by rw [hn5]; omega,by rw [ha]; exact hor⟩,by dsimp only; omega⟩
  ·obtain ⟨g1,Kg1,O3,Bg⟩:=O2.freeze (put_self _ _ _)
   have O4:=O3.add (del_self _ _) K3 N3 B3
   rw [del_put,List.append_assoc] at O4
   refine ⟨⟨j+1,us++MK (j:Int),g1,rfl,by omega,Kg.trans Kg1,O4,hus',hul',by rw [hn5]; omega,.inr ?_⟩,by dsimp only; omega⟩
   rcases hor with ha | hr
   ·have:=Bg.row
    dsimp only at this
    rw [ha] at this
    exact row_pre this hfl
   ·exact Kg1.row hr
 ·have hj30:j=30:=by omega
  subst hj30
  obtain ⟨g1,Kg1,O3,Bg⟩:=O2.freeze (put_self _ _ _)
  rw [del_put'] at O3
  refine hK l4 h2 g1 (fv++us) (Kg.trans Kg1) O3 ?_ Bg.row (hone.app hus hfl) hn4
  rcases hor with ha | hr
  ·have:=Bg.row
   dsimp only at this
   rw [ha] at this
   exact row_pre this hfl
  ·exact Kg1.row hr
end
end Go.Eng
end
section
namespace Go.Eng
structure FR where
 id:Nat
 s:Sl
 td:Sl
 fv:List Value
 mark:Int
def Fz (g:Hp) (KD:Nat→Value→Prop) (sz:Nat) (p:Sl×Sl):Prop:=∃ vs,Cols KD sz vs∧g.row p.1.a (p.1.n*sz) vs∧g.row p.2.a (p.2.n*sz) vs∧p.1.n=p.2.n∧p.1.n≤140737488355328
theorem Fz.keep {g g':Hp} {KD:Nat→Value→Prop} {sz:Nat} {p:Sl×Sl} (K:Keep g g') (F:Fz g KD sz p):Fz g' KD sz p:=by
 obtain ⟨vs,d,a,b,c⟩:=F
 exact ⟨vs,d,K.row a,K.row b,c⟩
structure GrS (g:Hp) (m:Mem) (cs:List Value) (KD:Nat→Value→Prop) (pb R tB c s tL sz t bytes:Nat) (A4 A7:Sl) (fa rm:List FR) (outs:List (Sl×Sl)):Prop where
 hb:m kB=some (bkF pb R tB cs)
 kt:m kT=none
 a0:∃ A,m (kA c 0)=some ⟨A,1,tL,outs.map fun p=>slv p.1⟩∧cs[s+0]?=some (slv A)
 a1:∃ A,m (kA c 1)=some ⟨A,1,tL,outs.map fun p=>slv p.2⟩∧cs[s+1]?=some (slv A)
 a4:m (kA c 4)=some ⟨A4,1,tL,fa.map fun f=>slv f.s⟩∧cs[s+4]?=some (slv A4)
 a7:m (kA c 7)=some ⟨A7,1,3,fa.map fun f=>.int .i64 f.mark⟩∧cs[s+7]?=some (slv A7)
 f:∀ f∈rm,m (kL c f.id)=some ⟨f.s,sz,t,f.fv⟩∧Cols KD sz f.fv∧(f.s.n+30)*bytes≤140737488355328∧g.row f.td.a (f.td.n*sz) f.fv∧f.s.n=f.td.n
 nd:(rm.map (·.id)).Nodup
 o:∀ p∈outs,Fz g KD sz p∨∃ f∈rm,p=(f.s,f.td)
@[reducible] def growT (pb s tL t sz bytes:Nat) (zs:List Value) (MK:Int→Int→List Value) (h:Hp) (Q:Value→Hp→Prop):Prop:=
 ∃ (I:Int→Hp→Prop) (m:Int→Hp→Nat),I 0 h∧(∀ n:Int,∀ h1:Hp,I n h1→dr (some ⟨pb,0,none⟩) fun b o=>ldS h1 b (o+(s+4)) fun l=>par (n < (l.n:Int)) (dr (some ⟨pb,0,none⟩) fun b1 o1=>ldS h1 b1 (o1+(s+7)) fun l1=>ix l1.a n l1.n fun b2 o2=>ldI .i64 h1 b2 (o2+n.toNat) fun n1=>dr (some ⟨pb,0,none⟩) fun b3 o3=>ldS h1 b3 (o3+(s+4)) fun l2=>ix l2.a n l2.n fun b4 o4=>ldS h1 b4 (o4+n.toNat) fun l3=>∃ (I1:Sl→Int→Hp→Prop) (m1:Sl→Int→Hp→Nat),I1 l3 0 h1∧(∀ l4:Sl,∀ n2:Int,∀ h2:Hp,I1 l4 n2 h2→par (n2 < 30) (appendD l4 t sz bytes zs 1 (MK n1 n2) h2 fun l5 h3=>I1 l5 (IntKind.wrap .i64 (n2+1)) h3∧m1 l5 (IntKind.wrap .i64 (n2+1)) h3 < m1 l4 n2 h2) (dr (some ⟨pb,0,none⟩) fun b5 o5=>ldS h2 b5 (o5+(s+0)) fun l6=>appendD l6 tL 1 24 [.slice none 0 0] 1 [.slice l4.a l4.n l4.c] h2 fun l7 h4=>dr (some ⟨pb,0,none⟩) fun b6 o6=>st h4 b6 (o6+(s+0)) 1 [.slice l7.a l7.n l7.c] fun h5=>dr (some ⟨pb,0,none⟩) fun b7 o7=>ldS h5 b7 (o7+(s+1)) fun l8=>nw h5 (.cells ⟨[]⟩ t (0,0)) fun b8 h6=>h6.at b7 (o7+(s+1))=some (.slice l8.a l8.n l8.c)∧∃ vs,h6.row l4.a (l4.n*sz) vs∧(∀ v∈vs,Value.oneCell' v=true)∧appendD ⟨(some ⟨b8,0,none⟩),0,0⟩ t sz bytes zs l4.n vs h6 fun l9 h7=>h7.at b7 (o7+(s+1))=some (.slice l8.a l8.n l8.c)∧h7.at b7 (o7+(s+1))=some (.slice l8.a l8.n l8.c)∧appendD l8 tL 1 24 [.slice none 0 0] 1 [.slice l9.a l9.n l9.c] h7 fun l10 h8=>dr (some ⟨pb,0,none⟩) fun b9 o8=>st h8 b9 (o8+(s+1)) 1 [.slice l10.a l10.n l10.c] fun h9=>I (IntKind.wrap .i64 (n+1)) h9∧m (IntKind.wrap .i64 (n+1)) h9 < m n h1))) (dr (some ⟨pb,0,none⟩) fun b10 o9=>st h1 b10 (o9+(s+4)) 1 [.slice none 0 0] fun h10=>dr (some ⟨pb,0,none⟩) fun b11 o10=>st h10 b11 (o10+(s+7)) 1 [.slice none 0 0] fun h11=>Q (.tuple ⟨[]⟩) h11))
section
variable {g h:Hp} {m:Mem} {pb R tB t s c tL sz bytes:Nat} {cs zs:List Value} {A4 A7:Sl} {fa:List FR} {outs:List (Sl×Sl)} {Q:Value→Hp→Prop} {KD:Nat→Value→Prop}
theorem grow_k {MK:Int→Int→List Value} (O:Mine g h m) (G0:GrS g m cs KD pb R tB c s tL sz t bytes A4 A7 fa fa outs) (hmk:∀ a i,(MK a i).length=sz) (hmo:∀ a i,Cols KD sz (MK a i)) (hKD:∀ c v,KD c v→Value.oneCell' v=true) (hby:0 < bytes) (hz:zs.length=sz) (hfa:fa.length≤1000000) (hou:outs.length≤1000000000)
  (hQ:∀ (h' g':Hp) (m':Mem) (cs':List Value) (outs':List (Sl×Sl)),Keep g g'→Mine g' h' m'→m' kB=some (bkF pb R tB cs')→m' kT=none→(∃ A,m' (kA c 0)=some ⟨A,1,tL,outs'.map fun p=>slv p.1⟩∧cs'[s+0]?=some (slv A))→(∃ A,m' (kA c 1)=some ⟨A,1,tL,outs'.map fun p=>slv p.2⟩∧cs'[s+1]?=some (slv A))→cs'[s+4]?=some (.slice none 0 0)→cs'[s+7]?=some (.slice none 0 0)→(∀ p∈outs',Fz g' KD sz p)→outs'.length=outs.length+fa.length→(∀ j,j≠kB→j≠kA c 0→j≠kA c 1→(∀ f∈fa,j≠kL c f.id)→m' j=m j)→(∀ i,i≠s+0→i≠s+1→i≠s+4→i≠s+7→cs'[i]?=cs[i]?)→Q (.tuple ⟨[]⟩) h') :
  growT pb s tL t sz bytes zs MK h Q:=by
 refine ⟨fun n h1=>∃ (D rm:List FR) (g':Hp) (m':Mem) (cs':List Value) (outs':List (Sl×Sl)),fa=D++rm∧n=(D.length:Int)∧Keep g g'∧Mine g' h1 m'∧GrS g' m' cs' KD pb R tB c s tL sz t bytes A4 A7 fa rm outs'∧outs'.length=outs.length+D.length∧(∀ j,j≠kB→j≠kA c 0→j≠kA c 1→(∀ f∈fa,j≠kL c f.id)→m' j=m j)∧(∀ i,i≠s+0→i≠s+1→cs'[i]?=cs[i]?),fun n _=>fa.length - n.toNat,⟨[],fa,g,m,cs,outs,rfl,rfl,Keep.refl g,O,G0,rfl,fun _ _ _ _ _=>rfl,fun _ _ _=>rfl⟩,?_⟩
 rintro n h1 ⟨D,rm,g',m',cs',outs',e,rfl,Kg,O1,G,hlo,hmem,hrest⟩
 have eL:=congrArg List.length e
 rw [List.length_append] at eL
 have B4:=O1.buf _ _ G.a4.1
 have B7:=O1.buf _ _ G.a7.1
 have n4:A4.n=fa.length:=by have:=B4.len; simp only [List.length_map,Nat.mul_one] at this; omega
 have n7:A7.n=fa.length:=by have:=B7.len; simp only [List.length_map,Nat.mul_one] at this; omega
 refine ⟨pb,0,rfl,A4,O1.cell G.hb G.a4.2,fun hlt=>?_,fun hge=>?_⟩
 ·rcases rm with _ | ⟨f,rm⟩
  ·exact absurd hlt (by simp at eL; omega)
  rw [List.length_cons] at eL
  have hD:D.length < fa.length:=by omega
  have gf:fa[D.length]?=some f:=by rw [e,List.getElem?_append_right (Nat.le_refl _),Nat.sub_self]; rfl
  obtain ⟨b2,ha2,c2⟩:=buf_at B7 (k:=D.length) (by rw [List.length_map]; exact hD)
  obtain ⟨b4,ha4,c4⟩:=buf_at B4 (k:=D.length) (by rw [List.length_map]; exact hD)
  dsimp only at ha2 ha4 c2 c4
  rw [List.getElem?_map,gf] at c2 c4
  refine ⟨pb,0,rfl,A7,O1.cell G.hb G.a7.2,b2,0,ha2,⟨by omega,by omega⟩,f.mark,by rw [Int.toNat_natCast]; exact c2,pb,0,rfl,A4,O1.cell G.hb G.a4.2,b4,0,ha4,⟨by omega,by omega⟩,f.s,by rw [Int.toNat_natCast]; exact c4,?_⟩
  obtain ⟨f1,f2,f3,f4,f5⟩:=G.f f List.mem_cons_self
  refine lay_on O1 f1 (hmk f.mark) (hmo f.mark) f2 hz f3 fun l4 h2 g2 us Kg2 O2 r1 r2 ho hn4=>?_
  have hb2:(m'.del (kL c f.id)) kB=some (bkF pb R tB cs'):=by rw [del_ne _ (Ne.symm (kL_kB _ _))]; exact G.hb
  have dA:∀ i,(m'.del (kL c f.id)) (kA c i)=m' (kA c i):=fun i=>del_ne _ (Ne.symm (kL_kA _ _ _ _))
  have kt2:(m'.del (kL c f.id)) kT=none:=by rw [del_ne _ (fun e=>by cases e)]; exact G.kt
  obtain ⟨A0,x0,y0⟩:=G.a0
  obtain ⟨A1,x1,y1⟩:=G.a1
  refine ⟨pb,0,rfl,A0,O2.cell hb2 y0,?_⟩
  refine app_f (v:=slv l4) O2 hb2 (by rw [dA]; exact x0) y0 (by rw [List.length_map]; omega) fun h5 B0 M3 cs3 O3 hb3 p3 n3 q3 g3=>?_
  have y1':cs3[s+1]?=some (slv A1):=by rw [g3 _ (by omega)]; exact y1
  have kt3:M3 kT=none:=by rw [n3 _ (fun e=>by cases e) (fun e=>by cases e)]; exact kt2
  refine ⟨pb,0,rfl,A1,O3.cell hb3 y1',?_⟩
  refine copy_f (fun h' K'=>keep_at K' (O3.cell hb3 y1')) O3 kt3 (O3.keep.row r2) (ho.one hKD) hz (by rw [hn4]; exact f3) fun nt h7 g4 Kg4 O4 rnt hnt K5=>?_
  refine ⟨O4.cell hb3 y1',O4.cell hb3 y1',?_⟩
  refine app_f (v:=slv nt) O4 hb3 (by rw [n3 _ (kA_kB _ _) (kA_ne (by decide)),dA]; exact x1) y1' (by rw [List.length_map]; omega) fun h9 B1 M5 cs5 O5 hb5 p5 n5 q5 g5=>?_
  rw [nx_i (n:=100000000) (by omega) (by omega)]
  have K24:Keep g' g4:=Kg2.trans Kg4
  have nd:=G.nd
  rw [List.map_cons,List.nodup_cons] at nd
  refine ⟨⟨D++[f],rm,g4,M5,cs5,outs'++[(l4,nt)],by rw [e]; simp,by simp,Kg.trans K24,O5,⟨hb5,?_,⟨B0,?_,?_⟩,⟨B1,?_,q5⟩,⟨?_,?_⟩,⟨?_,?_⟩,fun f' hf'=>?_,nd.2,fun p hp=>?_⟩,by rw [List.length_append,List.length_append,List.length_singleton,List.length_singleton]; omega,fun j h1 h2 h3 h4=>?_,fun i h0 h1=>?_⟩,by dsimp only; omega⟩
  ·rw [n5 _ (fun e=>by cases e) (fun e=>by cases e)]; exact kt3
  ·rw [n5 _ (kA_kB _ _) (kA_ne (by decide)),p3,List.map_append]; rfl
  ·rw [g5 _ (by omega)]; exact q3
  ·rw [p5,List.map_append]; rfl
  ·rw [n5 _ (kA_kB _ _) (kA_ne (by decide)),n3 _ (kA_kB _ _) (kA_ne (by decide)),dA]; exact G.a4.1
  ·rw [g5 _ (by omega),g3 _ (by omega)]; exact G.a4.2
  ·rw [n5 _ (kA_kB _ _) (kA_ne (by decide)),n3 _ (kA_kB _ _) (kA_ne (by decide)),dA]; exact G.a7.1
  ·rw [g5 _ (by omega),g3 _ (by omega)]; exact G.a7.2
  ·obtain ⟨e1,e2,e3,e4,e5⟩:=G.f f' (List.mem_cons_of_mem _ hf')
   refine ⟨?_,e2,e3,K24.row e4,e5⟩
   rw [n5 _ (kL_kB _ _) (kL_kA _ _ _ _),n3 _ (kL_kB _ _) (kL_kA _ _ _ _),del_ne _ (fun q=>nd.1 (by
    have q2:f'.id=f.id:=by unfold kL at q; simpa using q
    rw [← q2]; exact List.mem_map_of_mem (f:=(·.id)) hf'))]
   exact e1
  ·rcases List.mem_append.1 hp with hp | hp
   ·rcases G.o p hp with h | ⟨f',hf',ep⟩
    ·exact .inl (h.keep K24)
    ·rcases List.mem_cons.1 hf' with rfl | hf'
     ·rw [ep]
      exact .inl ⟨f'.fv,f2,Kg4.row r1,K24.row f4,f5,Nat.le_trans (Nat.le_add_right _ 30) (Nat.le_trans (Nat.le_mul_of_pos_right _ hby) f3)⟩
     ·exact .inr ⟨f',hf',ep⟩
   ·rw [List.mem_singleton] at hp
    rw [hp]
    exact .inl ⟨us,ho,Kg4.row r2,rnt,hnt.symm,by dsimp only; rw [hn4]; exact Nat.le_trans (Nat.le_mul_of_pos_right _ hby) f3⟩
  ·rw [n5 _ h1 h3,n3 _ h1 h2,del_ne _ (h4 f (by rw [e]; simp))]
   exact hmem j h1 h2 h3 h4
  ·rw [g5 _ h1,g3 _ h0]
   exact hrest i h0 h1
 ·have hR:rm=[]:=List.eq_nil_of_length_eq_zero (by omega)
  subst hR
  rw [List.append_nil] at e
  subst e
  obtain ⟨c1,O2⟩:=O1.setCell G.hb G.a4.2 (.slice none 0 0)
  have hb2:=put_self m' kB (bkF pb R tB (cs'.set (s+4) (.slice none 0 0)))
  obtain ⟨c2,O3⟩:=O2.setCell hb2 (i:=s+7) (by rw [List.getElem?_set_ne (by omega)]; exact G.a7.2) (.slice none 0 0)
  rw [Mem.put_put] at O3
  refine ⟨pb,0,rfl,c1,pb,0,rfl,c2,?_⟩
  obtain ⟨A0,x0,y0⟩:=G.a0
  obtain ⟨A1,x1,y1⟩:=G.a1
  have l4:=(List.getElem?_eq_some_iff.1 G.a4.2).1
  have l7:=(List.getElem?_eq_some_iff.1 G.a7.2).1
  refine hQ _ g' _ _ outs' Kg O3 (put_self _ _ _) (by rw [put_ne _ _ (fun e=>by cases e)]; exact G.kt) ⟨A0,by rw [put_ne _ _ (kA_kB _ _)]; exact x0,by rw [List.getElem?_set_ne (by omega),List.getElem?_set_ne (by omega)]; exact y0⟩ ⟨A1,by rw [put_ne _ _ (kA_kB _ _)]; exact x1,by rw [List.getElem?_set_ne (by omega),List.getElem?_set_ne (by omega)]; exact y1⟩ (by rw [List.getElem?_set_ne (by omega),List.getElem?_set_self l4]) (List.getElem?_set_self (by rw [List.length_set]; exact l7)) (fun p hp=>?_) hlo (fun j h1 h2 h3 h4=>by rw [put_ne _ _ h1]; exact hmem j h1 h2 h3 h4) fun i h0 h1 h4 h7=>by rw [List.getElem?_set_ne (Ne.symm h7),List.getElem?_set_ne (Ne.symm h4)]; exact hrest i h0 h1
  rcases G.o p hp with h | ⟨f,hf,_⟩
  ·exact h
  ·cases hf
end
end Go.Eng
end
section
namespace Go.Eng
structure WL where
 id:Nat
 s:Sl
 nt:Sl
 vs:List Value
 mark:Int
 due:Int
@[reducible] def holdT (pb s:Nat) (S:Sl→Sl→Hp→(Value→Hp→Prop)→Prop) (h:Hp) (Q:Value→Hp→Prop):Prop:=
 ∃ (I:Int→Hp→Prop) (m:Int→Hp→Nat),I 0 h∧(∀ n:Int,∀ h1:Hp,I n h1→dr (some ⟨pb,0,none⟩) fun b o=>ldS h1 b (o+(s+0)) fun l=>par (n < (l.n:Int)) (dr (some ⟨pb,0,none⟩) fun b1 o1=>ldS h1 b1 (o1+(s+0)) fun l1=>ix l1.a n l1.n fun b2 o2=>ldS h1 b2 (o2+n.toNat) fun l2=>dr (some ⟨pb,0,none⟩) fun b3 o3=>ldS h1 b3 (o3+(s+1)) fun l3=>ix l3.a n l3.n fun b4 o4=>ldS h1 b4 (o4+n.toNat) fun l4=>S l2 l4 h1 fun r h2=>retB r (I (IntKind.wrap .i64 (n+1)) h2∧m (IntKind.wrap .i64 (n+1)) h2 < m n h1) (Q (.bool false) h2)) (∃ (I1:Int→Hp→Prop) (m1:Int→Hp→Nat),I1 0 h1∧(∀ n1:Int,∀ h3:Hp,I1 n1 h3→dr (some ⟨pb,0,none⟩) fun b5 o5=>ldS h3 b5 (o5+(s+2)) fun l5=>par (n1 < (l5.n:Int)) (dr (some ⟨pb,0,none⟩) fun b6 o6=>ldS h3 b6 (o6+(s+2)) fun l6=>ix l6.a n1 l6.n fun b7 o7=>ldS h3 b7 (o7+n1.toNat) fun l7=>dr (some ⟨pb,0,none⟩) fun b8 o8=>ldS h3 b8 (o8+(s+3)) fun l8=>ix l8.a n1 l8.n fun b9 o9=>ldS h3 b9 (o9+n1.toNat) fun l9=>S l7 l9 h3 fun r1 h4=>retB r1 (I1 (IntKind.wrap .i64 (n1+1)) h4∧m1 (IntKind.wrap .i64 (n1+1)) h4 < m1 n1 h3) (Q (.bool false) h4)) (Q (.bool true) h3))))
section
variable {g h:Hp} {m:Mem} {pb R tB t s c tL sz:Nat} {cs:List Value} {outs:List (Sl×Sl)} {ws:List WL} {Q:Value→Hp→Prop} {KD:Nat→Value→Prop}
theorem pairs_rd {w:Sl} {l:List Sl} (B:Buf h w 1 tL (l.map slv)) {i:Nat} {x:Sl} (hx:l[i]?=some x):w.n=l.length∧∃ b,w.a=some ⟨b,0,none⟩∧h.at b (0+i)=some (.slice x.a x.n x.c):=by
 have hl:i < l.length:=(List.getElem?_eq_some_iff.1 hx).1
 have hn:w.n=l.length:=by have:=B.len; simp only [List.length_map,Nat.mul_one] at this; omega
 obtain ⟨b,ha,c4⟩:=buf_at B (k:=i) (by rw [List.length_map]; exact hl)
 rw [List.getElem?_map,hx] at c4
 exact ⟨hn,b,ha,c4⟩
theorem hold_k {S:Sl→Sl→Hp→(Value→Hp→Prop)→Prop} (hS:∀ l l' (h:Hp) vs K,Cols KD sz vs→h.row l.a (l.n*sz) vs→h.row l'.a (l'.n*sz) vs→l.n=l'.n→l.n≤140737488355328→K (.bool true) h→S l l' h K)
  (O:Mine g h m) (hb:m kB=some (bkF pb R tB cs)) {A0 A1 A2 A3:Sl} (x0:m (kA c 0)=some ⟨A0,1,tL,(outs.map (·.1)).map slv⟩) (y0:cs[s+0]?=some (slv A0)) (x1:m (kA c 1)=some ⟨A1,1,tL,(outs.map (·.2)).map slv⟩) (y1:cs[s+1]?=some (slv A1))
  (x2:m (kA c 2)=some ⟨A2,1,tL,(ws.map (·.s)).map slv⟩) (y2:cs[s+2]?=some (slv A2)) (x3:m (kA c 3)=some ⟨A3,1,tL,(ws.map (·.nt)).map slv⟩) (y3:cs[s+3]?=some (slv A3))
  (ho:∀ p∈outs,Fz g KD sz p) (hw:∀ w∈ws,Cols KD sz w.vs∧h.row w.s.a (w.s.n*sz) w.vs∧g.row w.nt.a (w.nt.n*sz) w.vs∧w.s.n=w.nt.n∧w.s.n≤140737488355328) (lo:outs.length≤1000000000) (lw:ws.length≤1000000000) (hQ:Q (.bool true) h) :
  holdT pb s S h Q:=by
 have n0:A0.n=outs.length:=by have:=(O.buf _ _ x0).len; simp only [List.length_map,Nat.mul_one] at this; omega
 have n2:A2.n=ws.length:=by have:=(O.buf _ _ x2).len; simp only [List.length_map,Nat.mul_one] at this; omega
 refine ⟨fun n h1=>∃ i:Nat,n=(i:Int)∧h1=h,fun n _=>outs.length - n.toNat,⟨0,rfl,rfl⟩,?_⟩
 rintro n h1 ⟨i,rfl,rfl⟩
 refine ⟨pb,0,rfl,A0,O.cell hb y0,fun hlt=>?_,fun _=>?_⟩
 ·have hi:i < outs.length:=by omega
  have hp:=List.getElem?_eq_getElem hi
  obtain ⟨vs,r0,r1,r2,r3,r4⟩:=ho _ (List.getElem_mem hi)
  obtain ⟨_,b2,a2,c2⟩:=pairs_rd (O.buf _ _ x0) (i:=i) (x:=outs[i].1) (by rw [List.getElem?_map,hp]; rfl)
  obtain ⟨n1,b4,a4,c4⟩:=pairs_rd (O.buf _ _ x1) (i:=i) (x:=outs[i].2) (by rw [List.getElem?_map,hp]; rfl)
  rw [List.length_map] at n1
  dsimp only at a2 a4 n1
  refine ⟨pb,0,rfl,A0,O.cell hb y0,b2,0,a2,⟨by omega,by omega⟩,_,by rw [Int.toNat_natCast]; exact c2,pb,0,rfl,A1,O.cell hb y1,b4,0,a4,⟨by omega,by omega⟩,_,by rw [Int.toNat_natCast]; exact c4,?_⟩
  refine hS _ _ _ vs _ r0 (O.keep.row r1) (O.keep.row r2) r3 r4 ⟨true,rfl,fun _=>?_,fun hh=>Bool.noConfusion hh⟩
  rw [nx_i hi (by omega)]
  exact ⟨⟨i+1,rfl,rfl⟩,by dsimp only; omega⟩
 ·refine ⟨fun n h2=>∃ i:Nat,n=(i:Int)∧h2=h1,fun n _=>ws.length - n.toNat,⟨0,rfl,rfl⟩,?_⟩
  rintro n h2 ⟨i,rfl,rfl⟩
  refine ⟨pb,0,rfl,A2,O.cell hb y2,fun hlt=>?_,fun _=>hQ⟩
  have hi:i < ws.length:=by omega
  have hp:=List.getElem?_eq_getElem hi
  obtain ⟨r0,r1,r2,r3,r4⟩:=hw _ (List.getElem_mem hi)
  obtain ⟨_,b2,a2,c2⟩:=pairs_rd (O.buf _ _ x2) (i:=i) (x:=ws[i].s) (by rw [List.getElem?_map,hp]; rfl)
  obtain ⟨n1,b4,a4,c4⟩:=pairs_rd (O.buf _ _ x3) (i:=i) (x:=ws[i].nt) (by rw [List.getElem?_map,hp]; rfl)
  rw [List.length_map] at n1
  dsimp only at a2 a4 n1
  refine ⟨pb,0,rfl,A2,O.cell hb y2,b2,0,a2,⟨by omega,by omega⟩,_,by rw [Int.toNat_natCast]; exact c2,pb,0,rfl,A3,O.cell hb y3,b4,0,a4,⟨by omega,by omega⟩,_,by rw [Int.toNat_natCast]; exact c4,?_⟩
  refine hS _ _ _ _ _ r0 r1 (O.keep.row r2) r3 r4 ⟨true,rfl,fun _=>?_,fun hh=>Bool.noConfusion hh⟩
  rw [nx_i hi (by omega)]
  exact ⟨⟨i+1,rfl,rfl⟩,by dsimp only; omega⟩
end
end Go.Eng
end
section
namespace Go.Eng
def kO (c f:Nat):Key:=(4,c,f)
theorem kO_kB (c f:Nat):kO c f≠kB:=fun e=>by cases e
theorem kO_kA (c f d e:Nat):kO c f≠kA d e:=fun q=>by cases q
theorem kO_kL (c f d e:Nat):kO c f≠kL d e:=fun q=>by cases q
theorem Mine.move {g h:Hp} {m:Mem} {k k':Key} {x:Bf} (O:Mine g h m) (hk:m k=some x) (hn:m k'=none):Mine g h ((m.del k).put k' x):=by
 have hkk:k'≠k:=fun e=>by rw [e,hk] at hn; cases hn
 have find:∀ j y,((m.del k).put k' x) j=some y→∃ i,m i=some y∧(j=k'→i=k)∧(j≠k'→i=j∧j≠k):=fun j y e=>by
  by_cases hj:j=k'
  ·rw [hj,put_self] at e
   cases e
   exact ⟨k,hk,fun _=>rfl,fun h=>absurd hj h⟩
  ·rw [put_ne _ _ hj] at e
   have hjk:j≠k:=fun q=>by rw [q,del_self] at e; cases e
   rw [del_ne _ hjk] at e
   exact ⟨j,e,fun h=>absurd h hj,fun _=>⟨rfl,hjk⟩⟩
 refine ⟨O.keep,fun j y e=>?_,fun j y e=>?_,fun j j' y y' n e e'=>?_⟩
 ·obtain ⟨i,hi,_⟩:=find j y e
  exact O.buf i y hi
 ·obtain ⟨i,hi,_⟩:=find j y e
  exact O.new i y hi
 ·obtain ⟨i,hi,a1,a2⟩:=find j y e
  obtain ⟨i',hi',b1,b2⟩:=find j' y' e'
  refine O.off i i' y y' (fun q=>?_) hi hi'
  by_cases h1:j=k' <;> by_cases h2:j'=k'
  ·exact n (h1.trans h2.symm)
  ·exact (b2 h2).2 ((b2 h2).1.symm.trans (q.symm.trans (a1 h1)))
  ·exact (a2 h1).2 ((a2 h1).1.symm.trans (q.trans (b1 h2)))
  ·exact n ((a2 h1).1.symm.trans (q.trans (b2 h2).1))
theorem Mine.nil {g h:Hp} {m:Mem} {k:Key} (O:Mine g h m) (hn:m k=none) (sz t:Nat):Mine g h (m.put k ⟨⟨none,0,0⟩,sz,t,[]⟩):=
 O.add hn (Keep.refl h) (.inl rfl) (Buf.nil h sz t)
theorem fill_k {KD:Nat→Value→Prop} {g h:Hp} {m:Mem} {k:Key} {ls:Sl} {sz t:Nat} {vs:List Value} {OF:Int→Nat} {MK:Int→List Value} {K:Hp→Prop} (O:Mine g h m) (hl:m k=some ⟨ls,sz,t,vs⟩) (hsz:0 < sz) (hOF:∀ i:Nat,OF (i:Int)=i*sz) (hmk:∀ i,(MK i).length=sz) (hmo:∀ i,Cols KD sz (MK i)) (hone:Cols KD sz vs) (hn:ls.n≤140737488355328)
  (hK:∀ h' us,Mine g h' (m.put k ⟨ls,sz,t,us⟩)→Cols KD sz us→K h') :
  ∃ (I1:Int→Hp→Prop) (m1:Int→Hp→Nat),I1 0 h∧(∀ n5:Int,∀ h15:Hp,I1 n5 h15→par (n5 < (ls.n:Int)) (ix ls.a n5 ls.n fun b22 o22=>st h15 b22 (o22+OF n5) sz (MK n5) fun h16=>I1 (IntKind.wrap .i64 (n5+1)) h16∧m1 (IntKind.wrap .i64 (n5+1)) h16 < m1 n5 h15) (K h15)):=by
 refine ⟨fun n h'=>∃ (i:Nat) (us:List Value),n=(i:Int)∧Mine g h' (m.put k ⟨ls,sz,t,us⟩)∧Cols KD sz us,fun n _=>ls.n - n.toNat,⟨0,vs,rfl,by rw [put_same hl]; exact O,hone⟩,?_⟩
 rintro n h' ⟨i,us,rfl,O1,hus⟩
 refine ⟨fun hlt=>?_,fun _=>hK h' us O1 hus⟩
 have B:=O1.buf k _ (put_self _ _ _)
 have hL:us.length=ls.n*sz:=B.len
 have hi:i < ls.n:=by omega
 have hle:i*sz+sz≤us.length:=by rw [hL,show i*sz+sz=(i+1)*sz by rw [Nat.add_mul,Nat.one_mul]]; exact Nat.mul_le_mul_right _ hi
 have e:us=us.take (i*sz)++((us.drop (i*sz)).take sz++(us.drop (i*sz)).drop sz):=by rw [List.take_append_drop,List.take_append_drop]
 have l1:(us.take (i*sz)).length=i*sz:=by rw [List.length_take]; omega
 have l2:((us.drop (i*sz)).take sz).length=sz:=by rw [List.length_take,List.length_drop]; omega
 have B':Buf h' ls sz t (us.take (i*sz)++((us.drop (i*sz)).take sz++(us.drop (i*sz)).drop sz)):=by rw [← e]; exact B
 obtain ⟨b,ha,hc,U,Bw⟩:=buf_wr (V:=MK (i:Int)) B' (by rw [l2,hmk]) (by rw [l2]; exact hsz)
 rw [l1,hmk] at hc
 rw [l1] at U Bw
 have O2:=O1.write (put_self _ _ _) U Bw
 rw [Mem.put_put] at O2
 refine ⟨b,0,ha,⟨by omega,hlt⟩,?_⟩
 dsimp only
 rw [hOF,Nat.zero_add,nx_i hi (by omega)]
 refine ⟨hc,⟨i+1,_,rfl,O2,(hus.take _).app ((hmo _).app ?_ (by rw [hmk]; exact (Nat.one_mul _).symm)) l1⟩,by omega⟩
 have:=(hus.drop i).drop 1
 rw [Nat.one_mul] at this
 exact this
end Go.Eng
end
section
namespace Go.Eng
structure OutK (m:Mem) (cs:List Value) (c s tL:Nat) (v0 v1 v4 v7:List Value) (l nt:Sl) (mark:Int) (m':Mem) (cs':List Value):Prop where
 a0:∃ A,m' (kA c 0)=some ⟨A,1,tL,v0++[slv l]⟩∧cs'[s+0]?=some (slv A)
 a1:∃ A,m' (kA c 1)=some ⟨A,1,tL,v1++[slv nt]⟩∧cs'[s+1]?=some (slv A)
 a4:∃ A,m' (kA c 4)=some ⟨A,1,tL,v4++[slv l]⟩∧cs'[s+4]?=some (slv A)
 a7:∃ A,m' (kA c 7)=some ⟨A,1,3,v7++[.int .i64 mark]⟩∧cs'[s+7]?=some (slv A)
 rest:∀ i,i≠s+0→i≠s+1→i≠s+4→i≠s+7→cs'[i]?=cs[i]?
 mem:∀ j,j≠kB→j≠kA c 0→j≠kA c 1→j≠kA c 4→j≠kA c 7→m' j=m j
section
variable {g h:Hp} {m:Mem} {pb R tB t s c tL sz bytes:Nat} {cs zs vs v0 v1 v4 v7:List Value} {l A0 A1 A4 A7:Sl} {mark:Int} {K:Hp→Prop}
theorem out_k {k:Key} (O:Mine g h m) (hb:m kB=some (bkF pb R tB cs)) (hk:m kT=none) (hl:m k=some ⟨l,sz,t,vs⟩) (hkB:k≠kB) (hkA:∀ f,k≠kA c f)
  (m0:m (kA c 0)=some ⟨A0,1,tL,v0⟩) (e0:cs[s+0]?=some (slv A0)) (m1:m (kA c 1)=some ⟨A1,1,tL,v1⟩) (e1:cs[s+1]?=some (slv A1))
  (m4:m (kA c 4)=some ⟨A4,1,tL,v4⟩) (e4:cs[s+4]?=some (slv A4)) (m7:m (kA c 7)=some ⟨A7,1,3,v7⟩) (e7:cs[s+7]?=some (slv A7))
  (l0:v0.length≤1000000000) (l1:v1.length≤1000000000) (l4:v4.length≤1000000000) (l7:v7.length≤1000000000) (hone:∀ v∈vs,Value.oneCell' v=true) (hz:zs.length=sz) (hn:l.n*bytes≤140737488355328)
  (hK:∀ h' g' m' cs' nt,Keep g g'→Mine g' h' m'→m' kB=some (bkF pb R tB cs')→OutK m cs c s tL v0 v1 v4 v7 l nt mark m' cs'→g'.row nt.a (nt.n*sz) vs→nt.n=l.n→K h') :
  dr (some ⟨pb,0,none⟩) fun b23 o23=>ldS h b23 (o23+(s+0)) fun l14=>appendD l14 tL 1 24 [.slice none 0 0] 1 [.slice l.a l.n l.c] h fun l15 h17=>dr (some ⟨pb,0,none⟩) fun b24 o24=>st h17 b24 (o24+(s+0)) 1 [.slice l15.a l15.n l15.c] fun h18=>dr (some ⟨pb,0,none⟩) fun b25 o25=>ldS h18 b25 (o25+(s+1)) fun l16=>nw h18 (.cells ⟨[]⟩ t (0,0)) fun b26 h19=>h19.at b25 (o25+(s+1))=some (.slice l16.a l16.n l16.c)∧∃ vs,h19.row l.a (l.n*sz) vs∧(∀ v∈vs,Value.oneCell' v=true)∧appendD ⟨(some ⟨b26,0,none⟩),0,0⟩ t sz bytes zs l.n vs h19 fun l17 h20=>h20.at b25 (o25+(s+1))=some (.slice l16.a l16.n l16.c)∧h20.at b25 (o25+(s+1))=some (.slice l16.a l16.n l16.c)∧appendD l16 tL 1 24 [.slice none 0 0] 1 [.slice l17.a l17.n l17.c] h20 fun l18 h21=>dr (some ⟨pb,0,none⟩) fun b27 o26=>st h21 b27 (o26+(s+1)) 1 [.slice l18.a l18.n l18.c] fun h22=>dr (some ⟨pb,0,none⟩) fun b28 o27=>ldS h22 b28 (o27+(s+4)) fun l19=>appendD l19 tL 1 24 [.slice none 0 0] 1 [.slice l.a l.n l.c] h22 fun l20 h23=>dr (some ⟨pb,0,none⟩) fun b29 o28=>st h23 b29 (o28+(s+4)) 1 [.slice l20.a l20.n l20.c] fun h24=>dr (some ⟨pb,0,none⟩) fun b30 o29=>ldS h24 b30 (o29+(s+7)) fun l21=>appendD l21 3 1 8 [.int .i64 0] 1 [.int .i64 mark] h24 fun l22 h25=>dr (some ⟨pb,0,none⟩) fun b31 o30=>st h25 b31 (o30+(s+7)) 1 [.slice l22.a l22.n l22.c] fun h26=>K h26:=by
 refine ⟨pb,0,rfl,A0,O.cell hb e0,?_⟩
 refine app_f (v:=slv l) O hb m0 e0 (by omega) fun h2 B0 M2 cs2 O2 hb2 p2 n2 q2 g2=>?_
 have f1:cs2[s+1]?=some (slv A1):=by rw [g2 _ (by omega)]; exact e1
 refine ⟨pb,0,rfl,A1,O2.cell hb2 f1,?_⟩
 have hl2:M2 k=some ⟨l,sz,t,vs⟩:=by rw [n2 _ hkB (hkA 0)]; exact hl
 refine copy_f (fun h' K'=>keep_at K' (O2.cell hb2 f1)) O2 (by rw [n2 _ (fun e=>by cases e) (fun e=>by cases e)]; exact hk) (O2.buf _ _ hl2).row hone hz hn fun nt h5 g' Kg O3 rnt hnt K5=>?_
 refine ⟨O3.cell hb2 f1,O3.cell hb2 f1,?_⟩
 refine app_f (v:=slv nt) O3 hb2 (by rw [n2 _ (kA_kB _ _) (kA_ne (by decide))]; exact m1) f1 (by omega) fun h7 B1 M3 cs3 O4 hb3 p3 n3 q3 g3=>?_
 have f4:cs3[s+4]?=some (slv A4):=by rw [g3 _ (by omega),g2 _ (by omega)]; exact e4
 refine ⟨pb,0,rfl,A4,O4.cell hb3 f4,?_⟩
 refine app_f (v:=slv l) O4 hb3 (by rw [n3 _ (kA_kB _ _) (kA_ne (by decide)),n2 _ (kA_kB _ _) (kA_ne (by decide))]; exact m4) f4 (by omega) fun h9 B4 M4 cs4 O5 hb4 p4 n4 q4 g4=>?_
 have f7:cs4[s+7]?=some (slv A7):=by rw [g4 _ (by omega),g3 _ (by omega),g2 _ (by omega)]; exact e7
 refine ⟨pb,0,rfl,A7,O5.cell hb4 f7,?_⟩
 refine app_f (v:=.int .i64 mark) O5 hb4 (by rw [n4 _ (kA_kB _ _) (kA_ne (by decide)),n3 _ (kA_kB _ _) (kA_ne (by decide)),n2 _ (kA_kB _ _) (kA_ne (by decide))]; exact m7) f7 (by omega) fun h12 B7 M7 cs7 O6 hb7 p7 n7 q7 g7=>?_
 refine hK _ g' M7 cs7 nt Kg O6 hb7 ⟨⟨B0,?_,?_⟩,⟨B1,?_,?_⟩,⟨B4,?_,?_⟩,⟨B7,p7,q7⟩,fun i h0 h1 h4 h7=>?_,fun j hB h0 h1 h4 h7=>?_⟩ rnt hnt
 ·rw [n7 _ (kA_kB _ _) (kA_ne (by decide)),n4 _ (kA_kB _ _) (kA_ne (by decide)),n3 _ (kA_kB _ _) (kA_ne (by decide))]; exact p2
 ·rw [g7 _ (by omega),g4 _ (by omega),g3 _ (by omega)]; exact q2
 ·rw [n7 _ (kA_kB _ _) (kA_ne (by decide)),n4 _ (kA_kB _ _) (kA_ne (by decide))]; exact p3
 ·rw [g7 _ (by omega),g4 _ (by omega)]; exact q3
 ·rw [n7 _ (kA_kB _ _) (kA_ne (by decide))]; exact p4
 ·rw [g7 _ (by omega)]; exact q4
 ·rw [g7 _ h7,g4 _ h4,g3 _ h1,g2 _ h0]
 ·rw [n7 _ hB h7,n4 _ hB h4,n3 _ hB h1,n2 _ hB h0]
end
end Go.Eng
end
section
namespace Go.Eng
structure WaitK (m:Mem) (cs:List Value) (c s tL:Nat) (v2 v3 v5 v6:List Value) (l nt:Sl) (mark due:Int) (m':Mem) (cs':List Value):Prop where
 a2:∃ A,m' (kA c 2)=some ⟨A,1,tL,v2++[slv l]⟩∧cs'[s+2]?=some (slv A)
 a3:∃ A,m' (kA c 3)=some ⟨A,1,tL,v3++[slv nt]⟩∧cs'[s+3]?=some (slv A)
 a5:∃ A,m' (kA c 5)=some ⟨A,1,3,v5++[.int .i64 mark]⟩∧cs'[s+5]?=some (slv A)
 a6:∃ A,m' (kA c 6)=some ⟨A,1,3,v6++[.int .i64 due]⟩∧cs'[s+6]?=some (slv A)
 rest:∀ i,i≠s+2→i≠s+3→i≠s+5→i≠s+6→cs'[i]?=cs[i]?
 mem:∀ j,j≠kB→j≠kA c 2→j≠kA c 3→j≠kA c 5→j≠kA c 6→m' j=m j
section
variable {g h:Hp} {m:Mem} {pb R tB s c tL i:Nat} {cs v2 v3 v5 v6 o3 o6:List Value} {l nt L1 L3 A2 A3 A5 A6:Sl} {mark due:Int} {K:Hp→Prop}
theorem wait_k (O:Mine g h m) (hb:m kB=some (bkF pb R tB cs))
  (m2:m (kA c 2)=some ⟨A2,1,tL,v2⟩) (e2:cs[s+2]?=some (slv A2)) (m3:m (kA c 3)=some ⟨A3,1,tL,v3⟩) (e3:cs[s+3]?=some (slv A3))
  (m5:m (kA c 5)=some ⟨A5,1,3,v5⟩) (e5:cs[s+5]?=some (slv A5)) (m6:m (kA c 6)=some ⟨A6,1,3,v6⟩) (e6:cs[s+6]?=some (slv A6))
  (q3:m (kO c 3)=some ⟨L1,1,tL,o3⟩) (x3:o3[i]?=some (slv nt)) (q6:m (kO c 6)=some ⟨L3,1,3,o6⟩) (x6:o6[i]?=some (.int .i64 due))
  (l2:v2.length≤1000000000) (l3:v3.length≤1000000000) (l5:v5.length≤1000000000) (l6:v6.length≤1000000000)
  (hK:∀ h' m' cs',Mine g h' m'→m' kB=some (bkF pb R tB cs')→WaitK m cs c s tL v2 v3 v5 v6 l nt mark due m' cs'→K h') :
  dr (some ⟨pb,0,none⟩) fun b12 o12=>ldS h b12 (o12+(s+2)) fun l5=>appendD l5 tL 1 24 [.slice none 0 0] 1 [.slice l.a l.n l.c] h fun l6 h6=>dr (some ⟨pb,0,none⟩) fun b13 o13=>st h6 b13 (o13+(s+2)) 1 [.slice l6.a l6.n l6.c] fun h7=>dr (some ⟨pb,0,none⟩) fun b14 o14=>ldS h7 b14 (o14+(s+3)) fun l7=>ix L1.a (i:Int) L1.n fun b15 o15=>ldS h7 b15 (o15+(i:Int).toNat) fun l8=>h7.at b14 (o14+(s+3))=some (.slice l7.a l7.n l7.c)∧appendD l7 tL 1 24 [.slice none 0 0] 1 [.slice l8.a l8.n l8.c] h7 fun l9 h8=>dr (some ⟨pb,0,none⟩) fun b16 o16=>st h8 b16 (o16+(s+3)) 1 [.slice l9.a l9.n l9.c] fun h9=>dr (some ⟨pb,0,none⟩) fun b17 o17=>ldS h9 b17 (o17+(s+5)) fun l10=>appendD l10 3 1 8 [.int .i64 0] 1 [.int .i64 mark] h9 fun l11 h10=>dr (some ⟨pb,0,none⟩) fun b18 o18=>st h10 b18 (o18+(s+5)) 1 [.slice l11.a l11.n l11.c] fun h11=>dr (some ⟨pb,0,none⟩) fun b19 o19=>ldS h11 b19 (o19+(s+6)) fun l12=>ix L3.a (i:Int) L3.n fun b20 o20=>ldI .i64 h11 b20 (o20+(i:Int).toNat) fun n4=>h11.at b19 (o19+(s+6))=some (.slice l12.a l12.n l12.c)∧appendD l12 3 1 8 [.int .i64 0] 1 [.int .i64 n4] h11 fun l13 h12=>dr (some ⟨pb,0,none⟩) fun b21 o21=>st h12 b21 (o21+(s+6)) 1 [.slice l13.a l13.n l13.c] fun h13=>K h13:=by
 have oA:∀ f e,kO c f≠kA c e:=fun f e=>kO_kA _ _ _ _
 refine ⟨pb,0,rfl,A2,O.cell hb e2,?_⟩
 refine app_f (v:=slv l) O hb m2 e2 (by omega) fun h2 B2 M2 cs2 O2 hb2 p2 n2 z2 g2=>?_
 have f3:cs2[s+3]?=some (slv A3):=by rw [g2 _ (by omega)]; exact e3
 have k3:M2 (kO c 3)=some ⟨L1,1,tL,o3⟩:=by rw [n2 _ (kO_kB _ _) (oA _ _)]; exact q3
 have i3:i < o3.length:=(List.getElem?_eq_some_iff.1 x3).1
 have t3:L1.n=o3.length:=by have:=(O2.buf _ _ k3).len; simp only [Nat.mul_one] at this; omega
 obtain ⟨b15,ha15,c15⟩:=buf_at (O2.buf _ _ k3) (k:=i) i3
 dsimp only at ha15 c15
 rw [x3] at c15
 refine ⟨pb,0,rfl,A3,O2.cell hb2 f3,b15,0,ha15,⟨by omega,by omega⟩,nt,by rw [Int.toNat_natCast]; exact c15,O2.cell hb2 f3,?_⟩
 refine app_f (v:=slv nt) O2 hb2 (by rw [n2 _ (kA_kB _ _) (kA_ne (by decide))]; exact m3) f3 (by omega) fun h3 B3 M3 cs3 O3 hb3 p3 n3 z3 g3=>?_
 have f5:cs3[s+5]?=some (slv A5):=by rw [g3 _ (by omega),g2 _ (by omega)]; exact e5
 refine ⟨pb,0,rfl,A5,O3.cell hb3 f5,?_⟩
 refine app_f (v:=.int .i64 mark) O3 hb3 (by rw [n3 _ (kA_kB _ _) (kA_ne (by decide)),n2 _ (kA_kB _ _) (kA_ne (by decide))]; exact m5) f5 (by omega) fun h5 B5 M5 cs5 O5 hb5 p5 n5 z5 g5=>?_
 have f6:cs5[s+6]?=some (slv A6):=by rw [g5 _ (by omega),g3 _ (by omega),g2 _ (by omega)]; exact e6
 have k6:M5 (kO c 6)=some ⟨L3,1,3,o6⟩:=by rw [n5 _ (kO_kB _ _) (oA _ _),n3 _ (kO_kB _ _) (oA _ _),n2 _ (kO_kB _ _) (oA _ _)]; exact q6
 have i6:i < o6.length:=(List.getElem?_eq_some_iff.1 x6).1
 have t6:L3.n=o6.length:=by have:=(O5.buf _ _ k6).len; simp only [Nat.mul_one] at this; omega
 obtain ⟨b20,ha20,c20⟩:=buf_at (O5.buf _ _ k6) (k:=i) i6
 dsimp only at ha20 c20
 rw [x6] at c20
 refine ⟨pb,0,rfl,A6,O5.cell hb5 f6,b20,0,ha20,⟨by omega,by omega⟩,due,by rw [Int.toNat_natCast]; exact c20,O5.cell hb5 f6,?_⟩
 refine app_f (v:=.int .i64 due) O5 hb5 (by rw [n5 _ (kA_kB _ _) (kA_ne (by decide)),n3 _ (kA_kB _ _) (kA_ne (by decide)),n2 _ (kA_kB _ _) (kA_ne (by decide))]; exact m6) f6 (by omega) fun h6 B6 M6 cs6 O6 hb6 p6 n6 z6 g6=>?_
 refine hK _ M6 cs6 O6 hb6 ⟨⟨B2,?_,?_⟩,⟨B3,?_,?_⟩,⟨B5,?_,?_⟩,⟨B6,p6,z6⟩,fun i h0 h1 h4 h7=>?_,fun j hB h0 h1 h4 h7=>?_⟩
 ·rw [n6 _ (kA_kB _ _) (kA_ne (by decide)),n5 _ (kA_kB _ _) (kA_ne (by decide)),n3 _ (kA_kB _ _) (kA_ne (by decide))]; exact p2
 ·rw [g6 _ (by omega),g5 _ (by omega),g3 _ (by omega)]; exact z2
 ·rw [n6 _ (kA_kB _ _) (kA_ne (by decide)),n5 _ (kA_kB _ _) (kA_ne (by decide))]; exact p3
 ·rw [g6 _ (by omega),g5 _ (by omega)]; exact z3
 ·rw [n6 _ (kA_kB _ _) (kA_ne (by decide))]; exact p5
 ·rw [g6 _ (by omega)]; exact z5
 ·rw [g6 _ h7,g5 _ h4,g3 _ h1,g2 _ h0]
 ·rw [n6 _ hB h7,n5 _ hB h4,n3 _ hB h1,n2 _ hB h0]
end
end Go.Eng
end
section
namespace Go.Eng
theorem kO_ne {c d f e:Nat} (h:f≠e):kO c f≠kO d e:=fun q=>h (by cases q; rfl)
def NoO (m:Mem) (c:Nat):Prop:=m (kO c 2)=none∧m (kO c 3)=none∧m (kO c 5)=none∧m (kO c 6)=none
def WOk (g:Hp) (m:Mem) (KD:Nat→Value→Prop) (c sz t bytes:Nat) (w:WL):Prop:=m (kL c w.id)=some ⟨w.s,sz,t,w.vs⟩∧Cols KD sz w.vs∧(w.s.n+30)*bytes≤140737488355328∧g.row w.nt.a (w.nt.n*sz) w.vs∧w.s.n=w.nt.n
theorem WOk.keep {g g':Hp} {m m':Mem} {KD:Nat→Value→Prop} {c sz t bytes:Nat} {w:WL} (W:WOk g m KD c sz t bytes w) (K:Keep g g') (e:m' (kL c w.id)=m (kL c w.id)):WOk g' m' KD c sz t bytes w:=⟨by rw [e]; exact W.1,W.2.1,W.2.2.1,K.row W.2.2.2.1,W.2.2.2.2⟩
def FrOk (g:Hp) (m:Mem) (KD:Nat→Value→Prop) (c sz t bytes:Nat) (f:FR):Prop:=m (kL c f.id)=some ⟨f.s,sz,t,f.fv⟩∧Cols KD sz f.fv∧(f.s.n+30)*bytes≤140737488355328∧g.row f.td.a (f.td.n*sz) f.fv∧f.s.n=f.td.n
theorem FrOk.keep {g g':Hp} {m m':Mem} {KD:Nat→Value→Prop} {c sz t bytes:Nat} {w:FR} (W:FrOk g m KD c sz t bytes w) (K:Keep g g') (e:m' (kL c w.id)=m (kL c w.id)):FrOk g' m' KD c sz t bytes w:=⟨by rw [e]; exact W.1,W.2.1,W.2.2.1,K.row W.2.2.2.1,W.2.2.2.2⟩
structure KE (g:Hp) (m:Mem) (cs:List Value) (KD:Nat→Value→Prop) (c s tL sz t bytes:Nat) (kept:List WL) (fr:List FR) (outs:List (Sl×Sl)):Prop where
 a0:∃ A,m (kA c 0)=some ⟨A,1,tL,outs.map fun p=>slv p.1⟩∧cs[s+0]?=some (slv A)
 a1:∃ A,m (kA c 1)=some ⟨A,1,tL,outs.map fun p=>slv p.2⟩∧cs[s+1]?=some (slv A)
 a2:∃ A,m (kA c 2)=some ⟨A,1,tL,kept.map fun w=>slv w.s⟩∧cs[s+2]?=some (slv A)
 a3:∃ A,m (kA c 3)=some ⟨A,1,tL,kept.map fun w=>slv w.nt⟩∧cs[s+3]?=some (slv A)
 a4:∃ A,m (kA c 4)=some ⟨A,1,tL,fr.map fun f=>slv f.s⟩∧cs[s+4]?=some (slv A)
 a5:∃ A,m (kA c 5)=some ⟨A,1,3,kept.map fun w=>.int .i64 w.mark⟩∧cs[s+5]?=some (slv A)
 a6:∃ A,m (kA c 6)=some ⟨A,1,3,kept.map fun w=>.int .i64 w.due⟩∧cs[s+6]?=some (slv A)
 a7:∃ A,m (kA c 7)=some ⟨A,1,3,fr.map fun f=>.int .i64 f.mark⟩∧cs[s+7]?=some (slv A)
 f:∀ f∈fr,FrOk g m KD c sz t bytes f
 o:∀ p∈outs,Fz g KD sz p∨∃ f∈fr,p=(f.s,f.td)
theorem KE.cong {g g':Hp} {m m':Mem} {KD:Nat→Value→Prop} {cs cs':List Value} {c s tL sz t bytes:Nat} {kept:List WL} {fr:List FR} {outs:List (Sl×Sl)} (E:KE g m cs KD c s tL sz t bytes kept fr outs) (K:Keep g g') (hA:∀ f,m' (kA c f)=m (kA c f)) (hL:∀ f∈fr,m' (kL c f.id)=m (kL c f.id)) (hc:∀ f,f < 8→cs'[s+f]?=cs[s+f]?):KE g' m' cs' KD c s tL sz t bytes kept fr outs:=
 ⟨by rw [hA,hc _ (by decide)]; exact E.a0,by rw [hA,hc _ (by decide)]; exact E.a1,by rw [hA,hc _ (by decide)]; exact E.a2,by rw [hA,hc _ (by decide)]; exact E.a3,by rw [hA,hc _ (by decide)]; exact E.a4,by rw [hA,hc _ (by decide)]; exact E.a5,by rw [hA,hc _ (by decide)]; exact E.a6,by rw [hA,hc _ (by decide)]; exact E.a7,fun f hf=>(E.f f hf).keep K (hL f hf),fun p hp=>(E.o p hp).imp (Fz.keep K) id⟩
structure LS (g:Hp) (m:Mem) (cs:List Value) (KD:Nat→Value→Prop) (pb R tB c s tL sz t bytes:Nat) (now:Bool) (turn:Int) (L0 L1 L2 L3:Sl) (ws rm kept:List WL) (fr:List FR) (outs:List (Sl×Sl)):Prop where
 hb:m kB=some (bkF pb R tB cs)
 kt:m kT=none
 c0:cs[0]?=some (.bool now)
 c1:cs[1]?=some (.bool false)
 c2:cs[2]?=some (.int .i64 turn)
 E:KE g m cs KD c s tL sz t bytes kept fr outs
 W:∀ w∈rm++kept,WOk g m KD c sz t bytes w
 nd:((rm.map (·.id)++kept.map (·.id))++fr.map (·.id)).Nodup
 o2:m (kO c 2)=some ⟨L0,1,tL,ws.map fun w=>slv w.s⟩
 o3:m (kO c 3)=some ⟨L1,1,tL,ws.map fun w=>slv w.nt⟩
 o5:m (kO c 5)=some ⟨L2,1,3,ws.map fun w=>.int .i64 w.mark⟩
 o6:m (kO c 6)=some ⟨L3,1,3,ws.map fun w=>.int .i64 w.due⟩
@[reducible] def markT (pb s tL t sz bytes:Nat) (zs:List Value) (OF:Int→Nat) (MK:Int→Int→List Value) (S:Sl→Sl→Hp→(Value→Hp→Prop)→Prop) (h:Hp) (Q:Value→Hp→Prop):Prop:=
 dr (some ⟨pb,0,none⟩) fun b o=>ldS h b (o+(s+2)) fun l=>dr (some ⟨pb,0,none⟩) fun b1 o1=>ldS h b1 (o1+(s+3)) fun l1=>dr (some ⟨pb,0,none⟩) fun b2 o2=>ldS h b2 (o2+(s+5)) fun l2=>dr (some ⟨pb,0,none⟩) fun b3 o3=>ldS h b3 (o3+(s+6)) fun l3=>par ((l.n:Int)=0) (Q (.tuple ⟨[]⟩) h) (dr (some ⟨pb,0,none⟩) fun b4 o4=>st h b4 (o4+(s+2)) 1 [.slice none 0 0] fun h1=>dr (some ⟨pb,0,none⟩) fun b5 o5=>st h1 b5 (o5+(s+3)) 1 [.slice none 0 0] fun h2=>dr (some ⟨pb,0,none⟩) fun b6 o6=>st h2 b6 (o6+(s+5)) 1 [.slice none 0 0] fun h3=>dr (some ⟨pb,0,none⟩) fun b7 o7=>st h3 b7 (o7+(s+6)) 1 [.slice none 0 0] fun h4=>∃ (I:Int→Hp→Prop) (m:Int→Hp→Nat),I 0 h4∧(∀ n:Int,∀ h5:Hp,I n h5→par (n < (l.n:Int)) (ix l.a n l.n fun b8 o8=>ldS h5 b8 (o8+n.toNat) fun l4=>ix l2.a n l2.n fun b9 o9=>ldI .i64 h5 b9 (o9+n.toNat) fun n1=>ix l3.a n l3.n fun b10 o10=>ldI .i64 h5 b10 (o10+n.toNat) fun n2=>dr (some ⟨pb,0,none⟩) fun b11 o11=>ldI .i64 h5 b11 (o11+2) fun n3=>par (n3 < n2) (dr (some ⟨pb,0,none⟩) fun b12 o12=>ldS h5 b12 (o12+(s+2)) fun l5=>appendD l5 tL 1 24 [.slice none 0 0] 1 [.slice l4.a l4.n l4.c] h5 fun l6 h6=>dr (some ⟨pb,0,none⟩) fun b13 o13=>st h6 b13 (o13+(s+2)) 1 [.slice l6.a l6.n l6.c] fun h7=>dr (some ⟨pb,0,none⟩) fun b14 o14=>ldS h7 b14 (o14+(s+3)) fun l7=>ix l1.a n l1.n fun b15 o15=>ldS h7 b15 (o15+n.toNat) fun l8=>h7.at b14 (o14+(s+3))=some (.slice l7.a l7.n l7.c)∧appendD l7 tL 1 24 [.slice none 0 0] 1 [.slice l8.a l8.n l8.c] h7 fun l9 h8=>dr (some ⟨pb,0,none⟩) fun b16 o16=>st h8 b16 (o16+(s+3)) 1 [.slice l9.a l9.n l9.c] fun h9=>dr (some ⟨pb,0,none⟩) fun b17 o17=>ldS h9 b17 (o17+(s+5)) fun l10=>appendD l10 3 1 8 [.int .i64 0] 1 [.int .i64 n1] h9 fun l11 h10=>dr (some ⟨pb,0,none⟩) fun b18 o18=>st h10 b18 (o18+(s+5)) 1 [.slice l11.a l11.n l11.c] fun h11=>dr (some ⟨pb,0,none⟩) fun b19 o19=>ldS h11 b19 (o19+(s+6)) fun l12=>ix l3.a n l3.n fun b20 o20=>ldI .i64 h11 b20 (o20+n.toNat) fun n4=>h11.at b19 (o19+(s+6))=some (.slice l12.a l12.n l12.c)∧appendD l12 3 1 8 [.int .i64 0] 1 [.int .i64 n4] h11 fun l13 h12=>dr (some ⟨pb,0,none⟩) fun b21 o21=>st h12 b21 (o21+(s+6)) 1 [.slice l13.a l13.n l13.c] fun h13=>I (IntKind.wrap .i64 (n+1)) h13∧m (IntKind.wrap .i64 (n+1)) h13 < m n h5) (∃ J:Hp→Prop,(∀ h14:Hp,J h14→∃ (I1:Int→Hp→Prop) (m1:Int→Hp→Nat),I1 0 h14∧(∀ n5:Int,∀ h15:Hp,I1 n5 h15→par (n5 < (l4.n:Int)) (ix l4.a n5 l4.n fun b22 o22=>st h15 b22 (o22+OF n5) sz (MK n1 n5) fun h16=>I1 (IntKind.wrap .i64 (n5+1)) h16∧m1 (IntKind.wrap .i64 (n5+1)) h16 < m1 n5 h15) (dr (some ⟨pb,0,none⟩) fun b23 o23=>ldS h15 b23 (o23+(s+0)) fun l14=>appendD l14 tL 1 24 [.slice none 0 0] 1 [.slice l4.a l4.n l4.c] h15 fun l15 h17=>dr (some ⟨pb,0,none⟩) fun b24 o24=>st h17 b24 (o24+(s+0)) 1 [.slice l15.a l15.n l15.c] fun h18=>dr (some ⟨pb,0,none⟩) fun b25 o25=>ldS h18 b25 (o25+(s+1)) fun l16=>nw h18 (.cells ⟨[]⟩ t (0,0)) fun b26 h19=>h19.at b25 (o25+(s+1))=some (.slice l16.a l16.n l16.c)∧∃ vs,h19.row l4.a (l4.n*sz) vs∧(∀ v∈vs,Value.oneCell' v=true)∧appendD ⟨(some ⟨b26,0,none⟩),0,0⟩ t sz bytes zs l4.n vs h19 fun l17 h20=>h20.at b25 (o25+(s+1))=some (.slice l16.a l16.n l16.c)∧h20.at b25 (o25+(s+1))=some (.slice l16.a l16.n l16.c)∧appendD l16 tL 1 24 [.slice none 0 0] 1 [.slice l17.a l17.n l17.c] h20 fun l18 h21=>dr (some ⟨pb,0,none⟩) fun b27 o26=>st h21 b27 (o26+(s+1)) 1 [.slice l18.a l18.n l18.c] fun h22=>dr (some ⟨pb,0,none⟩) fun b28 o27=>ldS h22 b28 (o27+(s+4)) fun l19=>appendD l19 tL 1 24 [.slice none 0 0] 1 [.slice l4.a l4.n l4.c] h22 fun l20 h23=>dr (some ⟨pb,0,none⟩) fun b29 o28=>st h23 b29 (o28+(s+4)) 1 [.slice l20.a l20.n l20.c] fun h24=>dr (some ⟨pb,0,none⟩) fun b30 o29=>ldS h24 b30 (o29+(s+7)) fun l21=>appendD l21 3 1 8 [.int .i64 0] 1 [.int .i64 n1] h24 fun l22 h25=>dr (some ⟨pb,0,none⟩) fun b31 o30=>st h25 b31 (o30+(s+7)) 1 [.slice l22.a l22.n l22.c] fun h26=>I (IntKind.wrap .i64 (n+1)) h26∧m (IntKind.wrap .i64 (n+1)) h26 < m n h5)))∧(dr (some ⟨pb,0,none⟩) fun b32 o31=>ldB h5 b32 (o31+1) (dr (some ⟨pb,0,none⟩) fun b33 o32=>st h5 b33 (o32+1) 1 [.bool true] fun h27=>J h27) (dr (some ⟨pb,0,none⟩) fun b34 o33=>ldB h5 b34 (o33+0) (dr (some ⟨pb,0,none⟩) fun b35 o34=>st h5 b35 (o34+1) 1 [.bool false] fun h28=>J h28) (ix l1.a n l1.n fun b36 o35=>ldS h5 b36 (o35+n.toNat) fun l23=>S l4 l23 h5 fun r h29=>retB r (dr (some ⟨pb,0,none⟩) fun b37 o36=>st h29 b37 (o36+1) 1 [.bool false] fun h30=>J h30) (dr (some ⟨pb,0,none⟩) fun b38 o37=>st h29 b38 (o37+1) 1 [.bool true] fun h31=>J h31)))))) (Q (.tuple ⟨[]⟩) h5)))
section
variable {g h:Hp} {m:Mem} {pb R tB t s c tL tA sz bytes:Nat} {cs zs us:List Value} {A:Sl} {outs:List (Sl×Sl)} {ws:List WL} {fr0:List FR} {Q:Value→Hp→Prop} {K:Hp→Prop} {KD:Nat→Value→Prop}
theorem take_f {f:Nat} (O:Mine g h m) (hb:m kB=some (bkF pb R tB cs)) (ha:m (kA c f)=some ⟨A,1,tA,us⟩) (hc:cs[s+f]?=some (slv A)) (hn:m (kO c f)=none)
  (hK:∀ h' m' cs',Mine g h' m'→m' kB=some (bkF pb R tB cs')→m' (kA c f)=some ⟨⟨none,0,0⟩,1,tA,[]⟩→m' (kO c f)=some ⟨A,1,tA,us⟩→(∀ j,j≠kB→j≠kA c f→j≠kO c f→m' j=m j)→cs'[s+f]?=some (.slice none 0 0)→(∀ i,i≠s+f→cs'[i]?=cs[i]?)→K h') :
  dr (some ⟨pb,0,none⟩) fun b o=>st h b (o+(s+f)) 1 [.slice none 0 0] fun h'=>K h':=by
 obtain ⟨w1,O1⟩:=O.setCell hb hc (.slice none 0 0)
 refine ⟨pb,0,rfl,w1,?_⟩
 have O2:=O1.move (k:=kA c f) (k':=kO c f) (by rw [put_ne _ _ (kA_kB _ _)]; exact ha) (by rw [put_ne _ _ (kO_kB _ _)]; exact hn)
 have O3:=O2.nil (k:=kA c f) (by rw [put_ne _ _ (Ne.symm (kO_kA _ _ _ _)),del_self]) 1 tA
 refine hK _ _ _ O3 ?_ (put_self _ _ _) ?_ (fun j h1 h2 h3=>?_) (List.getElem?_set_self (List.getElem?_eq_some_iff.1 hc).1) fun i hi=>List.getElem?_set_ne (Ne.symm hi)
 ·rw [put_ne _ _ (Ne.symm (kA_kB _ _)),put_ne _ _ (Ne.symm (kO_kB _ _)),del_ne _ (Ne.symm (kA_kB _ _)),put_self]
 ·rw [put_ne _ _ (kO_kA _ _ _ _),put_self]
 ·rw [put_ne _ _ h2,put_ne _ _ h3,del_ne _ h2,put_ne _ _ h1]
theorem mark_k {S:Sl→Sl→Hp→(Value→Hp→Prop)→Prop} {OF:Int→Nat} {MK:Int→Int→List Value} {now:Bool} {turn:Int} (hS:∀ l l' (h:Hp) vs K,Cols KD sz vs→h.row l.a (l.n*sz) vs→h.row l'.a (l'.n*sz) vs→l.n=l'.n→l.n≤140737488355328→K (.bool true) h→S l l' h K)
  (hsz:0 < sz) (hOF:∀ i:Nat,OF (i:Int)=i*sz) (hmk:∀ a i,(MK a i).length=sz) (hmo:∀ a i,Cols KD sz (MK a i)) (hKD:∀ c v,KD c v→Value.oneCell' v=true) (hz:zs.length=sz) (hs:4≤s) (hby:0 < bytes)
  (O:Mine g h m) (hb:m kB=some (bkF pb R tB cs)) (kt:m kT=none) (ko:NoO m c) (c0:cs[0]?=some (.bool now)) (c1:cs[1]?=some (.bool false)) (c2:cs[2]?=some (.int .i64 turn))
  (E:KE g m cs KD c s tL sz t bytes ws fr0 outs) (W:∀ w∈ws,WOk g m KD c sz t bytes w) (nd:(ws.map (·.id)++fr0.map (·.id)).Nodup) (lw:ws.length≤1000000) (lf:fr0.length≤1000000) (lo:outs.length≤100000000)
  (hQ:∀ h' g' m' cs' kept fr outs',Keep g g'→Mine g' h' m'→m' kB=some (bkF pb R tB cs')→m' kT=none→NoO m' c→KE g' m' cs' KD c s tL sz t bytes kept fr outs'→(∀ w∈kept,WOk g' m' KD c sz t bytes w)→(kept.map (·.id)++fr.map (·.id)).Nodup→(∀ i,i∈kept.map (·.id)++fr.map (·.id)→i∈ws.map (·.id)++fr0.map (·.id))→kept.length+fr.length=ws.length+fr0.length→outs'.length+fr0.length=outs.length+fr.length→(∀ j,j≠kB→(∀ f,j≠kA c f)→(∀ f,j≠kO c f)→(∀ w∈ws,j≠kL c w.id)→m' j=m j)→(∀ i,(∀ f,f < 8→i≠s+f)→cs'[i]?=cs[i]?)→Q (.tuple ⟨[]⟩) h') :
  markT pb s tL t sz bytes zs OF MK S h Q:=by
 obtain ⟨A2,m2,e2⟩:=E.a2
 obtain ⟨A3,m3,e3⟩:=E.a3
 obtain ⟨A5,m5,e5⟩:=E.a5
 obtain ⟨A6,m6,e6⟩:=E.a6
 have n2:A2.n=ws.length:=by have:=(O.buf _ _ m2).len; simp only [List.length_map,Nat.mul_one] at this; omega
 refine ⟨pb,0,rfl,A2,O.cell hb e2,pb,0,rfl,A3,O.cell hb e3,pb,0,rfl,A5,O.cell hb e5,pb,0,rfl,A6,O.cell hb e6,fun h0=>?_,fun h0=>?_⟩
 ·have:ws=[]:=List.eq_nil_of_length_eq_zero (by omega)
  subst this
  exact hQ h g m cs [] fr0 outs (Keep.refl g) O hb kt ko E (fun w hw=>by cases hw) nd (fun i hi=>hi) rfl rfl (fun _ _ _ _ _=>rfl) (fun _ _=>rfl)
 refine take_f O hb m2 e2 ko.1 fun h1 M1 cs1 O1 hb1 p1 q1 r1 x1 y1=>?_
 refine take_f (f:=3) O1 hb1 (by rw [r1 _ (kA_kB _ _) (kA_ne (by decide)) (Ne.symm (kO_kA _ _ _ _))]; exact m3) (by rw [y1 _ (by omega)]; exact e3) (by rw [r1 _ (kO_kB _ _) (kO_kA _ _ _ _) (kO_ne (by decide))]; exact ko.2.1) fun h2 M2 cs2 O2 hb2 p2 q2 r2 x2 y2=>?_
 refine take_f (f:=5) O2 hb2 (by rw [r2 _ (kA_kB _ _) (kA_ne (by decide)) (Ne.symm (kO_kA _ _ _ _)),r1 _ (kA_kB _ _) (kA_ne (by decide)) (Ne.symm (kO_kA _ _ _ _))]; exact m5) (by rw [y2 _ (by omega),y1 _ (by omega)]; exact e5) (by rw [r2 _ (kO_kB _ _) (kO_kA _ _ _ _) (kO_ne (by decide)),r1 _ (kO_kB _ _) (kO_kA _ _ _ _) (kO_ne (by decide))]; exact ko.2.2.1) fun h3 M3 cs3 O3 hb3 p3 q3 r3 x3 y3=>?_
 refine take_f (f:=6) O3 hb3 (by rw [r3 _ (kA_kB _ _) (kA_ne (by decide)) (Ne.symm (kO_kA _ _ _ _)),r2 _ (kA_kB _ _) (kA_ne (by decide)) (Ne.symm (kO_kA _ _ _ _)),r1 _ (kA_kB _ _) (kA_ne (by decide)) (Ne.symm (kO_kA _ _ _ _))]; exact m6) (by rw [y3 _ (by omega),y2 _ (by omega),y1 _ (by omega)]; exact e6) (by rw [r3 _ (kO_kB _ _) (kO_kA _ _ _ _) (kO_ne (by decide)),r2 _ (kO_kB _ _) (kO_kA _ _ _ _) (kO_ne (by decide)),r1 _ (kO_kB _ _) (kO_kA _ _ _ _) (kO_ne (by decide))]; exact ko.2.2.2) fun h4 M4 cs4 O4 hb4 p4 q4 r4 x4 y4=>?_
 have mem4:∀ j,j≠kB→(∀ f,j≠kA c f)→(∀ f,j≠kO c f)→M4 j=m j:=fun j h1 h2 h3=>by rw [r4 _ h1 (h2 _) (h3 _),r3 _ h1 (h2 _) (h3 _),r2 _ h1 (h2 _) (h3 _),r1 _ h1 (h2 _) (h3 _)]
 have memA:∀ f,f≠2→f≠3→f≠5→f≠6→M4 (kA c f)=m (kA c f):=fun f h2 h3 h5 h6=>by rw [r4 _ (kA_kB _ _) (kA_ne h6) (Ne.symm (kO_kA _ _ _ _)),r3 _ (kA_kB _ _) (kA_ne h5) (Ne.symm (kO_kA _ _ _ _)),r2 _ (kA_kB _ _) (kA_ne h3) (Ne.symm (kO_kA _ _ _ _)),r1 _ (kA_kB _ _) (kA_ne h2) (Ne.symm (kO_kA _ _ _ _))]
 have cell4:∀ i,i≠s+2→i≠s+3→i≠s+5→i≠s+6→cs4[i]?=cs[i]?:=fun i h2 h3 h5 h6=>by rw [y4 _ h6,y3 _ h5,y2 _ h3,y1 _ h2]
 have L0:LS g M4 cs4 KD pb R tB c s tL sz t bytes now turn A2 A3 A5 A6 ws ws [] fr0 outs:=by
  refine ⟨hb4,by rw [mem4 _ (fun e=>by cases e) (fun _ e=>by cases e) (fun _ e=>by cases e)]; exact kt,by rw [cell4 _ (by omega) (by omega) (by omega) (by omega)]; exact c0,by rw [cell4 _ (by omega) (by omega) (by omega) (by omega)]; exact c1,by rw [cell4 _ (by omega) (by omega) (by omega) (by omega)]; exact c2,⟨?_,?_,?_,?_,?_,?_,?_,?_,fun f hf=>(E.f f hf).keep (Keep.refl g) (mem4 _ (kL_kB _ _) (fun _=>kL_kA _ _ _ _) (fun _=>Ne.symm (kO_kL _ _ _ _))),E.o⟩,fun w hw=>?_,by rw [List.map_nil,List.append_nil]; exact nd,?_,?_,?_,q4⟩
  ·rw [memA 0 (by decide) (by decide) (by decide) (by decide),cell4 _ (by omega) (by omega) (by omega) (by omega)]; exact E.a0
  ·rw [memA 1 (by decide) (by decide) (by decide) (by decide),cell4 _ (by omega) (by omega) (by omega) (by omega)]; exact E.a1
  ·exact ⟨_,by rw [r4 _ (kA_kB _ _) (kA_ne (by decide)) (Ne.symm (kO_kA _ _ _ _)),r3 _ (kA_kB _ _) (kA_ne (by decide)) (Ne.symm (kO_kA _ _ _ _)),r2 _ (kA_kB _ _) (kA_ne (by decide)) (Ne.symm (kO_kA _ _ _ _))]; exact p1,by rw [y4 _ (by omega),y3 _ (by omega),y2 _ (by omega)]; exact x1⟩
  ·exact ⟨_,by rw [r4 _ (kA_kB _ _) (kA_ne (by decide)) (Ne.symm (kO_kA _ _ _ _)),r3 _ (kA_kB _ _) (kA_ne (by decide)) (Ne.symm (kO_kA _ _ _ _))]; exact p2,by rw [y4 _ (by omega),y3 _ (by omega)]; exact x2⟩
  ·rw [memA 4 (by decide) (by decide) (by decide) (by decide),cell4 _ (by omega) (by omega) (by omega) (by omega)]; exact E.a4
  ·exact ⟨_,by rw [r4 _ (kA_kB _ _) (kA_ne (by decide)) (Ne.symm (kO_kA _ _ _ _))]; exact p3,by rw [y4 _ (by omega)]; exact x3⟩
  ·exact ⟨_,p4,x4⟩
  ·rw [memA 7 (by decide) (by decide) (by decide) (by decide),cell4 _ (by omega) (by omega) (by omega) (by omega)]; exact E.a7
  ·rw [List.append_nil] at hw
   exact (W w hw).keep (Keep.refl g) (mem4 _ (kL_kB _ _) (fun _=>kL_kA _ _ _ _) (fun _=>Ne.symm (kO_kL _ _ _ _)))
  ·rw [r4 _ (kO_kB _ _) (kO_kA _ _ _ _) (kO_ne (by decide)),r3 _ (kO_kB _ _) (kO_kA _ _ _ _) (kO_ne (by decide)),r2 _ (kO_kB _ _) (kO_kA _ _ _ _) (kO_ne (by decide))]; exact q1
  ·rw [r4 _ (kO_kB _ _) (kO_kA _ _ _ _) (kO_ne (by decide)),r3 _ (kO_kB _ _) (kO_kA _ _ _ _) (kO_ne (by decide))]; exact q2
  ·rw [r4 _ (kO_kB _ _) (kO_kA _ _ _ _) (kO_ne (by decide))]; exact q3
 clear r1 r2 r3 r4 y1 y2 y3 y4 p1 p2 p3 p4 q1 q2 q3 q4 x1 x2 x3 x4
 refine ⟨fun n h5=>∃ (D rm kept:List WL) (fr:List FR) (g':Hp) (m':Mem) (cs':List Value) (outs':List (Sl×Sl)),ws=D++rm∧n=(D.length:Int)∧Keep g g'∧Mine g' h5 m'∧LS g' m' cs' KD pb R tB c s tL sz t bytes now turn A2 A3 A5 A6 ws rm kept fr outs'∧kept.length+fr.length=D.length+fr0.length∧outs'.length+fr0.length=outs.length+fr.length∧(∀ i,i∈kept.map (·.id)++fr.map (·.id)→i∈D.map (·.id)++fr0.map (·.id))∧(∀ j,j≠kB→(∀ f,j≠kA c f)→(∀ f,j≠kO c f)→(∀ w∈ws,j≠kL c w.id)→m' j=m j)∧(∀ i,(∀ f,f < 8→i≠s+f)→cs'[i]?=cs[i]?),fun n _=>ws.length - n.toNat,⟨[],ws,[],fr0,g,M4,cs4,outs,rfl,rfl,Keep.refl g,O4,L0,by simp,rfl,fun i hi=>hi,fun j h1 h2 h3 _=>mem4 j h1 h2 h3,fun i hi=>cell4 i (hi 2 (by decide)) (hi 3 (by decide)) (hi 5 (by decide)) (hi 6 (by decide))⟩,?_⟩
 rintro n h5 ⟨D,rm,kept,fr,g',m',cs',outs',e,rfl,Kg,O5,L,hkf,hlo,hid,hmem,hrest⟩
 have eL:=congrArg List.length e
 rw [List.length_append] at eL
 refine ⟨fun hlt=>?_,fun hge=>?_⟩
 ·rcases rm with _ | ⟨w,rm⟩
  ·exact absurd hlt (by simp at eL; omega)
  rw [List.length_cons] at eL
  have hD:D.length < ws.length:=by omega
  have gw:ws[D.length]?=some w:=by rw [e,List.getElem?_append_right (Nat.le_refl _),Nat.sub_self]; rfl
  have wmem:w∈ws:=by rw [e]; simp
  have n5:A5.n=ws.length:=by have:=(O5.buf _ _ L.o5).len; simp only [List.length_map,Nat.mul_one] at this; omega
  have n6:A6.n=ws.length:=by have:=(O5.buf _ _ L.o6).len; simp only [List.length_map,Nat.mul_one] at this; omega
  have n3:A3.n=ws.length:=by have:=(O5.buf _ _ L.o3).len; simp only [List.length_map,Nat.mul_one] at this; omega
  obtain ⟨b8,ha8,k8⟩:=buf_at (O5.buf _ _ L.o2) (k:=D.length) (by rw [List.length_map]; exact hD)
  obtain ⟨b9,ha9,k9⟩:=buf_at (O5.buf _ _ L.o5) (k:=D.length) (by rw [List.length_map]; exact hD)
  obtain ⟨b10,ha10,k10⟩:=buf_at (O5.buf _ _ L.o6) (k:=D.length) (by rw [List.length_map]; exact hD)
  dsimp only at ha8 ha9 ha10 k8 k9 k10
  rw [List.getElem?_map,gw] at k8 k9 k10
  obtain ⟨w1,w2,w3,w4,w5⟩:=L.W w (by simp)
  obtain ⟨A0,x0,y0⟩:=L.E.a0
  obtain ⟨A1,x1,y1⟩:=L.E.a1
  obtain ⟨B2,x2,y2⟩:=L.E.a2
  obtain ⟨B3,x3,y3⟩:=L.E.a3
  obtain ⟨A4,x4,y4⟩:=L.E.a4
  obtain ⟨B5,x5,y5⟩:=L.E.a5
  obtain ⟨B6,x6,y6⟩:=L.E.a6
  obtain ⟨A7,x7,y7⟩:=L.E.a7
  have ndc:=L.nd
  rw [List.map_cons,List.cons_append,List.cons_append,List.nodup_cons] at ndc
  have nrm:∀ v∈rm,v.id≠w.id:=fun v hv q=>ndc.1 (by rw [← q]; exact List.mem_append_left _ (List.mem_append_left _ (List.mem_map_of_mem (f:=fun x:WL=>x.id) hv)))
  have nke:∀ v∈kept,v.id≠w.id:=fun v hv q=>ndc.1 (by rw [← q]; exact List.mem_append_left _ (List.mem_append_right _ (List.mem_map_of_mem (f:=fun x:WL=>x.id) hv)))
  have nfr:∀ v∈fr,v.id≠w.id:=fun v hv q=>ndc.1 (by rw [← q]; exact List.mem_append_right _ (List.mem_map_of_mem (f:=fun x:FR=>x.id) hv))
  refine ⟨b8,0,ha8,⟨by omega,by omega⟩,w.s,by rw [Int.toNat_natCast]; exact k8,b9,0,ha9,⟨by omega,by omega⟩,w.mark,by rw [Int.toNat_natCast]; exact k9,b10,0,ha10,⟨by omega,by omega⟩,w.due,by rw [Int.toNat_natCast]; exact k10,pb,0,rfl,turn,O5.cell L.hb L.c2,fun hdue=>?_,fun hdue=>?_⟩
  ·refine wait_k (l:=w.s) (nt:=w.nt) (mark:=w.mark) (due:=w.due) O5 L.hb x2 y2 x3 y3 x5 y5 x6 y6 L.o3 (by rw [List.getElem?_map,gw]; rfl) L.o6 (by rw [List.getElem?_map,gw]; rfl) (by rw [List.length_map]; omega) (by rw [List.length_map]; omega) (by rw [List.length_map]; omega) (by rw [List.length_map]; omega) fun h6 m6 cs6 O6 hb6 X=>?_
   rw [nx_i (n:=100000000) (by omega) (by omega)]
   have XL:∀ i,m6 (kL c i)=m' (kL c i):=fun i=>X.mem _ (kL_kB _ _) (kL_kA _ _ _ _) (kL_kA _ _ _ _) (kL_kA _ _ _ _) (kL_kA _ _ _ _)
   have XO:∀ i,m6 (kO c i)=m' (kO c i):=fun i=>X.mem _ (kO_kB _ _) (kO_kA _ _ _ _) (kO_kA _ _ _ _) (kO_kA _ _ _ _) (kO_kA _ _ _ _)
   have XA:∀ f,f≠2→f≠3→f≠5→f≠6→m6 (kA c f)=m' (kA c f):=fun f h2 h3 h5 h6=>X.mem _ (kA_kB _ _) (kA_ne h2) (kA_ne h3) (kA_ne h5) (kA_ne h6)
   refine ⟨⟨D++[w],rm,kept++[w],fr,g',m6,cs6,outs',by rw [e]; simp,by simp,Kg,O6,⟨hb6,?_,?_,?_,?_,⟨?_,?_,?_,?_,?_,?_,?_,?_,fun f hf=>(L.E.f f hf).keep (Keep.refl g') (XL _),L.E.o⟩,fun v hv=>?_,?_,by rw [XO]; exact L.o2,by rw [XO]; exact L.o3,by rw [XO]; exact L.o5,by rw [XO]; exact L.o6⟩,by rw [List.length_append,List.length_append,List.length_singleton]; omega,hlo,fun i hi=>?_,fun j h1 h2 h3 h4=>?_,fun i hi=>?_⟩,by dsimp only; omega⟩
   ·rw [X.mem _ (fun e=>by cases e) (fun e=>by cases e) (fun e=>by cases e) (fun e=>by cases e) (fun e=>by cases e)]; exact L.kt
   ·rw [X.rest _ (by omega) (by omega) (by omega) (by omega)]; exact L.c0
   ·rw [X.rest _ (by omega) (by omega) (by omega) (by omega)]; exact L.c1
   ·rw [X.rest _ (by omega) (by omega) (by omega) (by omega)]; exact L.c2
   ·rw [XA _ (by decide) (by decide) (by decide) (by decide),X.rest _ (by omega) (by omega) (by omega) (by omega)]; exact L.E.a0
   ·rw [XA _ (by decide) (by decide) (by decide) (by decide),X.rest _ (by omega) (by omega) (by omega) (by omega)]; exact L.E.a1
   ·rw [List.map_append]; exact X.a2
   ·rw [List.map_append]; exact X.a3
   ·rw [XA _ (by decide) (by decide) (by decide) (by decide),X.rest _ (by omega) (by omega) (by omega) (by omega)]; exact L.E.a4
   ·rw [List.map_append]; exact X.a5
   ·rw [List.map_append]; exact X.a6
   ·rw [XA _ (by decide) (by decide) (by decide) (by decide),X.rest _ (by omega) (by omega) (by omega) (by omega)]; exact L.E.a7
   ·refine (L.W v ?_).keep (Keep.refl g') (XL _)
    simp only [List.mem_append,List.mem_cons,List.not_mem_nil,or_false] at hv ⊢
    rcases hv with hv | hv | hv
    ·exact .inl (.inr hv)
    ·exact .inr hv
    ·exact .inl (.inl hv)
   ·rw [List.map_append,show rm.map (·.id)++(kept.map (·.id)++List.map (·.id) [w])++fr.map (·.id)=(rm.map (·.id)++kept.map (·.id))++w.id::fr.map (·.id) by simp]
    exact (List.perm_middle.nodup_iff).2 (List.nodup_cons.2 ndc)
   ·simp only [List.map_append,List.mem_append,List.map_cons,List.map_nil] at hi hid ⊢
    rcases hi with (hi | hi) | hi
    ·exact (hid i (.inl hi)).elim (fun q=>.inl (.inl q)) .inr
    ·exact .inl (.inr hi)
    ·exact (hid i (.inr hi)).elim (fun q=>.inl (.inl q)) .inr
   ·rw [X.mem _ h1 (h2 _) (h2 _) (h2 _) (h2 _)]
    exact hmem j h1 h2 h3 h4
   ·rw [X.rest _ (hi 2 (by decide)) (hi 3 (by decide)) (hi 5 (by decide)) (hi 6 (by decide))]
    exact hrest i hi
  ·obtain ⟨st1,O5'⟩:=O5.setCell L.hb L.c1 (.bool false)
   rw [set_same L.c1,put_same L.hb] at O5'
   refine ⟨fun h14=>Mine g' h14 m',fun h14 O14=>?_,pb,0,rfl,false,O5.cell L.hb L.c1,fun q=>Bool.noConfusion q,fun _=>⟨pb,0,rfl,now,O5.cell L.hb L.c0,fun _=>⟨pb,0,rfl,st1,O5'⟩,fun _=>?_⟩⟩
   ·have hn:w.s.n*bytes≤140737488355328:=Nat.le_trans (Nat.mul_le_mul_right _ (by omega)) w3
    refine fill_k (OF:=OF) O14 w1 hsz hOF (hmk _) (hmo _) w2 (Nat.le_trans (Nat.le_mul_of_pos_right _ hby) hn) fun h15 us O15 hus=>?_
    have pA:∀ f,(m'.put (kL c w.id) ⟨w.s,sz,t,us⟩) (kA c f)=m' (kA c f):=fun f=>put_ne _ _ (Ne.symm (kL_kA _ _ _ _))
    refine out_k (mark:=w.mark) O15 (by rw [put_ne _ _ (Ne.symm (kL_kB _ _))]; exact L.hb) (by rw [put_ne _ _ (fun e=>by cases e)]; exact L.kt) (put_self _ _ _) (kL_kB _ _) (fun _=>kL_kA _ _ _ _) (by rw [pA]; exact x0) y0 (by rw [pA]; exact x1) y1 (by rw [pA]; exact x4) y4 (by rw [pA]; exact x7) y7 (by rw [List.length_map]; omega) (by rw [List.length_map]; omega) (by rw [List.length_map]; omega) (by rw [List.length_map]; omega) (hus.one hKD) hz hn fun h16 g2 m2 cs2 nt Kg2 O16 hb16 X rnt hnt=>?_
    rw [nx_i (n:=100000000) (by omega) (by omega)]
    have XL:∀ i,m2 (kL c i)=(m'.put (kL c w.id) ⟨w.s,sz,t,us⟩) (kL c i):=fun i=>X.mem _ (kL_kB _ _) (kL_kA _ _ _ _) (kL_kA _ _ _ _) (kL_kA _ _ _ _) (kL_kA _ _ _ _)
    have XL':∀ i,i≠w.id→m2 (kL c i)=m' (kL c i):=fun i hi=>by rw [XL,put_ne _ _ (fun q=>hi (by unfold kL at q; simpa using q))]
    have XO:∀ i,m2 (kO c i)=m' (kO c i):=fun i=>by rw [X.mem _ (kO_kB _ _) (kO_kA _ _ _ _) (kO_kA _ _ _ _) (kO_kA _ _ _ _) (kO_kA _ _ _ _),put_ne _ _ (kO_kL _ _ _ _)]
    have XA:∀ f,f≠0→f≠1→f≠4→f≠7→m2 (kA c f)=m' (kA c f):=fun f h2 h3 h5 h6=>by rw [X.mem _ (kA_kB _ _) (kA_ne h2) (kA_ne h3) (kA_ne h5) (kA_ne h6),pA]
    refine ⟨⟨D++[w],rm,kept,fr++[⟨w.id,w.s,nt,us,w.mark⟩],g2,m2,cs2,outs'++[(w.s,nt)],by rw [e]; simp,by simp,Kg.trans Kg2,O16,⟨hb16,?_,?_,?_,?_,⟨?_,?_,?_,?_,?_,?_,?_,?_,fun f hf=>?_,fun p hp=>?_⟩,fun v hv=>?_,?_,by rw [XO]; exact L.o2,by rw [XO]; exact L.o3,by rw [XO]; exact L.o5,by rw [XO]; exact L.o6⟩,by rw [List.length_append,List.length_append,List.length_singleton,List.length_singleton]; omega,by rw [List.length_append,List.length_append,List.length_singleton,List.length_singleton]; omega,fun i hi=>?_,fun j h1 h2 h3 h4=>?_,fun i hi=>?_⟩,by dsimp only; omega⟩
    ·rw [X.mem _ (fun e=>by cases e) (fun e=>by cases e) (fun e=>by cases e) (fun e=>by cases e) (fun e=>by cases e),put_ne _ _ (fun e=>by cases e)]; exact L.kt
    ·rw [X.rest _ (by omega) (by omega) (by omega) (by omega)]; exact L.c0
    ·rw [X.rest _ (by omega) (by omega) (by omega) (by omega)]; exact L.c1
    ·rw [X.rest _ (by omega) (by omega) (by omega) (by omega)]; exact L.c2
    ·rw [List.map_append]; exact X.a0
    ·rw [List.map_append]; exact X.a1
    ·rw [XA _ (by decide) (by decide) (by decide) (by decide),X.rest _ (by omega) (by omega) (by omega) (by omega)]; exact L.E.a2
    ·rw [XA _ (by decide) (by decide) (by decide) (by decide),X.rest _ (by omega) (by omega) (by omega) (by omega)]; exact L.E.a3
    ·rw [List.map_append]; exact X.a4
    ·rw [XA _ (by decide) (by decide) (by decide) (by decide),X.rest _ (by omega) (by omega) (by omega) (by omega)]; exact L.E.a5
    ·rw [XA _ (by decide) (by decide) (by decide) (by decide),X.rest _ (by omega) (by omega) (by omega) (by omega)]; exact L.E.a6
    ·rw [List.map_append]; exact X.a7
    ·rcases List.mem_append.1 hf with hf | hf
     ·exact (L.E.f f hf).keep Kg2 (XL' _ (nfr f hf))
     ·rw [List.mem_singleton] at hf
      subst hf
      exact ⟨by rw [XL]; exact put_self _ _ _,hus,w3,rnt,hnt.symm⟩
    ·rcases List.mem_append.1 hp with hp | hp
     ·rcases L.E.o p hp with h | ⟨f,hf,ep⟩
      ·exact .inl (h.keep Kg2)
      ·exact .inr ⟨f,List.mem_append_left _ hf,ep⟩
     ·rw [List.mem_singleton] at hp
      exact .inr ⟨_,List.mem_append_right _ (List.mem_singleton.2 rfl),hp⟩
    ·have hv':v.id≠w.id:=(List.mem_append.1 hv).elim (nrm v) (nke v)
     exact (L.W v (by rw [List.cons_append]; exact List.mem_cons_of_mem _ hv)).keep Kg2 (XL' _ hv')
    ·rw [List.map_append,show rm.map (·.id)++kept.map (·.id)++(fr.map (·.id)++List.map (·.id) [(⟨w.id,w.s,nt,us,w.mark⟩:FR)])=((rm.map (·.id)++kept.map (·.id))++fr.map (·.id))++w.id::[] by simp]
     refine (List.perm_middle.nodup_iff).2 ?_
     rw [List.append_nil]
     exact List.nodup_cons.2 ndc
    ·simp only [List.map_append,List.mem_append,List.map_cons,List.map_nil] at hi hid ⊢
     rcases hi with hi | hi | hi
     ·exact (hid i (.inl hi)).elim (fun q=>.inl (.inl q)) .inr
     ·exact (hid i (.inr hi)).elim (fun q=>.inl (.inl q)) .inr
     ·exact .inl (.inr hi)
    ·rw [X.mem _ h1 (h2 _) (h2 _) (h2 _) (h2 _),put_ne _ _ (h4 w wmem)]
     exact hmem j h1 h2 h3 h4
    ·rw [X.rest _ (hi 0 (by decide)) (hi 1 (by decide)) (hi 4 (by decide)) (hi 7 (by decide))]
     exact hrest i hi
   ·obtain ⟨b36,ha36,k36⟩:=buf_at (O5.buf _ _ L.o3) (k:=D.length) (by rw [List.length_map]; exact hD)
    dsimp only at ha36 k36
    rw [List.getElem?_map,gw] at k36
    refine ⟨b36,0,ha36,⟨by omega,by omega⟩,w.nt,by rw [Int.toNat_natCast]; exact k36,hS _ _ _ w.vs _ w2 (O5.buf _ _ w1).row (O5.keep.row w4) w5 (Nat.le_trans (Nat.le_add_right _ 30) (Nat.le_trans (Nat.le_mul_of_pos_right _ hby) w3)) ⟨true,rfl,fun _=>⟨pb,0,rfl,st1,O5'⟩,fun q=>Bool.noConfusion q⟩⟩
 ·have hR:rm=[]:=List.eq_nil_of_length_eq_zero (by omega)
  subst hR
  rw [List.append_nil] at e
  subst e
  have O6:=(((O5.del (kO c 2)).del (kO c 3)).del (kO c 5)).del (kO c 6)
  have dk:∀ j,(∀ f,j≠kO c f)→((((m'.del (kO c 2)).del (kO c 3)).del (kO c 5)).del (kO c 6)) j=m' j:=fun j hj=>by rw [del_ne _ (hj _),del_ne _ (hj _),del_ne _ (hj _),del_ne _ (hj _)]
  have nd:=L.nd
  simp only [List.map_nil,List.nil_append] at nd
  refine hQ h5 g' _ cs' kept fr outs' Kg O6 (by rw [dk _ (fun f=>Ne.symm (kO_kB _ _))]; exact L.hb) (by rw [dk _ (fun f e=>by cases e)]; exact L.kt) ?_ (L.E.cong (Keep.refl g') (fun f=>dk _ (fun _=>Ne.symm (kO_kA _ _ _ _))) (fun f _=>dk _ (fun _=>Ne.symm (kO_kL _ _ _ _))) (fun _ _=>rfl)) (fun w hw=>(L.W w (by simpa using hw)).keep (Keep.refl g') (dk _ (fun _=>Ne.symm (kO_kL _ _ _ _)))) nd hid hkf hlo (fun j h1 h2 h3 h4=>by rw [dk j h3]; exact hmem j h1 h2 h3 h4) hrest
  exact ⟨by rw [del_ne _ (kO_ne (by decide)),del_ne _ (kO_ne (by decide)),del_ne _ (kO_ne (by decide)),del_self],by rw [del_ne _ (kO_ne (by decide)),del_ne _ (kO_ne (by decide)),del_self],by rw [del_ne _ (kO_ne (by decide)),del_self],del_self _ _⟩
end
end Go.Eng
end
