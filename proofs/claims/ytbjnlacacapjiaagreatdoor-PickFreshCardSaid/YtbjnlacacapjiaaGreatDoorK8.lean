
/-
  Proved: the law PickFresh answers true, whatever it is handed, and what it was handed reads behind the call as it read before. The card ties what the package tables hold at the start to the program's text; no other condition.
-/
import Derived.Test.YtbjnlacacapjiaaGreatDoorK7
import Derived.Test.YtbjnlacacapjiaaGreatDoorK6
import Derived.Test.YtbjnlacacapjiaaGreatDoorK2
import Derived.Test.YtbjnlacacapjiaaGreatDoorProg
import Derived.Test.YtbjnlacacapjiaaGreatDoorRows
import Derived.Test.YtbjnlacacapjiaaGreatDoorCards
import Derived.Test.YtbjnlacacapjiaaGreatDoorTie
import Derived.WalkKit
import Derived.ProofKit
import Derived.OpenShut
import Derived.ShutString
import Derived.ChangeMaps5
import Derived.ChangeOld
import Derived.Below
import Derived.SizedLaws
import Derived.LaidMore
import Derived.Stop.Joined
import Derived.SevenTiedAt
set_option linter.unusedSimpArgs false
set_option linter.unusedVariables false
section
set_option maxRecDepth 100000
set_option maxHeartbeats 1000000
namespace Go.Eng.YtbjnlacacapjiaaGreatDoor
def hit (lk:List Int) (j:Jb):Bool:=(j.up++j.lo).any fun t=>lk.contains t.num
def setR (R:Nat→Bool) (i:Nat):Nat→Bool:=fun k=>if k=i∨k=i+1 then true else R k
def nextL (fan:Int) (xs:List (Sl×List Tab)) (ptrs:List ByteArray) (lk:List Int):(Nat→Bool)→List Nat→Option Jb
 | _,[]=>none
 | R,i::w=>match inputsM fan xs ptrs (i:Int) with
  | none=>nextL fan xs ptrs lk R w
  | some j=>if R i=false∧R (i+1)=false∧hit lk j=false then some j else nextL fan xs ptrs lk (setR R i) w
def bV (R:Nat→Bool):List Value:=[.bool (R 0),.bool (R 1),.bool (R 2),.bool (R 3),.bool (R 4),.bool (R 5)]
def isF (b:Bool):Prop:=b=false
theorem bV_get (R:Nat→Bool) {i:Nat} (hi:i < 6):(⟨bV R⟩:Array Value)[i]?=some (.bool (R i)):=by
 have:i=0∨i=1∨i=2∨i=3∨i=4∨i=5:=by omega
 rcases this with rfl | rfl | rfl | rfl | rfl | rfl <;> rfl
theorem bV_set (R:Nat→Bool) {i:Nat} (hi:i < 5):(bV R).set i (.bool true)=bV (fun k=>if k=i then true else R k)∧((bV R).set i (.bool true)).set (i+1) (.bool true)=bV (setR R i):=by
 have:i=0∨i=1∨i=2∨i=3∨i=4:=by omega
 rcases this with rfl | rfl | rfl | rfl | rfl <;> exact ⟨rfl,rfl⟩
theorem mark_l {h3:Hp} {b i:Nat} {R:Nat→Bool} (hb:h3 b=some (.cells ⟨bV R⟩ 139 (0,0))) (hi:i < 5) :
  h3.canW b (0+((i:Nat):Int).toNat) 1∧(h3.wr b (0+((i:Nat):Int).toNat) [.bool true]).canW b (0+((i+1:Nat):Int).toNat) 1∧((h3.wr b (0+((i:Nat):Int).toNat) [.bool true]).wr b (0+((i+1:Nat):Int).toNat) [.bool true]) b=some (.cells ⟨bV (setR R i)⟩ 139 (0,0)):=by
 rw [Int.toNat_natCast,Int.toNat_natCast,Nat.zero_add,Nat.zero_add]
 obtain ⟨s1,s2⟩:=bV_set R hi
 have e1:(h3.wr b i [.bool true]) b=some (.cells ⟨bV (fun k=>if k=i then true else R k)⟩ 139 (0,0)):=by
  unfold Hp.wr
  rw [if_pos rfl,hb]
  show some (Obj.cells ((bV R).set i (.bool true)).toArray 139 (0,0))=_
  rw [s1]
 refine ⟨canW_new hb (by show i+1≤6; omega),canW_new e1 (by show i+1+1≤6; omega),?_⟩
 unfold Hp.wr at e1 ⊢
 rw [if_pos rfl,if_pos rfl,hb]
 show some (Obj.cells (((bV R).set i (.bool true)).set (i+1) (.bool true)).toArray 139 (0,0))=_
 rw [s2]
section
variable {g h h':Hp} {vb b:Nat} {ls l l1 l2:Sl} {xs:List (Sl×List Tab)} {Q:Value→Hp→Prop} {n n1 n2 n3 n4 n5 n6 n7 n8 n9 n10 n11 n12 n13 n14 n15 n16 n17 n18 n19 n20 n21 n22 n23 n24 n25 n26:Int}
theorem index_s {lk:List Int} {n:Int} (B:h.row l.a l.n (uvs lk)) (hl:l.n < 9223372036854775807) (hQ:Q (.bool (lk.contains n)) h):F88.T l n h Q:=by
 have hn:l.n=lk.length:=by have:=B.1; unfold uvs at this; rw [List.length_map] at this; omega
 unfold F88.T F149.T F88.G
 refine ⟨fun k h1=>h1=h∧∃ P R,lk=P++R∧k=(P.length:Int)∧n∉P,fun k _=>lk.length - k.toNat,⟨rfl,[],_,rfl,rfl,by simp⟩,?_⟩
 rintro k h1 ⟨rfl,P,R,e,rfl,hP⟩
 have e2:=congrArg List.length e
 rw [List.length_append] at e2
 refine ⟨fun hlt=>?_,fun hge=>?_⟩
 ·rcases R with _ | ⟨u,R⟩
  ·exact absurd hlt (by simp at e2; omega)
  rw [List.length_cons] at e2
  obtain ⟨b,o,ha,hat⟩:=row_get B (i:=P.length) (by omega)
  refine ⟨b,o,ha,⟨by omega,hlt⟩,u,?_,fun hu=>?_,fun hu=>?_⟩
  ·rw [Int.toNat_natCast,hat P.length (by omega),e]
   unfold uvs
   simp
  ·refine ⟨_,rfl,fun _=>?_,fun hh=>absurd (by omega) hh⟩
   have:lk.contains n=true:=by rw [e,hu]; simp
   rw [this] at hQ; exact hQ
  ·rw [next_i (n:=lk.length) (by omega) (by omega)]
   refine ⟨⟨rfl,P++[u],R,by rw [e]; simp,by simp,?_⟩,by dsimp only; omega⟩
   rw [List.mem_append,List.mem_singleton]
   exact fun hh=>hh.elim hP hu
 ·have hR:R=[]:=List.eq_nil_of_length_eq_zero (by omega)
  subst hR
  rw [List.append_nil] at e
  subst e
  refine ⟨_,rfl,fun hh=>absurd hh (by decide),fun _=>?_⟩
  have:lk.contains n=false:=by simpa using hP
  rw [this] at hQ; exact hQ
theorem grow_s {n:Nat} (hn:n≤120000) (hQ:∀ h' r,Keep h h'→TB h' r []→NewN h r→Q (.slice r.a r.n r.c) h'):F148.T ⟨none,0,0⟩ (n:Int) h Q:=by
 have e0:IntKind.wrap .i64 ((((⟨none,0,0⟩:Sl).c:Int)) - ((⟨none,0,0⟩:Sl).n:Int))=0:=rfl
 unfold F148.T
 rw [e0,Int.sub_zero,wrap_i64 (by omega) (by omega),Int.toNat_natCast]
 refine ⟨fun hh=>absurd hh (by omega),fun _=>⟨fun hpos=>⟨⟨Int.le_refl _,Int.le_refl _,Int.le_refl _,Int.le_refl _⟩,by omega,?_⟩,fun h0=>hQ h ⟨none,0,0⟩ (Keep.refl h) (Buf.nil _ _ _) (NewN.nil _)⟩⟩
 have ec:Sl.cut ⟨none,0,0⟩ 6 0 (((⟨none,0,0⟩:Sl).c:Int)) (((⟨none,0,0⟩:Sl).c:Int))=⟨none,0,0⟩:=rfl
 rw [ec]
 refine append_buf (Buf.nil h 6 63) rfl (by rw [zerosV_length]; rfl) (by show (0+n)*64≤_; omega) fun r h1 B1 hrn U1=>?_
 obtain ⟨K1,N1⟩:=NewN.upd (Keep.refl h) (NewN.nil h) U1
 refine ⟨⟨Int.le_refl _,by show (0:Int)≤((0:Nat):Int); omega,by show ((0:Nat):Int)≤_; omega,Int.le_refl _⟩,?_⟩
 rw [cut0]
 refine hQ h1 ⟨r.a,0,r.c⟩ K1 ?_ N1
 have B2:Buf h1 r 6 63 ([]++zerosV [.int .u64 0,.int .i64 0,.int .i64 0,.int .i64 0,.string ⟨#[]⟩,.string ⟨#[]⟩] n):=B1
 unfold TB
 refine buf_cap B2 rfl (Nat.zero_le _) (Nat.zero_le _) (Nat.le_refl _) (fun h0=>?_)
 rcases B2.own with ⟨_,hc⟩ | ⟨b,c,f,hb,_⟩
 ·exact hc
 ·rw [h0] at hb; cases hb
theorem concat_s {A B:List Tab} (x:h b=some (.cells ⟨[.slice l1.a l1.n l1.c,.slice l2.a l2.n l2.c]⟩ 77 (0,0))) (B1:TB h l1 A) (B2:TB h l2 B) (hA:A.length≤60000) (hB:B.length≤60000) (hQ:∀ h' r,Keep h h'→TB h' r (A++B)→NewN h r→Q (.slice r.a r.n r.c) h'):F87.T ⟨some ⟨b,0,none⟩,2,2⟩ h Q:=by
 have n1:=tb_new B1
 have n2:=tb_new B2
 have tA:=tabV_len A
 have tB:=tabV_len B
 unfold F87.T F87.G
 refine ⟨fun n k h1=>h1=h∧((k=0∧n=0)∨(k=1∧n=(A.length:Int))∨(k=2∧n=((A.length+B.length:Nat):Int))),fun _ k _=>2 - k.toNat,⟨rfl,.inl ⟨rfl,rfl⟩⟩,?_⟩
 rintro n k h1 ⟨rfl,hk⟩
 refine ⟨fun hlt=>?_,fun hge=>?_⟩
 ·have hlt':k < 2:=hlt
  rcases hk with ⟨rfl,rfl⟩ | ⟨rfl,rfl⟩ | ⟨rfl,rfl⟩
  ·refine ⟨b,0,rfl,⟨by decide,hlt⟩,l1,at_of x 0,?_⟩
   rw [Int.zero_add,wrap_i64 (by omega) (by omega)]
   refine ⟨fun hh=>absurd hh (by omega),fun _=>⟨⟨rfl,.inr (.inl ⟨rfl,by rw [n1]⟩)⟩,by show 2 - 1 < 2 - 0; decide⟩⟩
  ·refine ⟨b,0,rfl,⟨by decide,hlt⟩,l2,at_of x 1,?_⟩
   rw [wrap_i64 (by omega) (by omega)]
   refine ⟨fun hh=>absurd hh (by omega),fun _=>⟨⟨rfl,.inr (.inr ⟨rfl,by rw [n2]; omega⟩)⟩,by show 2 - 2 < 2 - 1; decide⟩⟩
  ·exact absurd hlt' (by decide)
 ·have hge':¬ k < 2:=hge
  rcases hk with ⟨rfl,rfl⟩ | ⟨rfl,rfl⟩ | ⟨rfl,rfl⟩
  ·exact absurd (by decide) hge'
  ·exact absurd (by decide) hge'
  refine grow_s (by omega) fun h2 r K2 B0 N0=>⟨r,rfl,?_⟩
  refine ⟨fun l3 k h3=>Keep h1 h3∧NewN h1 l3∧((k=0∧TB h3 l3 [])∨(k=1∧TB h3 l3 A)∨(k=2∧TB h3 l3 (A++B))),fun _ k _=>2 - k.toNat,⟨K2,N0,.inl ⟨rfl,B0⟩⟩,?_⟩
  rintro l3 k h3 ⟨K3,N3,hk⟩
  refine ⟨fun hlt=>?_,fun hge=>?_⟩
  ·have hlt':k < 2:=hlt
   rcases hk with ⟨rfl,B3⟩ | ⟨rfl,B3⟩ | ⟨rfl,B3⟩
   ·refine ⟨b,0,rfl,⟨by decide,hlt⟩,l1,at_of (K3 _ _ x) 0,tabV A,Buf.row (Buf.keep K3 B1),tab_one _,?_⟩
    have n3:=tb_new B3
    refine append_buf B3 rfl (by rw [tA,n1]) (by rw [n3]; show (0+l1.n)*64≤_; omega) fun l5 h4 B4 _ U4=>?_
    obtain ⟨K4,N4⟩:=NewN.upd K3 N3 U4
    exact ⟨⟨K4,N4,.inr (.inl ⟨rfl,B4⟩)⟩,by show 2 - 1 < 2 - 0; decide⟩
   ·refine ⟨b,0,rfl,⟨by decide,hlt⟩,l2,at_of (K3 _ _ x) 1,tabV B,Buf.row (Buf.keep K3 B2),tab_one _,?_⟩
    have n3:=tb_new B3
    refine append_buf B3 rfl (by rw [tB,n2]) (by omega) fun l5 h4 B4 _ U4=>?_
    obtain ⟨K4,N4⟩:=NewN.upd K3 N3 U4
    refine ⟨⟨K4,N4,.inr (.inr ⟨rfl,?_⟩)⟩,by show 2 - 2 < 2 - 1; decide⟩
    unfold TB
    rw [tabV_app]
    exact B4
   ·exact absurd hlt' (by decide)
  ·have hge':¬ k < 2:=hge
   rcases hk with ⟨rfl,B3⟩ | ⟨rfl,B3⟩ | ⟨rfl,B3⟩
   ·exact absurd (by decide) hge'
   ·exact absurd (by decide) hge'
   ·exact hQ h3 l3 K3 B3 N3
theorem inputs_sz {fan level:Int} {ptrs:List ByteArray} {j:Jb} (P:PkOk xs) (e:inputsM fan xs ptrs level=some j):j.up.length≤60000∧j.lo.length≤60000:=by
 have ov:∀ a c n,(overM a c (tabsI xs n)).length≤60000:=fun a c n=>Nat.le_trans (List.length_filter_le _ _) (P.tl n)
 unfold inputsM at e
 split at e
 ·cases e
 split at e
 ·cases e
 split at e
 ·cases e; exact ⟨P.tl 0,ov _ _ _⟩
 dsimp only at e
 split at e
 ·cases e
  exact ⟨by simp,by dsimp only; rw [List.length_take]; exact Nat.le_trans (Nat.min_le_right _ _) (ov _ _ _)⟩
 ·cases e; exact ⟨by simp,ov _ _ _⟩
theorem next_s {ptrs:List ByteArray} {lk:List Int} (V:Ver g h vb ls xs) (P:PkOk xs) (O:CfOk n5 n7 n8 n9 n10 n12) (h8:n8=(xs.length:Int)) (B:h.row l.a l.n (ptrV ptrs)) (BL:h.row l1.a l1.n (uvs lk)) (hlk:l1.n < 9223372036854775807)
  (hN:∀ o,IsOrder (xs.length - 1) (decide (n7≤((tabsI xs 0).length:Int))) (scoreM n5 n9 n10 xs) o→nextL n12 xs ptrs lk (fun _=>false) o=none→∀ h',Keep h h'→Q (.tuple ⟨[.agg ⟨[.int .i64 0,.slice none 0 0,.slice none 0 0,.string ⟨#[]⟩,.bool false]⟩,.int .i64 (if o=[] then 0 else 1)]⟩) h')
  (hS:∀ o j,IsOrder (xs.length - 1) (decide (n7≤((tabsI xs 0).length:Int))) (scoreM n5 n9 n10 xs) o→nextL n12 xs ptrs lk (fun _=>false) o=some j→∀ h' u1 u2,Keep h h'→TB h' u1 j.up→NewN h u1→TB h' u2 j.lo→NewN h u2→Off u1 u2→Off u2 u1→Q (.tuple ⟨[.agg ⟨[.int .i64 j.lv,.slice u1.a u1.n u1.c,.slice u2.a u2.n u2.c,.string j.cut,.bool j.mv]⟩,.int .i64 2]⟩) h'):F21.T n n1 n2 n3 n4 n5 n6 n7 n8 n9 n10 n11 n12 n13 n14 n15 n16 n17 n18 n19 n20 n21 n22 n23 n24 n25 n26 (some ⟨vb,0,none⟩) l l1 h Q:=by
 have hx:=P.len
 unfold F21.T F21.G
 refine order_s V P O h8 fun h1 r o K1 B1 N1 hO=>⟨r,rfl,fun b hb=>?_⟩
 have hol:∀ i∈o,i < xs.length - 1:=fun i hi=>((hO.mem i).1 hi).1
 have hon:r.n=o.length:=by have:=B1.len; rw [iV_len] at this; omega
 have holn:o.length≤4:=by
  have h2:=List.Nodup.length_le_of_subset hO.nd (l₂:=List.range (xs.length - 1)) (fun i hi=>List.mem_range.2 (hol i hi))
  rw [List.length_range] at h2; omega
 have hN:=hN o hO
 have hS:=fun j=>hS o j hO
 generalize hT:nextL n12 xs ptrs lk (fun _=>false) o=T at hN hS
 refine ⟨fun n _ _ _ _ f h2=>isF f∧∃ A w R,o=A++w∧n=(A.length:Int)∧Keep h1 h2∧h2 b=some (.cells ⟨bV R⟩ 139 (0,0))∧nextL n12 xs ptrs lk R w=T,fun n _ _ _ _ _ _=>o.length - n.toNat,⟨rfl,[],o,fun _=>false,rfl,rfl,Keep.new hb _,new_at _ _ _,hT⟩,?_⟩
 intro n28 n29 l3 l4 s
 refine ⟨fun h2 hh=>(Bool.noConfusion (show true=false from hh.1)),?_⟩
 rintro h2 ⟨-,A,w,R,e,rfl,K2,x2,hw⟩
 have e2:=congrArg List.length e
 rw [List.length_append] at e2
 refine ⟨fun hlt=>?_,fun hge=>?_⟩
 ·rcases w with _ | ⟨i,w⟩
  ·exact absurd hlt (by simp at e2; omega)
  rw [List.length_cons] at e2
  have hi:i < 4:=by
   have:=hol i (by rw [e]; simp)
   omega
  obtain ⟨b2,ha,hat,_⟩:=buf_set (B1.keep K2) (k:=A.length) (by rw [iV_len]; omega)
  have hat':h2.at b2 (0+((A.length:Int)).toNat)=some (.int .i64 (i:Int)):=by
   rw [Int.toNat_natCast,Nat.zero_add,hat,e]
   unfold iV
   simp
  refine ⟨b2,0,ha,⟨by omega,hlt⟩,(i:Int),hat',?_⟩
  have w1:IntKind.wrap .i64 ((i:Int)+1)=((i+1:Nat):Int):=next_i (n:=10) (by omega) (by omega)
  have w2:IntKind.wrap .i64 ((A.length:Int)+1)=((A.length+1:Nat):Int):=next_i (n:=10) (by omega) (by omega)
  have K12:=K1.trans K2
  have hb2:h1 b=none:=hb
  -- a level that is marked
  have mk:∀ h3,Keep h2 h3→nextL n12 xs ptrs lk (setR R i) w=T →
    h3.canW b (0+((i:Nat):Int).toNat) 1∧((0:Int)≤((i+1:Nat):Int)∧((i+1:Nat):Int) < ((6:Nat):Int))∧(h3.wr b (0+((i:Nat):Int).toNat) [.bool true]).canW b (0+((i+1:Nat):Int).toNat) 1∧(isF false∧∃ A' w R,o=A'++w∧((A.length+1:Nat):Int)=(A'.length:Int)∧Keep h1 ((h3.wr b (0+((i:Nat):Int).toNat) [.bool true]).wr b (0+((i+1:Nat):Int).toNat) [.bool true])∧((h3.wr b (0+((i:Nat):Int).toNat) [.bool true]).wr b (0+((i+1:Nat):Int).toNat) [.bool true]) b=some (.cells ⟨bV R⟩ 139 (0,0))∧nextL n12 xs ptrs lk R w=T)∧o.length - ((A.length+1:Nat):Int).toNat < o.length - ((A.length:Nat):Int).toNat:=fun h3 K3 ht=>by
   obtain ⟨c1,c2,c3⟩:=mark_l (K3 _ _ x2) (i:=i) (by omega)
   exact ⟨c1,⟨by omega,by omega⟩,c2,⟨rfl,A++[i],w,_,by rw [e]; simp,by simp,((K2.trans K3).wr hb2 _ _).wr hb2 _ _,c3,ht⟩,by omega⟩
  unfold nextL at hw
  refine inputs_s (V.keep K12) P O h8 (K12.row B) (by omega) (fun hin h3 K3=>?_) (fun j hin h3 u1 u2 K3 T1 N1' T2 N2' o1 o2=>?_)
  ·rw [hin] at hw
   refine ⟨0,⟨none,0,0⟩,⟨none,0,0⟩,_,false,fun hh=>(Bool.noConfusion hh),fun _=>⟨false,fun hh=>(Bool.noConfusion hh),fun _=>⟨rfl,?_⟩⟩⟩
   rw [w2]
   exact ⟨⟨rfl,A++[i],w,R,by rw [e]; simp,by simp,K2.trans K3,K3 _ _ x2,hw⟩,by dsimp only; omega⟩
  ·rw [hin] at hw
   dsimp only at hw
   obtain ⟨zu,zl⟩:=inputs_sz P hin
   have rd:∀ k,k < 6→h3.at b (0+((k:Nat):Int).toNat)=some (.bool (R k)):=fun k hk=>by
    rw [Int.toNat_natCast,Nat.zero_add,at_of (K3 _ _ x2) k,bV_get R hk]
   have K13:=K12.trans K3
   have fnd:=hS j
   rw [w1,w2]
   refine ⟨j.lv,u1,u2,j.cut,j.mv,?_⟩
   obtain ⟨lv,up,lo,cut,mv⟩:=j
   dsimp only at zu zl T1 T2 fnd hw ⊢
   cases mv
   all_goals
    first
     | refine ⟨fun hh=>(Bool.noConfusion hh),fun _=>⟨true,fun _=>?_,fun hh=>(Bool.noConfusion hh)⟩⟩
     | refine ⟨fun _=>⟨true,fun _=>?_,fun hh=>(Bool.noConfusion hh)⟩,fun hh=>(Bool.noConfusion hh)⟩
    refine ⟨rfl,⟨by omega,by omega⟩,R i,rd i (by omega),fun hr=>?_,fun hr=>⟨⟨by omega,by omega⟩,R (i+1),rd (i+1) (by omega),fun hr1=>?_,fun hr1 b7 hb7=>?_⟩⟩
    ·rw [if_neg (fun c=>by rw [c.1] at hr; cases hr)] at hw
     exact ⟨⟨by omega,by omega⟩,mk h3 K3 hw⟩
    ·rw [if_neg (fun c=>by rw [c.2.1] at hr1; cases hr1)] at hw
     exact ⟨⟨by omega,by omega⟩,mk h3 K3 hw⟩
    ·have K4:=Keep.new hb7 (.cells ⟨[.slice u1.a u1.n u1.c,.slice u2.a u2.n u2.c]⟩ 77 (0,0))
     have x4:=new_at h3 b7 (.cells ⟨[.slice u1.a u1.n u1.c,.slice u2.a u2.n u2.c]⟩ 77 (0,0))
     generalize h3.new b7 (.cells ⟨[.slice u1.a u1.n u1.c,.slice u2.a u2.n u2.c]⟩ 77 (0,0))=h4 at K4 x4 ⊢
     refine concat_s x4 (Buf.keep K4 T1) (Buf.keep K4 T2) zu zl fun h5 l7 K5 B7 _=>⟨l7,rfl,?_⟩
     have n7':=tb_new B7
     have K35:=K3.trans (K4.trans K5)
     have hll:(up++lo).length≤120000:=by rw [List.length_append]; omega
     refine ⟨fun n h6=>h6=h5∧∃ C D,up++lo=C++D∧n=(C.length:Int)∧∀ t∈C,lk.contains t.num=false,fun n _=>(up++lo).length - n.toNat,⟨rfl,[],_,rfl,rfl,fun t ht=>(by cases ht)⟩,?_⟩
     rintro n h6 ⟨rfl,C,D,eC,rfl,hC⟩
     have eC2:=congrArg List.length eC
     rw [List.length_append,List.length_append] at eC2
     have eL:(up++lo).length=up.length+lo.length:=List.length_append
     refine ⟨fun hlt6=>?_,fun hge6=>?_⟩
     ·rcases D with _ | ⟨t,D⟩
      ·exact absurd hlt6 (by simp at eC2; omega)
      rw [List.length_cons] at eC2
      have r7:=Buf.row B7
      rw [eC] at r7
      refine tab_rd r7 rfl fun b8 o1=>?_
      refine index_s (K12.trans K35 |>.row BL) hlk ⟨_,rfl,fun hc=>?_,fun hc=>?_⟩
      ·rw [if_neg (fun c=>by
        have:=c.2.2
        unfold hit at this
        rw [List.any_eq_false] at this
        exact this t (by dsimp only; rw [eC]; simp) hc)] at hw
       exact ⟨⟨by omega,by omega⟩,mk h6 K35 hw⟩
      ·rw [next_i (n:=130000) (by omega) (by omega)]
       refine ⟨⟨rfl,C++[t],D,by rw [eC]; simp,by simp,fun u hu=>?_⟩,by dsimp only; omega⟩
       rcases List.mem_append.1 hu with hu | hu
       ·exact hC u hu
       ·rw [List.mem_singleton.1 hu]; exact hc
     ·have hD:D=[]:=List.eq_nil_of_length_eq_zero (by omega)
      subst hD
      rw [List.append_nil] at eC
      rw [if_pos ⟨hr,hr1,by
       unfold hit
       rw [List.any_eq_false]
       dsimp only
       rw [eC]
       exact fun u hu hh=>by rw [hC u hu] at hh; cases hh⟩] at hw
      have K45:=K4.trans K5
      exact fnd hw.symm h6 u1 u2 (K12.trans K35) (Buf.keep K45 T1) (N1'.mono K12.dom) (Buf.keep K45 T2) (N2'.mono K12.dom) o1 o2
 ·have hw0:w=[]:=List.eq_nil_of_length_eq_zero (by omega)
  subst hw0
  have hTn:T=none:=hw.symm
  refine ⟨fun hp=>?_,fun hp=>?_⟩
  ·have hne:o≠[]:=fun h0=>by rw [h0] at hon; rw [hon] at hp; exact absurd hp (by decide)
   have:=hN hTn h2 (K1.trans K2)
   rw [if_neg hne] at this
   exact this
  ·have h0:o=[]:=List.eq_nil_of_length_eq_zero (by omega)
   have:=hN hTn h2 (K1.trans K2)
   rw [if_pos h0] at this
   exact this
end
end Go.Eng.YtbjnlacacapjiaaGreatDoor
end
section
set_option maxRecDepth 100000
set_option maxHeartbeats 1000000
namespace Go.Eng.YtbjnlacacapjiaaGreatDoor
theorem cells_inj {t u:Tab} (h:t.cells=u.cells):t=u:=by
 obtain ⟨a,b,c,d,e,f⟩:=t
 obtain ⟨a',b',c',d',e',f'⟩:=u
 simp only [Tab.cells,List.cons.injEq,Value.int.injEq,Value.string.injEq,true_and,and_true] at h
 obtain ⟨rfl,rfl,rfl,rfl,rfl,rfl⟩:=h
 rfl
theorem tmod_rng {a n:Int} (ha:0≤a) (hn:0 < n):0≤Int.tmod a n∧Int.tmod a n < n:=⟨Int.tmod_nonneg _ ha,Int.tmod_lt_of_pos _ hn⟩
section
variable {g h h':Hp} {vb b:Nat} {ls l l1 l2 l3:Sl} {xs:List (Sl×List Tab)} {Q:Value→Hp→Prop} {n n1 n2 n3 n4 n5 n6 n7 n8 n9 n10 n11 n12 n13 n14 n15 n16 n17 n18 n19 n20 n21 n22 n23 n24 n25 n26:Int}
theorem sameT_s {A B:List Tab} (BA:h.row l.a (l.n*6) (tabV A)) (BB:h.row l1.a (l1.n*6) (tabV B)) (hA:A.length≤60000) (hT:A=B→Q (.bool true) h) (hF:A≠B→Q (.bool false) h):F89.T l l1 h Q:=by
 have n1:l.n=A.length:=by have:=BA.1; rw [tabV_len] at this; omega
 have n2:l1.n=B.length:=by have:=BB.1; rw [tabV_len] at this; omega
 unfold F89.T
 refine ⟨fun hl=>?_,fun hl=>hF fun e=>hl (by rw [n1,n2,e])⟩
 have hAB:A.length=B.length:=by omega
 refine ⟨fun k h1=>h1=h∧∃ P R S,A=P++R∧B=P++S∧k=(P.length:Int),fun k _=>A.length - k.toNat,⟨rfl,[],_,_,rfl,rfl,rfl⟩,?_⟩
 rintro k h1 ⟨rfl,P,R,S,e,e',rfl⟩
 have e2:=congrArg List.length e
 have e3:=congrArg List.length e'
 rw [List.length_append] at e2 e3
 refine ⟨fun hlt=>?_,fun hge=>?_⟩
 ·rcases R with _ | ⟨t,R⟩
  ·exact absurd hlt (by simp at e2; omega)
  rw [List.length_cons] at e2
  rcases S with _ | ⟨u,S⟩
  ·simp at e3; omega
  rw [List.length_cons] at e3
  have BA':=BA
  have BB':=BB
  rw [e] at BA'
  rw [e'] at BB'
  refine tab_rd BA' rfl fun b o=>?_
  refine tab_rd BB' rfl fun b1 o1=>⟨fun heq=>?_,fun hne=>hF fun hAB'=>hne ?_⟩
  ·have htu:t=u:=cells_inj heq
   subst htu
   rw [next_i (n:=70000) (by omega) (by omega)]
   exact ⟨⟨rfl,P++[t],R,S,by rw [e]; simp,by rw [e']; simp,by simp⟩,by dsimp only; omega⟩
  ·rw [e,e'] at hAB'
   have:=List.append_cancel_left hAB'
   cases this; rfl
 ·have hR:R=[]:=List.eq_nil_of_length_eq_zero (by omega)
  have hS:S=[]:=List.eq_nil_of_length_eq_zero (by omega)
  subst hR hS
  exact hT (by rw [e,e'])
theorem sameI_s {A B:List Int} (BA:h.row l.a l.n (nV3 A)) (BB:h.row l1.a l1.n (nV3 B)) (hA:A.length≤60000) (hT:A=B→Q (.bool true) h) (hF:A≠B→Q (.bool false) h):F18.T l l1 h Q:=by
 have n1:l.n=A.length:=by have:=BA.1; rw [nV3_len] at this; omega
 have n2:l1.n=B.length:=by have:=BB.1; rw [nV3_len] at this; omega
 unfold F18.T
 refine ⟨fun hl=>?_,fun hl=>hF fun e=>hl (by rw [n1,n2,e])⟩
 have hAB:A.length=B.length:=by omega
 refine ⟨fun k h1=>h1=h∧∃ P R S,A=P++R∧B=P++S∧k=(P.length:Int),fun k _=>A.length - k.toNat,⟨rfl,[],_,_,rfl,rfl,rfl⟩,?_⟩
 rintro k h1 ⟨rfl,P,R,S,e,e',rfl⟩
 have e2:=congrArg List.length e
 have e3:=congrArg List.length e'
 rw [List.length_append] at e2 e3
 refine ⟨fun hlt=>?_,fun hge=>?_⟩
 ·rcases R with _ | ⟨t,R⟩
  ·exact absurd hlt (by simp at e2; omega)
  rw [List.length_cons] at e2
  rcases S with _ | ⟨u,S⟩
  ·simp at e3; omega
  rw [List.length_cons] at e3
  obtain ⟨b,o,ha,hat⟩:=row_get BA (i:=P.length) (by omega)
  obtain ⟨b1,o1,ha1,hat1⟩:=row_get BB (i:=P.length) (by omega)
  refine ⟨b,o,ha,⟨by omega,hlt⟩,t,?_,b1,o1,ha1,⟨by omega,by omega⟩,u,?_,fun heq=>?_,fun hne=>hF fun hAB'=>hne ?_⟩
  ·rw [Int.toNat_natCast,hat P.length (by omega),e]; unfold nV3; simp
  ·rw [Int.toNat_natCast,hat1 P.length (by omega),e']; unfold nV3; simp
  ·subst heq
   rw [next_i (n:=70000) (by omega) (by omega)]
   exact ⟨⟨rfl,P++[t],R,S,by rw [e]; simp,by rw [e']; simp,by simp⟩,by dsimp only; omega⟩
  ·rw [e,e'] at hAB'
   have:=List.append_cancel_left hAB'
   cases this; rfl
 ·have hR:R=[]:=List.eq_nil_of_length_eq_zero (by omega)
  have hS:S=[]:=List.eq_nil_of_length_eq_zero (by omega)
  subst hR hS
  exact hT (by rw [e,e'])
theorem sameJ_s {i j:Jb} (U:h.row l.a (l.n*6) (tabV i.up)) (L:h.row l1.a (l1.n*6) (tabV i.lo)) (U':h.row l2.a (l2.n*6) (tabV j.up)) (L':h.row l3.a (l3.n*6) (tabV j.lo)) (hu:i.up.length≤60000) (hl:i.lo.length≤60000)
  (hT:i=j→Q (.bool true) h) (hF:i≠j→Q (.bool false) h):F22.T i.lv l l1 i.cut i.mv j.lv l2 l3 j.cut j.mv h Q:=by
 obtain ⟨a,b,c,d,e⟩:=i
 obtain ⟨a',b',c',d',e'⟩:=j
 dsimp only at U L U' L' hu hl
 unfold F22.T F22.G
 refine ⟨fun h1=>?_,fun h1=>hF fun hh=>h1 (by cases hh; rfl)⟩
 refine sameT_s U U' hu (fun h2=>⟨_,rfl,fun _=>?_,fun hh=>Bool.noConfusion hh⟩) (fun h2=>⟨_,rfl,fun hh=>Bool.noConfusion hh,fun _=>hF fun hh=>h2 (by cases hh; rfl)⟩)
 refine sameT_s L L' hl (fun h3=>⟨_,rfl,fun _=>?_,fun hh=>Bool.noConfusion hh⟩) (fun h3=>⟨_,rfl,fun hh=>Bool.noConfusion hh,fun _=>hF fun hh=>h3 (by cases hh; rfl)⟩)
 refine ⟨fun h4=>⟨fun h5=>?_,fun h5=>hF fun hh=>h5 (by cases hh; rfl)⟩,fun h4=>hF fun hh=>h4 (by cases hh; rfl)⟩
 dsimp only at h1 h4 h5
 subst h1 h2 h3 h4 h5
 exact hT rfl
theorem place_s {n n1:Int} (hn:-9223372036854775808≤n) (h1:0 < n1) (hQ:∀ m,0≤m→m < n1→Q (.int .i64 m) h):F72.T n n1 h Q:=by
 unfold F72.T
 refine ⟨fun hneg=>⟨by omega,?_⟩,fun hpos=>⟨by omega,?_⟩⟩
 ·rw [wrap_i64 (n:=n+1) (by omega) (by omega),wrap_i64 (by omega) (by omega)]
  obtain ⟨a,b⟩:=tmod_rng (a:=0 - (n+1)) (by omega) h1
  exact hQ _ a b
 ·obtain ⟨a,b⟩:=tmod_rng (a:=n) (by omega) h1
  exact hQ _ a b
theorem right_s (r5:-9223372036854775808≤n5) (r7:-9223372036854775808≤n7) (r8:-9223372036854775808≤n8) (r9:-9223372036854775808≤n9) (r10:-9223372036854775808≤n10) (r12:-9223372036854775808≤n12)
  (hQ:∀ m5 m7 m8 m9 m10 m12,CfOk m5 m7 m8 m9 m10 m12→Q (.agg ⟨[.int .i64 n,.int .i64 n1,.int .i64 n2,.int .i64 n3,.int .i64 n4,.int .i64 m5,.int .i64 n6,.int .i64 m7,.int .i64 m8,.int .i64 m9,.int .i64 m10,.int .i64 n11,.int .i64 m12,.int .i64 n13,.int .i64 n14,.int .i64 n15,.int .i64 n16,.int .i64 n17,.int .i64 n18,.int .i64 n19,.int .i64 n20,.int .i64 n21,.int .i64 n22,.int .i64 n23,.int .i64 n24,.int .i64 n25,.int .i64 n26]⟩) h):F14.T n n1 n2 n3 n4 n5 n6 n7 n8 n9 n10 n11 n12 n13 n14 n15 n16 n17 n18 n19 n20 n21 n22 n23 n24 n25 n26 h Q:=by
 unfold F14.T F14.G
 refine place_s r8 (by decide) fun a a1 a2=>⟨a,rfl,?_⟩
 refine place_s r9 (by decide) fun c c1 c2=>⟨c,rfl,?_⟩
 refine place_s r10 (by decide) fun d d1 d2=>⟨d,rfl,?_⟩
 refine place_s r5 (by decide) fun e e1 e2=>⟨e,rfl,?_⟩
 refine place_s r7 (by decide) fun f f1 f2=>⟨f,rfl,?_⟩
 refine place_s r12 (by decide) fun i i1 i2=>⟨i,rfl,?_⟩
 rw [wrap_i64 (n:=1+e) (by omega) (by omega),wrap_i64 (n:=1+f) (by omega) (by omega),wrap_i64 (n:=3+a) (by omega) (by omega),wrap_i64 (n:=4096+c) (by omega) (by omega),wrap_i64 (n:=2+d) (by omega) (by omega),wrap_i64 (n:=1+i) (by omega) (by omega)]
 refine hQ _ _ _ _ _ _ ⟨by omega,?_,by omega,by omega,by omega,by omega⟩
 unfold iMax
 split <;> split <;> omega
def Cn (h:Hp) (b:Nat):Prop:=∃ c:Int,h b=some (.cells ⟨[.int .i64 c]⟩ 156 (0,0))
theorem cadd_s (C:Cn h b) {n:Int} (hQ:∀ h' r,Cn h' b→(∀ k x,k≠b→h k=some x→h' k=some x)→Q (.bool r) h'):F70.T (some ⟨b,0,none⟩) n h Q:=by
 obtain ⟨c,x⟩:=C
 unfold F70.T
 have y:(h.wr b 0 [.int .i64 (IntKind.wrap .i64 (c - n))]) b=some (.cells ⟨[.int .i64 (IntKind.wrap .i64 (c - n))]⟩ 156 (0,0)):=by
  unfold Hp.wr; rw [if_pos rfl,x]; rfl
 have keep:∀ k x,k≠b→h k=some x→(h.wr b 0 [.int .i64 (IntKind.wrap .i64 (c - n))]) k=some x:=fun k z hk e=>by
  unfold Hp.wr; rw [if_neg hk]; exact e
 refine ⟨b,0,rfl,c,at_of x 0,fun _=>⟨b,0,rfl,c,at_of x 0,b,0,rfl,canW_new x (Nat.le_refl 1),b,0,rfl,_,at_of y 0,fun _=>hQ _ _ ⟨_,y⟩ keep,fun _=>hQ _ _ ⟨_,y⟩ keep⟩,fun _=>⟨b,0,rfl,c,at_of x 0,fun _=>hQ _ _ ⟨_,x⟩ (fun _ _ _ e=>e),fun _=>hQ _ _ ⟨_,x⟩ (fun _ _ _ e=>e)⟩⟩
theorem cok_s (C:Cn h b) (hQ:∀ r,Q (.bool r) h):F31.T (some ⟨b,0,none⟩) h Q:=by
 obtain ⟨c,x⟩:=C
 exact ⟨b,0,rfl,c,at_of x 0,fun _=>hQ _,fun _=>hQ _⟩
theorem ctext_s (C:Cn h b) {s:ByteArray} (hQ:∀ h' r,Cn h' b→(∀ k x,k≠b→h k=some x→h' k=some x)→Q r h'):F71.T (some ⟨b,0,none⟩) s h Q:=by
 unfold F71.T F71.G
 refine cadd_s C fun h' r C' k'=>⟨r,rfl,fun _=>hQ _ _ C' k',fun _=>hQ _ _ C' k'⟩
theorem few_s {ptrs:List ByteArray} (B:h.row l1.a l1.n (ptrV ptrs)) (hl:l1.n < 9223372036854775807) (hQ:∀ h' r,Keep h h'→Q (.bool r) h'):F13.T l l1 h Q:=by
 have hn:l1.n=ptrs.length:=by have:=B.1; rw [ptrV_length] at this; omega
 unfold F13.T F29.T F13.G
 intro b hb
 have K1:=Keep.new hb (.cells ⟨[.int .i64 10000]⟩ 156 (0,0))
 have C1:Cn (h.new b (.cells ⟨[.int .i64 10000]⟩ 156 (0,0))) b:=⟨_,new_at _ _ _⟩
 generalize h.new b (.cells ⟨[.int .i64 10000]⟩ 156 (0,0))=h1 at K1 C1 ⊢
 refine ⟨_,rfl,cadd_s C1 fun h2 r C2 k2=>⟨r,rfl,?_⟩⟩
 have K2:Keep h h2:=fun k x e=>k2 k x (ne_of e hb) (K1 k x e)
 have ok:∀ h3,Cn h3 b→Keep h h3→F31.T (some ⟨b,0,none⟩) h3 fun r5 h7=>∃ b4:Bool,r5=.bool b4∧parB b4 (Q (.bool true) h7) (Q (.bool false) h7):=fun h3 C3 K3=>cok_s C3 fun r=>⟨r,rfl,fun _=>hQ _ _ K3,fun _=>hQ _ _ K3⟩
 have loop:∃ (I:Int→Hp→Prop) (m:Int→Hp→Nat),I 0 h2∧(∀ n:Int,∀ h3:Hp,I n h3→par (n < (l1.n:Int)) (F31.T (some ⟨b,0,none⟩) h3 fun r2 h4=>∃ b1:Bool,r2=.bool b1∧parB b1 (∃ b2 o,(l1.a:Option Addr)=some ⟨b2,o,none⟩∧((0:Int)≤n∧n < (l1.n:Int))∧∃ s:ByteArray,h4.at b2 (o+n.toNat)=some (.string s)∧F71.T (some ⟨b,0,none⟩) s h4 fun r3 h5=>I (IntKind.wrap .i64 (n+1)) h5∧m (IntKind.wrap .i64 (n+1)) h5 < m n h3) (F31.T (some ⟨b,0,none⟩) h4 fun r4 h6=>∃ b3:Bool,r4=.bool b3∧parB b3 (Q (.bool true) h6) (Q (.bool false) h6))) (F31.T (some ⟨b,0,none⟩) h3 fun r5 h7=>∃ b4:Bool,r5=.bool b4∧parB b4 (Q (.bool true) h7) (Q (.bool false) h7))):=by
  refine ⟨fun n h3=>Cn h3 b∧Keep h h3∧∃ k:Nat,n=(k:Int)∧k≤ptrs.length,fun n _=>ptrs.length - n.toNat,⟨C2,K2,0,rfl,Nat.zero_le _⟩,?_⟩
  rintro n h3 ⟨C3,K3,k,rfl,hk⟩
  refine ⟨fun hlt=>?_,fun hge=>ok h3 C3 K3⟩
  refine cok_s C3 fun r=>⟨r,rfl,fun _=>?_,fun _=>ok h3 C3 K3⟩
  have hk':k < ptrs.length:=by omega
  obtain ⟨b2,o,ha,hat⟩:=row_get (K3.row B) (i:=k) (by omega)
  refine ⟨b2,o,ha,⟨by omega,hlt⟩,ptrs[k],?_,?_⟩
  ·rw [Int.toNat_natCast,hat k (by omega)]
   unfold ptrV
   rw [List.getElem?_map,List.getElem?_eq_getElem hk']; rfl
  ·refine ctext_s C3 fun h5 r C5 k5=>?_
   rw [next_i (n:=ptrs.length) hk' (by omega)]
   exact ⟨⟨C5,fun k x e=>k5 k x (ne_of e hb) (K3 k x e),k+1,rfl,hk'⟩,by dsimp only; omega⟩
 exact ⟨fun _=>loop,fun _=>loop⟩
end
end Go.Eng.YtbjnlacacapjiaaGreatDoor
end
section
set_option maxRecDepth 100000
set_option maxHeartbeats 1000000
namespace Go.Eng.YtbjnlacacapjiaaGreatDoor
structure GoodL (lv:Lv):Prop where
 hulls:Hulls lv
 nd:(nums lv).Nodup
 adj:∀ i ts,1≤i→lv[i]?=some ts→Adj ts
 w:∀ l∈lv,∀ t∈l,0≤t.weight∧t.weight < 2147483648
theorem nums_cons (l:List Tab) (lv:Lv):nums (l::lv)=l.map Tab.num++nums lv:=by unfold nums; simp
theorem nums_set:∀ {lv:Lv} {k:Nat} {ts:List Tab} {t:Tab},lv[k]?=some ts→(nums (lv.set k (ts++[t]))).Perm (t.num::nums lv)
 | [],k,ts,t,h=>by simp at h
 | l::lv,0,ts,t,h=>by
  simp only [List.getElem?_cons_zero,Option.some.injEq] at h
  subst h
  rw [List.set_cons_zero,nums_cons,nums_cons,List.map_append,List.append_assoc]
  exact List.perm_middle
 | l::lv,k+1,ts,t,h=>by
  rw [List.getElem?_cons_succ] at h
  rw [List.set_cons_succ,nums_cons,nums_cons]
  exact ((nums_set h).append_left _).trans List.perm_middle
theorem nums_perm:∀ {lv lw:Lv},lw.length=lv.length→(∀ (i:Nat) (a b:List Tab),lv[i]?=some a→lw[i]?=some b→List.Perm b a)→(nums lw).Perm (nums lv)
 | [],[],_,_=>List.Perm.refl _
 | [],_::_,h,_=>(by simp at h)
 | _::_,[],h,_=>(by simp at h)
 | a::lv,b::lw,h,hp=>by
  rw [nums_cons,nums_cons]
  have h1:List.Perm b a:=hp 0 a b rfl rfl
  have h2:=nums_perm (lv:=lv) (lw:=lw) (by simpa using h) (fun i x y hx hy=>hp (i+1) x y (by simpa using hx) (by simpa using hy))
  exact (h1.map _).append h2
theorem Sorted.perm {lv lw:Lv} (h:Sorted lv lw):∀ (i:Nat) (a b:List Tab),lv[i]?=some a→lw[i]?=some b→List.Perm b a:=fun i a b ha hb=>by
 rcases Nat.eq_zero_or_pos i with rfl | h0
 ·have:=h.2.1
  rw [ha,hb] at this
  cases this
  exact List.Perm.refl _
 ·exact (h.2.2 i a b h0 ha hb).1
theorem good_nil (k:Nat):GoodL (List.replicate k []):=by
 have e:nums (List.replicate k [])=[]:=by
  induction k with
  | zero=>rfl
  | succ k ih=>rw [List.replicate_succ,nums_cons,ih]; rfl
 refine ⟨fun l hl t ht=>?_,by rw [e]; exact List.nodup_nil,fun i ts _ hts=>?_,fun l hl t ht=>?_⟩
 ·rw [(List.mem_replicate.1 hl).2] at ht; cases ht
 ·have:=(List.mem_replicate.1 (List.mem_of_getElem? hts)).2
  subst this
  intro j x y hx; simp at hx
 ·rw [(List.mem_replicate.1 hl).2] at ht; cases ht
theorem good_step {lv lw:Lv} {e:Edit} {p:Placed} (G:GoodL lv) (ho:e.out=[]) (hi:e.inn=[p]) (hw:0≤p.weight∧p.weight < 2147483648) (h:Res lv e 0 lw):GoodL lw∧totL lw≤totL lv+1∧lw.length=lv.length:=by
 unfold Res at h
 rw [ho,hi] at h
 split at h
 ·next h1=>
  have o0:outM [] lv=(0,lv):=rfl
  rw [o0] at h
  dsimp only at h
  rw [if_pos rfl] at h
  have hs:=inM_sum [p] lv
  split at h
  ·next h3=>
   rcases h with ⟨h,_⟩ | ⟨_,h⟩
   ·exact absurd h (by decide)
   have H2:Hulls (inM [p] lv).2:=hs.2.2 G.hulls
   have nd2:(nums (inM [p] lv).2).Nodup∧∀ l∈(inM [p] lv).2,∀ t∈l,0≤t.weight∧t.weight < 2147483648:=by
    unfold inM at h3
    split at h3
    ·exact absurd h3 (by simp)
    ·next hp=>
     split at h3
     ·exact absurd h3 (by simp)
     ·next ts hts=>
      split at h3
      ·exact absurd h3 (by simp)
      ·next hn=>
       split at h3
       ·exact absurd h3 (by simp)
       ·next hb=>
        have hin:inM [p] lv=(0,lv.set p.lv.toNat (ts++[p.tab])):=by
         unfold inM
         rw [if_neg hp]
         simp only [hts]
         rw [if_neg hn,if_neg hb]
         rfl
        rw [hin]
        refine ⟨(nums_set hts).nodup_iff.2 (List.nodup_cons.2 ⟨hn,G.nd⟩),fun l hl t ht=>?_⟩
        rcases List.mem_or_eq_of_mem_set hl with hl | hl
        ·exact G.w l hl t ht
        ·subst hl
         rcases List.mem_append.1 ht with ht | ht
         ·exact G.w ts (List.mem_of_getElem? hts) t ht
         ·rw [List.mem_singleton.1 ht]; exact hw
   refine ⟨⟨h.hulls H2,?_,fun i us h0 hu=>?_,fun l hl t ht=>?_⟩,?_,?_⟩
   ·exact (nums_perm h.1 h.perm).nodup_iff.2 nd2.1
   ·have hlt:i < (inM [p] lv).2.length:=by rw [← h.1]; exact (List.getElem?_eq_some_iff.1 hu).1
    exact (h.2.2 i _ us h0 (List.getElem?_eq_getElem hlt) hu).2.2
   ·obtain ⟨i,hi',hl'⟩:=List.mem_iff_getElem.1 hl
    have hlt:i < (inM [p] lv).2.length:=by rw [← h.1]; exact hi'
    have:=h.perm i _ l (List.getElem?_eq_getElem hlt) (by rw [← hl']; exact List.getElem?_eq_getElem hi')
    exact nd2.2 _ (List.getElem_mem hlt) t (this.mem_iff.1 ht)
   ·have:=h.totL
    have:=hs.1
    simp only [List.length_singleton] at this
    omega
   ·rw [h.1,hs.2.1]
  ·next h3=>exact absurd h.symm h3
 ·exact absurd h (by decide)
theorem zero_ptrs (n:Nat):(Builtin.zeroCells (List.toArray [Value.string ⟨#[]⟩]) ((n:Nat):Int).toNat)=⟨ptrV (List.replicate n ⟨#[]⟩)⟩:=by
 rw [Int.toNat_natCast]
 unfold Builtin.zeroCells ptrV
 apply Array.ext
 ·simp
 ·intro i h1 h2
  simp [Nat.mod_one]
theorem NewN.grow {g h:Hp} {s:Sl} {sz t b:Nat} {o:Obj} {vs:List Value} (N:NewN g s) (B:Buf h s sz t vs) (hb:h b=none):NewN (g.new b o) s:=by
 rcases N with h0 | ⟨k,hk,hn⟩
 ·exact .inl h0
 ·refine .inr ⟨k,hk,?_⟩
  rcases B.own with ⟨ha,_⟩ | ⟨c,_,_,ha,hc,_⟩
  ·rw [hk] at ha; cases ha
  ·rw [hk] at ha
   simp only [Option.some.injEq,Addr.mk.injEq] at ha
   rw [new_ne _ _ (by rw [ha.1]; exact ne_of hc hb)]; exact hn
section
variable {g h h':Hp} {sb vb pm cm b:Nat} {ps ls l l1 l2:Sl} {xs:List (Sl×List Tab)} {ptrs:List ByteArray} {Q:Value→Hp→Prop} {n n1 n2 n3 n4 n5 n6 n7 n8 n9 n10 n11 n12 n13 n14 n15 n16 n17 n18 n19 n20 n21 n22 n23 n24 n25 n26:Int}
theorem SetA.grow (S:SetA g h sb vb pm cm ps ls xs ptrs) (hb:h b=none) (o:Obj):SetA (g.new b o) (h.new b o) sb vb pm cm ps ls xs ptrs:=by
 have K:=Keep.new hb o
 have kk:Keep (g.new b o) (h.new b o):=fun k x e=>by
  by_cases hk:k=b
  ·subst hk; rw [new_at] at e ⊢; exact e
  ·rw [new_ne _ _ hk] at e ⊢; exact S.V.L.k k x e
 obtain ⟨c,hc⟩:=S.m
 obtain ⟨es,c2,h2,h3⟩:=S.c
 refine ⟨⟨⟨kk,NewN.grow S.V.L.nl S.V.L.l hb,S.V.L.l.keep K,fun x hx=>Buf.keep K (S.V.L.t x hx),fun x hx=>NewN.grow (S.V.L.n x hx) (S.V.L.t x hx) hb,S.V.L.d⟩,?_,K _ _ S.V.v⟩,?_,K _ _ S.s,NewN.grow S.np S.p hb,S.p.keep K,⟨c,K _ _ hc⟩,?_,⟨es,c2,K _ _ h2,h3⟩,S.ne⟩
 ·rw [new_ne _ _ (ne_of S.V.v hb)]; exact S.V.nv
 ·rw [new_ne _ _ (ne_of S.s hb)]; exact S.ns
 ·rw [new_ne _ _ (ne_of h2 hb)]; exact S.nc
theorem SetA.base {g0:Hp} (K:Keep g0 g) (S:SetA g h sb vb pm cm ps ls xs ptrs):SetA g0 h sb vb pm cm ps ls xs ptrs:=
 ⟨Ver.base K S.V,K.dom _ S.ns,S.s,S.np.mono K.dom,S.p,S.m,K.dom _ S.nc,S.c,S.ne⟩
def LT (h:Hp) (r:Sl) (lv:Lv):Prop:=∃ ys:List (Sl×List Tab),Buf h r 1 77 (slV (ys.map (·.1)))∧(∀ y∈ys,TB h y.1 y.2)∧ys.map (·.2)=lv
theorem totL_le {lv:Lv} {n:Nat} (h:totL lv≤n):∀ l∈lv,l.length≤n:=fun l hl=>Nat.le_trans (totL_mem hl) h
theorem built_s {inn:List Placed} (hin:h.row l.a (l.n*7) (inV inn)) (hr:∀ p∈inn,-9223372036854775808≤p.lv∧-9223372036854775808≤p.weight) (h8:3≤n8∧n8≤5)
  (hQ:∀ h' vb ls xs r,Keep h h'→Ver h h' vb ls xs→GoodL (xs.map (·.2))→totL (xs.map (·.2))≤400→n8=(xs.length:Int)→LT h' r (xs.map (·.2))→Q (.tuple ⟨[.pointer (some ⟨vb,0,none⟩),.slice r.a r.n r.c]⟩) h'):F15.T n n1 n2 n3 n4 n5 n6 n7 n8 n9 n10 n11 n12 n13 n14 n15 n16 n17 n18 n19 n20 n21 n22 n23 n24 n25 n26 l h Q:=by
 obtain ⟨k,hk⟩:=Int.eq_ofNat_of_zero_le (show 0≤n8 by omega)
 have hln:l.n=inn.length:=by have:=hin.1; rw [inV_len] at this; omega
 subst hk
 unfold F15.T F15.G
 refine new_spec (k:=k) rfl (by omega) (by omega) fun h1 sb vb pm cm ps ls xs S0 ex0=>⟨_,rfl,fun a b _ e=>(by cases e),fun e=>(by cases e),fun _=>⟨⟨by omega,by omega,by omega⟩,fun b hb=>?_⟩⟩
 rw [zero_ptrs,Int.toNat_natCast]
 have S1:=S0.grow hb (.cells ⟨ptrV (List.replicate k ⟨#[]⟩)⟩ 9 (0,0))
 have hgb:=S0.V.L.k.dom b hb
 have KG:=Keep.new hgb (.cells ⟨ptrV (List.replicate k ⟨#[]⟩)⟩ 9 (0,0))
 have xG:=new_at h b (.cells ⟨ptrV (List.replicate k ⟨#[]⟩)⟩ 9 (0,0))
 generalize h1.new b (.cells ⟨ptrV (List.replicate k ⟨#[]⟩)⟩ 9 (0,0))=h2 at S1 ⊢
 generalize h.new b (.cells ⟨ptrV (List.replicate k ⟨#[]⟩)⟩ 9 (0,0))=G at S1 KG xG
 have hxl:xs.length=k:=by have:=congrArg List.length ex0; simpa using this
 refine ⟨fun h3=>∃ vb ls xs ptrs,SetA G h3 sb vb pm cm ps ls xs ptrs∧GoodL (xs.map (·.2))∧totL (xs.map (·.2))≤400∧xs.length=k,?_,?_⟩
 ·rintro h3 ⟨vb,ls,xs,ptrs,S,Gd,ht,hxk⟩
  have hK:Keep h h3:=KG.trans S.V.L.k
  have V:Ver h h3 vb ls xs:=Ver.base KG S.V
  have hsz:∀ x∈xs,x.2.length≤60000:=fun x hx=>by
   have:=totL_le ht x.2 (List.mem_map.2 ⟨x,hx,rfl⟩); omega
  refine current_spec S ⟨_,rfl,?_⟩
  refine ⟨fun l1 n h4=>∃ i:Nat,n=(i:Int)∧i≤k∧Keep h3 h4∧NewN h3 l1∧∃ ys:List (Sl×List Tab),Buf h4 l1 1 77 (slV (ys.map (·.1)))∧(∀ y∈ys,TB h4 y.1 y.2)∧ys.map (·.2)=(xs.map (·.2)).take i,fun _ n _=>k - n.toNat,⟨0,rfl,Nat.zero_le _,Keep.refl _,NewN.nil _,[],Buf.nil _ _ _,fun y hy=>(by cases hy),rfl⟩,?_⟩
  rintro l1 n h4 ⟨i,rfl,hi,K4,N4,ys,B4,T4,ey⟩
  refine ⟨fun hlt=>?_,fun hge=>?_⟩
  ·refine tables_s (V.keep K4) hsz fun h5 r K5 B5 N5=>⟨r,rfl,?_⟩
   have hyl:ys.length=i:=by
    have:=congrArg List.length ey
    rw [List.length_map,List.length_take,List.length_map,Nat.min_eq_left (by omega)] at this
    exact this
   have hl1:l1.n=i:=by have:=B4.len; rw [slV_length,List.length_map] at this; omega
   have hi':i < xs.length:=by omega
   have B4':=B4.keep K5
   refine append_buf (us:=[.slice r.a r.n r.c]) B4' rfl rfl (by omega) fun l3 h6 B6 _ U6=>?_
   obtain ⟨K6,N6⟩:=NewN.upd (K4.trans K5) N4 U6
   have C6:=Ck.of_upd B4' U6
   rw [next_i (n:=100) (by omega) (by omega)]
   refine ⟨⟨i+1,rfl,by omega,K6,N6,ys++[(r,(xs[i]).2)],?_,fun y hy=>?_,?_⟩,by dsimp only; omega⟩
   ·have:slV ((ys++[(r,(xs[i]).2)]).map (·.1))=slV (ys.map (·.1))++[.slice r.a r.n r.c]:=by unfold slV; simp
    rw [this]; exact B6
   ·rcases List.mem_append.1 hy with hy | hy
    ·exact C6.buf (by decide) (Buf.keep K5 (T4 y hy))
    ·rw [List.mem_singleton.1 hy]
     have e:=tabsI_nat xs (List.getElem?_eq_getElem hi')
     rw [e] at B5
     exact C6.buf (by decide) B5
   ·rw [List.map_append,ey,List.take_add_one]
    congr 1
    simp [hi']
  ·have:i=k:=by omega
   subst this
   refine hQ h4 vb ls xs l1 (hK.trans K4) (V.keep K4) Gd ht (by rw [hxk]) ⟨ys,B4,T4,?_⟩
   rw [ey,List.take_of_length_le (by rw [List.length_map]; omega)]
 ·refine ⟨fun n h7=>∃ i:Nat,n=(i:Int)∧i≤inn.length∧i≤400∧∃ vb ls xs ptrs,SetA G h7 sb vb pm cm ps ls xs ptrs∧GoodL (xs.map (·.2))∧totL (xs.map (·.2))≤i∧xs.length=k∧ptrs.length=k,fun n _=>400 - n.toNat,⟨0,rfl,Nat.zero_le _,by omega,vb,ls,xs,_,S1,by rw [ex0]; exact good_nil k,?_,hxl,by simp⟩,?_⟩
  ·rw [ex0]; unfold totL; simp
  rintro n h7 ⟨i,rfl,hi,hi4,vb,ls,xs,ptrs,S,Gd,ht,hxk,hpk⟩
  refine ⟨fun hlt=>⟨fun h4=>?_,fun h4=>⟨vb,ls,xs,ptrs,S,Gd,by omega,hxk⟩⟩,fun hge=>⟨vb,ls,xs,ptrs,S,Gd,by omega,hxk⟩⟩
  have hii:i < inn.length:=by omega
  obtain ⟨A,p,R,rfl,hA⟩:∃ A p R,inn=A++p::R∧A.length=i:=by
   refine ⟨inn.take i,inn[i],inn.drop (i+1),?_,by rw [List.length_take]; omega⟩
   have e:=List.take_append_drop i inn
   rw [List.drop_eq_getElem_cons hii] at e
   exact e.symm
  obtain ⟨r1,r2⟩:=hr p (by simp)
  have hKG:Keep h h7:=KG.trans S.V.L.k
  refine in_rd (hKG.row hin) (by rw [hA]) fun b1 o=>?_
  refine place_s r1 (by omega) fun m m1 m2=>⟨m,rfl,?_⟩
  refine place_s r2 (by decide) fun w w1 w2=>⟨w,rfl,fun b2 hb2=>?_⟩
  have S2:=S.grow hb2 (.cells ⟨[.int .i64 m,.int .u64 p.num,.int .i64 w,.int .i64 p.bytes,.int .i64 p.entries,.string p.least,.string p.greatest]⟩ 65 (0,0))
  have hg2:=S.V.L.k.dom b2 hb2
  have K2:=Keep.new hg2 (.cells ⟨[.int .i64 m,.int .u64 p.num,.int .i64 w,.int .i64 p.bytes,.int .i64 p.entries,.string p.least,.string p.greatest]⟩ 65 (0,0))
  have x2:=new_at G b2 (.cells ⟨[.int .i64 m,.int .u64 p.num,.int .i64 w,.int .i64 p.bytes,.int .i64 p.entries,.string p.least,.string p.greatest]⟩ 65 (0,0))
  have xG2:=K2 _ _ xG
  generalize h7.new b2 (.cells ⟨[.int .i64 m,.int .u64 p.num,.int .i64 w,.int .i64 p.bytes,.int .i64 p.entries,.string p.least,.string p.greatest]⟩ 65 (0,0))=h8' at S2 ⊢
  generalize G.new b2 (.cells ⟨[.int .i64 m,.int .u64 p.num,.int .i64 w,.int .i64 p.bytes,.int .i64 p.entries,.string p.least,.string p.greatest]⟩ 65 (0,0))=G2 at S2 K2 x2 xG2
  have E:EdAt G2 ⟨0,0,0,[],[⟨m,p.num,w,p.bytes,p.entries,p.least,p.greatest⟩],List.replicate k ⟨#[]⟩⟩ ⟨none,0,0⟩ ⟨some ⟨b2,0,none⟩,1,1⟩ ⟨some ⟨b,0,none⟩,k,k⟩:=by
   refine ⟨⟨rfl,.inl rfl⟩,⟨rfl,.inr ⟨b2,0,rfl,fun j _=>?_⟩⟩,⟨by simp [ptrV],.inr ⟨b,0,rfl,fun j _=>?_⟩⟩⟩
   ·rw [Nat.zero_add,at_of x2]
    simp [inV,Placed.cells]
   ·rw [Nat.zero_add,at_of xG2]
    simp
  refine apply_spec S2 E (by rw [hpk,hxk]) (by omega) (by omega) (by show totL (xs.map (·.2))+1≤4000000; omega) (by show 0≤4000000; omega) fun h10 c r vb' ls' xs' ptrs' _ S' R e1 e2=>?_
  have S3:=S'.base K2
  rw [next_i (n:=1000) (by omega) (by omega)]
  refine ⟨r,c,rfl,⟨i+1,rfl,hii,by omega,vb',ls',xs',ptrs',S3,?_⟩,by dsimp only; omega⟩
  by_cases hc:c=0
  ·subst hc
   obtain ⟨g1,g2,g3⟩:=good_step Gd rfl rfl ⟨w1,w2⟩ R
   rw [List.length_map,List.length_map] at g3
   refine ⟨g1,by omega,by omega,?_⟩
   rw [e1 rfl]; simp
  ·obtain ⟨rfl,rfl⟩:=e2 hc
   exact ⟨Gd,by omega,hxk,hpk⟩
end
end Go.Eng.YtbjnlacacapjiaaGreatDoor
end
section
set_option maxRecDepth 100000
set_option maxHeartbeats 1000000
namespace Go.Eng.YtbjnlacacapjiaaGreatDoor
def tb (n w:Int) (a b:UInt8):Tab:=⟨n,w,0,0,⟨#[a]⟩,⟨#[b]⟩⟩
def exLv:Lv:=[[tb 9 500 98 100,tb 12 500 99 107],[tb 3 2000 97 99,tb 4 2000 101 112,tb 5 1000 113 122],[tb 6 3000 100 102,tb 7 3000 103 105,tb 8 2000 107 108,tb 10 1000 120 122],[tb 11 90000 97 122]]
def pl (l n w:Int) (a b:UInt8):Placed:=⟨l,n,w,0,0,⟨#[a]⟩,⟨#[b]⟩⟩
def exIn:List Placed:=[pl 0 9 500 98 100,pl 0 12 500 99 107,pl 1 3 2000 97 99,pl 1 4 2000 101 112,pl 1 5 1000 113 122,pl 2 6 3000 100 102,pl 2 7 3000 103 105,pl 2 8 2000 107 108,pl 2 10 1000 120 122,pl 3 11 90000 97 122]
def exEd:Edit:=⟨0,0,0,[],exIn,List.replicate 4 ⟨#[]⟩⟩
theorem ex_in:inM exIn (List.replicate 4 [])=(0,exLv):=by rfl
instance (a b:ByteArray):Decidable (Bl a b):=inferInstanceAs (Decidable (cmpI a b < 0))
instance (a b:ByteArray):Decidable (Le a b):=inferInstanceAs (Decidable (¬ Bl b a))
theorem fine_of {us:List Tab} (h1:Srt us) (h2:Adj us):Fine us us:=⟨List.Perm.refl _,h1,h2⟩
theorem ex_fine:∀ i ts,1≤i→exLv[i]?=some ts→Fine ts ts:=fun i ts hi h=>by
 match i,hi with
 | 1,_=>cases h; exact fine_of (by unfold Srt; decide) (fun i x y h1 h2=>by
   match i with
   | 0=>cases h1; cases h2; decide
   | 1=>cases h1; cases h2; decide
   | n+2=>simp at h2)
 | 2,_=>cases h; exact fine_of (by unfold Srt; decide) (fun i x y h1 h2=>by
   match i with
   | 0=>cases h1; cases h2; decide
   | 1=>cases h1; cases h2; decide
   | 2=>cases h1; cases h2; decide
   | n+3=>simp at h2)
 | 3,_=>cases h; exact fine_of (by unfold Srt; decide) (fun i x y h1 h2=>by simp at h2)
 | n+4,_=>simp [exLv] at h
theorem ex_res:Res (List.replicate 4 []) exEd 0 exLv:=by
 unfold Res
 rw [if_pos (by rfl)]
 have o:outM exEd.out (List.replicate 4 [])=(0,List.replicate 4 []):=rfl
 rw [o]
 dsimp only
 rw [if_pos rfl]
 have i:inM exEd.inn (List.replicate 4 [])=(0,exLv):=ex_in
 rw [i]
 dsimp only
 rw [if_pos rfl]
 refine .inr ⟨rfl,rfl,rfl,fun i ts us hi h1 h2=>?_⟩
 rw [h1] at h2
 cases h2
 exact ex_fine i ts hi h1
theorem weight_bd (ts:List Tab):∀ (a:Int) (k:Nat),(∀ t∈ts,0≤t.weight∧t.weight < 2147483648)→k+ts.length≤1000→0≤a→a≤2147483648*(k:Int)→0≤ts.foldl (fun n t=>IntKind.wrap .i64 (n+t.weight)) a∧ts.foldl (fun n t=>IntKind.wrap .i64 (n+t.weight)) a≤2147483648*((k+ts.length:Nat):Int):=by
 induction ts with
 | nil=>intro a k _ _ h0 h1; exact ⟨h0,h1⟩
 | cons t ts ih=>
  intro a k hw hl h0 h1
  obtain ⟨w0,w1⟩:=hw t List.mem_cons_self
  rw [List.length_cons] at hl ⊢
  rw [List.foldl_cons,wrap_i64 (n:=a+t.weight) (by omega) (by omega)]
  have:=ih (a+t.weight) (k+1) (fun u hu=>hw u (List.mem_cons_of_mem _ hu)) (by omega) (by omega) (by omega)
  rw [show k+(ts.length+1)=k+1+ts.length by omega]
  exact this
theorem pk_ok {xs:List (Sl×List Tab)} (hl:3≤xs.length∧xs.length≤5) (ht:totL (xs.map (·.2))≤400) (hw:∀ l∈xs.map (·.2),∀ t∈l,0≤t.weight∧t.weight < 2147483648):PkOk xs:=by
 have sz:∀ x∈xs,x.2.length≤400:=fun x hx=>totL_le ht x.2 (List.mem_map.2 ⟨x,hx,rfl⟩)
 refine ⟨hl,fun x hx=>Nat.le_trans (sz x hx) (by omega),fun i=>?_⟩
 have key:(tabsI xs i).length≤400∧∀ t∈tabsI xs i,0≤t.weight∧t.weight < 2147483648:=by
  unfold tabsI
  split
  ·exact ⟨by simp,fun t ht=>by cases ht⟩
  ·split
   ·next x hx=>
    have:=List.mem_of_getElem? hx
    exact ⟨sz x this,hw x.2 (List.mem_map.2 ⟨x,this,rfl⟩)⟩
   ·exact ⟨by simp,fun t ht=>by cases ht⟩
 have:=weight_bd (tabsI xs i) 0 0 key.2 (by omega) (Int.le_refl _) (by omega)
 unfold weightW
 exact ⟨this.1,by omega⟩
theorem new_row (h:Hp) (b:Nat) (L:List Value) (t:Nat):(h.new b (.cells ⟨L⟩ t (0,0))).row (some ⟨b,0,none⟩) L.length L:=
 ⟨rfl,.inr ⟨b,0,rfl,fun j _=>by rw [Nat.zero_add,at_of (new_at _ _ _)]; simp⟩⟩
def exP:List ByteArray:=[⟨#[]⟩,⟨#[99]⟩]
def exJ:Jb:=⟨1,[tb 4 2000 101 112],[tb 6 3000 100 102,tb 7 3000 103 105],⟨#[107]⟩,false⟩
section
variable {g h h':Hp} {vb b:Nat} {ls l l1 l2 l3:Sl} {xs:List (Sl×List Tab)} {Q:Value→Hp→Prop}
theorem ex_xs (e:xs.map (·.2)=exLv):∃ s0 s1 s2 s3,xs=[(s0,[tb 9 500 98 100,tb 12 500 99 107]),(s1,[tb 3 2000 97 99,tb 4 2000 101 112,tb 5 1000 113 122]),(s2,[tb 6 3000 100 102,tb 7 3000 103 105,tb 8 2000 107 108,tb 10 1000 120 122]),(s3,[tb 11 90000 97 122])]:=by
 unfold exLv at e
 match xs,e with
 | [(s0,_),(s1,_),(s2,_),(s3,_)],e=>
  simp only [List.map_cons,List.map_nil,List.cons.injEq,and_true] at e
  obtain ⟨rfl,rfl,rfl,rfl⟩:=e
  exact ⟨s0,s1,s2,s3,rfl⟩
theorem ex_ok (e:xs.map (·.2)=exLv):PkOk xs:=by
 have hl:xs.length=4:=by have:=congrArg List.length e; simpa [exLv] using this
 refine pk_ok (by omega) (by rw [e]; decide) ?_
 rw [e]
 decide
theorem ex_sc (e:xs.map (·.2)=exLv):scoreM 2 4096 2 xs 0=1000∧scoreM 2 4096 2 xs 1=1220∧scoreM 2 4096 2 xs 2=1098∧decide ((4:Int)≤((tabsI xs 0).length:Int))=false∧xs.length=4:=by
 obtain ⟨s0,s1,s2,s3,rfl⟩:=ex_xs e
 have t0:tabsI [(s0,[tb 9 500 98 100,tb 12 500 99 107]),(s1,[tb 3 2000 97 99,tb 4 2000 101 112,tb 5 1000 113 122]),(s2,[tb 6 3000 100 102,tb 7 3000 103 105,tb 8 2000 107 108,tb 10 1000 120 122]),(s3,[tb 11 90000 97 122])] 0=[tb 9 500 98 100,tb 12 500 99 107]:=rfl
 have t1:tabsI [(s0,[tb 9 500 98 100,tb 12 500 99 107]),(s1,[tb 3 2000 97 99,tb 4 2000 101 112,tb 5 1000 113 122]),(s2,[tb 6 3000 100 102,tb 7 3000 103 105,tb 8 2000 107 108,tb 10 1000 120 122]),(s3,[tb 11 90000 97 122])] ((1:Nat):Int)=[tb 3 2000 97 99,tb 4 2000 101 112,tb 5 1000 113 122]:=rfl
 have t2:tabsI [(s0,[tb 9 500 98 100,tb 12 500 99 107]),(s1,[tb 3 2000 97 99,tb 4 2000 101 112,tb 5 1000 113 122]),(s2,[tb 6 3000 100 102,tb 7 3000 103 105,tb 8 2000 107 108,tb 10 1000 120 122]),(s3,[tb 11 90000 97 122])] ((2:Nat):Int)=[tb 6 3000 100 102,tb 7 3000 103 105,tb 8 2000 107 108,tb 10 1000 120 122]:=rfl
 refine ⟨?_,?_,?_,?_,rfl⟩
 ·unfold scoreM; rw [if_pos rfl,t0]; decide
 ·unfold scoreM; rw [if_neg (by decide),t1]; decide
 ·unfold scoreM; rw [if_neg (by decide),t2]; decide
 ·rw [t0]; decide
theorem ex_scores (e:xs.map (·.2)=exLv):(List.range (xs.length - 1)).map (scoreM 2 4096 2 xs)=[1000,1220,1098]:=by
 obtain ⟨c0,c1,c2,_,hl⟩:=ex_sc e
 rw [hl]
 show [scoreM 2 4096 2 xs 0,scoreM 2 4096 2 xs 1,scoreM 2 4096 2 xs 2]=_
 rw [c0,c1,c2]
theorem ex_order (e:xs.map (·.2)=exLv):IsOrder (xs.length - 1) (decide ((4:Int)≤((tabsI xs 0).length:Int))) (scoreM 2 4096 2 xs) [1,2,0]:=by
 obtain ⟨c0,c1,c2,cd,hl⟩:=ex_sc e
 rw [cd,hl]
 generalize scoreM 2 4096 2 xs=sc at c0 c1 c2 ⊢
 refine ⟨by decide,fun i=>?_,?_⟩
 ·constructor
  ·intro hi
   have:i=1∨i=2∨i=0:=by simpa using hi
   rcases this with rfl | rfl | rfl
   ·exact ⟨by decide,.inl (by omega)⟩
   ·exact ⟨by decide,.inl (by omega)⟩
   ·exact ⟨by decide,.inl (by omega)⟩
  ·rintro ⟨hi,_⟩
   have hi':i < 3:=hi
   have:i=0∨i=1∨i=2:=by omega
   rcases this with rfl | rfl | rfl <;> simp
 ·unfold bef
  simp [c0,c1,c2]
theorem ex_inputs (e:xs.map (·.2)=exLv):inputsM 2 xs exP 1=some exJ:=by
 obtain ⟨s0,s1,s2,s3,rfl⟩:=ex_xs e
 rfl
theorem ex_next9 (e:xs.map (·.2)=exLv):nextL 2 xs exP [9] (fun _=>false) [1,2,0]=some exJ:=by
 unfold nextL
 have:inputsM 2 xs exP ((1:Nat):Int)=some exJ:=ex_inputs e
 rw [this]
 rfl
theorem ex_next7 (e:xs.map (·.2)=exLv):nextL 2 xs exP [7] (fun _=>false) [1,2,0]=none:=by
 obtain ⟨s0,s1,s2,s3,rfl⟩:=ex_xs e
 rfl
theorem ex_s (hQ:∀ h' vb ls xs,Keep h h'→Ver h h' vb ls xs→xs.map (·.2)=exLv→Q (.tuple ⟨[.agg ⟨[.int .i64 0,.int .i64 0,.int .i64 0,.int .i64 0,.int .i64 0,.int .i64 2,.int .i64 0,.int .i64 4,.int .i64 4,.int .i64 4096,.int .i64 2,.int .i64 0,.int .i64 2,.int .i64 0,.int .i64 0,.int .i64 0,.int .i64 0,.int .i64 0,.int .i64 0,.int .i64 0,.int .i64 0,.int .i64 0,.int .i64 0,.int .i64 0,.int .i64 0,.int .i64 0,.int .i64 0]⟩,.pointer (some ⟨vb,0,none⟩)]⟩) h'):F69.T h Q:=by
 unfold F69.T F69.G
 refine new_spec (k:=4) rfl (by decide) (by decide) fun h1 sb vb pm cm ps ls xs S0 ex0=>⟨_,rfl,fun a b _ e=>(by cases e),fun e=>(by cases e),fun _=>?_⟩
 unfold F142.T
 refine ⟨_,_,_,_,_,_,rfl,⟨_,_,_,_,_,_,rfl,⟨_,_,_,_,_,_,rfl,⟨_,_,_,_,_,_,rfl,⟨_,_,_,_,_,_,rfl,⟨_,_,_,_,_,_,rfl,⟨_,_,_,_,_,_,rfl,⟨_,_,_,_,_,_,rfl,⟨_,_,_,_,_,_,rfl,⟨_,_,_,_,_,_,rfl,fun b hb b1 hb1=>?_⟩⟩⟩⟩⟩⟩⟩⟩⟩⟩
 have S1:=S0.grow hb (.cells ⟨inV exIn⟩ 65 (0,0))
 have S2:=S1.grow hb1 (.cells ⟨ptrV (List.replicate 4 ⟨#[]⟩)⟩ 9 (0,0))
 have hgb:=S0.V.L.k.dom b hb
 have KG:=Keep.new hgb (.cells ⟨inV exIn⟩ 65 (0,0))
 have xG:=new_at h b (.cells ⟨inV exIn⟩ 65 (0,0))
 have rG:=new_row h b (inV exIn) 65
 have hgb1:=S1.V.L.k.dom b1 hb1
 have KG1:=Keep.new hgb1 (.cells ⟨ptrV (List.replicate 4 ⟨#[]⟩)⟩ 9 (0,0))
 have rG1:=new_row (h.new b (.cells ⟨inV exIn⟩ 65 (0,0))) b1 (ptrV (List.replicate 4 ⟨#[]⟩)) 9
 have rG':=KG1.row rG
 have E:EdAt ((h.new b (.cells ⟨inV exIn⟩ 65 (0,0))).new b1 (.cells ⟨ptrV (List.replicate 4 ⟨#[]⟩)⟩ 9 (0,0))) exEd ⟨none,0,0⟩ ⟨some ⟨b,0,none⟩,10,10⟩ ⟨some ⟨b1,0,none⟩,4,4⟩:=⟨⟨rfl,.inl rfl⟩,rG',rG1⟩
 have hxl:xs.length=4:=by have:=congrArg List.length ex0; simpa using this
 refine apply_spec S2 E (by rw [hxl]; rfl) (by omega) (by omega) (by rw [ex0]; decide) (by decide) fun h10 c r vb' ls' xs' ptrs' _ S' R e1 e2=>?_
 rw [ex0] at R
 obtain ⟨hc,hx⟩:=Res.one (good_nil 4).hulls R ex_res
 refine ⟨r,c,rfl,fun _=>?_,fun h0=>absurd hc h0⟩
 have S3:=(S'.base KG1).base KG
 exact current_spec S3 ⟨_,rfl,hQ h10 vb' ls' xs' S3.V.L.k S3.V (hx hc)⟩
theorem known_s (hQ:∀ h',Keep h h'→Q (.bool true) h'):F12.T h Q:=by
 have O:CfOk 2 4 4 4096 2 2:=⟨by decide,by decide,by decide,by decide,by decide,by decide⟩
 unfold F12.T F12.G
 refine ex_s fun h1 vb ls xs K1 V e=>⟨_,_,_,_,_,_,_,_,_,_,_,_,_,_,_,_,_,_,_,_,_,_,_,_,_,_,_,_,rfl,fun a b _ e=>(by cases e),fun e=>(by cases e),fun _=>?_⟩
 have P:=ex_ok e
 have h8:(4:Int)=(xs.length:Int):=by have:=congrArg List.length e; simp [exLv] at this; omega
 refine scores_s V P O h8 fun h2 l K2 B2 N2=>⟨l,rfl,fun b hb=>?_⟩
 rw [ex_scores e] at B2
 have K3:=Keep.new hb (.cells ⟨[.int .i64 1000,.int .i64 1220,.int .i64 1098]⟩ 3 (0,0))
 have r3:=new_row h2 b [.int .i64 1000,.int .i64 1220,.int .i64 1098] 3
 generalize h2.new b (.cells ⟨[.int .i64 1000,.int .i64 1220,.int .i64 1098]⟩ 3 (0,0))=h3 at K3 r3 ⊢
 refine sameI_s (A:=[1000,1220,1098]) (B:=[1000,1220,1098]) (row_one (B2.keep K3)) r3 (by decide) (fun _=>⟨_,rfl,fun _=>?_,fun hh=>Bool.noConfusion hh⟩) (fun hh=>absurd rfl hh)
 have K13:=K2.trans K3
 refine order_s (V.keep K13) P O h8 fun h4 l1 o K4 B4 N4 hO=>⟨l1,rfl,fun b2 hb2=>?_⟩
 obtain rfl:=hO.one (ex_order e)
 have K5:=Keep.new hb2 (.cells ⟨[.int .i64 1,.int .i64 2,.int .i64 0]⟩ 3 (0,0))
 have r5:=new_row h4 b2 [.int .i64 1,.int .i64 2,.int .i64 0] 3
 generalize h4.new b2 (.cells ⟨[.int .i64 1,.int .i64 2,.int .i64 0]⟩ 3 (0,0))=h5 at K5 r5 ⊢
 refine sameI_s (A:=[1,2,0]) (B:=[1,2,0]) (row_one (B4.keep K5)) r5 (by decide) (fun _=>⟨_,rfl,fun _=>fun b4 hb4=>?_,fun hh=>Bool.noConfusion hh⟩) (fun hh=>absurd rfl hh)
 have K6:=Keep.new hb4 (.cells ⟨ptrV exP⟩ 9 (0,0))
 have r6:=new_row h5 b4 (ptrV exP) 9
 show F20.T 0 0 0 0 0 2 0 4 4 4096 2 0 2 0 0 0 0 0 0 0 0 0 0 0 0 0 0 _ _ _ (h5.new b4 (.cells ⟨ptrV exP⟩ 9 (0,0))) _
 generalize h5.new b4 (.cells ⟨ptrV exP⟩ 9 (0,0))=h6 at K6 r6 ⊢
 have K16:=K13.trans (K4.trans (K5.trans K6))
 refine inputs_s (ptrs:=exP) (V.keep K16) P O h8 r6 (by decide) (fun hin=>absurd ((ex_inputs e).symm.trans hin) (by simp)) (fun j hin h7 u1 u2 K7 T1 N1 T2 N2 o1 o2=>?_)
 obtain rfl:exJ=j:=Option.some.inj ((ex_inputs e).symm.trans hin)
 refine ⟨_,u1,u2,_,false,fun hh=>Bool.noConfusion hh,fun _=>⟨true,fun _=>⟨rfl,fun b7 hb7 b8 hb8=>?_⟩,fun hh=>Bool.noConfusion hh⟩⟩
 have K8:=Keep.new hb7 (.cells ⟨ptrV exP⟩ 9 (0,0))
 have r8:=new_row h7 b7 (ptrV exP) 9
 have K9:Keep (h7.new b7 (.cells ⟨ptrV exP⟩ 9 (0,0))) ((h7.new b7 (.cells ⟨ptrV exP⟩ 9 (0,0))).new b8 (.cells ⟨uvs [9]⟩ 48 (0,0))):=Keep.new hb8 (.cells ⟨uvs [9]⟩ 48 (0,0))
 have r9:=new_row (h7.new b7 (.cells ⟨ptrV exP⟩ 9 (0,0))) b8 (uvs [9]) 48
 have r8':=K9.row r8
 show F21.T 0 0 0 0 0 2 0 4 4 4096 2 0 2 0 0 0 0 0 0 0 0 0 0 0 0 0 0 _ _ _ ((h7.new b7 (.cells ⟨ptrV exP⟩ 9 (0,0))).new b8 (.cells ⟨uvs [9]⟩ 48 (0,0))) _
 have K89:=K8.trans K9
 generalize (h7.new b7 (.cells ⟨ptrV exP⟩ 9 (0,0))).new b8 (.cells ⟨uvs [9]⟩ 48 (0,0))=h9 at K89 r8' r9 ⊢
 have K19:=K16.trans (K7.trans K89)
 refine next_s (ptrs:=exP) (lk:=[9]) (V.keep K19) P O h8 r8' r9 (show (1:Nat) < 9223372036854775807 by decide) (fun o hO hn=>?_) (fun o j hO hn h10 v1 v2 K10 T3 N3 T4 N4 _ _=>?_)
 ·obtain rfl:=hO.one (ex_order e)
  exact absurd ((ex_next9 e).symm.trans hn) (by simp)
 obtain rfl:=hO.one (ex_order e)
 obtain rfl:exJ=j:=Option.some.inj ((ex_next9 e).symm.trans hn)
 refine ⟨_,v1,v2,_,false,fun hh=>Bool.noConfusion hh,fun _=>⟨_,rfl,fun b10 hb10 b11 hb11=>?_⟩⟩
 have K11:=Keep.new hb10 (.cells ⟨ptrV exP⟩ 9 (0,0))
 have r11:=new_row h10 b10 (ptrV exP) 9
 have K12:Keep (h10.new b10 (.cells ⟨ptrV exP⟩ 9 (0,0))) ((h10.new b10 (.cells ⟨ptrV exP⟩ 9 (0,0))).new b11 (.cells ⟨uvs [7]⟩ 48 (0,0))):=Keep.new hb11 (.cells ⟨uvs [7]⟩ 48 (0,0))
 have r12:=new_row (h10.new b10 (.cells ⟨ptrV exP⟩ 9 (0,0))) b11 (uvs [7]) 48
 have r11':=K12.row r11
 show F21.T 0 0 0 0 0 2 0 4 4 4096 2 0 2 0 0 0 0 0 0 0 0 0 0 0 0 0 0 _ _ _ ((h10.new b10 (.cells ⟨ptrV exP⟩ 9 (0,0))).new b11 (.cells ⟨uvs [7]⟩ 48 (0,0))) _
 have K112:=K11.trans K12
 generalize (h10.new b10 (.cells ⟨ptrV exP⟩ 9 (0,0))).new b11 (.cells ⟨uvs [7]⟩ 48 (0,0))=h12 at K112 r11' r12 ⊢
 have K1_12:=K19.trans (K10.trans K112)
 refine next_s (ptrs:=exP) (lk:=[7]) (V.keep K1_12) P O h8 r11' r12 (show (1:Nat) < 9223372036854775807 by decide) (fun o hO hn h13 K13=>?_) (fun o j hO hn=>by
  obtain rfl:=hO.one (ex_order e)
  exact absurd ((ex_next7 e).symm.trans hn) (by simp))
 obtain rfl:=hO.one (ex_order e)
 have Ku:Keep h7 h13:=K89.trans (K10.trans (K112.trans K13))
 have Kv:Keep h10 h13:=K112.trans K13
 have T1':TB h13 u1 [tb 4 2000 101 112]:=Buf.keep Ku T1
 have T2':TB h13 u2 [tb 6 3000 100 102,tb 7 3000 103 105]:=Buf.keep Ku T2
 have T3':TB h13 v1 [tb 4 2000 101 112]:=Buf.keep Kv T3
 have T4':TB h13 v2 [tb 6 3000 100 102,tb 7 3000 103 105]:=Buf.keep Kv T4
 have m1:=tb_new T1'
 have m2:=tb_new T2'
 refine ⟨0,⟨none,0,0⟩,⟨none,0,0⟩,_,false,fun hh=>Bool.noConfusion hh,fun _=>⟨1,rfl,fun _=>?_,fun hh=>absurd (by rw [m1]; rfl) hh⟩⟩
 obtain ⟨b50,o50,a1,a2,n,a3,_,_,_,_,_,_,_,_,_,_,rfl⟩:=tab_rd (P:=[]) (R:=[]) (t:=tb 4 2000 101 112) (Buf.row T1') (i:=0) rfl (K:=fun b o a c d e s s1=>a=4) (fun _ _=>rfl)
 refine ⟨b50,o50,a1,a2,4,a3,fun _=>⟨fun _=>?_,fun hh=>absurd (by rw [m2]; rfl) hh⟩,fun hh=>absurd rfl hh⟩
 obtain ⟨b51,o51,a4,a5,n',a6,_,_,_,_,_,_,_,_,_,_,rfl⟩:=tab_rd (P:=[tb 6 3000 100 102]) (R:=[]) (t:=tb 7 3000 103 105) (Buf.row T2') (i:=1) rfl (K:=fun b o a c d e s s1=>a=7) (fun _ _=>rfl)
 refine ⟨b51,o51,a4,a5,7,a6,fun _=>⟨fun _=>⟨fun _=>?_,fun hh=>absurd rfl hh⟩,fun hh=>absurd rfl hh⟩,fun hh=>absurd rfl hh⟩
 refine sameJ_s (i:=exJ) (j:=exJ) (Buf.row T3') (Buf.row T4') (Buf.row T1') (Buf.row T2') (by decide) (by decide) (fun _=>⟨_,rfl,fun _=>⟨fun _=>?_,fun hh=>absurd rfl hh⟩,fun hh=>Bool.noConfusion hh⟩) (fun hh=>absurd rfl hh)
 exact hQ h13 (K1.trans (K1_12.trans K13))
end
end Go.Eng.YtbjnlacacapjiaaGreatDoor
end
section
set_option maxRecDepth 100000
namespace Go.Eng.YtbjnlacacapjiaaGreatDoor
open Go.Eng
def kdI (_:Nat) (v:Value):Prop:=∃ n:Int,v=.int .i64 n
def kdU (_:Nat) (v:Value):Prop:=∃ n:Int,v=.int .u64 n
def kdS (_:Nat) (v:Value):Prop:=∃ s:ByteArray,v=.string s
def kdT (c:Nat) (v:Value):Prop:=match c with
 | 0=>∃ n:Int,v=.int .u64 n
 | 1=>∃ n:Int,v=.int .i64 n
 | 2=>∃ n:Int,v=.int .i64 n
 | 3=>∃ n:Int,v=.int .i64 n
 | _=>∃ s:ByteArray,v=.string s
theorem kdI_one:∀ c v,kdI c v→Value.oneCell' v=true:=fun _ _ ⟨_,e⟩=>by rw [e]; rfl
theorem kdT_one:∀ c v,kdT c v→Value.oneCell' v=true:=fun c v h=>by
 unfold kdT at h
 split at h <;> (obtain ⟨_,e⟩:=h; rw [e]; rfl)
theorem cols1 {P:Value→Prop} {vs:List Value} (h:∀ v∈vs,P v):Cols (fun _=>P) 1 vs:=fun i v e=>h v (List.mem_of_getElem? e)
def kInts:KI:=⟨1,25,1,3,8,kdI⟩
def kTabs:KI:=⟨7,77,6,63,64,kdT⟩
abbrev kinds:List KI:=[kInts,kTabs]
theorem kinds_d:∀ k∈kinds,∀ k'∈kinds,k.c=k'.c→k=k':=by
 intro k hk k' hk' e
 simp only [kinds,List.mem_cons,List.not_mem_nil,or_false] at hk hk'
 rcases hk with rfl | rfl <;> rcases hk' with rfl | rfl <;> first | rfl | (exact absurd e (by decide))
theorem kinds_ne {c:Nat} (h:(kinds.all fun k=>k.c != c)=true):∀ k∈kinds,k.c≠c:=fun k hk=>by
 have:=List.all_eq_true.1 h k hk
 simpa using this
theorem col_rd {KD:Nat→Value→Prop} {sz n:Nat} {vs:List Value} (C:Cols KD sz vs) (hl:vs.length=n*sz) {i c:Nat} (hi:i < n) (hc:c < sz):∃ v,vs[i*sz+c]?=some v∧KD c v:=by
 have hlt:i*sz+c < vs.length:=by
  rw [hl]
  have:(i+1)*sz≤n*sz:=Nat.mul_le_mul_right _ hi
  rw [Nat.add_mul] at this
  omega
 refine ⟨vs[i*sz+c],List.getElem?_eq_getElem hlt,?_⟩
 have:=C (i*sz+c) _ (List.getElem?_eq_getElem hlt)
 have e:(i*sz+c) % sz=c:=by rw [Nat.mul_comm,Nat.mul_add_mod,Nat.mod_eq_of_lt hc]
 rw [e] at this
 exact this
theorem cols_i (x:Int):Cols kdI 1 [.int .i64 x]:=cols1 (P:=fun v=>∃ n:Int,v=.int .i64 n) fun v hv=>⟨x,List.mem_singleton.1 hv⟩
theorem cols_nV3 (xs:List Int):Cols kdI 1 (nV3 xs):=cols1 (P:=fun v=>∃ n:Int,v=.int .i64 n) fun v hv=>by
 obtain ⟨x,_,e⟩:=List.mem_map.1 hv
 exact ⟨x,e.symm⟩
theorem cols_t (t:Tab):Cols kdT 6 t.cells:=fun i v e=>by
 match i,e with
 | 0,e=>exact ⟨_,(Option.some.inj e).symm⟩
 | 1,e=>exact ⟨_,(Option.some.inj e).symm⟩
 | 2,e=>exact ⟨_,(Option.some.inj e).symm⟩
 | 3,e=>exact ⟨_,(Option.some.inj e).symm⟩
 | 4,e=>exact ⟨_,(Option.some.inj e).symm⟩
 | 5,e=>exact ⟨_,(Option.some.inj e).symm⟩
 | i+6,e=>simp [Tab.cells] at e
theorem cols_tabV:∀ ts:List Tab,Cols kdT 6 (tabV ts)
 | []=>Cols.nil _ _
 | t::ts=>(cols_t t).app (n:=1) (cols_tabV ts) rfl
theorem same_i {l l':Sl} {h:Hp} {vs:List Value} {K:Value→Hp→Prop} (C:Cols kdI 1 vs) (R:h.row l.a (l.n*1) vs) (R':h.row l'.a (l'.n*1) vs) (e:l.n=l'.n) (hb:l.n≤140737488355328) (hK:K (.bool true) h):F124.T l l' h K:=by
 unfold F124.T
 refine ⟨fun _=>⟨fun n h1=>∃ i:Nat,n=(i:Int)∧i≤l.n∧h1=h,fun n _=>l.n - n.toNat,⟨0,rfl,Nat.zero_le _,rfl⟩,?_⟩,fun q=>absurd (by rw [e]) q⟩
 rintro n h1 ⟨i,rfl,hi,rfl⟩
 refine ⟨fun hlt=>?_,fun _=>hK⟩
 have hi':i < l.n:=by omega
 obtain ⟨b,o,ha,hat⟩:=R.2.resolve_left (by omega)
 obtain ⟨b',o',ha',hat'⟩:=R'.2.resolve_left (by omega)
 obtain ⟨v0,e0,x0,rfl⟩:=col_rd C R.1 hi' (show 0 < 1 by decide)
 rw [Nat.mul_one,Nat.add_zero] at e0
 refine ⟨b,o,ha,⟨by omega,by omega⟩,x0,by rw [Int.toNat_natCast,hat _ (by omega)]; exact e0,b',o',ha',⟨by omega,by omega⟩,x0,by rw [Int.toNat_natCast,hat' _ (by omega)]; exact e0,fun _=>?_,fun q=>absurd rfl q⟩
 rw [nx_i hi' (by omega)]
 exact ⟨⟨i+1,rfl,hi',rfl⟩,by dsimp only; omega⟩
theorem same_t {l l':Sl} {h:Hp} {vs:List Value} {K:Value→Hp→Prop} (C:Cols kdT 6 vs) (R:h.row l.a (l.n*6) vs) (R':h.row l'.a (l'.n*6) vs) (e:l.n=l'.n) (hb:l.n≤140737488355328) (hK:K (.bool true) h):F130.T l l' h K:=by
 unfold F130.T
 refine ⟨fun _=>⟨fun n h1=>∃ i:Nat,n=(i:Int)∧i≤l.n∧h1=h,fun n _=>l.n - n.toNat,⟨0,rfl,Nat.zero_le _,rfl⟩,?_⟩,fun q=>absurd (by rw [e]) q⟩
 rintro n h1 ⟨i,rfl,hi,rfl⟩
 refine ⟨fun hlt=>?_,fun _=>hK⟩
 have hi':i < l.n:=by omega
 obtain ⟨b,o,ha,hat⟩:=R.2.resolve_left (by omega)
 obtain ⟨b',o',ha',hat'⟩:=R'.2.resolve_left (by omega)
 have rd:∀ c v,c < 6→vs[i*6+c]?=some v→h1.at b ((o+((i:Int)).toNat*6)+c)=some v∧h1.at b' ((o'+((i:Int)).toNat*6)+c)=some v:=fun c v hc e=>by
  rw [Int.toNat_natCast,Nat.add_assoc,Nat.add_assoc,hat _ (by omega),hat' _ (by omega)]; exact ⟨e,e⟩
 obtain ⟨v0,e0,x0,rfl⟩:=col_rd C R.1 hi' (show 0 < 6 by decide)
 obtain ⟨v1,e1,x1,rfl⟩:=col_rd C R.1 hi' (show 1 < 6 by decide)
 obtain ⟨v2,e2,x2,rfl⟩:=col_rd C R.1 hi' (show 2 < 6 by decide)
 obtain ⟨v3,e3,x3,rfl⟩:=col_rd C R.1 hi' (show 3 < 6 by decide)
 obtain ⟨v4,e4,x4,rfl⟩:=col_rd C R.1 hi' (show 4 < 6 by decide)
 obtain ⟨v5,e5,x5,rfl⟩:=col_rd C R.1 hi' (show 5 < 6 by decide)
 refine ⟨b,o,ha,⟨by omega,by omega⟩,x0,(rd 0 _ (by decide) e0).1,x1,(rd 1 _ (by decide) e1).1,x2,(rd 2 _ (by decide) e2).1,x3,(rd 3 _ (by decide) e3).1,x4,(rd 4 _ (by decide) e4).1,x5,(rd 5 _ (by decide) e5).1,b',o',ha',⟨by omega,by omega⟩,x0,(rd 0 _ (by decide) e0).2,x1,(rd 1 _ (by decide) e1).2,x2,(rd 2 _ (by decide) e2).2,x3,(rd 3 _ (by decide) e3).2,x4,(rd 4 _ (by decide) e4).2,x5,(rd 5 _ (by decide) e5).2,fun _=>?_,fun q=>absurd rfl q⟩
 rw [nx_i hi' (by omega)]
 exact ⟨⟨i+1,rfl,hi',rfl⟩,by dsimp only; omega⟩
section
variable {N:Nat} {Z:Nat→Prop} {pb R tB:Nat} {d:Int} {g0:Hp} {u:Mem} {h:Hp} {Q:Value→Hp→Prop}
theorem mark0 (B:Bk kinds N Z pb R tB d g0 u h) (hQ:Q (.tuple ⟨[]⟩) h):F172.T (some ⟨pb,0,none⟩) h Q:=by
 unfold F172.T
 exact B.nilMark (s:=4) (c:=0) rfl (by decide) (kinds_ne (by decide)) hQ
theorem grow0 (B:Bk kinds N Z pb R tB d g0 u h) (hQ:∀ h',Bk kinds N Z pb R tB d g0 u h'→Q (.tuple ⟨[]⟩) h'):F191.T (some ⟨pb,0,none⟩) h Q:=by
 unfold F191.T
 exact B.nilGrow (s:=4) (c:=0) rfl (by decide) (kinds_ne (by decide)) hQ
theorem hold0 (B:Bk kinds N Z pb R tB d g0 u h) (hQ:Q (.bool true) h):F50.T (some ⟨pb,0,none⟩) h Q:=by
 unfold F50.T
 exact B.nilKeep (s:=4) (c:=0) rfl (by decide) (kinds_ne (by decide)) hQ
theorem mark1 (B:Bk kinds N Z pb R tB d g0 u h) (hN:N≤500000) (hQ:∀ h',Bk kinds N (fun _=>False) pb R tB d g0 u h'→Q (.tuple ⟨[]⟩) h'):F173.T (some ⟨pb,0,none⟩) h Q:=by
 unfold F173.T F173.G
 exact Bk.mark (s:=13) rfl (k:=kInts) (zs:=[.int .i64 0]) (OF:=Int.toNat) (MK:=fun a i=>[.int .i64 (IntKind.wrap .i64 (a+(IntKind.wrap .i64 (3*i))))]) (S:=F124.T) (by simp [kinds]) B hN (fun _ _ _ _ _ C R R' e b hK=>same_i C R R' e b hK) (by decide) (fun i=>by show (i:Int).toNat=i*1; omega) (fun _ _=>rfl) (fun _ _=>cols_i _) kdI_one rfl (by decide) hQ
theorem grow1 (B:Bk kinds N Z pb R tB d g0 u h) (hN:N≤500000) (hQ:∀ h',Bk kinds N (fun c=>Z c∨c=1) pb R tB d g0 u h'→Q (.tuple ⟨[]⟩) h'):F192.T (some ⟨pb,0,none⟩) h Q:=by
 unfold F192.T
 exact Bk.grow (s:=13) rfl (k:=kInts) (zs:=[.int .i64 0]) (MK:=fun a i=>[.int .i64 (IntKind.wrap .i64 ((IntKind.wrap .i64 (a+6))+(IntKind.wrap .i64 (5*i))))]) (by simp [kinds]) B hN (fun _ _=>rfl) (fun _ _=>cols_i _) kdI_one (by decide) rfl hQ
theorem hold1 (B:Bk kinds N Z pb R tB d g0 u h) (hN:N≤500000) (hZ:Z 1) (hQ:Q (.bool true) h):F51.T (some ⟨pb,0,none⟩) h Q:=by
 unfold F51.T F51.G
 exact Bk.hold (s:=13) rfl (k:=kInts) (by decide) (S:=F124.T) (by simp [kinds]) (fun _ _ _ _ _ C R R' e b hK=>same_i C R R' e b hK) B hN hZ hQ
theorem mark2 (B:Bk kinds N Z pb R tB d g0 u h) (hQ:Q (.tuple ⟨[]⟩) h):F174.T (some ⟨pb,0,none⟩) h Q:=by
 unfold F174.T
 exact B.nilMark (s:=22) (c:=2) rfl (by decide) (kinds_ne (by decide)) hQ
theorem grow2 (B:Bk kinds N Z pb R tB d g0 u h) (hQ:∀ h',Bk kinds N Z pb R tB d g0 u h'→Q (.tuple ⟨[]⟩) h'):F193.T (some ⟨pb,0,none⟩) h Q:=by
 unfold F193.T
 exact B.nilGrow (s:=22) (c:=2) rfl (by decide) (kinds_ne (by decide)) hQ
theorem hold2 (B:Bk kinds N Z pb R tB d g0 u h) (hQ:Q (.bool true) h):F52.T (some ⟨pb,0,none⟩) h Q:=by
 unfold F52.T
 exact B.nilKeep (s:=22) (c:=2) rfl (by decide) (kinds_ne (by decide)) hQ
theorem mark3 (B:Bk kinds N Z pb R tB d g0 u h) (hQ:Q (.tuple ⟨[]⟩) h):F175.T (some ⟨pb,0,none⟩) h Q:=by
 unfold F175.T
 exact B.nilMark (s:=31) (c:=3) rfl (by decide) (kinds_ne (by decide)) hQ
theorem grow3 (B:Bk kinds N Z pb R tB d g0 u h) (hQ:∀ h',Bk kinds N Z pb R tB d g0 u h'→Q (.tuple ⟨[]⟩) h'):F194.T (some ⟨pb,0,none⟩) h Q:=by
 unfold F194.T
 exact B.nilGrow (s:=31) (c:=3) rfl (by decide) (kinds_ne (by decide)) hQ
theorem hold3 (B:Bk kinds N Z pb R tB d g0 u h) (hQ:Q (.bool true) h):F53.T (some ⟨pb,0,none⟩) h Q:=by
 unfold F53.T
 exact B.nilKeep (s:=31) (c:=3) rfl (by decide) (kinds_ne (by decide)) hQ
theorem mark4 (B:Bk kinds N Z pb R tB d g0 u h) (hQ:Q (.tuple ⟨[]⟩) h):F176.T (some ⟨pb,0,none⟩) h Q:=by
 unfold F176.T
 exact B.nilMark (s:=40) (c:=4) rfl (by decide) (kinds_ne (by decide)) hQ
theorem grow4 (B:Bk kinds N Z pb R tB d g0 u h) (hQ:∀ h',Bk kinds N Z pb R tB d g0 u h'→Q (.tuple ⟨[]⟩) h'):F195.T (some ⟨pb,0,none⟩) h Q:=by
 unfold F195.T
 exact B.nilGrow (s:=40) (c:=4) rfl (by decide) (kinds_ne (by decide)) hQ
theorem hold4 (B:Bk kinds N Z pb R tB d g0 u h) (hQ:Q (.bool true) h):F54.T (some ⟨pb,0,none⟩) h Q:=by
 unfold F54.T
 exact B.nilKeep (s:=40) (c:=4) rfl (by decide) (kinds_ne (by decide)) hQ
theorem mark5 (B:Bk kinds N Z pb R tB d g0 u h) (hQ:Q (.tuple ⟨[]⟩) h):F177.T (some ⟨pb,0,none⟩) h Q:=by
 unfold F177.T
 exact B.nilMark (s:=49) (c:=5) rfl (by decide) (kinds_ne (by decide)) hQ
theorem grow5 (B:Bk kinds N Z pb R tB d g0 u h) (hQ:∀ h',Bk kinds N Z pb R tB d g0 u h'→Q (.tuple ⟨[]⟩) h'):F196.T (some ⟨pb,0,none⟩) h Q:=by
 unfold F196.T
 exact B.nilGrow (s:=49) (c:=5) rfl (by decide) (kinds_ne (by decide)) hQ
theorem hold5 (B:Bk kinds N Z pb R tB d g0 u h) (hQ:Q (.bool true) h):F55.T (some ⟨pb,0,none⟩) h Q:=by
 unfold F55.T
 exact B.nilKeep (s:=49) (c:=5) rfl (by decide) (kinds_ne (by decide)) hQ
theorem mark6 (B:Bk kinds N Z pb R tB d g0 u h) (hQ:Q (.tuple ⟨[]⟩) h):F178.T (some ⟨pb,0,none⟩) h Q:=by
 unfold F178.T
 exact B.nilMark (s:=58) (c:=6) rfl (by decide) (kinds_ne (by decide)) hQ
theorem grow6 (B:Bk kinds N Z pb R tB d g0 u h) (hQ:∀ h',Bk kinds N Z pb R tB d g0 u h'→Q (.tuple ⟨[]⟩) h'):F197.T (some ⟨pb,0,none⟩) h Q:=by
 unfold F197.T
 exact B.nilGrow (s:=58) (c:=6) rfl (by decide) (kinds_ne (by decide)) hQ
theorem hold6 (B:Bk kinds N Z pb R tB d g0 u h) (hQ:Q (.bool true) h):F56.T (some ⟨pb,0,none⟩) h Q:=by
 unfold F56.T
 exact B.nilKeep (s:=58) (c:=6) rfl (by decide) (kinds_ne (by decide)) hQ
theorem mark7 (B:Bk kinds N Z pb R tB d g0 u h) (hN:N≤500000) (hQ:∀ h',Bk kinds N (fun _=>False) pb R tB d g0 u h'→Q (.tuple ⟨[]⟩) h'):F179.T (some ⟨pb,0,none⟩) h Q:=by
 unfold F179.T F179.G
 exact Bk.mark (s:=67) rfl (k:=kTabs) (zs:=[.int .u64 0,.int .i64 0,.int .i64 0,.int .i64 0,.string ⟨#[]⟩,.string ⟨#[]⟩]) (OF:=(fun n=>n.toNat*6)) (MK:=fun a i=>[.int .u64 (IntKind.wrap .u64 (IntKind.wrap .i64 (a+(IntKind.wrap .i64 (3*i))))),.int .i64 0,.int .i64 0,.int .i64 0,.string ⟨#[]⟩,.string ⟨#[]⟩]) (S:=F130.T) (by simp [kinds]) B hN (fun _ _ _ _ _ C R R' e b hK=>same_t C R R' e b hK) (by decide) (fun i=>by show (i:Int).toNat*6=i*6; omega) (fun _ _=>rfl) (fun _ _=>cols_t ⟨_,_,_,_,_,_⟩) kdT_one rfl (by decide) hQ
theorem grow7 (B:Bk kinds N Z pb R tB d g0 u h) (hN:N≤500000) (hQ:∀ h',Bk kinds N (fun c=>Z c∨c=7) pb R tB d g0 u h'→Q (.tuple ⟨[]⟩) h'):F198.T (some ⟨pb,0,none⟩) h Q:=by
 unfold F198.T
 exact Bk.grow (s:=67) rfl (k:=kTabs) (zs:=[.int .u64 0,.int .i64 0,.int .i64 0,.int .i64 0,.string ⟨#[]⟩,.string ⟨#[]⟩]) (MK:=fun a i=>[.int .u64 (IntKind.wrap .u64 (IntKind.wrap .i64 ((IntKind.wrap .i64 (a+6))+(IntKind.wrap .i64 (5*i))))),.int .i64 0,.int .i64 0,.int .i64 0,.string ⟨#[]⟩,.string ⟨#[]⟩]) (by simp [kinds]) B hN (fun _ _=>rfl) (fun _ _=>cols_t ⟨_,_,_,_,_,_⟩) kdT_one (by decide) rfl hQ
theorem hold7 (B:Bk kinds N Z pb R tB d g0 u h) (hN:N≤500000) (hZ:Z 7) (hQ:Q (.bool true) h):F57.T (some ⟨pb,0,none⟩) h Q:=by
 unfold F57.T F57.G
 exact Bk.hold (s:=67) rfl (k:=kTabs) (by decide) (S:=F130.T) (by simp [kinds]) (fun _ _ _ _ _ C R R' e b hK=>same_t C R R' e b hK) B hN hZ hQ
theorem mark8 (B:Bk kinds N Z pb R tB d g0 u h) (hQ:Q (.tuple ⟨[]⟩) h):F180.T (some ⟨pb,0,none⟩) h Q:=by
 unfold F180.T
 exact B.nilMark (s:=76) (c:=8) rfl (by decide) (kinds_ne (by decide)) hQ
theorem grow8 (B:Bk kinds N Z pb R tB d g0 u h) (hQ:∀ h',Bk kinds N Z pb R tB d g0 u h'→Q (.tuple ⟨[]⟩) h'):F199.T (some ⟨pb,0,none⟩) h Q:=by
 unfold F199.T
 exact B.nilGrow (s:=76) (c:=8) rfl (by decide) (kinds_ne (by decide)) hQ
theorem hold8 (B:Bk kinds N Z pb R tB d g0 u h) (hQ:Q (.bool true) h):F58.T (some ⟨pb,0,none⟩) h Q:=by
 unfold F58.T
 exact B.nilKeep (s:=76) (c:=8) rfl (by decide) (kinds_ne (by decide)) hQ
theorem mark9 (B:Bk kinds N Z pb R tB d g0 u h) (hQ:Q (.tuple ⟨[]⟩) h):F181.T (some ⟨pb,0,none⟩) h Q:=by
 unfold F181.T
 exact B.nilMark (s:=85) (c:=9) rfl (by decide) (kinds_ne (by decide)) hQ
theorem grow9 (B:Bk kinds N Z pb R tB d g0 u h) (hQ:∀ h',Bk kinds N Z pb R tB d g0 u h'→Q (.tuple ⟨[]⟩) h'):F200.T (some ⟨pb,0,none⟩) h Q:=by
 unfold F200.T
 exact B.nilGrow (s:=85) (c:=9) rfl (by decide) (kinds_ne (by decide)) hQ
theorem hold9 (B:Bk kinds N Z pb R tB d g0 u h) (hQ:Q (.bool true) h):F59.T (some ⟨pb,0,none⟩) h Q:=by
 unfold F59.T
 exact B.nilKeep (s:=85) (c:=9) rfl (by decide) (kinds_ne (by decide)) hQ
theorem mark10 (B:Bk kinds N Z pb R tB d g0 u h) (hQ:Q (.tuple ⟨[]⟩) h):F182.T (some ⟨pb,0,none⟩) h Q:=by
 unfold F182.T
 exact B.nilMark (s:=94) (c:=10) rfl (by decide) (kinds_ne (by decide)) hQ
theorem grow10 (B:Bk kinds N Z pb R tB d g0 u h) (hQ:∀ h',Bk kinds N Z pb R tB d g0 u h'→Q (.tuple ⟨[]⟩) h'):F201.T (some ⟨pb,0,none⟩) h Q:=by
 unfold F201.T
 exact B.nilGrow (s:=94) (c:=10) rfl (by decide) (kinds_ne (by decide)) hQ
theorem hold10 (B:Bk kinds N Z pb R tB d g0 u h) (hQ:Q (.bool true) h):F60.T (some ⟨pb,0,none⟩) h Q:=by
 unfold F60.T
 exact B.nilKeep (s:=94) (c:=10) rfl (by decide) (kinds_ne (by decide)) hQ
theorem mark11 (B:Bk kinds N Z pb R tB d g0 u h) (hQ:Q (.tuple ⟨[]⟩) h):F183.T (some ⟨pb,0,none⟩) h Q:=by
 unfold F183.T
 exact B.nilMark (s:=103) (c:=11) rfl (by decide) (kinds_ne (by decide)) hQ
theorem grow11 (B:Bk kinds N Z pb R tB d g0 u h) (hQ:∀ h',Bk kinds N Z pb R tB d g0 u h'→Q (.tuple ⟨[]⟩) h'):F202.T (some ⟨pb,0,none⟩) h Q:=by
 unfold F202.T
 exact B.nilGrow (s:=103) (c:=11) rfl (by decide) (kinds_ne (by decide)) hQ
theorem hold11 (B:Bk kinds N Z pb R tB d g0 u h) (hQ:Q (.bool true) h):F61.T (some ⟨pb,0,none⟩) h Q:=by
 unfold F61.T
 exact B.nilKeep (s:=103) (c:=11) rfl (by decide) (kinds_ne (by decide)) hQ
theorem mark12 (B:Bk kinds N Z pb R tB d g0 u h) (hQ:Q (.tuple ⟨[]⟩) h):F184.T (some ⟨pb,0,none⟩) h Q:=by
 unfold F184.T
 exact B.nilMark (s:=112) (c:=12) rfl (by decide) (kinds_ne (by decide)) hQ
theorem grow12 (B:Bk kinds N Z pb R tB d g0 u h) (hQ:∀ h',Bk kinds N Z pb R tB d g0 u h'→Q (.tuple ⟨[]⟩) h'):F203.T (some ⟨pb,0,none⟩) h Q:=by
 unfold F203.T
 exact B.nilGrow (s:=112) (c:=12) rfl (by decide) (kinds_ne (by decide)) hQ
theorem hold12 (B:Bk kinds N Z pb R tB d g0 u h) (hQ:Q (.bool true) h):F62.T (some ⟨pb,0,none⟩) h Q:=by
 unfold F62.T
 exact B.nilKeep (s:=112) (c:=12) rfl (by decide) (kinds_ne (by decide)) hQ
theorem mark13 (B:Bk kinds N Z pb R tB d g0 u h) (hQ:Q (.tuple ⟨[]⟩) h):F185.T (some ⟨pb,0,none⟩) h Q:=by
 unfold F185.T
 exact B.nilMark (s:=121) (c:=13) rfl (by decide) (kinds_ne (by decide)) hQ
theorem grow13 (B:Bk kinds N Z pb R tB d g0 u h) (hQ:∀ h',Bk kinds N Z pb R tB d g0 u h'→Q (.tuple ⟨[]⟩) h'):F204.T (some ⟨pb,0,none⟩) h Q:=by
 unfold F204.T
 exact B.nilGrow (s:=121) (c:=13) rfl (by decide) (kinds_ne (by decide)) hQ
theorem hold13 (B:Bk kinds N Z pb R tB d g0 u h) (hQ:Q (.bool true) h):F63.T (some ⟨pb,0,none⟩) h Q:=by
 unfold F63.T
 exact B.nilKeep (s:=121) (c:=13) rfl (by decide) (kinds_ne (by decide)) hQ
theorem mark14 (B:Bk kinds N Z pb R tB d g0 u h) (hQ:Q (.tuple ⟨[]⟩) h):F186.T (some ⟨pb,0,none⟩) h Q:=by
 unfold F186.T
 exact B.nilMark (s:=130) (c:=14) rfl (by decide) (kinds_ne (by decide)) hQ
theorem grow14 (B:Bk kinds N Z pb R tB d g0 u h) (hQ:∀ h',Bk kinds N Z pb R tB d g0 u h'→Q (.tuple ⟨[]⟩) h'):F205.T (some ⟨pb,0,none⟩) h Q:=by
 unfold F205.T
 exact B.nilGrow (s:=130) (c:=14) rfl (by decide) (kinds_ne (by decide)) hQ
theorem hold14 (B:Bk kinds N Z pb R tB d g0 u h) (hQ:Q (.bool true) h):F64.T (some ⟨pb,0,none⟩) h Q:=by
 unfold F64.T
 exact B.nilKeep (s:=130) (c:=14) rfl (by decide) (kinds_ne (by decide)) hQ
theorem mark15 (B:Bk kinds N Z pb R tB d g0 u h) (hQ:Q (.tuple ⟨[]⟩) h):F187.T (some ⟨pb,0,none⟩) h Q:=by
 unfold F187.T
 exact B.nilMark (s:=139) (c:=15) rfl (by decide) (kinds_ne (by decide)) hQ
theorem grow15 (B:Bk kinds N Z pb R tB d g0 u h) (hQ:∀ h',Bk kinds N Z pb R tB d g0 u h'→Q (.tuple ⟨[]⟩) h'):F206.T (some ⟨pb,0,none⟩) h Q:=by
 unfold F206.T
 exact B.nilGrow (s:=139) (c:=15) rfl (by decide) (kinds_ne (by decide)) hQ
theorem hold15 (B:Bk kinds N Z pb R tB d g0 u h) (hQ:Q (.bool true) h):F65.T (some ⟨pb,0,none⟩) h Q:=by
 unfold F65.T
 exact B.nilKeep (s:=139) (c:=15) rfl (by decide) (kinds_ne (by decide)) hQ
theorem mark16 (B:Bk kinds N Z pb R tB d g0 u h) (hQ:Q (.tuple ⟨[]⟩) h):F188.T (some ⟨pb,0,none⟩) h Q:=by
 unfold F188.T
 exact B.nilMark (s:=148) (c:=16) rfl (by decide) (kinds_ne (by decide)) hQ
theorem grow16 (B:Bk kinds N Z pb R tB d g0 u h) (hQ:∀ h',Bk kinds N Z pb R tB d g0 u h'→Q (.tuple ⟨[]⟩) h'):F207.T (some ⟨pb,0,none⟩) h Q:=by
 unfold F207.T
 exact B.nilGrow (s:=148) (c:=16) rfl (by decide) (kinds_ne (by decide)) hQ
theorem hold16 (B:Bk kinds N Z pb R tB d g0 u h) (hQ:Q (.bool true) h):F66.T (some ⟨pb,0,none⟩) h Q:=by
 unfold F66.T
 exact B.nilKeep (s:=148) (c:=16) rfl (by decide) (kinds_ne (by decide)) hQ
theorem mark17 (B:Bk kinds N Z pb R tB d g0 u h) (hQ:Q (.tuple ⟨[]⟩) h):F189.T (some ⟨pb,0,none⟩) h Q:=by
 unfold F189.T
 exact B.nilMark (s:=157) (c:=17) rfl (by decide) (kinds_ne (by decide)) hQ
theorem grow17 (B:Bk kinds N Z pb R tB d g0 u h) (hQ:∀ h',Bk kinds N Z pb R tB d g0 u h'→Q (.tuple ⟨[]⟩) h'):F208.T (some ⟨pb,0,none⟩) h Q:=by
 unfold F208.T
 exact B.nilGrow (s:=157) (c:=17) rfl (by decide) (kinds_ne (by decide)) hQ
theorem hold17 (B:Bk kinds N Z pb R tB d g0 u h) (hQ:Q (.bool true) h):F67.T (some ⟨pb,0,none⟩) h Q:=by
 unfold F67.T
 exact B.nilKeep (s:=157) (c:=17) rfl (by decide) (kinds_ne (by decide)) hQ
theorem mark18 (B:Bk kinds N Z pb R tB d g0 u h) (hQ:Q (.tuple ⟨[]⟩) h):F190.T (some ⟨pb,0,none⟩) h Q:=by
 unfold F190.T
 exact B.nilMark (s:=166) (c:=18) rfl (by decide) (kinds_ne (by decide)) hQ
theorem grow18 (B:Bk kinds N Z pb R tB d g0 u h) (hQ:∀ h',Bk kinds N Z pb R tB d g0 u h'→Q (.tuple ⟨[]⟩) h'):F209.T (some ⟨pb,0,none⟩) h Q:=by
 unfold F209.T
 exact B.nilGrow (s:=166) (c:=18) rfl (by decide) (kinds_ne (by decide)) hQ
theorem hold18 (B:Bk kinds N Z pb R tB d g0 u h) (hQ:Q (.bool true) h):F68.T (some ⟨pb,0,none⟩) h Q:=by
 unfold F68.T
 exact B.nilKeep (s:=166) (c:=18) rfl (by decide) (kinds_ne (by decide)) hQ
theorem marks (B:Bk kinds N Z pb R tB d g0 u h) (hN:N≤500000) (hQ:∀ h',Bk kinds N (fun _=>False) pb R tB d g0 u h'→Q (.tuple ⟨[]⟩) h'):F146.T (some ⟨pb,0,none⟩) h Q:=by
 unfold F146.T F146.G
 replace B:=B.mono (Z':=fun _=>False) (fun _ _ q=>q.elim)
 refine mark0 B ?_
 refine mark1 B hN fun h B=>?_
 refine mark2 B ?_
 refine mark3 B ?_
 refine mark4 B ?_
 refine mark5 B ?_
 refine mark6 B ?_
 refine mark7 B hN fun h B=>?_
 refine mark8 B ?_
 refine mark9 B ?_
 refine mark10 B ?_
 refine mark11 B ?_
 refine mark12 B ?_
 refine mark13 B ?_
 refine mark14 B ?_
 refine mark15 B ?_
 refine mark16 B ?_
 refine mark17 B ?_
 refine mark18 B ?_
 exact hQ _ B
theorem grows (B:Bk kinds N Z pb R tB d g0 u h) (hN:N≤500000) (hQ:∀ h',Bk kinds N (fun c=>∃ k∈kinds,k.c=c) pb R tB d g0 u h'→Q (.tuple ⟨[]⟩) h'):F147.T (some ⟨pb,0,none⟩) h Q:=by
 unfold F147.T F147.G
 replace B:=B.mono (Z':=fun _=>False) (fun _ _ q=>q.elim)
 refine grow0 B fun h B=>?_
 refine grow1 B hN fun h B=>?_
 refine grow2 B fun h B=>?_
 refine grow3 B fun h B=>?_
 refine grow4 B fun h B=>?_
 refine grow5 B fun h B=>?_
 refine grow6 B fun h B=>?_
 refine grow7 B hN fun h B=>?_
 refine grow8 B fun h B=>?_
 refine grow9 B fun h B=>?_
 refine grow10 B fun h B=>?_
 refine grow11 B fun h B=>?_
 refine grow12 B fun h B=>?_
 refine grow13 B fun h B=>?_
 refine grow14 B fun h B=>?_
 refine grow15 B fun h B=>?_
 refine grow16 B fun h B=>?_
 refine grow17 B fun h B=>?_
 refine grow18 B fun h B=>?_
 refine hQ _ (B.mono fun k hk _=>?_)
 simp only [kinds,List.mem_cons,List.not_mem_nil,or_false] at hk
 rcases hk with rfl | rfl <;> simp [kInts,kTabs]
theorem done_ {d1:Int} (B:Bk kinds N Z pb R tB d1 g0 u h) (hN:N≤500000) (hd:IntKind.wrap .i64 (d1 - 1)=d) (hZ:¬ (0 < d)→∀ k∈kinds,Z k.c) (hQ:∀ h',Bk kinds N Z pb R tB d g0 u h'→Q (.tuple ⟨[]⟩) h'):F82.T (some ⟨pb,0,none⟩) h Q:=by
 unfold F82.T F82.G
 refine Bk.done (A:=F146.T (some ⟨pb,0,none⟩)) (B:=F147.T (some ⟨pb,0,none⟩)) B hd hZ (fun h Q B hQ=>marks B hN hQ) (fun h Q B hQ=>grows B hN hQ) hQ
theorem due_ {turn n:Int} {K:Value→Hp→Prop} (h0:h.at pb (0+0)=some (.bool false)) (h2:h.at pb (0+2)=some (.int .i64 turn)) (hK:∀ d:Int,K (.int .i64 d) h):F81.T (some ⟨pb,0,none⟩) n h K:=by
 unfold F81.T
 exact ⟨pb,0,rfl,false,h0,fun q=>Bool.noConfusion q,fun _=>⟨by decide,fun _=>⟨pb,0,rfl,turn,h2,hK _⟩,fun _=>⟨by decide,fun _=>⟨pb,0,rfl,turn,h2,by decide,by decide,hK _⟩,fun _=>⟨pb,0,rfl,turn,h2,hK _⟩⟩⟩⟩
theorem add1 {a b:Nat} {l:Sl} {vs:List Value} {mark:Int} (B:Bk kinds N Z pb R tB d g0 u h) (hN:N < 500000) (hd:0≤d∧d < 100) (hZ:¬ (0 < d)→∀ k∈kinds,Z k.c) (hu:u (kU a b)=some ⟨l,1,3,vs⟩) (hv:Cols kdI 1 vs) (hn:(l.n+30)*8≤140737488355328) (hQ:∀ h',Bk kinds (N+1) Z pb R tB d g0 (u.del (kU a b)) h'→Q (.tuple ⟨[]⟩) h'):F19.T (some ⟨pb,0,none⟩) l mark h Q:=by
 unfold F19.T F19.G
 exact Bk.add (s:=13) rfl (k:=kInts) (zs:=[.int .i64 0]) (U:=F81.T (some ⟨pb,0,none⟩)) (D:=F82.T (some ⟨pb,0,none⟩)) (by simp [kinds]) B (by omega) hu hv kdI_one rfl hn (fun _ _ _ _ h0 h2 hK=>due_ h0 h2 hK) (fun h' Q' B' hQ'=>done_ B' (by omega) (by rw [wrap_i64 (n:=d+1) (by omega) (by omega),wrap_i64 (by omega) (by omega)]; omega) hZ hQ') hQ
theorem add7 {a b:Nat} {l:Sl} {vs:List Value} {mark:Int} (B:Bk kinds N Z pb R tB d g0 u h) (hN:N < 500000) (hd:0≤d∧d < 100) (hZ:¬ (0 < d)→∀ k∈kinds,Z k.c) (hu:u (kU a b)=some ⟨l,6,63,vs⟩) (hv:Cols kdT 6 vs) (hn:(l.n+30)*64≤140737488355328) (hQ:∀ h',Bk kinds (N+1) Z pb R tB d g0 (u.del (kU a b)) h'→Q (.tuple ⟨[]⟩) h'):F90.T (some ⟨pb,0,none⟩) l mark h Q:=by
 unfold F90.T F90.G
 exact Bk.add (s:=67) rfl (k:=kTabs) (zs:=[.int .u64 0,.int .i64 0,.int .i64 0,.int .i64 0,.string ⟨#[]⟩,.string ⟨#[]⟩]) (U:=F81.T (some ⟨pb,0,none⟩)) (D:=F82.T (some ⟨pb,0,none⟩)) (by simp [kinds]) B (by omega) hu hv kdT_one rfl hn (fun _ _ _ _ h0 h2 hK=>due_ h0 h2 hK) (fun h' Q' B' hQ'=>done_ B' (by omega) (by rw [wrap_i64 (n:=d+1) (by omega) (by omega),wrap_i64 (by omega) (by omega)]; omega) hZ hQ') hQ
theorem hold_ (B:Bk kinds N Z pb R tB d g0 u h) (hN:N≤500000) (hZ:∀ k∈kinds,Z k.c) (hQ:Q (.bool true) h):F10.T (some ⟨pb,0,none⟩) h Q:=by
 unfold F10.T F10.G
 obtain ⟨g,m,cs,K,M⟩:=B
 refine ⟨pb,0,rfl,false,M.O.cell M.hb M.c1,fun q=>Bool.noConfusion q,fun _=>?_⟩
 have B:Bk kinds N Z pb R tB d g0 u h:=⟨g,m,cs,K,M⟩
 refine hold0 B ⟨true,rfl,fun _=>?_,fun q=>Bool.noConfusion q⟩
 refine hold1 B hN (hZ kInts (by simp [kinds])) ⟨true,rfl,fun _=>?_,fun q=>Bool.noConfusion q⟩
 refine hold2 B ⟨true,rfl,fun _=>?_,fun q=>Bool.noConfusion q⟩
 refine hold3 B ⟨true,rfl,fun _=>?_,fun q=>Bool.noConfusion q⟩
 refine hold4 B ⟨true,rfl,fun _=>?_,fun q=>Bool.noConfusion q⟩
 refine hold5 B ⟨true,rfl,fun _=>?_,fun q=>Bool.noConfusion q⟩
 refine hold6 B ⟨true,rfl,fun _=>?_,fun q=>Bool.noConfusion q⟩
 refine hold7 B hN (hZ kTabs (by simp [kinds])) ⟨true,rfl,fun _=>?_,fun q=>Bool.noConfusion q⟩
 refine hold8 B ⟨true,rfl,fun _=>?_,fun q=>Bool.noConfusion q⟩
 refine hold9 B ⟨true,rfl,fun _=>?_,fun q=>Bool.noConfusion q⟩
 refine hold10 B ⟨true,rfl,fun _=>?_,fun q=>Bool.noConfusion q⟩
 refine hold11 B ⟨true,rfl,fun _=>?_,fun q=>Bool.noConfusion q⟩
 refine hold12 B ⟨true,rfl,fun _=>?_,fun q=>Bool.noConfusion q⟩
 refine hold13 B ⟨true,rfl,fun _=>?_,fun q=>Bool.noConfusion q⟩
 refine hold14 B ⟨true,rfl,fun _=>?_,fun q=>Bool.noConfusion q⟩
 refine hold15 B ⟨true,rfl,fun _=>?_,fun q=>Bool.noConfusion q⟩
 refine hold16 B ⟨true,rfl,fun _=>?_,fun q=>Bool.noConfusion q⟩
 refine hold17 B ⟨true,rfl,fun _=>?_,fun q=>Bool.noConfusion q⟩
 refine hold18 B ⟨true,rfl,fun _=>?_,fun q=>Bool.noConfusion q⟩
 exact hQ
end
end Go.Eng.YtbjnlacacapjiaaGreatDoor
end
section
set_option maxRecDepth 100000
open Go.Proofs
namespace Go.Eng.YtbjnlacacapjiaaGreatDoor
@[reducible] def F24.G (T73:Option Addr→Int→PT) (T89:Sl→Sl→PT) (T91:Option Addr→PT) (p:Option Addr) (l:Sl):PT:=fun h Q=>
 ∃ (I:Int→Hp→Prop) (m:Int→Hp→Nat),I 0 h∧(∀ n:Int,∀ h1:Hp,I n h1→par (n < (l.n:Int)) (ix l.a n l.n fun b o=>ldS h1 b (o+n.toNat) fun l1=>T73 p n h1 fun r h2=>retS r fun l2=>h2.at b (o+n.toNat)=some (.slice l1.a l1.n l1.c)∧T89 l2 l1 h2 fun r1 h3=>retB r1 (I (IntKind.wrap .i64 (n+1)) h3∧m (IntKind.wrap .i64 (n+1)) h3 < m n h1) (Q (.bool false) h3)) (T91 p h1 fun r2 h4=>retI .i64 r2 fun n1=>par (n1=(l.n:Int)) (Q (.bool true) h4) (Q (.bool false) h4)))
def F24.T:=F24.G F73.T F89.T F91.T
theorem F24.gen (V T73 T89 T91 p l):denF Tryz.prog [] [(73,F73.W T73),(89,F89.W T89),(91,F91.W T91)] V [(26,.loop [(5,.int .i64)] []),(840,.order [0,1,3,4,5,6,2,7,8])] Tryz.f24 [.v (.pointer p),.v (.slice l.a l.n l.c)]=F24.G T73 T89 T91 p l:=by kernel_rfl
def F24.W (T24:Option Addr→Sl→PT) (args:List Value):PT:=match args with
 | [.pointer p,.slice l_a l_n l_c]=>T24 p ⟨l_a,l_n,l_c⟩
 | _=>fun _ _=>False
def F24.V:List Value→PT:=F24.W F24.T
theorem F24.ok:FOk Tryz.prog 24 F24.V:=by
 refine ⟨⟨_,Tryz.func24,rfl,rfl⟩,fun args=>?_⟩
 unfold F24.V F24.W
 split
 ·exact denF_okE (GOk.cons F73.ok (GOk.cons F89.ok (GOk.cons F91.ok (GOk.nil)))) noV_ok Tryz.func24 (F24.gen noV F73.T F89.T F91.T _ ⟨_,_,_⟩)
 ·exact fun _ _ h=>h.elim
@[reducible] def tl5 (T10:Option Addr→PT) (T22:Int→Sl→Sl→ByteArray→Bool→Int→Sl→Sl→ByteArray→Bool→PT) (T23:Option Addr→Int→Sl→Sl→ByteArray→Bool→Int→PT) (T24:Option Addr→Sl→PT) (p:Option Addr) (b:Nat) (l2:Sl) (aJ:Hp→Prop) (Q:Value→Hp→Prop) (a54 a55 a56:Int) (a11 a12:Sl) (as0:ByteArray) (ab1:Bool) (a57:Int) (a13 a14:Sl) (as1:ByteArray) (ab3:Bool) (a58:Int) (a15 a16:Sl) (as2:ByteArray) (ab5:Bool) (a59:Int) (ah:Hp):Prop:=
 T22 a56 a11 a12 as0 ab1 a57 a13 a14 as1 ab3 ah fun rz0 hz1=>retB rz0 (∃ vsz2,hz1.row a13.a (a13.n*6) vsz2∧(∀ v∈vsz2,Value.oneCell' v=true)∧appendD ⟨none,0,0⟩ 63 6 64 [.int .u64 0,.int .i64 0,.int .i64 0,.int .i64 0,.string ⟨#[]⟩,.string ⟨#[]⟩] a13.n vsz2 hz1 fun lz3 hz4=>∃ vsz5,hz4.row a14.a (a14.n*6) vsz5∧(∀ v∈vsz5,Value.oneCell' v=true)∧appendD ⟨none,0,0⟩ 63 6 64 [.int .u64 0,.int .i64 0,.int .i64 0,.int .i64 0,.string ⟨#[]⟩,.string ⟨#[]⟩] a14.n vsz5 hz4 fun lz6 hz7=>nw hz7 (.cells ⟨[.int .i64 0,.slice none 0 0,.slice none 0 0,.string ⟨#[]⟩,.bool false]⟩ 79 (0,0)) fun bz8 hz9=>st hz9 bz8 0 5 [.int .i64 a57,.slice lz3.a lz3.n lz3.c,.slice lz6.a lz6.n lz6.c,.string as1,.bool ab3] fun hz10=>T23 (some ⟨b,0,none⟩) a56 a11 a12 as0 ab1 (IntKind.wrap .i64 ((IntKind.wrap .i64 ((IntKind.wrap .i64 (1000*a54))+(IntKind.wrap .i64 (100*a55))))+47)) hz10 fun rz11 hz12=>∃ Jz13:Hp→Prop,(∀ hz14:Hp,Jz13 hz14→T23 (some ⟨b,0,none⟩) a57 a13 a14 as1 ab3 (IntKind.wrap .i64 ((IntKind.wrap .i64 ((IntKind.wrap .i64 (1000*a54))+(IntKind.wrap .i64 (100*a55))))+57)) hz14 fun rz15 hz16=>par (a59=2) (T23 (some ⟨b,0,none⟩) a58 a15 a16 as2 ab5 (IntKind.wrap .i64 ((IntKind.wrap .i64 ((IntKind.wrap .i64 (1000*a54))+(IntKind.wrap .i64 (100*a55))))+67)) hz16 fun rz17 hz18=>T24 p l2 hz18 fun rz19 hz20=>retB rz19 (T10 (some ⟨b,0,none⟩) hz20 fun rz21 hz22=>retB rz21 (aJ hz22) (Q (.bool false) hz22)) (Q (.bool false) hz20)) (T24 p l2 hz16 fun rz23 hz24=>retB rz23 (T10 (some ⟨b,0,none⟩) hz24 fun rz25 hz26=>retB rz25 (aJ hz26) (Q (.bool false) hz26)) (Q (.bool false) hz24)))∧(ldI .i64 hz12 bz8 0 fun nz27=>ldS hz12 bz8 1 fun lz28=>ldS hz12 bz8 2 fun lz29=>ldT hz12 bz8 3 fun sz30=>∃ bz31:Bool,parB bz31 (hz12.at bz8 4=some (.bool true)∧T22 a57 a13 a14 as1 ab3 nz27 lz28 lz29 sz30 true hz12 fun rz32 hz33=>retB rz32 (T10 (some ⟨b,0,none⟩) hz33 fun rz34 hz35=>retB rz34 (Jz13 hz35) (Q (.bool false) hz35)) (Q (.bool false) hz33)) (hz12.at bz8 4=some (.bool false)∧T22 a57 a13 a14 as1 ab3 nz27 lz28 lz29 sz30 false hz12 fun rz36 hz37=>retB rz36 (T10 (some ⟨b,0,none⟩) hz37 fun rz38 hz39=>retB rz38 (Jz13 hz39) (Q (.bool false) hz39)) (Q (.bool false) hz37)))) (Q (.bool false) hz1)
@[reducible] def F5.G (T10:Option Addr→PT) (T12:PT) (T13:Sl→Sl→PT) (T14:I9 <| I9 <| I9 <| PT) (T15:I9 <| I9 <| I9 <| Sl→PT) (T16 T17:I9 <| I9 <| I9 <| Option Addr→PT) (T18:Sl→Sl→PT) (T19:Option Addr→Sl→Int→PT) (T20:I9 <| I9 <| I9 <| Option Addr→Sl→Int→PT) (T21:I9 <| I9 <| I9 <| Option Addr→Sl→Sl→PT) (T22:Int→Sl→Sl→ByteArray→Bool→Int→Sl→Sl→ByteArray→Bool→PT) (T23:Option Addr→Int→Sl→Sl→ByteArray→Bool→Int→PT) (T24:Option Addr→Sl→PT) (n n1 n2 n3 n4 n5 n6 n7 n8 n9 n10 n11 n12 n13 n14 n15 n16 n17 n18 n19 n20 n21 n22 n23 n24 n25 n26:Int) (l l1:Sl):PT:=fun h Q=>
 T12 h fun r h1=>retB r (T13 l l1 h1 fun r1 h2=>retB r1 (T14 n n1 n2 n3 n4 n5 n6 n7 n8 n9 n10 n11 n12 n13 n14 n15 n16 n17 n18 n19 n20 n21 n22 n23 n24 n25 n26 h2 fun r2 h3=>∃ n27 n28:Int,∃ n29 n30:Int,∃ n31 n32:Int,∃ n33 n34:Int,∃ n35 n36:Int,∃ n37 n38:Int,∃ n39 n40:Int,∃ n41 n42:Int,∃ n43 n44:Int,∃ n45 n46:Int,∃ n47 n48:Int,∃ n49 n50:Int,∃ n51 n52 n53:Int,r2=.agg ⟨[.int .i64 n27,.int .i64 n28,.int .i64 n29,.int .i64 n30,.int .i64 n31,.int .i64 n32,.int .i64 n33,.int .i64 n34,.int .i64 n35,.int .i64 n36,.int .i64 n37,.int .i64 n38,.int .i64 n39,.int .i64 n40,.int .i64 n41,.int .i64 n42,.int .i64 n43,.int .i64 n44,.int .i64 n45,.int .i64 n46,.int .i64 n47,.int .i64 n48,.int .i64 n49,.int .i64 n50,.int .i64 n51,.int .i64 n52,.int .i64 n53]⟩∧Sl.okCut l 0 (iMin (l.n:Int) 40) (l.c:Int)∧T15 n27 n28 n29 n30 n31 n32 n33 n34 n35 n36 n37 n38 n39 n40 n41 n42 n43 n44 n45 n46 n47 n48 n49 n50 n51 n52 n53 (Sl.cut l 7 0 (iMin (l.n:Int) 40) (l.c:Int)) h3 fun r3 h4=>∃ p:Option Addr,∃ l2:Sl,r3=.tuple ⟨[.pointer p,.slice l2.a l2.n l2.c]⟩∧okPtr h4 p none∧par ((p:Option Addr)=none) (Q (.bool false) h4) (T16 n27 n28 n29 n30 n31 n32 n33 n34 n35 n36 n37 n38 n39 n40 n41 n42 n43 n44 n45 n46 n47 n48 n49 n50 n51 n52 n53 p h4 fun r4 h5=>retS r4 fun l3=>∃ vs,h5.row l3.a (l3.n*1) vs∧(∀ v∈vs,Value.oneCell' v=true)∧appendD ⟨none,0,0⟩ 3 1 8 [.int .i64 0] l3.n vs h5 fun l4 h6=>T17 n27 n28 n29 n30 n31 n32 n33 n34 n35 n36 n37 n38 n39 n40 n41 n42 n43 n44 n45 n46 n47 n48 n49 n50 n51 n52 n53 p h6 fun r5 h7=>retS r5 fun l5=>∃ vs1,h7.row l5.a (l5.n*1) vs1∧(∀ v∈vs1,Value.oneCell' v=true)∧appendD ⟨none,0,0⟩ 3 1 8 [.int .i64 0] l5.n vs1 h7 fun l6 h8=>nw h8 (.cells ⟨[.bool false,.bool false,.int .i64 0,.int .i64 0,.slice none 0 0,.slice none 0 0,.slice none 0 0,.slice none 0 0,.slice none 0 0,.slice none 0 0,.slice none 0 0,.slice none 0 0,.int .i64 0,.slice none 0 0,.slice none 0 0,.slice none 0 0,.slice none 0 0,.slice none 0 0,.slice none 0 0,.slice none 0 0,.slice none 0 0,.int .i64 0,.slice none 0 0,.slice none 0 0,.slice none 0 0,.slice none 0 0,.slice none 0 0,.slice none 0 0,.slice none 0 0,.slice none 0 0,.int .i64 0,.slice none 0 0,.slice none 0 0,.slice none 0 0,.slice none 0 0,.slice none 0 0,.slice none 0 0,.slice none 0 0,.slice none 0 0,.int .i64 0,.slice none 0 0,.slice none 0 0,.slice none 0 0,.slice none 0 0,.slice none 0 0,.slice none 0 0,.slice none 0 0,.slice none 0 0,.int .i64 0,.slice none 0 0,.slice none 0 0,.slice none 0 0,.slice none 0 0,.slice none 0 0,.slice none 0 0,.slice none 0 0,.slice none 0 0,.int .i64 0,.slice none 0 0,.slice none 0 0,.slice none 0 0,.slice none 0 0,.slice none 0 0,.slice none 0 0,.slice none 0 0,.slice none 0 0,.int .i64 0,.slice none 0 0,.slice none 0 0,.slice none 0 0,.slice none 0 0,.slice none 0 0,.slice none 0 0,.slice none 0 0,.slice none 0 0,.int .i64 0,.slice none 0 0,.slice none 0 0,.slice none 0 0,.slice none 0 0,.slice none 0 0,.slice none 0 0,.slice none 0 0,.slice none 0 0,.int .i64 0,.slice none 0 0,.slice none 0 0,.slice none 0 0,.slice none 0 0,.slice none 0 0,.slice none 0 0,.slice none 0 0,.slice none 0 0,.int .i64 0,.slice none 0 0,.slice none 0 0,.slice none 0 0,.slice none 0 0,.slice none 0 0,.slice none 0 0,.slice none 0 0,.slice none 0 0,.int .i64 0,.slice none 0 0,.slice none 0 0,.slice none 0 0,.slice none 0 0,.slice none 0 0,.slice none 0 0,.slice none 0 0,.slice none 0 0,.int .i64 0,.slice none 0 0,.slice none 0 0,.slice none 0 0,.slice none 0 0,.slice none 0 0,.slice none 0 0,.slice none 0 0,.slice none 0 0,.int .i64 0,.slice none 0 0,.slice none 0 0,.slice none 0 0,.slice none 0 0,.slice none 0 0,.slice none 0 0,.slice none 0 0,.slice none 0 0,.int .i64 0,.slice none 0 0,.slice none 0 0,.slice none 0 0,.slice none 0 0,.slice none 0 0,.slice none 0 0,.slice none 0 0,.slice none 0 0,.int .i64 0,.slice none 0 0,.slice none 0 0,.slice none 0 0,.slice none 0 0,.slice none 0 0,.slice none 0 0,.slice none 0 0,.slice none 0 0,.int .i64 0,.slice none 0 0,.slice none 0 0,.slice none 0 0,.slice none 0 0,.slice none 0 0,.slice none 0 0,.slice none 0 0,.slice none 0 0,.int .i64 0,.slice none 0 0,.slice none 0 0,.slice none 0 0,.slice none 0 0,.slice none 0 0,.slice none 0 0,.slice none 0 0,.slice none 0 0,.int .i64 0,.slice none 0 0,.slice none 0 0,.slice none 0 0,.slice none 0 0,.slice none 0 0,.slice none 0 0,.slice none 0 0,.slice none 0 0,.int .i64 0]⟩ 45 (0,0)) fun b h9=>∃ (I:Int→Hp→Prop) (m:Int→Hp→Nat),I 0 h9∧(∀ n54:Int,∀ h10:Hp,I n54 h10→par (n54 < 3) (T16 n27 n28 n29 n30 n31 n32 n33 n34 n35 n36 n37 n38 n39 n40 n41 n42 n43 n44 n45 n46 n47 n48 n49 n50 n51 n52 n53 p h10 fun r6 h11=>retS r6 fun l7=>T16 n27 n28 n29 n30 n31 n32 n33 n34 n35 n36 n37 n38 n39 n40 n41 n42 n43 n44 n45 n46 n47 n48 n49 n50 n51 n52 n53 p h11 fun r7 h12=>retS r7 fun l8=>T17 n27 n28 n29 n30 n31 n32 n33 n34 n35 n36 n37 n38 n39 n40 n41 n42 n43 n44 n45 n46 n47 n48 n49 n50 n51 n52 n53 p h12 fun r8 h13=>retS r8 fun l9=>T17 n27 n28 n29 n30 n31 n32 n33 n34 n35 n36 n37 n38 n39 n40 n41 n42 n43 n44 n45 n46 n47 n48 n49 n50 n51 n52 n53 p h13 fun r9 h14=>retS r9 fun l10=>T18 l7 l4 h14 fun r10 h15=>retB r10 (T18 l8 l4 h15 fun r11 h16=>retB r11 (T18 l9 l6 h16 fun r12 h17=>retB r12 (T18 l10 l6 h17 fun r13 h18=>retB r13 (T19 (some ⟨b,0,none⟩) l7 (IntKind.wrap .i64 ((IntKind.wrap .i64 (1000*n54))+7)) h18 fun r14 h19=>T19 (some ⟨b,0,none⟩) l9 (IntKind.wrap .i64 ((IntKind.wrap .i64 (1000*n54))+17)) h19 fun r15 h20=>T18 l8 l4 h20 fun r16 h21=>retB r16 (T18 l10 l6 h21 fun r17 h22=>retB r17 (T10 (some ⟨b,0,none⟩) h22 fun r18 h23=>retB r18 (T19 (some ⟨b,0,none⟩) l8 (IntKind.wrap .i64 ((IntKind.wrap .i64 (1000*n54))+27)) h23 fun r19 h24=>T19 (some ⟨b,0,none⟩) l10 (IntKind.wrap .i64 ((IntKind.wrap .i64 (1000*n54))+37)) h24 fun r20 h25=>∃ (I1:Int→Hp→Prop) (m1:Int→Hp→Nat),I1 0 h25∧(∀ n55:Int,∀ h26:Hp,I1 n55 h26→par (n55 < (IntKind.wrap .i64 (n35 - 1))) (∃ J:Hp→Prop,(∀ h27:Hp,J h27→I1 (IntKind.wrap .i64 (n55+1)) h27∧m1 (IntKind.wrap .i64 (n55+1)) h27 < m1 n55 h26)∧(T20 n27 n28 n29 n30 n31 n32 n33 n34 n35 n36 n37 n38 n39 n40 n41 n42 n43 n44 n45 n46 n47 n48 n49 n50 n51 n52 n53 p l1 n55 h26 fun r21 h28=>∃ n56:Int,∃ l11 l12:Sl,∃ s:ByteArray,∃ b1:Bool,parB b1 (∃ b2:Bool,parB b2 (r21=.tuple ⟨[.agg ⟨[.int .i64 n56,.slice l11.a l11.n l11.c,.slice l12.a l12.n l12.c,.string s,.bool true]⟩,.bool true]⟩∧T20 n27 n28 n29 n30 n31 n32 n33 n34 n35 n36 n37 n38 n39 n40 n41 n42 n43 n44 n45 n46 n47 n48 n49 n50 n51 n52 n53 p l1 n55 h28 fun r22 h29=>∃ n57:Int,∃ l13 l14:Sl,∃ s1:ByteArray,∃ b3:Bool,parB b3 (∃ b4:Bool,parB b4 (r22=.tuple ⟨[.agg ⟨[.int .i64 n57,.slice l13.a l13.n l13.c,.slice l14.a l14.n l14.c,.string s1,.bool true]⟩,.bool true]⟩∧T21 n27 n28 n29 n30 n31 n32 n33 n34 n35 n36 n37 n38 n39 n40 n41 n42 n43 n44 n45 n46 n47 n48 n49 n50 n51 n52 n53 p l1 ⟨none,0,0⟩ h29 fun r23 h30=>∃ n58:Int,∃ l15 l16:Sl,∃ s2:ByteArray,∃ b5:Bool,parB b5 (∃ n59:Int,r23=.tuple ⟨[.agg ⟨[.int .i64 n58,.slice l15.a l15.n l15.c,.slice l16.a l16.n l16.c,.string s2,.bool true]⟩,.int .i64 n59]⟩∧par ((true:Bool)=true) (tl5 T10 T22 T23 T24 p b l2 J Q n54 n55 n56 l11 l12 s true n57 l13 l14 s1 true n58 l15 l16 s2 true n59 h30) (Q (.bool false) h30)) (∃ n61:Int,r23=.tuple ⟨[.agg ⟨[.int .i64 n58,.slice l15.a l15.n l15.c,.slice l16.a l16.n l16.c,.string s2,.bool false]⟩,.int .i64 n61]⟩∧par ((true:Bool)=true) (tl5 T10 T22 T23 T24 p b l2 J Q n54 n55 n56 l11 l12 s true n57 l13 l14 s1 true n58 l15 l16 s2 false n61 h30) (Q (.bool false) h30))) (r22=.tuple ⟨[.agg ⟨[.int .i64 n57,.slice l13.a l13.n l13.c,.slice l14.a l14.n l14.c,.string s1,.bool true]⟩,.bool false]⟩∧T21 n27 n28 n29 n30 n31 n32 n33 n34 n35 n36 n37 n38 n39 n40 n41 n42 n43 n44 n45 n46 n47 n48 n49 n50 n51 n52 n53 p l1 ⟨none,0,0⟩ h29 fun r48 h65=>∃ n63:Int,∃ l25 l26:Sl,∃ s5:ByteArray,∃ b10:Bool,parB b10 (∃ n64:Int,r48=.tuple ⟨[.agg ⟨[.int .i64 n63,.slice l25.a l25.n l25.c,.slice l26.a l26.n l26.c,.string s5,.bool true]⟩,.int .i64 n64]⟩∧par ((true:Bool)=false) (tl5 T10 T22 T23 T24 p b l2 J Q n54 n55 n56 l11 l12 s true n57 l13 l14 s1 true n63 l25 l26 s5 true n64 h65) (Q (.bool false) h65)) (∃ n66:Int,r48=.tuple ⟨[.agg ⟨[.int .i64 n63,.slice l25.a l25.n l25.c,.slice l26.a l26.n l26.c,.string s5,.bool false]⟩,.int .i64 n66]⟩∧par ((true:Bool)=false) (tl5 T10 T22 T23 T24 p b l2 J Q n54 n55 n56 l11 l12 s true n57 l13 l14 s1 true n63 l25 l26 s5 false n66 h65) (Q (.bool false) h65)))) (∃ b15:Bool,parB b15 (r22=.tuple ⟨[.agg ⟨[.int .i64 n57,.slice l13.a l13.n l13.c,.slice l14.a l14.n l14.c,.string s1,.bool false]⟩,.bool true]⟩∧T21 n27 n28 n29 n30 n31 n32 n33 n34 n35 n36 n37 n38 n39 n40 n41 n42 n43 n44 n45 n46 n47 n48 n49 n50 n51 n52 n53 p l1 ⟨none,0,0⟩ h29 fun r73 h100=>∃ n68:Int,∃ l35 l36:Sl,∃ s8:ByteArray,∃ b16:Bool,parB b16 (∃ n69:Int,r73=.tuple ⟨[.agg ⟨[.int .i64 n68,.slice l35.a l35.n l35.c,.slice l36.a l36.n l36.c,.string s8,.bool true]⟩,.int .i64 n69]⟩∧par ((true:Bool)=true) (tl5 T10 T22 T23 T24 p b l2 J Q n54 n55 n56 l11 l12 s true n57 l13 l14 s1 false n68 l35 l36 s8 true n69 h100) (Q (.bool false) h100)) (∃ n71:Int,r73=.tuple ⟨[.agg ⟨[.int .i64 n68,.slice l35.a l35.n l35.c,.slice l36.a l36.n l36.c,.string s8,.bool false]⟩,.int .i64 n71]⟩∧par ((true:Bool)=true) (tl5 T10 T22 T23 T24 p b l2 J Q n54 n55 n56 l11 l12 s true n57 l13 l14 s1 false n68 l35 l36 s8 false n71 h100) (Q (.bool false) h100))) (r22=.tuple ⟨[.agg ⟨[.int .i64 n57,.slice l13.a l13.n l13.c,.slice l14.a l14.n l14.c,.string s1,.bool false]⟩,.bool false]⟩∧T21 n27 n28 n29 n30 n31 n32 n33 n34 n35 n36 n37 n38 n39 n40 n41 n42 n43 n44 n45 n46 n47 n48 n49 n50 n51 n52 n53 p l1 ⟨none,0,0⟩ h29 fun r98 h135=>∃ n73:Int,∃ l45 l46:Sl,∃ s11:ByteArray,∃ b21:Bool,parB b21 (∃ n74:Int,r98=.tuple ⟨[.agg ⟨[.int .i64 n73,.slice l45.a l45.n l45.c,.slice l46.a l46.n l46.c,.string s11,.bool true]⟩,.int .i64 n74]⟩∧par ((true:Bool)=false) (tl5 T10 T22 T23 T24 p b l2 J Q n54 n55 n56 l11 l12 s true n57 l13 l14 s1 false n73 l45 l46 s11 true n74 h135) (Q (.bool false) h135)) (∃ n76:Int,r98=.tuple ⟨[.agg ⟨[.int .i64 n73,.slice l45.a l45.n l45.c,.slice l46.a l46.n l46.c,.string s11,.bool false]⟩,.int .i64 n76]⟩∧par ((true:Bool)=false) (tl5 T10 T22 T23 T24 p b l2 J Q n54 n55 n56 l11 l12 s true n57 l13 l14 s1 false n73 l45 l46 s11 false n76 h135) (Q (.bool false) h135))))) (r21=.tuple ⟨[.agg ⟨[.int .i64 n56,.slice l11.a l11.n l11.c,.slice l12.a l12.n l12.c,.string s,.bool true]⟩,.bool false]⟩∧T20 n27 n28 n29 n30 n31 n32 n33 n34 n35 n36 n37 n38 n39 n40 n41 n42 n43 n44 n45 n46 n47 n48 n49 n50 n51 n52 n53 p l1 n55 h28 fun r123 h170=>∃ n78:Int,∃ l55 l56:Sl,∃ s14:ByteArray,∃ b26:Bool,parB b26 (∃ b27:Bool,parB b27 (r123=.tuple ⟨[.agg ⟨[.int .i64 n78,.slice l55.a l55.n l55.c,.slice l56.a l56.n l56.c,.string s14,.bool true]⟩,.bool true]⟩∧T21 n27 n28 n29 n30 n31 n32 n33 n34 n35 n36 n37 n38 n39 n40 n41 n42 n43 n44 n45 n46 n47 n48 n49 n50 n51 n52 n53 p l1 ⟨none,0,0⟩ h170 fun r124 h171=>∃ n79:Int,∃ l57 l58:Sl,∃ s15:ByteArray,∃ b28:Bool,parB b28 (∃ n80:Int,r124=.tuple ⟨[.agg ⟨[.int .i64 n79,.slice l57.a l57.n l57.c,.slice l58.a l58.n l58.c,.string s15,.bool true]⟩,.int .i64 n80]⟩∧par ((false:Bool)=true) (tl5 T10 T22 T23 T24 p b l2 J Q n54 n55 n56 l11 l12 s true n78 l55 l56 s14 true n79 l57 l58 s15 true n80 h171) (Q (.bool false) h171)) (∃ n82:Int,r124=.tuple ⟨[.agg ⟨[.int .i64 n79,.slice l57.a l57.n l57.c,.slice l58.a l58.n l58.c,.string s15,.bool false]⟩,.int .i64 n82]⟩∧par ((false:Bool)=true) (tl5 T10 T22 T23 T24 p b l2 J Q n54 n55 n56 l11 l12 s true n78 l55 l56 s14 true n79 l57 l58 s15 false n82 h171) (Q (.bool false) h171))) (r123=.tuple ⟨[.agg ⟨[.int .i64 n78,.slice l55.a l55.n l55.c,.slice l56.a l56.n l56.c,.string s14,.bool true]⟩,.bool false]⟩∧T21 n27 n28 n29 n30 n31 n32 n33 n34 n35 n36 n37 n38 n39 n40 n41 n42 n43 n44 n45 n46 n47 n48 n49 n50 n51 n52 n53 p l1 ⟨none,0,0⟩ h170 fun r149 h206=>∃ n84:Int,∃ l67 l68:Sl,∃ s18:ByteArray,∃ b33:Bool,parB b33 (∃ n85:Int,r149=.tuple ⟨[.agg ⟨[.int .i64 n84,.slice l67.a l67.n l67.c,.slice l68.a l68.n l68.c,.string s18,.bool true]⟩,.int .i64 n85]⟩∧par ((false:Bool)=false) (tl5 T10 T22 T23 T24 p b l2 J Q n54 n55 n56 l11 l12 s true n78 l55 l56 s14 true n84 l67 l68 s18 true n85 h206) (Q (.bool false) h206)) (∃ n87:Int,r149=.tuple ⟨[.agg ⟨[.int .i64 n84,.slice l67.a l67.n l67.c,.slice l68.a l68.n l68.c,.string s18,.bool false]⟩,.int .i64 n87]⟩∧par ((false:Bool)=false) (tl5 T10 T22 T23 T24 p b l2 J Q n54 n55 n56 l11 l12 s true n78 l55 l56 s14 true n84 l67 l68 s18 false n87 h206) (Q (.bool false) h206)))) (∃ b38:Bool,parB b38 (r123=.tuple ⟨[.agg ⟨[.int .i64 n78,.slice l55.a l55.n l55.c,.slice l56.a l56.n l56.c,.string s14,.bool false]⟩,.bool true]⟩∧T21 n27 n28 n29 n30 n31 n32 n33 n34 n35 n36 n37 n38 n39 n40 n41 n42 n43 n44 n45 n46 n47 n48 n49 n50 n51 n52 n53 p l1 ⟨none,0,0⟩ h170 fun r174 h241=>∃ n89:Int,∃ l77 l78:Sl,∃ s21:ByteArray,∃ b39:Bool,parB b39 (∃ n90:Int,r174=.tuple ⟨[.agg ⟨[.int .i64 n89,.slice l77.a l77.n l77.c,.slice l78.a l78.n l78.c,.string s21,.bool true]⟩,.int .i64 n90]⟩∧par ((false:Bool)=true) (tl5 T10 T22 T23 T24 p b l2 J Q n54 n55 n56 l11 l12 s true n78 l55 l56 s14 false n89 l77 l78 s21 true n90 h241) (Q (.bool false) h241)) (∃ n92:Int,r174=.tuple ⟨[.agg ⟨[.int .i64 n89,.slice l77.a l77.n l77.c,.slice l78.a l78.n l78.c,.string s21,.bool false]⟩,.int .i64 n92]⟩∧par ((false:Bool)=true) (tl5 T10 T22 T23 T24 p b l2 J Q n54 n55 n56 l11 l12 s true n78 l55 l56 s14 false n89 l77 l78 s21 false n92 h241) (Q (.bool false) h241))) (r123=.tuple ⟨[.agg ⟨[.int .i64 n78,.slice l55.a l55.n l55.c,.slice l56.a l56.n l56.c,.string s14,.bool false]⟩,.bool false]⟩∧T21 n27 n28 n29 n30 n31 n32 n33 n34 n35 n36 n37 n38 n39 n40 n41 n42 n43 n44 n45 n46 n47 n48 n49 n50 n51 n52 n53 p l1 ⟨none,0,0⟩ h170 fun r199 h276=>∃ n94:Int,∃ l87 l88:Sl,∃ s24:ByteArray,∃ b44:Bool,parB b44 (∃ n95:Int,r199=.tuple ⟨[.agg ⟨[.int .i64 n94,.slice l87.a l87.n l87.c,.slice l88.a l88.n l88.c,.string s24,.bool true]⟩,.int .i64 n95]⟩∧par ((false:Bool)=false) (tl5 T10 T22 T23 T24 p b l2 J Q n54 n55 n56 l11 l12 s true n78 l55 l56 s14 false n94 l87 l88 s24 true n95 h276) (Q (.bool false) h276)) (∃ n97:Int,r199=.tuple ⟨[.agg ⟨[.int .i64 n94,.slice l87.a l87.n l87.c,.slice l88.a l88.n l88.c,.string s24,.bool false]⟩,.int .i64 n97]⟩∧par ((false:Bool)=false) (tl5 T10 T22 T23 T24 p b l2 J Q n54 n55 n56 l11 l12 s true n78 l55 l56 s14 false n94 l87 l88 s24 false n97 h276) (Q (.bool false) h276)))))) (∃ b49:Bool,parB b49 (r21=.tuple ⟨[.agg ⟨[.int .i64 n56,.slice l11.a l11.n l11.c,.slice l12.a l12.n l12.c,.string s,.bool false]⟩,.bool true]⟩∧T20 n27 n28 n29 n30 n31 n32 n33 n34 n35 n36 n37 n38 n39 n40 n41 n42 n43 n44 n45 n46 n47 n48 n49 n50 n51 n52 n53 p l1 n55 h28 fun r224 h311=>∃ n99:Int,∃ l97 l98:Sl,∃ s27:ByteArray,∃ b50:Bool,parB b50 (∃ b51:Bool,parB b51 (r224=.tuple ⟨[.agg ⟨[.int .i64 n99,.slice l97.a l97.n l97.c,.slice l98.a l98.n l98.c,.string s27,.bool true]⟩,.bool true]⟩∧T21 n27 n28 n29 n30 n31 n32 n33 n34 n35 n36 n37 n38 n39 n40 n41 n42 n43 n44 n45 n46 n47 n48 n49 n50 n51 n52 n53 p l1 ⟨none,0,0⟩ h311 fun r225 h312=>∃ n100:Int,∃ l99 l100:Sl,∃ s28:ByteArray,∃ b52:Bool,parB b52 (∃ n101:Int,r225=.tuple ⟨[.agg ⟨[.int .i64 n100,.slice l99.a l99.n l99.c,.slice l100.a l100.n l100.c,.string s28,.bool true]⟩,.int .i64 n101]⟩∧par ((true:Bool)=true) (tl5 T10 T22 T23 T24 p b l2 J Q n54 n55 n56 l11 l12 s false n99 l97 l98 s27 true n100 l99 l100 s28 true n101 h312) (Q (.bool false) h312)) (∃ n103:Int,r225=.tuple ⟨[.agg ⟨[.int .i64 n100,.slice l99.a l99.n l99.c,.slice l100.a l100.n l100.c,.string s28,.bool false]⟩,.int .i64 n103]⟩∧par ((true:Bool)=true) (tl5 T10 T22 T23 T24 p b l2 J Q n54 n55 n56 l11 l12 s false n99 l97 l98 s27 true n100 l99 l100 s28 false n103 h312) (Q (.bool false) h312))) (r224=.tuple ⟨[.agg ⟨[.int .i64 n99,.slice l97.a l97.n l97.c,.slice l98.a l98.n l98.c,.string s27,.bool true]⟩,.bool false]⟩∧T21 n27 n28 n29 n30 n31 n32 n33 n34 n35 n36 n37 n38 n39 n40 n41 n42 n43 n44 n45 n46 n47 n48 n49 n50 n51 n52 n53 p l1 ⟨none,0,0⟩ h311 fun r250 h347=>∃ n105:Int,∃ l109 l110:Sl,∃ s31:ByteArray,∃ b57:Bool,parB b57 (∃ n106:Int,r250=.tuple ⟨[.agg ⟨[.int .i64 n105,.slice l109.a l109.n l109.c,.slice l110.a l110.n l110.c,.string s31,.bool true]⟩,.int .i64 n106]⟩∧par ((true:Bool)=false) (tl5 T10 T22 T23 T24 p b l2 J Q n54 n55 n56 l11 l12 s false n99 l97 l98 s27 true n105 l109 l110 s31 true n106 h347) (Q (.bool false) h347)) (∃ n108:Int,r250=.tuple ⟨[.agg ⟨[.int .i64 n105,.slice l109.a l109.n l109.c,.slice l110.a l110.n l110.c,.string s31,.bool false]⟩,.int .i64 n108]⟩∧par ((true:Bool)=false) (tl5 T10 T22 T23 T24 p b l2 J Q n54 n55 n56 l11 l12 s false n99 l97 l98 s27 true n105 l109 l110 s31 false n108 h347) (Q (.bool false) h347)))) (∃ b62:Bool,parB b62 (r224=.tuple ⟨[.agg ⟨[.int .i64 n99,.slice l97.a l97.n l97.c,.slice l98.a l98.n l98.c,.string s27,.bool false]⟩,.bool true]⟩∧T21 n27 n28 n29 n30 n31 n32 n33 n34 n35 n36 n37 n38 n39 n40 n41 n42 n43 n44 n45 n46 n47 n48 n49 n50 n51 n52 n53 p l1 ⟨none,0,0⟩ h311 fun r275 h382=>∃ n110:Int,∃ l119 l120:Sl,∃ s34:ByteArray,∃ b63:Bool,parB b63 (∃ n111:Int,r275=.tuple ⟨[.agg ⟨[.int .i64 n110,.slice l119.a l119.n l119.c,.slice l120.a l120.n l120.c,.string s34,.bool true]⟩,.int .i64 n111]⟩∧par ((true:Bool)=true) (tl5 T10 T22 T23 T24 p b l2 J Q n54 n55 n56 l11 l12 s false n99 l97 l98 s27 false n110 l119 l120 s34 true n111 h382) (Q (.bool false) h382)) (∃ n113:Int,r275=.tuple ⟨[.agg ⟨[.int .i64 n110,.slice l119.a l119.n l119.c,.slice l120.a l120.n l120.c,.string s34,.bool false]⟩,.int .i64 n113]⟩∧par ((true:Bool)=true) (tl5 T10 T22 T23 T24 p b l2 J Q n54 n55 n56 l11 l12 s false n99 l97 l98 s27 false n110 l119 l120 s34 false n113 h382) (Q (.bool false) h382))) (r224=.tuple ⟨[.agg ⟨[.int .i64 n99,.slice l97.a l97.n l97.c,.slice l98.a l98.n l98.c,.string s27,.bool false]⟩,.bool false]⟩∧T21 n27 n28 n29 n30 n31 n32 n33 n34 n35 n36 n37 n38 n39 n40 n41 n42 n43 n44 n45 n46 n47 n48 n49 n50 n51 n52 n53 p l1 ⟨none,0,0⟩ h311 fun r300 h417=>∃ n115:Int,∃ l129 l130:Sl,∃ s37:ByteArray,∃ b68:Bool,parB b68 (∃ n116:Int,r300=.tuple ⟨[.agg ⟨[.int .i64 n115,.slice l129.a l129.n l129.c,.slice l130.a l130.n l130.c,.string s37,.bool true]⟩,.int .i64 n116]⟩∧par ((true:Bool)=false) (tl5 T10 T22 T23 T24 p b l2 J Q n54 n55 n56 l11 l12 s false n99 l97 l98 s27 false n115 l129 l130 s37 true n116 h417) (Q (.bool false) h417)) (∃ n118:Int,r300=.tuple ⟨[.agg ⟨[.int .i64 n115,.slice l129.a l129.n l129.c,.slice l130.a l130.n l130.c,.string s37,.bool false]⟩,.int .i64 n118]⟩∧par ((true:Bool)=false) (tl5 T10 T22 T23 T24 p b l2 J Q n54 n55 n56 l11 l12 s false n99 l97 l98 s27 false n115 l129 l130 s37 false n118 h417) (Q (.bool false) h417))))) (r21=.tuple ⟨[.agg ⟨[.int .i64 n56,.slice l11.a l11.n l11.c,.slice l12.a l12.n l12.c,.string s,.bool false]⟩,.bool false]⟩∧T20 n27 n28 n29 n30 n31 n32 n33 n34 n35 n36 n37 n38 n39 n40 n41 n42 n43 n44 n45 n46 n47 n48 n49 n50 n51 n52 n53 p l1 n55 h28 fun r325 h452=>∃ n120:Int,∃ l139 l140:Sl,∃ s40:ByteArray,∃ b73:Bool,parB b73 (∃ b74:Bool,parB b74 (r325=.tuple ⟨[.agg ⟨[.int .i64 n120,.slice l139.a l139.n l139.c,.slice l140.a l140.n l140.c,.string s40,.bool true]⟩,.bool true]⟩∧T21 n27 n28 n29 n30 n31 n32 n33 n34 n35 n36 n37 n38 n39 n40 n41 n42 n43 n44 n45 n46 n47 n48 n49 n50 n51 n52 n53 p l1 ⟨none,0,0⟩ h452 fun r326 h453=>∃ n121:Int,∃ l141 l142:Sl,∃ s41:ByteArray,∃ b75:Bool,parB b75 (∃ n122:Int,r326=.tuple ⟨[.agg ⟨[.int .i64 n121,.slice l141.a l141.n l141.c,.slice l142.a l142.n l142.c,.string s41,.bool true]⟩,.int .i64 n122]⟩∧par ((false:Bool)=true) (tl5 T10 T22 T23 T24 p b l2 J Q n54 n55 n56 l11 l12 s false n120 l139 l140 s40 true n121 l141 l142 s41 true n122 h453) (Q (.bool false) h453)) (∃ n124:Int,r326=.tuple ⟨[.agg ⟨[.int .i64 n121,.slice l141.a l141.n l141.c,.slice l142.a l142.n l142.c,.string s41,.bool false]⟩,.int .i64 n124]⟩∧par ((false:Bool)=true) (tl5 T10 T22 T23 T24 p b l2 J Q n54 n55 n56 l11 l12 s false n120 l139 l140 s40 true n121 l141 l142 s41 false n124 h453) (Q (.bool false) h453))) (r325=.tuple ⟨[.agg ⟨[.int .i64 n120,.slice l139.a l139.n l139.c,.slice l140.a l140.n l140.c,.string s40,.bool true]⟩,.bool false]⟩∧T21 n27 n28 n29 n30 n31 n32 n33 n34 n35 n36 n37 n38 n39 n40 n41 n42 n43 n44 n45 n46 n47 n48 n49 n50 n51 n52 n53 p l1 ⟨none,0,0⟩ h452 fun r351 h488=>∃ n126:Int,∃ l151 l152:Sl,∃ s44:ByteArray,∃ b80:Bool,parB b80 (∃ n127:Int,r351=.tuple ⟨[.agg ⟨[.int .i64 n126,.slice l151.a l151.n l151.c,.slice l152.a l152.n l152.c,.string s44,.bool true]⟩,.int .i64 n127]⟩∧par ((false:Bool)=false) (tl5 T10 T22 T23 T24 p b l2 J Q n54 n55 n56 l11 l12 s false n120 l139 l140 s40 true n126 l151 l152 s44 true n127 h488) (Q (.bool false) h488)) (∃ n129:Int,r351=.tuple ⟨[.agg ⟨[.int .i64 n126,.slice l151.a l151.n l151.c,.slice l152.a l152.n l152.c,.string s44,.bool false]⟩,.int .i64 n129]⟩∧par ((false:Bool)=false) (tl5 T10 T22 T23 T24 p b l2 J Q n54 n55 n56 l11 l12 s false n120 l139 l140 s40 true n126 l151 l152 s44 false n129 h488) (Q (.bool false) h488)))) (∃ b85:Bool,parB b85 (r325=.tuple ⟨[.agg ⟨[.int .i64 n120,.slice l139.a l139.n l139.c,.slice l140.a l140.n l140.c,.string s40,.bool false]⟩,.bool true]⟩∧T21 n27 n28 n29 n30 n31 n32 n33 n34 n35 n36 n37 n38 n39 n40 n41 n42 n43 n44 n45 n46 n47 n48 n49 n50 n51 n52 n53 p l1 ⟨none,0,0⟩ h452 fun r376 h523=>∃ n131:Int,∃ l161 l162:Sl,∃ s47:ByteArray,∃ b86:Bool,parB b86 (∃ n132:Int,r376=.tuple ⟨[.agg ⟨[.int .i64 n131,.slice l161.a l161.n l161.c,.slice l162.a l162.n l162.c,.string s47,.bool true]⟩,.int .i64 n132]⟩∧par ((false:Bool)=true) (tl5 T10 T22 T23 T24 p b l2 J Q n54 n55 n56 l11 l12 s false n120 l139 l140 s40 false n131 l161 l162 s47 true n132 h523) (Q (.bool false) h523)) (∃ n134:Int,r376=.tuple ⟨[.agg ⟨[.int .i64 n131,.slice l161.a l161.n l161.c,.slice l162.a l162.n l162.c,.string s47,.bool false]⟩,.int .i64 n134]⟩∧par ((false:Bool)=true) (tl5 T10 T22 T23 T24 p b l2 J Q n54 n55 n56 l11 l12 s false n120 l139 l140 s40 false n131 l161 l162 s47 false n134 h523) (Q (.bool false) h523))) (r325=.tuple ⟨[.agg ⟨[.int .i64 n120,.slice l139.a l139.n l139.c,.slice l140.a l140.n l140.c,.string s40,.bool false]⟩,.bool false]⟩∧T21 n27 n28 n29 n30 n31 n32 n33 n34 n35 n36 n37 n38 n39 n40 n41 n42 n43 n44 n45 n46 n47 n48 n49 n50 n51 n52 n53 p l1 ⟨none,0,0⟩ h452 fun r401 h558=>∃ n136:Int,∃ l171 l172:Sl,∃ s50:ByteArray,∃ b91:Bool,parB b91 (∃ n137:Int,r401=.tuple ⟨[.agg ⟨[.int .i64 n136,.slice l171.a l171.n l171.c,.slice l172.a l172.n l172.c,.string s50,.bool true]⟩,.int .i64 n137]⟩∧par ((false:Bool)=false) (tl5 T10 T22 T23 T24 p b l2 J Q n54 n55 n56 l11 l12 s false n120 l139 l140 s40 false n136 l171 l172 s50 true n137 h558) (Q (.bool false) h558)) (∃ n139:Int,r401=.tuple ⟨[.agg ⟨[.int .i64 n136,.slice l171.a l171.n l171.c,.slice l172.a l172.n l172.c,.string s50,.bool false]⟩,.int .i64 n139]⟩∧par ((false:Bool)=false) (tl5 T10 T22 T23 T24 p b l2 J Q n54 n55 n56 l11 l12 s false n120 l139 l140 s40 false n136 l171 l172 s50 false n139 h558) (Q (.bool false) h558)))))))) (I (IntKind.wrap .i64 (n54+1)) h26∧m (IntKind.wrap .i64 (n54+1)) h26 < m n54 h10))) (Q (.bool false) h23)) (Q (.bool false) h22)) (Q (.bool false) h21)) (Q (.bool false) h18)) (Q (.bool false) h17)) (Q (.bool false) h16)) (Q (.bool false) h15)) (Q (.bool true) h10)))) (Q (.bool true) h2)) (Q (.bool false) h1)
def F5.T:=F5.G F10.T F12.T F13.T F14.T F15.T F16.T F17.T F18.T F19.T F20.T F21.T F22.T F23.T F24.T
theorem F5.gen (V T10 T12 T13 T14 T15 T16 T17 T18 T19 T20 T21 T22 T23 T24 n n1 n2 n3 n4 n5 n6 n7 n8 n9 n10 n11 n12 n13 n14 n15 n16 n17 n18 n19 n20 n21 n22 n23 n24 n25 n26 l l1):denF Tryz.prog [3,18,20,22] [(10,F10.W T10),(12,F12.W T12),(13,F13.W T13),(14,F14.W T14),(15,F15.W T15),(16,F16.W T16),(17,F17.W T17),(18,F18.W T18),(19,F19.W T19),(20,F20.W T20),(21,F21.W T21),(22,F22.W T22),(23,F23.W T23),(24,F24.W T24)] V [(62,.order [0,1,2,3,4,5,6,7,8,9,10,11]),(254,.order [0,1,4,5,2,3,6,7,8,9]),(4090,.loop [(12,.int .i64)] []),(130888,.order [0,1,3,4,2,5,6,7]),(261778,.order [0,1,3,4,2,5,6,7]),(67015678,.loop [(17,.int .i64)] []),(268062713,.join [] []),(34312027294,.orderL [0,1,2,3,5,6,8,9,10,11,4,7,12,13,14] [13]),(68624054591,.join [] [])] Tryz.f5 [.v (.agg ⟨[.int .i64 n,.int .i64 n1,.int .i64 n2,.int .i64 n3,.int .i64 n4,.int .i64 n5,.int .i64 n6,.int .i64 n7,.int .i64 n8,.int .i64 n9,.int .i64 n10,.int .i64 n11,.int .i64 n12,.int .i64 n13,.int .i64 n14,.int .i64 n15,.int .i64 n16,.int .i64 n17,.int .i64 n18,.int .i64 n19,.int .i64 n20,.int .i64 n21,.int .i64 n22,.int .i64 n23,.int .i64 n24,.int .i64 n25,.int .i64 n26]⟩),.v (.slice l.a l.n l.c),.v (.slice l1.a l1.n l1.c)]=F5.G T10 T12 T13 T14 T15 T16 T17 T18 T19 T20 T21 T22 T23 T24 n n1 n2 n3 n4 n5 n6 n7 n8 n9 n10 n11 n12 n13 n14 n15 n16 n17 n18 n19 n20 n21 n22 n23 n24 n25 n26 l l1:=by kernel_rfl
def F5.W (T5:I9 <| I9 <| I9 <| Sl→Sl→PT) (args:List Value):PT:=match args with
 | [.agg ⟨[.int .i64 n,.int .i64 n1,.int .i64 n2,.int .i64 n3,.int .i64 n4,.int .i64 n5,.int .i64 n6,.int .i64 n7,.int .i64 n8,.int .i64 n9,.int .i64 n10,.int .i64 n11,.int .i64 n12,.int .i64 n13,.int .i64 n14,.int .i64 n15,.int .i64 n16,.int .i64 n17,.int .i64 n18,.int .i64 n19,.int .i64 n20,.int .i64 n21,.int .i64 n22,.int .i64 n23,.int .i64 n24,.int .i64 n25,.int .i64 n26]⟩,.slice l_a l_n l_c,.slice l1_a l1_n l1_c]=>T5 n n1 n2 n3 n4 n5 n6 n7 n8 n9 n10 n11 n12 n13 n14 n15 n16 n17 n18 n19 n20 n21 n22 n23 n24 n25 n26 ⟨l_a,l_n,l_c⟩ ⟨l1_a,l1_n,l1_c⟩
 | _=>fun _ _=>False
def F5.V:List Value→PT:=F5.W F5.T
theorem F5.ok:FOk Tryz.prog 5 F5.V:=by
 refine ⟨⟨_,Tryz.func5,rfl,rfl⟩,fun args=>?_⟩
 unfold F5.V F5.W
 split
 ·exact denF_okE (GOk.cons F10.ok (GOk.cons F12.ok (GOk.cons F13.ok (GOk.cons F14.ok (GOk.cons F15.ok (GOk.cons F16.ok (GOk.cons F17.ok (GOk.cons F18.ok (GOk.cons F19.ok (GOk.cons F20.ok (GOk.cons F21.ok (GOk.cons F22.ok (GOk.cons F23.ok (GOk.cons F24.ok (GOk.nil))))))))))))))) noV_ok Tryz.func5 (F5.gen noV F10.T F12.T F13.T F14.T F15.T F16.T F17.T F18.T F19.T F20.T F21.T F22.T F23.T F24.T _ _ _ _ _ _ _ _ _ _ _ _ _ _ _ _ _ _ _ _ _ _ _ _ _ _ _ ⟨_,_,_⟩ ⟨_,_,_⟩)
 ·exact fun _ _ h=>h.elim
end Go.Eng.YtbjnlacacapjiaaGreatDoor
end
section
set_option maxRecDepth 100000
set_option maxHeartbeats 2000000
namespace Go.Eng
theorem kU_ne {a b c d:Nat} (h:b≠d):kU a b≠kU c d:=fun q=>h (by unfold kU at q; simp only [Prod.mk.injEq] at q; exact q.2.2)
theorem Mine.addO {g h':Hp} {m:Mem} {k:Key} {s:Sl} {sz t:Nat} {vs:List Value} (O:Mine g h' m) (N:NewB g s) (B:Buf h' s sz t vs) (off:∀ j y,m j=some y→Off y.s s∧Off s y.s):Mine g h' (m.put k ⟨s,sz,t,vs⟩):=by
 refine ⟨O.keep,fun j y e=>?_,fun j y e=>?_,fun j j' y y' hne e e'=>?_⟩
 ·unfold Mem.put at e
  by_cases hj:j=k
  ·rw [if_pos hj] at e; cases e; exact B
  ·rw [if_neg hj] at e; exact O.buf j y e
 ·unfold Mem.put at e
  by_cases hj:j=k
  ·rw [if_pos hj] at e; cases e; exact N
  ·rw [if_neg hj] at e; exact O.new j y e
 ·unfold Mem.put at e e'
  by_cases hj:j=k
  ·rw [if_pos hj] at e; cases e
   rw [if_neg (fun c=>hne (by rw [hj,c]))] at e'
   exact (off j' y' e').2
  ·rw [if_neg hj] at e
   by_cases hj':j'=k
   ·rw [if_pos hj'] at e'; cases e'
    exact (off j y e).1
   ·rw [if_neg hj'] at e'
    exact O.off j j' y y' hne e e'
section
variable {ks:List KI} {N:Nat} {Z:Nat→Prop} {pb R tB:Nat} {d:Int} {g0:Hp} {u:Mem} {h:Hp} {k:KI} {Q:Value→Hp→Prop} {zs:List Value}
theorem Bk.own2 {h':Hp} {a b c:Nat} {s s':Sl} {sz t sz' t':Nat} {vs vs':List Value} (B:Bk ks N Z pb R tB d g0 u h) (hu:u (kU a b)=none) (hu':u (kU a c)=none) (hbc:b≠c) (K':Keep h h') (hN:NewB h s) (hN':NewB h s') (hB:Buf h' s sz t vs) (hB':Buf h' s' sz' t' vs') (o1:Off s s') (o2:Off s' s):Bk ks N Z pb R tB d g0 ((u.put (kU a b) ⟨s,sz,t,vs⟩).put (kU a c) ⟨s',sz',t',vs'⟩) h':=by
 obtain ⟨g,m,cs,K,M⟩:=B
 have e1:m (kU a b)=none:=by rw [M.uu _ rfl]; exact hu
 have O1:=M.O.add e1 K' hN hB
 have O2:=O1.addO (k:=kU a c) (hN'.mono M.O.keep.dom) hB' (fun j y e=>by
  by_cases hj:j=kU a b
  ·rw [hj,put_self] at e; cases e; exact ⟨o1,o2⟩
  ·rw [put_ne _ _ hj] at e; exact hN'.off (M.O.buf j y e))
 have ne:∀ j:Key,j.1≠3→((m.put (kU a b) ⟨s,sz,t,vs⟩).put (kU a c) ⟨s',sz',t',vs'⟩) j=m j:=fun j hj=>by rw [put_ne _ _ (fun q=>hj (by rw [q]; rfl)),put_ne _ _ (fun q=>hj (by rw [q]; rfl))]
 refine ⟨g,_,cs,K,O2,by rw [ne _ (by decide)]; exact M.hb,by rw [ne _ (by decide)]; exact M.kt,M.c0,M.c1,M.c2,M.c3,M.nn,fun k hk=>(M.kk k hk).cong (Keep.refl g) (Nat.le_refl _) id (fun _=>ne _ (kA3 _ _)) (fun _=>ne _ (kL3 _ _)) (fun _=>ne _ (kO3 _ _)) (fun _ _=>rfl),M.dk,fun j hj=>?_⟩
 unfold Mem.put
 by_cases q:j=kU a c
 ·rw [if_pos q,if_pos q]
 ·rw [if_neg q,if_neg q]
  by_cases q':j=kU a b
  ·rw [if_pos q',if_pos q']
  ·rw [if_neg q',if_neg q']; exact M.uu j hj
theorem Bk.clear (B:Bk ks N Z pb R tB d g0 u h):Bk ks N Z pb R tB d g0 (fun _=>none) h:=by
 obtain ⟨g,m,cs,K,M⟩:=B
 have ne:∀ j:Key,j.1≠3→(if j.1=3 then none else m j)=m j:=fun j hj=>if_neg hj
 refine ⟨g,fun j=>if j.1=3 then none else m j,cs,K,M.O.sub (fun j x e=>?_),by rw [ne _ (by decide)]; exact M.hb,by rw [ne _ (by decide)]; exact M.kt,M.c0,M.c1,M.c2,M.c3,M.nn,fun k hk=>(M.kk k hk).cong (Keep.refl g) (Nat.le_refl _) id (fun _=>ne _ (kA3 _ _)) (fun _=>ne _ (kL3 _ _)) (fun _=>ne _ (kO3 _ _)) (fun _ _=>rfl),M.dk,fun j hj=>if_pos hj⟩
 by_cases hj:j.1=3
 ·rw [if_pos hj] at e; cases e
 ·rw [if_neg hj] at e; exact e
end
end Go.Eng
namespace Go.Eng.YtbjnlacacapjiaaGreatDoor
open Go.Eng
section
variable {N:Nat} {Z:Nat→Prop} {pb R tB:Nat} {d:Int} {g0:Hp} {u:Mem} {h:Hp} {Q:Value→Hp→Prop}
abbrev Zr (c:Nat):Prop:=∃ k∈kinds,k.c=c
theorem Zr_all:∀ k∈kinds,Zr k.c:=fun k hk=>⟨k,hk,rfl⟩
theorem job_ {a:Nat} {l l1:Sl} {A B:List Tab} {n mark:Int} {s:ByteArray} {b:Bool} (Bk0:Bk kinds N Zr pb R tB 0 g0 u h) (hN:N+2≤400000) (hu:u (kU a 0)=some ⟨l,6,63,tabV A⟩) (hu':u (kU a 1)=some ⟨l1,6,63,tabV B⟩) (hl:l.n≤60000) (hl1:l1.n≤60000)
  (hQ:∀ h',Bk kinds (N+2) Zr pb R tB 0 g0 ((u.del (kU a 0)).del (kU a 1)) h'→Q (.tuple ⟨[]⟩) h'):F23.T (some ⟨pb,0,none⟩) n l l1 s b mark h Q:=by
 unfold F23.T F23.G
 obtain ⟨g,m,cs,K,M⟩:=Bk0
 obtain ⟨w,M1⟩:=Bk.setC (v:=.int .i64 (IntKind.wrap .i64 (0+1))) (d':=1) M M.c3 (.inr rfl) (fun q=>by omega) (fun _=>rfl)
 refine ⟨pb,0,rfl,0,M.O.cell M.hb M.c3,pb,0,rfl,w,?_⟩
 have B1:Bk kinds N Zr pb R tB 1 g0 u _:=⟨g,_,_,K,M1⟩
 refine add7 B1 (by omega) (by decide) (fun _=>Zr_all) hu (cols_tabV _) (by omega) fun h2 B2=>?_
 refine add7 B2 (by omega) (by decide) (fun _=>Zr_all) (by rw [del_ne (k:=kU a 0) (j:=kU a 1) _ (kU_ne (by decide))]; exact hu') (cols_tabV _) (by omega) fun h3 B3=>?_
 exact done_ B3 (by omega) rfl (fun _=>Zr_all) hQ
theorem held_s {g:Hp} {vb:Nat} {ls l:Sl} {xs:List (Sl×List Tab)} (V:Ver g h vb ls xs) (P:PkOk xs) (L:LT h l (xs.map (·.2))) (hQ:∀ h',Keep h h'→Q (.bool true) h'):F24.T (some ⟨vb,0,none⟩) l h Q:=by
 obtain ⟨ys,BL,BT,ey⟩:=L
 have hln:l.n=ys.length:=by have:=BL.len; rw [slV_length,List.length_map] at this; omega
 have hyx:ys.length=xs.length:=by have:=congrArg List.length ey; simpa using this
 have hx:=P.len
 unfold F24.T F24.G
 refine ⟨fun n h1=>∃ i:Nat,n=(i:Int)∧i≤ys.length∧Keep h h1,fun n _=>ys.length - n.toNat,⟨0,rfl,Nat.zero_le _,Keep.refl h⟩,?_⟩
 rintro n h1 ⟨i,rfl,hi,K1⟩
 refine ⟨fun hlt=>?_,fun hge=>?_⟩
 ·have hi1:i < ys.length:=by omega
  obtain ⟨_,b,o,ha,hat⟩:=rows_rd (BL.keep K1).row (i:=i) (List.getElem?_eq_getElem hi1)
  refine ⟨b,o,ha,⟨by omega,by omega⟩,ys[i].1,by rw [Int.toNat_natCast]; exact hat,?_⟩
  have exi:xs[i]?=some xs[i]:=List.getElem?_eq_getElem (by omega)
  have e2:ys[i].2=xs[i].2:=by
   have:=congrArg (fun q=>q[i]?) ey
   simp only [List.getElem?_map,exi,List.getElem?_eq_getElem hi1,Option.map_some,Option.some.injEq] at this
   exact this
  refine tables_s (V.keep K1) P.sz fun h2 r K2 B2 N2=>⟨r,rfl,by rw [Int.toNat_natCast]; exact keep_at K2 hat,?_⟩
  have B1:=(BT _ (List.getElem_mem hi1)).keep (K1.trans K2)
  rw [tabsI_nat xs exi] at B2
  refine sameT_s B2.row B1.row (P.sz _ (List.getElem_mem _)) (fun _=>⟨true,rfl,fun _=>?_,fun q=>Bool.noConfusion q⟩) (fun q=>absurd e2.symm q)
  rw [nx_i hi1 (by omega)]
  exact ⟨⟨i+1,rfl,hi1,K1.trans K2⟩,by dsimp only; omega⟩
 ·exact levels_spec (V.keep K1) ⟨_,rfl,fun _=>hQ _ K1,fun q=>absurd (by omega) q⟩
theorem parB_t {b:Bool} {T F:Prop} (e:b=true) (h:T):parB b T F:=⟨fun _=>h,fun q=>by rw [e] at q; cases q⟩
theorem parB_f {b:Bool} {T F:Prop} (e:b=false) (h:F):parB b T F:=⟨fun q=>by rw [e] at q; (cases q),fun _=>h⟩
theorem tail_s {g:Hp} {vb:Nat} {ls l2 l11 l12 l13 l14 l15 l16:Sl} {xs:List (Sl×List Tab)} {j k:Jb} {n58 n59 k1 k2 k3:Int} {s2:ByteArray} {b5:Bool} {J:Hp→Prop} (V:Ver g g0 vb ls xs) (P:PkOk xs) (L:LT g0 l2 (xs.map (·.2))) (B0:Bk kinds N Zr pb R tB 0 g0 u h) (hN:N+6≤300000)
  (e1:u (kU 1 0)=some ⟨l11,6,63,tabV j.up⟩) (e2:u (kU 1 1)=some ⟨l12,6,63,tabV j.lo⟩) (e3:u (kU 2 0)=some ⟨l13,6,63,tabV j.up⟩) (e4:u (kU 2 1)=some ⟨l14,6,63,tabV j.lo⟩) (e5:u (kU 3 0)=some ⟨l15,6,63,tabV k.up⟩) (e6:u (kU 3 1)=some ⟨l16,6,63,tabV k.lo⟩) (e7:u (kU 4 0)=none) (e8:u (kU 4 1)=none) (e9:u (kU 4 2)=none)
  (hj:j.up.length≤60000∧j.lo.length≤60000) (hk:k.up.length≤60000∧k.lo.length≤60000)
  (hJ:∀ h' N',N'≤N+6→Bk kinds N' Zr pb R tB 0 g0 (fun _=>none) h'→J h') :
  F22.T j.lv l11 l12 j.cut j.mv j.lv l13 l14 j.cut j.mv h fun r24 h31=>retB r24 (∃ vs2,h31.row l13.a (l13.n*6) vs2∧(∀ v∈vs2,Value.oneCell' v=true)∧appendD ⟨none,0,0⟩ 63 6 64 [.int .u64 0,.int .i64 0,.int .i64 0,.int .i64 0,.string ⟨#[]⟩,.string ⟨#[]⟩] l13.n vs2 h31 fun l17 h32=>∃ vs3,h32.row l14.a (l14.n*6) vs3∧(∀ v∈vs3,Value.oneCell' v=true)∧appendD ⟨none,0,0⟩ 63 6 64 [.int .u64 0,.int .i64 0,.int .i64 0,.int .i64 0,.string ⟨#[]⟩,.string ⟨#[]⟩] l14.n vs3 h32 fun l18 h33=>nw h33 (.cells ⟨[.int .i64 0,.slice none 0 0,.slice none 0 0,.string ⟨#[]⟩,.bool false]⟩ 79 (0,0)) fun b6 h34=>st h34 b6 0 5 [.int .i64 j.lv,.slice l17.a l17.n l17.c,.slice l18.a l18.n l18.c,.string j.cut,.bool j.mv] fun h35=>F23.T (some ⟨pb,0,none⟩) j.lv l11 l12 j.cut j.mv k1 h35 fun r25 h36=>∃ J1:Hp→Prop,(∀ h37:Hp,J1 h37→F23.T (some ⟨pb,0,none⟩) j.lv l13 l14 j.cut j.mv k2 h37 fun r26 h38=>par (n59=2) (F23.T (some ⟨pb,0,none⟩) n58 l15 l16 s2 b5 k3 h38 fun r27 h39=>F24.T (some ⟨vb,0,none⟩) l2 h39 fun r28 h40=>retB r28 (F10.T (some ⟨pb,0,none⟩) h40 fun r29 h41=>retB r29 (J h41) (Q (.bool false) h41)) (Q (.bool false) h40)) (F24.T (some ⟨vb,0,none⟩) l2 h38 fun r30 h42=>retB r30 (F10.T (some ⟨pb,0,none⟩) h42 fun r31 h43=>retB r31 (J h43) (Q (.bool false) h43)) (Q (.bool false) h42)))∧(ldI .i64 h36 b6 0 fun n60=>ldS h36 b6 1 fun l19=>ldS h36 b6 2 fun l20=>ldT h36 b6 3 fun s3=>∃ b7:Bool,parB b7 (h36.at b6 4=some (.bool true)∧F22.T j.lv l13 l14 j.cut j.mv n60 l19 l20 s3 true h36 fun r32 h44=>retB r32 (F10.T (some ⟨pb,0,none⟩) h44 fun r33 h45=>retB r33 (J1 h45) (Q (.bool false) h45)) (Q (.bool false) h44)) (h36.at b6 4=some (.bool false)∧F22.T j.lv l13 l14 j.cut j.mv n60 l19 l20 s3 false h36 fun r34 h46=>retB r34 (F10.T (some ⟨pb,0,none⟩) h46 fun r35 h47=>retB r35 (J1 h47) (Q (.bool false) h47)) (Q (.bool false) h46)))) (Q (.bool false) h31):=by
 have tn:∀ {h:Hp} {l:Sl} {ts:List Tab},Buf h l 6 63 (tabV ts)→l.n=ts.length:=fun B=>TB.n B
 have X1:=B0.buf e1
 have X2:=B0.buf e2
 have X3:=B0.buf e3
 have X4:=B0.buf e4
 have X5:=B0.buf e5
 have X6:=B0.buf e6
 refine sameJ_s X1.row X2.row X3.row X4.row hj.1 hj.2 (fun _=>⟨true,rfl,fun _=>?_,fun q=>Bool.noConfusion q⟩) (fun q=>absurd rfl q)
 refine ⟨tabV j.up,X3.row,tab_one _,?_⟩
 refine append_buf (Buf.nil h 6 63) rfl (by rw [tn X3,tabV_len]) (by have:=tn X3; dsimp only at this; show (0+l13.n)*64≤_; omega) fun l17 h32 Y1 hn1 U1=>?_
 rw [List.nil_append] at Y1
 have K1:Keep h h32:=keepB (Keep.refl h) (.inl rfl) U1
 have N1:NewB h l17:=newB (Keep.refl h) (.inl rfl) U1
 have B1:=B0.own e7 K1 N1 Y1
 refine ⟨tabV j.lo,(X4.keep K1).row,tab_one _,?_⟩
 refine append_buf (Buf.nil h32 6 63) rfl (by rw [tn X4,tabV_len]) (by have:=tn X4; dsimp only at this; show (0+l14.n)*64≤_; omega) fun l18 h33 Y2 hn2 U2=>?_
 rw [List.nil_append] at Y2
 have K2:Keep h32 h33:=keepB (Keep.refl h32) (.inl rfl) U2
 have N2:NewB h32 l18:=newB (Keep.refl h32) (.inl rfl) U2
 have B2:=B1.own (a:=4) (b:=1) (by rw [put_ne (k:=kU 4 0) (j:=kU 4 1) _ _ (kU_ne (by decide))]; exact e8) K2 N2 Y2
 intro b6 hb6
 have K3:=Keep.new hb6 (.cells ⟨[.int .i64 0,.slice none 0 0,.slice none 0 0,.string ⟨#[]⟩,.bool false]⟩ 79 (0,0))
 have Y3:=buf_new (h:=h33) (b:=b6) (t:=79) (sz:=5) (n:=1) [.int .i64 0,.slice none 0 0,.slice none 0 0,.string ⟨#[]⟩,.bool false] rfl
 obtain ⟨b6',ha6,hc6,U3,Y4⟩:=buf_wr (A:=[]) (B:=[]) (U:=[.int .i64 0,.slice none 0 0,.slice none 0 0,.string ⟨#[]⟩,.bool false]) (V:=[.int .i64 j.lv,.slice l17.a l17.n l17.c,.slice l18.a l18.n l18.c,.string j.cut,.bool j.mv]) Y3 rfl (by decide)
 cases ha6
 refine ⟨hc6,?_⟩
 have N3:NewB h33 ⟨some ⟨b6,0,none⟩,1,1⟩:=.inr ⟨b6,rfl,hb6⟩
 have B3:=B2.own (a:=4) (b:=2) (by rw [put_ne (k:=kU 4 1) (j:=kU 4 2) _ _ (kU_ne (by decide)),put_ne (k:=kU 4 0) (j:=kU 4 2) _ _ (kU_ne (by decide))]; exact e9) (keepB K3 N3 U3) N3 Y4
 generalize (h33.new b6 _).wr b6 _ _=h35 at B3 ⊢
 have u3:∀ a b,a≠4→(((u.put (kU 4 0) ⟨l17,6,63,tabV j.up⟩).put (kU 4 1) ⟨l18,6,63,tabV j.lo⟩).put (kU 4 2) ⟨⟨some ⟨b6,0,none⟩,1,1⟩,5,79,[]++([.int .i64 j.lv,.slice l17.a l17.n l17.c,.slice l18.a l18.n l18.c,.string j.cut,.bool j.mv]++[])⟩) (kU a b)=u (kU a b):=fun a b hab=>by
  have q:∀ c,kU a b≠kU 4 c:=fun c q=>hab (by unfold kU at q; simp only [Prod.mk.injEq] at q; exact q.2.1)
  rw [put_ne _ _ (q _),put_ne _ _ (q _),put_ne _ _ (q _)]
 have v0:(((u.put (kU 4 0) ⟨l17,6,63,tabV j.up⟩).put (kU 4 1) ⟨l18,6,63,tabV j.lo⟩).put (kU 4 2) ⟨⟨some ⟨b6,0,none⟩,1,1⟩,5,79,[]++([.int .i64 j.lv,.slice l17.a l17.n l17.c,.slice l18.a l18.n l18.c,.string j.cut,.bool j.mv]++[])⟩) (kU 4 0)=some ⟨l17,6,63,tabV j.up⟩:=by rw [put_ne _ _ (kU_ne (by decide)),put_ne _ _ (kU_ne (by decide)),put_self]
 have v1:(((u.put (kU 4 0) ⟨l17,6,63,tabV j.up⟩).put (kU 4 1) ⟨l18,6,63,tabV j.lo⟩).put (kU 4 2) ⟨⟨some ⟨b6,0,none⟩,1,1⟩,5,79,[]++([.int .i64 j.lv,.slice l17.a l17.n l17.c,.slice l18.a l18.n l18.c,.string j.cut,.bool j.mv]++[])⟩) (kU 4 1)=some ⟨l18,6,63,tabV j.lo⟩:=by rw [put_ne _ _ (kU_ne (by decide)),put_self]
 have v2:=put_self ((u.put (kU 4 0) ⟨l17,6,63,tabV j.up⟩).put (kU 4 1) ⟨l18,6,63,tabV j.lo⟩) (kU 4 2) ⟨⟨some ⟨b6,0,none⟩,1,1⟩,5,79,[]++([.int .i64 j.lv,.slice l17.a l17.n l17.c,.slice l18.a l18.n l18.c,.string j.cut,.bool j.mv]++[])⟩
 generalize ((u.put (kU 4 0) _).put (kU 4 1) _).put (kU 4 2) _=w at B3 u3 v0 v1 v2
 have f1:=(u3 1 0 (by decide)).trans e1
 have f2:=(u3 1 1 (by decide)).trans e2
 have f3:=(u3 2 0 (by decide)).trans e3
 have f4:=(u3 2 1 (by decide)).trans e4
 have f5:=(u3 3 0 (by decide)).trans e5
 have f6:=(u3 3 1 (by decide)).trans e6
 have bd:∀ {h:Hp} {l:Sl} {ts:List Tab},Buf h l 6 63 (tabV ts)→ts.length≤60000→l.n≤60000:=fun B hl=>by rw [tn B]; exact hl
 have dl:∀ {a b c d:Nat} {m:Mem},a≠c→((m.del (kU c d)).del (kU c b)) (kU a 0)=m (kU a 0):=fun {a b c d m} hac=>by
  have q:∀ e f,kU a e≠kU c f:=fun e f q=>hac (by unfold kU at q; simp only [Prod.mk.injEq] at q; exact q.2.1)
  rw [del_ne _ (q _ _),del_ne _ (q _ _)]
 have dm:∀ {a e b c d:Nat} {m:Mem},a≠c→((m.del (kU c d)).del (kU c b)) (kU a e)=m (kU a e):=fun {a e b c d m} hac=>by
  have q:∀ e f,kU a e≠kU c f:=fun e f q=>hac (by unfold kU at q; simp only [Prod.mk.injEq] at q; exact q.2.1)
  rw [del_ne _ (q _ _),del_ne _ (q _ _)]
 refine job_ B3 (by omega) f1 f2 (bd X1 hj.1) (bd X2 hj.2) fun h36 B4=>?_
 have lst:∀ (h':Hp) (N':Nat) (u':Mem),N'≤N+6→Bk kinds N' Zr pb R tB 0 g0 u' h'→F24.T (some ⟨vb,0,none⟩) l2 h' fun r28 h40=>retB r28 (F10.T (some ⟨pb,0,none⟩) h40 fun r29 h41=>retB r29 (J h41) (Q (.bool false) h41)) (Q (.bool false) h40):=fun h' N' u' hN' B'=>by
  obtain ⟨ys,L1,L2,L3⟩:=L
  refine held_s (V.keep B'.keep) P ⟨ys,L1.keep B'.keep,fun y hy=>(L2 y hy).keep B'.keep,L3⟩ fun h'' K''=>⟨true,rfl,fun _=>?_,fun q=>Bool.noConfusion q⟩
  have B'':=B'.keepH K''
  exact hold_ B'' (by omega) Zr_all ⟨true,rfl,fun _=>hJ _ _ hN' B''.clear,fun q=>Bool.noConfusion q⟩
 refine ⟨fun h'=>Bk kinds (N+2) Zr pb R tB 0 g0 ((w.del (kU 1 0)).del (kU 1 1)) h',fun h37 B5=>?_,?_⟩
 ·refine job_ B5 (by omega) ((dm (by decide)).trans f3) ((dm (by decide)).trans f4) (bd X3 hj.1) (bd X4 hj.2) fun h38 B6=>⟨fun _=>?_,fun _=>?_⟩
  ·exact job_ B6 (by omega) ((dm (by decide)).trans ((dm (by decide)).trans f5)) ((dm (by decide)).trans ((dm (by decide)).trans f6)) (bd X5 hk.1) (bd X6 hk.2) fun h39 B7=>lst _ _ _ (by omega) B7
  ·exact lst _ _ _ (by omega) B6
 ·have Z0:=B4.buf ((dm (by decide)).trans v0)
  have Z1:=B4.buf ((dm (by decide)).trans v1)
  have Z2:=B4.buf ((dm (by decide)).trans v2)
  have rd:∀ c v,([.int .i64 j.lv,.slice l17.a l17.n l17.c,.slice l18.a l18.n l18.c,.string j.cut,.bool j.mv]:List Value)[c]?=some v→h36.at b6 c=some v:=fun c v hv=>by
   obtain ⟨b,hb,ha⟩:=buf_at Z2 (k:=c) (by have:=(List.getElem?_eq_some_iff.1 hv).1; simpa using this)
   cases hb
   rw [Nat.zero_add] at ha
   rw [ha]; simpa using hv
  have X3':=B4.buf ((dm (by decide)).trans f3)
  have X4':=B4.buf ((dm (by decide)).trans f4)
  refine ⟨j.lv,rd 0 _ rfl,l17,rd 1 _ rfl,l18,rd 2 _ rfl,j.cut,rd 3 _ rfl,j.mv,?_⟩
  cases hmv:j.mv with
  | true=>
   refine parB_t rfl ⟨by rw [← hmv]; exact rd 4 _ rfl,?_⟩
   have e:F22.T j.lv l13 l14 j.cut true j.lv l17 l18 j.cut true=F22.T j.lv l13 l14 j.cut j.mv j.lv l17 l18 j.cut j.mv:=by rw [hmv]
   rw [e]
   exact sameJ_s X3'.row X4'.row Z0.row Z1.row hj.1 hj.2 (fun _=>⟨true,rfl,fun _=>hold_ B4 (by omega) Zr_all ⟨true,rfl,fun _=>B4,fun q=>Bool.noConfusion q⟩,fun q=>Bool.noConfusion q⟩) (fun q=>absurd rfl q)
  | false=>
   refine parB_f rfl ⟨by rw [← hmv]; exact rd 4 _ rfl,?_⟩
   have e:F22.T j.lv l13 l14 j.cut false j.lv l17 l18 j.cut false=F22.T j.lv l13 l14 j.cut j.mv j.lv l17 l18 j.cut j.mv:=by rw [hmv]
   rw [e]
   exact sameJ_s X3'.row X4'.row Z0.row Z1.row hj.1 hj.2 (fun _=>⟨true,rfl,fun _=>hold_ B4 (by omega) Zr_all ⟨true,rfl,fun _=>B4,fun q=>Bool.noConfusion q⟩,fun q=>Bool.noConfusion q⟩) (fun q=>absurd rfl q)
end
end Go.Eng.YtbjnlacacapjiaaGreatDoor
end
section
set_option maxRecDepth 100000
set_option maxHeartbeats 4000000
namespace Go.Eng.YtbjnlacacapjiaaGreatDoor
open Go.Eng
def zJ:Jb:=⟨0,[],[],⟨#[]⟩,false⟩
def inpR (fan:Int) (xs:List (Sl×List Tab)) (ptrs:List ByteArray) (lv:Int):Jb×Bool:=match inputsM fan xs ptrs lv with
 | some j=>(j,true)
 | none=>(zJ,false)
theorem inpR_sz {fan lv:Int} {xs:List (Sl×List Tab)} {ptrs:List ByteArray} {j:Jb} {ok:Bool} (P:PkOk xs) (e:inpR fan xs ptrs lv=(j,ok)):j.up.length≤60000∧j.lo.length≤60000:=by
 unfold inpR at e
 cases h:inputsM fan xs ptrs lv with
 | none=>rw [h] at e; cases e; decide
 | some j'=>rw [h] at e; cases e; exact inputs_sz P h
theorem next_sz {fan:Int} {xs:List (Sl×List Tab)} {ptrs:List ByteArray} {lk:List Int} {j:Jb} (P:PkOk xs):∀ (o:List Nat) (R:Nat→Bool),nextL fan xs ptrs lk R o=some j→j.up.length≤60000∧j.lo.length≤60000
 | [],R,e=>by cases e
 | i::w,R,e=>by
  unfold nextL at e
  cases h:inputsM fan xs ptrs (i:Int) with
  | none=>rw [h] at e; exact next_sz P w _ e
  | some j'=>
   rw [h] at e
   dsimp only at e
   split at e
   ·cases e; exact inputs_sz P h
   ·exact next_sz P w _ e
theorem iV_nV3 (o:List Nat):iV o=nV3 (o.map fun i:Nat=>(i:Int)):=by unfold iV nV3; rw [List.map_map]; rfl
theorem nV3_one (l:List Int):∀ v∈nV3 l,Value.oneCell' v=true:=fun v hv=>by
 obtain ⟨x,_,e⟩:=List.mem_map.1 hv
 rw [← e]; rfl
section
variable {g h h':Hp} {vb b:Nat} {ls l l1 l2 l3:Sl} {xs:List (Sl×List Tab)} {Q:Value→Hp→Prop} {n n1 n2 n3 n4 n5 n6 n7 n8 n9 n10 n11 n12 n13 n14 n15 n16 n17 n18 n19 n20 n21 n22 n23 n24 n25 n26:Int}
theorem inp_s {ptrs:List ByteArray} {level:Int} {j:Jb} {ok:Bool} (e:inpR n12 xs ptrs level=(j,ok)) (V:Ver g h vb ls xs) (P:PkOk xs) (O:CfOk n5 n7 n8 n9 n10 n12) (h8:n8=(xs.length:Int)) (B:h.row l.a l.n (ptrV ptrs)) (hlv:level < 9223372036854775808)
  (hQ:∀ h' l1 l2,Keep h h'→TB h' l1 j.up→NewB h l1→TB h' l2 j.lo→NewB h l2→Off l1 l2→Off l2 l1→Q (.tuple ⟨[.agg ⟨[.int .i64 j.lv,.slice l1.a l1.n l1.c,.slice l2.a l2.n l2.c,.string j.cut,.bool j.mv]⟩,.bool ok]⟩) h'):F20.T n n1 n2 n3 n4 n5 n6 n7 n8 n9 n10 n11 n12 n13 n14 n15 n16 n17 n18 n19 n20 n21 n22 n23 n24 n25 n26 (some ⟨vb,0,none⟩) l level h Q:=by
 unfold inpR at e
 refine inputs_s V P O h8 B hlv (fun en h' K=>?_) (fun k ek h' l1 l2 K B1 N1 B2 N2 o1 o2=>?_)
 ·rw [en] at e
  cases e
  exact hQ h' ⟨none,0,0⟩ ⟨none,0,0⟩ K (Buf.nil _ _ _) (.inl rfl) (Buf.nil _ _ _) (.inl rfl) (fun _ _ _ q=>by cases q) (fun _ _ _ q=>by cases q)
 ·rw [ek] at e
  cases e
  exact hQ h' l1 l2 K B1 N1 B2 N2 o1 o2
theorem nx_s {ptrs:List ByteArray} (V:Ver g h vb ls xs) (P:PkOk xs) (O:CfOk n5 n7 n8 n9 n10 n12) (h8:n8=(xs.length:Int)) (B:h.row l.a l.n (ptrV ptrs))
  (hQ:∀ (j:Jb) (k:Int) h' l1 l2,j.up.length≤60000∧j.lo.length≤60000→Keep h h'→TB h' l1 j.up→NewB h l1→TB h' l2 j.lo→NewB h l2→Off l1 l2→Off l2 l1→Q (.tuple ⟨[.agg ⟨[.int .i64 j.lv,.slice l1.a l1.n l1.c,.slice l2.a l2.n l2.c,.string j.cut,.bool j.mv]⟩,.int .i64 k]⟩) h'):F21.T n n1 n2 n3 n4 n5 n6 n7 n8 n9 n10 n11 n12 n13 n14 n15 n16 n17 n18 n19 n20 n21 n22 n23 n24 n25 n26 (some ⟨vb,0,none⟩) l ⟨none,0,0⟩ h Q:=by
 refine next_s (lk:=[]) V P O h8 B ⟨rfl,.inl rfl⟩ (by decide) (fun o ho en h' K=>?_) (fun o j ho ek h' u1 u2 K B1 N1 B2 N2 o1 o2=>?_)
 ·exact hQ zJ _ h' ⟨none,0,0⟩ ⟨none,0,0⟩ (by decide) K (Buf.nil _ _ _) (.inl rfl) (Buf.nil _ _ _) (.inl rfl) (fun _ _ _ q=>by cases q) (fun _ _ _ q=>by cases q)
 ·exact hQ j _ h' u1 u2 (next_sz P _ _ ek) K B1 N1 B2 N2 o1 o2
end
def kc0:List Value:=[.slice none 0 0,.slice none 0 0,.slice none 0 0,.slice none 0 0,.slice none 0 0,.slice none 0 0,.slice none 0 0,.slice none 0 0,.int .i64 0]
def bk0:List Value:=[.bool false,.bool false,.int .i64 0,.int .i64 0]++(List.range 19).flatMap fun _=>kc0
theorem bk0_at {c f:Nat} (hc:c < 19) (hf:f < 9):bk0[4+9*c+f]?=kc0[f]?:=by
 unfold bk0
 rw [List.getElem?_append_right (by simp; omega),show 4+9*c+f - ([.bool false,.bool false,.int .i64 0,.int .i64 0]:List Value).length=c*9+f by simp; omega]
 rw [flatG (fun _=>kc0) 9 (fun _=>rfl) (List.range 19) c f (by rw [List.length_range]; exact hc) hf]
theorem book_new {h:Hp} {b:Nat} (hb:h b=none):Bk kinds 0 Zr b 175 45 0 h (fun _=>none) (h.new b (.cells ⟨bk0⟩ 45 (0,0))):=by
 refine (Bk.start (cs:=bk0) (h':=h) hb rfl rfl rfl rfl rfl (fun c hc f hf=>?_) (fun c hc=>?_) (fun k hk=>?_) kinds_d).mono fun _ _ _=>trivial
 ·rw [bk0_at hc (by omega)]
  match f,hf with
  | 0,_=>rfl
  | 1,_=>rfl
  | 2,_=>rfl
  | 3,_=>rfl
  | 4,_=>rfl
  | 5,_=>rfl
  | 6,_=>rfl
  | 7,_=>rfl
  | f+8,h=>omega
 ·rw [bk0_at hc (by omega)]; rfl
 ·simp only [kinds,List.mem_cons,List.not_mem_nil,or_false] at hk
  rcases hk with rfl | rfl <;> decide
theorem ex_bt {T F:Prop} (h:T):∃ b:Bool,parB b T F:=⟨true,fun _=>h,fun q=>Bool.noConfusion q⟩
theorem ex_bf {T F:Prop} (h:F):∃ b:Bool,parB b T F:=⟨false,fun q=>Bool.noConfusion q,fun _=>h⟩
section
variable {g h h':Hp} {vb b:Nat} {ls l l1 l2 l3:Sl} {xs:List (Sl×List Tab)} {Q:Value→Hp→Prop} {n n1 n2 n3 n4 n5 n6 n7 n8 n9 n10 n11 n12 n13 n14 n15 n16 n17 n18 n19 n20 n21 n22 n23 n24 n25 n26:Int}
theorem pfresh_s {inn:List Placed} {ptrs:List ByteArray} (hin:h.row l.a (l.n*7) (inV inn)) (hlc:l.n≤l.c) (hr:∀ p∈inn,-9223372036854775808≤p.lv∧-9223372036854775808≤p.weight) (RP:h.row l1.a l1.n (ptrV ptrs)) (hlp:l1.n < 9223372036854775807)
  (r5:-9223372036854775808≤n5) (r7:-9223372036854775808≤n7) (r8:-9223372036854775808≤n8) (r9:-9223372036854775808≤n9) (r10:-9223372036854775808≤n10) (r12:-9223372036854775808≤n12)
  (hQ:∀ h',Keep h h'→Q (.bool true) h'):F5.T n n1 n2 n3 n4 n5 n6 n7 n8 n9 n10 n11 n12 n13 n14 n15 n16 n17 n18 n19 n20 n21 n22 n23 n24 n25 n26 l l1 h Q:=by
 unfold F5.T F5.G
 refine known_s fun h1 K1=>⟨_,rfl,fun _=>?_,fun hh=>Bool.noConfusion hh⟩
 refine few_s (K1.row RP) hlp fun h2 r K2=>⟨r,rfl,fun _=>?_,fun _=>hQ _ (K1.trans K2)⟩
 have K02:=K1.trans K2
 refine right_s r5 r7 r8 r9 r10 r12 fun m5 m7 m8 m9 m10 m12 O=>⟨_,_,_,_,_,_,_,_,_,_,_,_,_,_,_,_,_,_,_,_,_,_,_,_,_,_,_,rfl,?_⟩
 have hmin:∃ k:Nat,iMin (l.n:Int) 40=(k:Int)∧k≤l.n:=by
  unfold iMin
  split
  ·exact ⟨40,rfl,by omega⟩
  ·exact ⟨l.n,rfl,Nat.le_refl _⟩
 obtain ⟨k,hk,hkl⟩:=hmin
 rw [hk,cut0]
 refine ⟨⟨by decide,by omega,by omega,by omega⟩,?_⟩
 have hil:l.n=inn.length:=by have:=hin.1; rw [inV_len] at this; omega
 have hin':h2.row l.a (k*7) (inV (inn.take k)):=by
  have e:inV inn=inV (inn.take k)++inV (inn.drop k):=by
   unfold inV; rw [← List.flatMap_append,List.take_append_drop]
  have:=K02.row hin
  rw [e] at this
  exact row_pre this (by rw [inV_len,List.length_take]; congr 1; omega)
 rw [Int.toNat_natCast]
 refine built_s (l:=⟨l.a,k,_⟩) hin' (fun p hp=>hr p (List.mem_of_mem_take hp)) O.lv fun h4 vb ls xs lr K4 V Gd ht h8 LR=>⟨_,_,rfl,fun a b _ e=>(by cases e),fun e=>(by cases e),fun _=>?_⟩
 have hlv:=O.lv
 have P:PkOk xs:=pk_ok (by omega) ht Gd.w
 have hx:=P.len
 subst h8
 refine scores_s V P O rfl fun h5 l3 K5 B5 N5=>⟨l3,rfl,_,B5.row,nV3_one _,?_⟩
 have n3:l3.n=xs.length - 1:=by have:=B5.len; rw [nV3_len,List.length_map,List.length_range] at this; omega
 refine append_buf (Buf.nil h5 1 3) rfl B5.len (by rw [n3]; show (0+(xs.length - 1))*8≤_; omega) fun l4 h6 B6 n6 U6=>?_
 rw [List.nil_append] at B6
 have K6:Keep h5 h6:=keepB (Keep.refl h5) (.inl rfl) U6
 refine order_s (V.keep (K5.trans K6)) P O rfl fun h7 l5 o K7 B7 N7 hO=>⟨l5,rfl,_,B7.row,?_,?_⟩
 ·rw [iV_nV3]; exact nV3_one _
 have hol:∀ i∈o,i < xs.length - 1:=fun i hi=>((hO.mem i).1 hi).1
 have holn:o.length≤4:=by
  have h2:=List.Nodup.length_le_of_subset hO.nd (l₂:=List.range (xs.length - 1)) (fun i hi=>List.mem_range.2 (hol i hi))
  rw [List.length_range] at h2; omega
 have n5:l5.n=o.length:=by have:=B7.len; rw [iV_len] at this; omega
 refine append_buf (Buf.nil h7 1 3) rfl B7.len (by rw [n5]; show (0+o.length)*8≤_; omega) fun l6 h8 B8 n8 U8=>?_
 rw [List.nil_append] at B8
 have K8:Keep h7 h8:=keepB (Keep.refl h7) (.inl rfl) U8
 intro b hb
 have Bk0:=book_new hb
 have K48:Keep h4 h8:=K5.trans (K6.trans (K7.trans K8))
 have K28:Keep h2 h8:=K4.trans K48
 have V8:Ver h2 h8 vb ls xs:=V.keep K48
 have L8:LT h8 lr (xs.map (·.2)):=by
  obtain ⟨ys,L1,L2,L3⟩:=LR
  exact ⟨ys,L1.keep K48,fun y hy=>(L2 y hy).keep K48,L3⟩
 have R4:h8.row l4.a l4.n (nV3 ((List.range (xs.length - 1)).map (scoreM m5 m9 m10 xs))):=by have:=(B6.keep (K7.trans K8)).row; rw [Nat.mul_one] at this; exact this
 have R6:h8.row l6.a l6.n (nV3 (o.map fun i:Nat=>(i:Int))):=by have:=B8.row; rw [Nat.mul_one,iV_nV3] at this; exact this
 have RP8:h8.row l1.a l1.n (ptrV ptrs):=(K02.trans K28).row RP
 generalize hsc:(List.range (xs.length - 1)).map (scoreM m5 m9 m10 xs)=sc at R4
 have hscl:sc.length≤60000:=by rw [← hsc,List.length_map,List.length_range]; omega
 have hoil:(o.map fun i:Nat=>(i:Int)).length≤60000:=by rw [List.length_map]; omega
 have fin:∀ {N:Nat} {u:Mem} {h':Hp},Bk kinds N Zr b 175 45 0 h8 u h'→Keep h h':=fun B=>(K02.trans K28).trans B.keep
 clear K1 K2 K5 K6 K7 K8 U6 U8 B5 B6 B7 B8 N5 N7 LR V hin hin'
 refine ⟨fun n h'=>∃ (i N:Nat),n=(i:Int)∧i≤3∧N≤i*1000∧Bk kinds N Zr b 175 45 0 h8 (fun _=>none) h',fun n _=>3 - n.toNat,⟨0,0,rfl,by decide,Nat.zero_le _,Bk0⟩,?_⟩
 rintro n h10 ⟨i,N,rfl,hi,hN,B0⟩
 refine ⟨fun hlt=>?_,fun _=>hQ _ (fin B0)⟩
 have hi3:i < 3:=by omega
 have vk:∀ {N:Nat} {u:Mem} {h':Hp},Bk kinds N Zr b 175 45 0 h8 u h'→Ver h2 h' vb ls xs:=fun B=>V8.keep B.keep
 refine scores_s (vk B0) P O rfl fun h11 x K11 Bx Nx=>⟨x,rfl,?_⟩
 rw [hsc] at Bx
 have B1:=B0.own (a:=0) (b:=0) rfl K11 Nx Bx
 refine scores_s (vk B1) P O rfl fun h12 y K12 By Ny=>⟨y,rfl,?_⟩
 rw [hsc] at By
 have B2:=B1.own (a:=0) (b:=1) rfl K12 Ny By
 refine order_s (vk B2) P O rfl fun h13 a oa K13 Ba Na hOa=>⟨a,rfl,?_⟩
 rw [hOa.one hO,iV_nV3] at Ba
 have B3:=B2.own (a:=0) (b:=2) rfl K13 Na Ba
 refine order_s (vk B3) P O rfl fun h14 c oc K14 Bc Nc hOc=>⟨c,rfl,?_⟩
 rw [hOc.one hO,iV_nV3] at Bc
 have B4:=B3.own (a:=0) (b:=3) rfl K14 Nc Bc
 have r1:∀ {h:Hp} {s:Sl} {t:Nat} {vs:List Value},Buf h s 1 t vs→h.row s.a s.n vs:=fun B=>by have:=B.row; rw [Nat.mul_one] at this; exact this
 have sx:=B4.buf (a:=0) (b:=0) rfl
 have sy:=B4.buf (a:=0) (b:=1) rfl
 have sa:=B4.buf (a:=0) (b:=2) rfl
 have sb:=B4.buf (a:=0) (b:=3) rfl
 have lb:∀ {h:Hp} {s:Sl} {w:List Int},Buf h s 1 3 (nV3 w)→w.length≤60000→(s.n+30)*8≤140737488355328:=fun B hw=>by
  have:=B.len; rw [nV3_len] at this; omega
 refine sameI_s (r1 sx) (B4.keep.row R4) hscl (fun _=>⟨true,rfl,fun _=>?_,fun q=>Bool.noConfusion q⟩) (fun q=>absurd rfl q)
 refine sameI_s (r1 sy) (B4.keep.row R4) hscl (fun _=>⟨true,rfl,fun _=>?_,fun q=>Bool.noConfusion q⟩) (fun q=>absurd rfl q)
 refine sameI_s (r1 sa) (B4.keep.row R6) hoil (fun _=>⟨true,rfl,fun _=>?_,fun q=>Bool.noConfusion q⟩) (fun q=>absurd rfl q)
 refine sameI_s (r1 sb) (B4.keep.row R6) hoil (fun _=>⟨true,rfl,fun _=>?_,fun q=>Bool.noConfusion q⟩) (fun q=>absurd rfl q)
 refine add1 B4 (by omega) (by decide) (fun _=>Zr_all) (a:=0) (b:=0) rfl (cols_nV3 _) (lb sx hscl) fun h19 B5=>?_
 refine add1 B5 (by omega) (by decide) (fun _=>Zr_all) (a:=0) (b:=2) rfl (cols_nV3 _) (lb sa hoil) fun h20 B6=>?_
 have sy:=B6.buf (a:=0) (b:=1) rfl
 have sb:=B6.buf (a:=0) (b:=3) rfl
 refine sameI_s (r1 sy) (B6.keep.row R4) hscl (fun _=>⟨true,rfl,fun _=>?_,fun q=>Bool.noConfusion q⟩) (fun q=>absurd rfl q)
 refine sameI_s (r1 sb) (B6.keep.row R6) hoil (fun _=>⟨true,rfl,fun _=>?_,fun q=>Bool.noConfusion q⟩) (fun q=>absurd rfl q)
 refine hold_ B6 (by omega) Zr_all ⟨true,rfl,fun _=>?_,fun q=>Bool.noConfusion q⟩
 refine add1 B6 (by omega) (by decide) (fun _=>Zr_all) (a:=0) (b:=1) rfl (cols_nV3 _) (lb sy hscl) fun h24 B7=>?_
 refine add1 B7 (by omega) (by decide) (fun _=>Zr_all) (a:=0) (b:=3) rfl (cols_nV3 _) (lb sb hoil) fun h25 B8=>?_
 have B9:=B8.clear
 rw [wrap_i64 (n:=(xs.length:Int) - 1) (by omega) (by omega)]
 refine ⟨fun n h'=>∃ (c N':Nat),n=(c:Int)∧c≤xs.length - 1∧N'≤N+4+6*c∧Bk kinds N' Zr b 175 45 0 h8 (fun _=>none) h',fun n _=>xs.length - 1 - n.toNat,⟨0,N+4,rfl,Nat.zero_le _,by omega,B9⟩,?_⟩
 rintro n h26 ⟨c,N',rfl,hc,hN',D0⟩
 refine ⟨fun hlt=>?_,fun _=>?_⟩
 ·have hc1:c < xs.length - 1:=by omega
  refine ⟨fun h'=>∃ N'':Nat,N''≤N'+6∧Bk kinds N'' Zr b 175 45 0 h8 (fun _=>none) h',fun h27 ⟨N'',hN'',D⟩=>?_,?_⟩
  ·rw [nx_i hc1 (by omega)]
   exact ⟨⟨c+1,N'',rfl,hc1,by omega,D⟩,by dsimp only; omega⟩
  rcases e:inpR m12 xs ptrs (c:Int) with ⟨j,ok⟩
  have hj:=inpR_sz P e
  refine inp_s e (vk D0) P O rfl (D0.keep.row RP8) (by omega) fun h28 l11 l12 K28 P1 Q1 P2 Q2 o1 o2=>⟨j.lv,l11,l12,j.cut,j.mv,?_⟩
  have D1:=D0.own2 (a:=1) (b:=0) (c:=1) rfl rfl (by decide) K28 Q1 Q2 P1 P2 o1 o2
  obtain ⟨jl,ju,jd,jc,jm⟩:=j
  cases jm <;> cases ok <;> (
   first
    | refine parB_t rfl (ex_bt ⟨rfl,?_⟩)
    | refine parB_t rfl (ex_bf ⟨rfl,?_⟩)
    | refine parB_f rfl (ex_bt ⟨rfl,?_⟩)
    | refine parB_f rfl (ex_bf ⟨rfl,?_⟩)
   refine inp_s e (vk D1) P O rfl (D1.keep.row RP8) (by omega) fun h29 l13 l14 K29 P3 Q3 P4 Q4 o3 o4=>?_
   have D2:=D1.own2 (a:=2) (b:=0) (c:=1) rfl rfl (by decide) K29 Q3 Q4 P3 P4 o3 o4
   first
    | refine ⟨jl,l13,l14,jc,true,parB_t rfl (ex_bt ⟨rfl,?_⟩)⟩
    | refine ⟨jl,l13,l14,jc,true,parB_t rfl (ex_bf ⟨rfl,?_⟩)⟩
    | refine ⟨jl,l13,l14,jc,false,parB_f rfl (ex_bt ⟨rfl,?_⟩)⟩
    | refine ⟨jl,l13,l14,jc,false,parB_f rfl (ex_bf ⟨rfl,?_⟩)⟩
   refine nx_s (vk D2) P O rfl (D2.keep.row RP8) fun k q h30 l15 l16 hk K30 P5 Q5 P6 Q6 o5 o6=>⟨k.lv,l15,l16,k.cut,k.mv,?_⟩
   have D3:=D2.own2 (a:=3) (b:=0) (c:=1) rfl rfl (by decide) K30 Q5 Q6 P5 P6 o5 o6
   obtain ⟨kl,ku,kd,kc,km⟩:=k
   cases km <;> (
    first
     | refine parB_t rfl ⟨q,rfl,fun _=>?_,fun z=>absurd rfl z⟩
     | refine parB_f rfl ⟨q,rfl,fun _=>?_,fun z=>absurd rfl z⟩
    exact tail_s (j:=⟨jl,ju,jd,jc,_⟩) (k:=⟨kl,ku,kd,kc,_⟩) V8 P L8 D3 (by omega) rfl rfl rfl rfl rfl rfl rfl rfl rfl hj hk fun h' N'' hN'' D=>⟨N'',hN'',D⟩))
 ·rw [nx_i hi3 (by omega)]
  exact ⟨⟨i+1,N',rfl,hi3,by omega,D0⟩,by dsimp only; omega⟩
end
end Go.Eng.YtbjnlacacapjiaaGreatDoor
end
section
namespace Go.Proofs.YtbjnlacacapjiaaGreatDoor.pickFresh
open Go.ChangeShapes Go.WideShapes Go.ChangeAt Go.RowKit Go.Eng Go.Eng.YtbjnlacacapjiaaGreatDoor
theorem own:ownKnob Tryz.prog.godebug=none:=by kernel_rfl
theorem laidOut:laidOutB Tryz.prog=true:=by kernel_rfl
theorem door_met (os : Os) (args : Array Value) : laidMetH Tryz.prog [("math/bits.deBruijn32tab", Rows.laid_math_bits_deBruijn32tab), ("math/bits.deBruijn64tab", Rows.laid_math_bits_deBruijn64tab), ("internal/strconv.uint64pow10", Rows.laid_internal_strconv_uint64pow10)] ((World.doorLaid Tryz.prog 24 os).forCall (fun _ _ => 0) ⟨#[], args, []⟩).memory :=
 laidMetH_of_parts3 (fuel:=8) (laidMet_of_run' 8 (by kernel_rfl) (by kernel_rfl)) (by kernel_rfl) (by kernel_rfl)
theorem walk {m0 m1 m2 m3 m4 m5 m6 m7 m8 m9 m10 m11 m12 m13 m14 m15 m16 m17 m18 m19 m20 m21 m22 m23 m24 m25 m26:Int} {a1:Option Addr} {len1 cap1:Nat} {L1:List Placed} {a2:Option Addr} {len2 cap2:Nat} {L2:List ByteArray} {W:World} (hC:∀ x∈[m0,m1,m2,m3,m4,m5,m6,m7,m8,m9,m10,m11,m12,m13,m14,m15,m16,m17,m18,m19,m20,m21,m22,m23,m24,m25,m26],iI x) (R1:(wh W).row a1 (len1*7) (inV L1)) (z1:len1≤140737488355328) (y1:len1≤cap1) (e1:L1.length=len1) (P1:∀ x∈L1,okP x) (R2:(wh W).row a2 len2 (ptrV L2)) (z2:len2≤140737488355328) (e2:L2.length=len2) (P2:∀ x∈L2,x.size≤9223372036854775807) :
  Calls Tryz.prog 5 #[.agg ⟨[.int .i64 m0,.int .i64 m1,.int .i64 m2,.int .i64 m3,.int .i64 m4,.int .i64 m5,.int .i64 m6,.int .i64 m7,.int .i64 m8,.int .i64 m9,.int .i64 m10,.int .i64 m11,.int .i64 m12,.int .i64 m13,.int .i64 m14,.int .i64 m15,.int .i64 m16,.int .i64 m17,.int .i64 m18,.int .i64 m19,.int .i64 m20,.int .i64 m21,.int .i64 m22,.int .i64 m23,.int .i64 m24,.int .i64 m25,.int .i64 m26]⟩,.slice a1 len1 cap1,.slice a2 len2 cap2] W fun e W'=>e=.returned (.bool true)∧Below W.heap.size W W':=by
 have hT:F5.T m0 m1 m2 m3 m4 m5 m6 m7 m8 m9 m10 m11 m12 m13 m14 m15 m16 m17 m18 m19 m20 m21 m22 m23 m24 m25 m26 ⟨a1,len1,cap1⟩ ⟨a2,len2,cap2⟩ (wh W) (fun v h'=>v=.bool true∧Keep (wh W) h'):=pfresh_s (inn:=L1) (ptrs:=L2) R1 y1 (fun p hp=>⟨(P1 p hp).1.1,(P1 p hp).2.2.1.1⟩) R2 (show len2 < 9223372036854775807 by omega) (hC m5 (by simp)).1 (hC m7 (by simp)).1 (hC m8 (by simp)).1 (hC m9 (by simp)).1 (hC m10 (by simp)).1 (hC m12 (by simp)).1 fun h' K=>⟨rfl,K⟩
 have hV:F5.V [.agg ⟨[.int .i64 m0,.int .i64 m1,.int .i64 m2,.int .i64 m3,.int .i64 m4,.int .i64 m5,.int .i64 m6,.int .i64 m7,.int .i64 m8,.int .i64 m9,.int .i64 m10,.int .i64 m11,.int .i64 m12,.int .i64 m13,.int .i64 m14,.int .i64 m15,.int .i64 m16,.int .i64 m17,.int .i64 m18,.int .i64 m19,.int .i64 m20,.int .i64 m21,.int .i64 m22,.int .i64 m23,.int .i64 m24,.int .i64 m25,.int .i64 m26]⟩,.slice a1 len1 cap1,.slice a2 len2 cap2] (wh W) (fun v h'=>v=.bool true∧Keep (wh W) h'):=hT
 refine (F5.ok.2 _ (wh W) _ hV (fun _=>none) W (own_wh W)).mono fun e W' ⟨v,h',he,ho,hw,hv,K⟩=>?_
 subst hv
 exact ⟨he,below_of hw ho K⟩
set_option maxRecDepth 100000 in
set_option maxHeartbeats 1000000 in
theorem lifted (os:Os) (started:os.Started) (H:Type) (enc:TypeId×Value→H) :
  ReturnsInHanded {} Tryz.checked os 5 .any (fun w args => (Rows.pickFreshSpec.pre enc Tryz.prog Tryz.f5 [] false w args ∧ laidMetH Tryz.prog [("math/bits.deBruijn32tab", Rows.laid_math_bits_deBruijn32tab), ("math/bits.deBruijn64tab", Rows.laid_math_bits_deBruijn64tab), ("internal/strconv.uint64pow10", Rows.laid_internal_strconv_uint64pow10)] w) ∧ sizedMet enc Tryz.prog Tryz.f5 (OpenSpec.ofChange Rows.pickFreshSpec) false w args)
   (Rows.pickFreshSpec.post enc Tryz.prog Tryz.f5 false true false false):=by
 refine returnsInHanded_of_change_and (C := Tryz.checked) (X := (fun w _ => laidMetH Tryz.prog [("math/bits.deBruijn32tab", Rows.laid_math_bits_deBruijn32tab), ("math/bits.deBruijn64tab", Rows.laid_math_bits_deBruijn64tab), ("internal/strconv.uint64pow10", Rows.laid_internal_strconv_uint64pow10)] w)) (fun _ _ _ hh h => h.of_heap hh) own started (by kernel_rfl) Tryz.func5
  (ChangeSpec.witness_shaped (enc := enc) (C := Tryz.checked) (os := os) (X := (fun w _ => laidMetH Tryz.prog [("math/bits.deBruijn32tab", Rows.laid_math_bits_deBruijn32tab), ("math/bits.deBruijn64tab", Rows.laid_math_bits_deBruijn64tab), ("internal/strconv.uint64pow10", Rows.laid_internal_strconv_uint64pow10)] w)) false (World.doorLaid Tryz.prog 24 os) #[.agg ⟨[.int .i64 0, .int .i64 0, .int .i64 0, .int .i64 0, .int .i64 0, .int .i64 0, .int .i64 0, .int .i64 0, .int .i64 0, .int .i64 0, .int .i64 0, .int .i64 0, .int .i64 0, .int .i64 0, .int .i64 0, .int .i64 0, .int .i64 0, .int .i64 0, .int .i64 0, .int .i64 0, .int .i64 0, .int .i64 0, .int .i64 0, .int .i64 0, .int .i64 0, .int .i64 0, .int .i64 0]⟩, .slice none 0 0, .slice none 0 0] 8 rfl (World.shaped_of_RefB (by kernel_rfl) (by kernel_rfl)) (by kernel_rfl) (by kernel_rfl) (by kernel_rfl) (door_met os _)) ?_
 intro W base args ds gs before hval0 hW _ hsz0 hL _
 have hval:∀ (j:Nat) t v,Tryz.f5.params[j]?=some t→args[j]?=some v→Value.okWide Tryz.prog W .any base t v:=hval0
 have hsz:(DataW.weightsEach Tryz.prog (Tryz.f5.params.toList++Rows.pickFreshSpec.plain.varTypes Tryz.prog) (ds++gs)).all (·≤reachBytes)=true:=hsz0
 have hW':=hW
 obtain ⟨p,q,hA0,hV,rfl,hfz,hnd⟩:=hW
 have hA:DataW.TrodAll enc Tryz.prog W 0 (fun _=>true) true Tryz.f5.params.toList args.toList ds p:=hA0
 rw [Tryz.params5] at hA hval
 obtain ⟨v0,vs0,d0,ds0,p0,q0,hargs,rfl,rfl,h0,r0⟩:=trodAll_cons hA
 obtain ⟨v1,vs1,d1,ds1,p1,q1,rfl,rfl,rfl,h1,r1⟩:=trodAll_cons r0
 obtain ⟨v2,vs2,d2,ds2,p2,q2,rfl,rfl,rfl,h2,r2⟩:=trodAll_cons r1
 obtain ⟨rfl,rfl,rfl⟩:=trodAll_nil r2
 obtain rfl:args=#[v0,v1,v2]:=by cases args; simp_all
 obtain ⟨rfl,rfl⟩:=trodVars_none hV
 obtain ⟨cs,rfl,hcs⟩:=okWide_struct Tryz.underlying68 (hval 0 68 v0 rfl rfl)
 have k0:=h0
 have lt0:∀ x∈p0,x.block < W.heap.size:=by obtain ⟨m,hm⟩:=k0; exact DataW.trod_lt m _ _ _ hm
 obtain ⟨m0,m1,m2,m3,m4,m5,m6,m7,m8,m9,m10,m11,m12,m13,m14,m15,m16,m17,m18,m19,m20,m21,m22,m23,m24,m25,m26,hcs2,hC⟩:=(by obtain ⟨m,hm⟩:=h0; exact open_config (by show cs.toList.length=27; rw [Array.length_toList,hcs,c58]) hm:∃ m0 m1 m2 m3 m4 m5 m6 m7 m8 m9 m10 m11 m12 m13 m14 m15 m16 m17 m18 m19 m20 m21 m22 m23 m24 m25 m26:Int,cs.toList=[.int .i64 m0,.int .i64 m1,.int .i64 m2,.int .i64 m3,.int .i64 m4,.int .i64 m5,.int .i64 m6,.int .i64 m7,.int .i64 m8,.int .i64 m9,.int .i64 m10,.int .i64 m11,.int .i64 m12,.int .i64 m13,.int .i64 m14,.int .i64 m15,.int .i64 m16,.int .i64 m17,.int .i64 m18,.int .i64 m19,.int .i64 m20,.int .i64 m21,.int .i64 m22,.int .i64 m23,.int .i64 m24,.int .i64 m25,.int .i64 m26]∧(∀ x∈[m0,m1,m2,m3,m4,m5,m6,m7,m8,m9,m10,m11,m12,m13,m14,m15,m16,m17,m18,m19,m20,m21,m22,m23,m24,m25,m26],iI x))
 obtain rfl:cs=⟨[.int .i64 m0,.int .i64 m1,.int .i64 m2,.int .i64 m3,.int .i64 m4,.int .i64 m5,.int .i64 m6,.int .i64 m7,.int .i64 m8,.int .i64 m9,.int .i64 m10,.int .i64 m11,.int .i64 m12,.int .i64 m13,.int .i64 m14,.int .i64 m15,.int .i64 m16,.int .i64 m17,.int .i64 m18,.int .i64 m19,.int .i64 m20,.int .i64 m21,.int .i64 m22,.int .i64 m23,.int .i64 m24,.int .i64 m25,.int .i64 m26]⟩:=Array.ext' hcs2
 obtain ⟨a1,len1,cap1,rfl⟩:=okWide_slice Tryz.underlying50 (hval 1 50 v1 rfl rfl)
 have k1:=h1
 have lt1:∀ x∈p1,x.block < W.heap.size:=by obtain ⟨m,hm⟩:=k1; exact DataW.trod_lt m _ _ _ hm
 have wb1:WB Tryz.prog 50 d1:=wb_arg (j:=1) hsz rfl rfl
 obtain ⟨L1,R1,z1,y1,e1,P1⟩:=(by obtain ⟨m,hm⟩:=k1; exact open_placed hm wb1:∃ L:List Placed,(wh W).row a1 (len1*7) (inV L)∧len1≤140737488355328∧len1≤cap1∧L.length=len1∧∀ p∈L,okP p)
 obtain ⟨a2,len2,cap2,rfl⟩:=okWide_slice Tryz.underlying51 (hval 2 51 v2 rfl rfl)
 have k2:=h2
 have lt2:∀ x∈p2,x.block < W.heap.size:=by obtain ⟨m,hm⟩:=k2; exact DataW.trod_lt m _ _ _ hm
 have wb2:WB Tryz.prog 51 d2:=wb_arg (j:=2) hsz rfl rfl
 obtain ⟨L2,R2,z2,e2,P2⟩:=(by obtain ⟨m,hm⟩:=k2; exact open_texts hm wb2:∃ L:List ByteArray,(wh W).row a2 len2 (ptrV L)∧len2≤140737488355328∧L.length=len2∧∀ s∈L,s.size≤9223372036854775807)
 clear hA0 hval0 hsz0
 refine (walk hC R1 z1 y1 e1 P1 R2 z2 e2 P2).mono fun e W' ⟨he,bel⟩=>?_
 subst he
 exact ⟨_,rfl,_,_,_,[],_,[],hW',trodAll_mk1 (shut_bool Tryz.underlying4 _),(trodAll_cons_mk (Below.trod laidOut (by kernel_rfl) (of_decide_eq_true (by kernel_rfl)) k0 bel lt0) (trodAll_cons_mk (Below.trod laidOut (by kernel_rfl) (of_decide_eq_true (by kernel_rfl)) k1 bel lt1) (trodAll_cons_mk (Below.trod laidOut (by kernel_rfl) (of_decide_eq_true (by kernel_rfl)) k2 bel lt2) ( trodAll_mk0)))),rfl,bel.frame _,fun h=>by cases h⟩
theorem over:Rows.PickFreshSaid:=
 OpenClaim.holds_of_wide 5 Tryz.f5 rfl rfl rfl rfl rfl rfl rfl ⟨rfl,rfl,rfl,rfl,rfl⟩ rfl rfl rfl rfl rfl (by kernel_rfl) Tryz.func5 (by kernel_rfl)
  (of_decide_eq_true (by kernel_rfl)) (by unfold Func.isWrapper; first | (rw [if_pos (by decide +kernel)]; kernel_rfl) | (rw [if_neg (by decide +kernel)]; exact ⟨rfl,rfl⟩))
  (fun os started H enc _=>lifted os started H enc)
theorem proved:Rows.PickFreshCardSaid:=
 Claim7.holds_tied_plain_at .later [] [.data, .data, .data] true (true, "af3ffa9ca3836100681ca83e042dd22a5c27bab9e6b27c821f33dae9a1081175") false
  over (fun _ h=>by cases h) (by kernel_rfl) (fun _ h=>by cases h) pickFresh_row_tie rfl ⟨rfl,rfl⟩ (by kernel_rfl) rfl
  (fun f fn hf hfn=>by
   obtain rfl : f = 5 := Option.some.inj ((show Tryz.prog.funcNamed "scree/screelaw16.PickFresh" = some 5 by kernel_rfl).symm.trans hf) |>.symm
   obtain rfl:fn=Tryz.f5:=(Option.some.inj (Tryz.func5.symm.trans hfn)).symm
   exact ⟨by kernel_rfl,fun j t ht=>by
    rw [Tryz.params5] at ht
    have hm:t∈[68,50,51]:=by simpa using Array.mem_of_getElem? ht
    have hall:([68,50,51].all fun u=>!Tryz.prog.wantsStandIn u)=true:=by kernel_rfl
    exact (show Tryz.prog.wantsStandIn t=false by simpa using List.all_eq_true.1 hall t hm)⟩)
  (by kernel_rfl)
#print axioms proved
end Go.Proofs.YtbjnlacacapjiaaGreatDoor.pickFresh
end
