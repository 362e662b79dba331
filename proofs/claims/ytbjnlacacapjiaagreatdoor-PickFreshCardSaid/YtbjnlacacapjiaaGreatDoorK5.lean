/-
  TEXTS OF MINE, JOINED: YX4 YV6 YV7 YV8 YJ8 YJ9 YJ6.
-/
import Derived.Test.YtbjnlacacapjiaaGreatDoorK4
import Derived.Test.YtbjnlacacapjiaaGreatDoorK3
import Derived.Test.YtbjnlacacapjiaaGreatDoorK2
import Derived.Test.YtbjnlacacapjiaaGreatDoorProg
set_option linter.unusedSimpArgs false
set_option linter.unusedVariables false
section
set_option maxRecDepth 100000
namespace Go.Eng.YtbjnlacacapjiaaGreatDoor
section
open Go.Sort
theorem choose_le (d:Array Int) {a b:Nat} (hab:a < b):a≤(choosePivot ltI d a b).1∧(choosePivot ltI d a b).1 < b:=by
 unfold choosePivot
 dsimp only
 generalize hL:b - a=L
 split
 ·split
  ·have adj:∀ i s,(medianAdjacent ltI d i s).1=i - 1∨(medianAdjacent ltI d i s).1=i∨(medianAdjacent ltI d i s).1=i+1:=fun i s=>(median_le d (i - 1) i (i+1) s).2
   have m1:=adj (a+L / 4*1) 0
   generalize medianAdjacent ltI d (a+L / 4*1) 0=r1 at m1 ⊢
   have m2:=adj (a+L / 4*2) r1.2
   generalize medianAdjacent ltI d (a+L / 4*2) r1.2=r2 at m2 ⊢
   have m3:=adj (a+L / 4*3) r2.2
   generalize medianAdjacent ltI d (a+L / 4*3) r2.2=r3 at m3 ⊢
   have m4:=(median_le d r1.1 r2.1 r3.1 r3.2).2
   generalize (median ltI d r1.1 r2.1 r3.1 r3.2).1=x at m4 ⊢
   omega
  ·have m4:=(median_le d (a+L / 4*1) (a+L / 4*2) (a+L / 4*3) 0).2
   generalize (median ltI d (a+L / 4*1) (a+L / 4*2) (a+L / 4*3) 0).1=x at m4 ⊢
   omega
 ·dsimp only; omega
variable {h:Hp} {l:Sl} {d D:Array Int} {a b lim p M0 nf:Nat} {Q:Value→Hp→Prop} {T:Sl→Int→Int→Int→PT} {I:Int→Int→Int→Bool→Bool→Hp→Prop} {m:Int→Int→Int→Bool→Bool→Hp→Nat}
def PdqOk (l:Sl) (T:Sl→Int→Int→Int→PT) (n:Nat):Prop:=∀ (h:Hp) (d:Array Int) (a b lim:Nat) (Q:Value→Hp→Prop),b - a < n→Buf h l 1 48 (uvs d.toList)→a≤b→b≤l.n→lim≤1000→(∀ h',Dx h h' l (pdq ltI d a b lim true true)→Q (.tuple ⟨[]⟩) h')→T l (a:Int) (b:Int) (lim:Int) h Q
def pdqTail (d:Array Int) (a b p lim:Nat) (wb wp:Bool):Array Int:=
 if a > 0 && !ltI d[a - 1]! d[p]! then
  match partitionEqual ltI d a b p with
  | (mid,d4)=>if _h:a < mid∧mid≤b then pdq ltI d4 mid b lim wb wp else d4
 else
  match partition ltI d a b p with
  | (mid,alreadyPartitioned,d4)=>
   if _h:a≤mid∧mid < b then
    if mid - a < b - mid then
     pdq ltI (pdq ltI d4 a mid lim true true) (mid+1) b lim (decide (mid - a ≥ (b - a) / 8)) alreadyPartitioned
    else
     pdq ltI (pdq ltI d4 (mid+1) b lim true true) a mid lim (decide (b - mid ≥ (b - a) / 8)) alreadyPartitioned
   else d4
theorem mid_s {wb wp:Bool} {g:Hp} (hT:PdqOk l T nf) (hI:∀ a b lim wb wp g d',a≤b→b≤l.n→b - a≤nf→lim≤1000→Dx h g l d'→pdq ltI d' a b lim wb wp=D→I ((a:Nat):Int) ((b:Nat):Int) ((lim:Nat):Int) wb wp g) (hm:∀ (a' b' lim':Nat) wb' wp' g,b' - a' < b - a→m (a':Int) (b':Int) (lim':Int) wb' wp' g < M0)
  (S:Dx h g l d) (ha:a≤p) (hp:p < b) (hb:b≤l.n) (hn:l.n≤100000000000) (hnf:b - a≤nf) (hl:lim≤1000) (e:pdqTail d a b p lim wb wp=D) :
  ∃ J2:Int→Hp→Prop,(∀ n10:Int,∀ h7:Hp,J2 n10 h7→F228.T l n10 (b:Int) (p:Int) h7 fun r3 h8=>∃ n11:Int,∃ b2:Bool,parB b2 (r3=.tuple ⟨[.int .i64 n11,.bool true]⟩∧(8:Int)≠0∧par ((IntKind.wrap .i64 (n11 - n10)) < (IntKind.wrap .i64 ((b:Int) - n11))) (par ((IntKind.wrap .i64 (Int.tdiv (IntKind.wrap .i64 ((b:Int) - (a:Int))) 8))≤(IntKind.wrap .i64 (n11 - n10))) (T l n10 n11 (lim:Int) h8 fun r4 h9=>I (IntKind.wrap .i64 (n11+1)) (b:Int) (lim:Int) true true h9∧m (IntKind.wrap .i64 (n11+1)) (b:Int) (lim:Int) true true h9 < M0) (T l n10 n11 (lim:Int) h8 fun r5 h10=>I (IntKind.wrap .i64 (n11+1)) (b:Int) (lim:Int) false true h10∧m (IntKind.wrap .i64 (n11+1)) (b:Int) (lim:Int) false true h10 < M0)) (par ((IntKind.wrap .i64 (Int.tdiv (IntKind.wrap .i64 ((b:Int) - (a:Int))) 8))≤(IntKind.wrap .i64 ((b:Int) - n11))) (T l (IntKind.wrap .i64 (n11+1)) (b:Int) (lim:Int) h8 fun r6 h11=>I n10 n11 (lim:Int) true true h11∧m n10 n11 (lim:Int) true true h11 < M0) (T l (IntKind.wrap .i64 (n11+1)) (b:Int) (lim:Int) h8 fun r7 h12=>I n10 n11 (lim:Int) false true h12∧m n10 n11 (lim:Int) false true h12 < M0))) (r3=.tuple ⟨[.int .i64 n11,.bool false]⟩∧(8:Int)≠0∧par ((IntKind.wrap .i64 (n11 - n10)) < (IntKind.wrap .i64 ((b:Int) - n11))) (par ((IntKind.wrap .i64 (Int.tdiv (IntKind.wrap .i64 ((b:Int) - (a:Int))) 8))≤(IntKind.wrap .i64 (n11 - n10))) (T l n10 n11 (lim:Int) h8 fun r8 h13=>I (IntKind.wrap .i64 (n11+1)) (b:Int) (lim:Int) true false h13∧m (IntKind.wrap .i64 (n11+1)) (b:Int) (lim:Int) true false h13 < M0) (T l n10 n11 (lim:Int) h8 fun r9 h14=>I (IntKind.wrap .i64 (n11+1)) (b:Int) (lim:Int) false false h14∧m (IntKind.wrap .i64 (n11+1)) (b:Int) (lim:Int) false false h14 < M0)) (par ((IntKind.wrap .i64 (Int.tdiv (IntKind.wrap .i64 ((b:Int) - (a:Int))) 8))≤(IntKind.wrap .i64 ((b:Int) - n11))) (T l (IntKind.wrap .i64 (n11+1)) (b:Int) (lim:Int) h8 fun r10 h15=>I n10 n11 (lim:Int) true false h15∧m n10 n11 (lim:Int) true false h15 < M0) (T l (IntKind.wrap .i64 (n11+1)) (b:Int) (lim:Int) h8 fun r11 h16=>I n10 n11 (lim:Int) false false h16∧m n10 n11 (lim:Int) false false h16 < M0)))) ∧
  (par ((0:Int) < (a:Int)) (ix l.a (IntKind.wrap .i64 ((a:Int) - 1)) l.n fun b3 o=>ldI .u64 g b3 (o+((IntKind.wrap .i64 ((a:Int) - 1))).toNat) fun n12=>ix l.a (p:Int) l.n fun b4 o1=>ldI .u64 g b4 (o1+((p:Nat):Int).toNat) fun n13=>F226.T n12 n13 g fun r12 h17=>retB r12 (J2 (a:Int) h17) (F227.T l (a:Int) (b:Int) (p:Int) h17 fun r13 h18=>retI .i64 r13 fun n14=>I n14 (b:Int) (lim:Int) wb wp h18∧m n14 (b:Int) (lim:Int) wb wp h18 < M0)) (J2 (a:Int) g)):=by
 unfold pdqTail at e
 have hsz:=S.sz
 refine ⟨fun n h7=>n=(a:Int)∧h7=g∧(a > 0 && !ltI d[a - 1]! d[p]!)=false,?_,fun h0=>?_,fun h0=>⟨rfl,rfl,by simp; omega⟩⟩
 ·rintro n h7 ⟨rfl,rfl,hc⟩
  rw [if_neg (by rw [hc]; decide)] at e
  obtain ⟨r1,r2,_⟩:=(partition_holds ltI) swo_ltInt d a b p ha hp (by omega)
  refine part_s S.u ha hp hb hn fun h8 S8=>?_
  generalize partition ltI d a b p=r at r1 r2 e S8
  obtain ⟨mid,al,d4⟩:=r
  dsimp only at r1 r2 e S8 ⊢
  rw [dif_pos ⟨r1,r2⟩] at e
  have SS:=S.from S8
  have w8:IntKind.wrap .i64 (Int.tdiv ((b - a:Nat):Int) 8)=(((b - a) / 8:Nat):Int):=by
   rw [Int.tdiv_eq_ediv_of_nonneg (by omega),wr64 (by omega) (by omega)]; omega
  refine ⟨(mid:Int),al,?_⟩
  rw [wM (i:=mid) (j:=a) (by omega) (by omega),wM (i:=b) (j:=mid) (by omega) (by omega),wM (i:=b) (j:=a) (by omega) (by omega),w8,wA (by omega)]
  have left:∀ wb',(decide (mid - a ≥ (b - a) / 8))=wb'→mid - a < b - mid→T l (a:Int) (mid:Int) (lim:Int) h8 fun r4 h9=>I ((mid+1:Nat):Int) (b:Int) (lim:Int) wb' al h9∧m ((mid+1:Nat):Int) (b:Int) (lim:Int) wb' al h9 < M0:=fun wb' hw hlt=>by
   rw [if_pos hlt,hw] at e
   exact hT _ _ _ _ _ _ (by omega) SS.u r1 (by omega) hl fun h9 S9=>⟨hI _ _ _ _ _ _ _ (by omega) hb (by omega) hl (SS.from S9) e,hm _ _ _ _ _ _ (by omega)⟩
  have right:∀ wb',(decide (b - mid ≥ (b - a) / 8))=wb'→¬ mid - a < b - mid→T l ((mid+1:Nat):Int) (b:Int) (lim:Int) h8 fun r4 h9=>I (a:Int) (mid:Int) (lim:Int) wb' al h9∧m (a:Int) (mid:Int) (lim:Int) wb' al h9 < M0:=fun wb' hw hge=>by
   rw [if_neg hge,hw] at e
   exact hT _ _ _ _ _ _ (by omega) SS.u (by omega) hb hl fun h9 S9=>⟨hI _ _ _ _ _ _ _ r1 (by omega) (by omega) hl (SS.from S9) e,hm _ _ _ _ _ _ (by omega)⟩
  cases al
  all_goals
   first
    | refine ⟨fun hh=>(by cases hh),fun _=>⟨rfl,by decide,fun hlt=>⟨fun h8=>?_,fun h8=>?_⟩,fun hge=>⟨fun h8=>?_,fun h8=>?_⟩⟩⟩
    | refine ⟨fun _=>⟨rfl,by decide,fun hlt=>⟨fun h8=>?_,fun h8=>?_⟩,fun hge=>⟨fun h8=>?_,fun h8=>?_⟩⟩,fun hh=>(by cases hh)⟩
   ·exact left true (decide_eq_true (by omega)) (by omega)
   ·exact left false (decide_eq_false (by omega)) (by omega)
   ·exact right true (decide_eq_true (by omega)) (by omega)
   ·exact right false (decide_eq_false (by omega)) (by omega)
 ·rw [wS (by omega) (by omega)]
  refine S.less (i:=a - 1) (j:=p) (by omega) (by omega) (fun hl=>⟨rfl,rfl,by rw [hl]; simp⟩) (fun hl'=>?_)
  rw [if_pos (by rw [hl']; simp; omega)] at e
  have hr:a < (partitionEqual ltI d a b p).1∧(partitionEqual ltI d a b p).1≤b:=by
   have:=partEqLoop_spec ltI a b _ (a+1) (b - 1) (Go.Sort.swp d a p) (Nat.le_refl _) (Nat.lt_succ_self a) (by omega) (by omega) (by rw [size_swp]; omega) (fun t h1 h2=>by omega) (fun t h1 h2=>by omega)
   exact ⟨this.1,this.2.1⟩
  refine partEq_s S.u ha hp hb hn fun h8 S8=>?_
  generalize partitionEqual ltI d a b p=r at hr e S8
  obtain ⟨mid,d4⟩:=r
  dsimp only at hr e S8 ⊢
  rw [dif_pos hr] at e
  exact ⟨_,rfl,hI _ _ _ _ _ _ _ hr.2 hb (by omega) hl (S.from S8) e,hm _ _ _ _ _ _ (by omega)⟩
def hc:Hint→Int
 | .increasing=>1
 | .decreasing=>2
 | .unknown=>0
def pdqC (d:Array Int) (a b p lim:Nat) (hint:Hint) (wb wp:Bool):Array Int:=
 let pi:=if wb && wp && hint=.increasing then partialInsertionSort ltI d a b else (d,false)
 if pi.2 then pi.1 else pdqTail pi.1 a b p lim wb wp
def pdqB (d1:Array Int) (a b lim:Nat) (wb wp:Bool):Array Int:=
 let c:=choosePivot ltI d1 a b
 pdqC (if c.2=.decreasing then reverseRange d1 a b else d1) a b (if c.2=.decreasing then (b - 1) - (c.1 - a) else c.1) lim (if c.2=.decreasing then Hint.increasing else c.2) wb wp
theorem pdq_step {wb wp:Bool} (h12:¬ b - a≤12) (h0:¬ lim=0):pdq ltI d a b lim wb wp=pdqB (if !wb then breakPatterns d a b else d) a b (if !wb then lim - 1 else lim) wb wp:=by
 rw [pdq,if_neg h12,if_neg h0]; rfl
theorem round_s {wb wp:Bool} {g:Hp} {MID:Int→Hp→Prop} {CK:Int→Hp→(Hp→Prop)→Prop}
  (S:Dx h g l d) (hab:a < b) (hb:b≤l.n) (hn:l.n≤100000000000) (e:pdqB d a b lim wb wp=D)
  (hmid:∀ (p:Nat) g d3,a≤p→p < b→Dx h g l d3→pdqTail d3 a b p lim wb wp=D→MID (p:Int) g)
  (hck:∀ (p:Nat) (hint:Hint) g d2 (J1:Hp→Prop),Dx h g l d2→pdqC d2 a b p lim hint wb wp=D→(∀ g' d3,Dx h g' l d3→pdqTail d3 a b p lim wb wp=D→J1 g')→CK (hc hint) g J1) :
  F223.T l (a:Int) (b:Int) g fun r2 h4=>∃ n6 n7:Int,r2=.tuple ⟨[.int .i64 n6,.int .i64 n7]⟩∧∃ J:Int→Int→Hp→Prop,(∀ n8 n9:Int,∀ h5:Hp,J n8 n9 h5→∃ J1:Hp→Prop,(∀ h6:Hp,J1 h6→MID n8 h6)∧(CK n9 h5 J1))∧(par (n7=2) (F224.T l (a:Int) (b:Int) h4 fun r15 h20=>J (IntKind.wrap .i64 ((IntKind.wrap .i64 ((b:Int) - 1)) - (IntKind.wrap .i64 (n6 - (a:Int))))) 1 h20) (J n6 n7 h4)):=by
 unfold pdqB at e
 dsimp only at e
 obtain ⟨c1,c2⟩:=choose_le d hab
 refine choose_s S.u hab hb hn fun g1 K1=>⟨_,_,rfl,?_⟩
 have S1:Dx h g1 l d:=⟨S.u.keep K1,S.up.trans (Upd.of_keep K1 l)⟩
 generalize choosePivot ltI d a b=c at e c1 c2 ⊢
 obtain ⟨pv,hint⟩:=c
 dsimp only at e c1 c2 ⊢
 refine ⟨fun n n' g=>∃ (p:Nat) (hint:Hint) (d2:Array Int),n=(p:Int)∧n'=hc hint∧a≤p∧p < b∧Dx h g l d2∧pdqC d2 a b p lim hint wb wp=D,?_,fun h2=>?_,fun h2=>?_⟩
 ·rintro n n' g2 ⟨p,hint,d2,rfl,rfl,p0,p1,S2,e2⟩
  exact ⟨fun g'=>∃ d3,Dx h g' l d3∧pdqTail d3 a b p lim wb wp=D,fun g' ⟨d3,S3,e3⟩=>hmid p g' d3 p0 p1 S3 e3,hck p hint g2 d2 _ S2 e2 fun g' d3 S3 e3=>⟨d3,S3,e3⟩⟩
 ·have hd:hint=.decreasing:=by cases hint <;> first | rfl | exact absurd h2 (by decide)
  subst hd
  rw [if_pos rfl,if_pos rfl,if_pos rfl] at e
  refine reverse_s S1.u hb (by omega) (by omega) hn fun g2 S2=>?_
  rw [wS (by omega) (by omega),wM c1 (by omega),wM (by omega) (by omega)]
  exact ⟨_,.increasing,_,rfl,rfl,by omega,by omega,S1.from S2,e⟩
 ·have hd:¬ hint=.decreasing:=by rintro rfl; exact h2 rfl
  rw [if_neg hd,if_neg hd,if_neg hd] at e
  exact ⟨_,hint,_,rfl,by cases hint <;> rfl,c1,c2,S1,e⟩
def PI (h:Hp) (l:Sl) (D:Array Int) (nf:Nat):Int→Int→Int→Bool→Bool→Hp→Prop:=fun n n1 n2 wb wp g=>∃ (a b lim:Nat) (d':Array Int),n=(a:Int)∧n1=(b:Int)∧n2=(lim:Int)∧a≤b∧b≤l.n∧b - a≤nf∧lim≤1000∧Dx h g l d'∧pdq ltI d' a b lim wb wp=D
def PM:Int→Int→Int→Bool→Bool→Hp→Nat:=fun n n1 _ _ _ _=>(n1 - n).toNat
theorem no_check {wb wp:Bool} {hint:Hint} (hw:(wb && wp && decide (hint=.increasing))=false) (e:pdqC d a b p lim hint wb wp=D):pdqTail d a b p lim wb wp=D:=by
 unfold pdqC at e
 have h:(if (wb && wp && decide (hint=.increasing))=true then partialInsertionSort ltI d a b else (d,false))=(d,false):=if_neg (by rw [hw]; decide)
 rw [h] at e
 exact e
theorem yes_check (e:pdqC d a b p lim .increasing true true=D):(if (partialInsertionSort ltI d a b).2=true then (partialInsertionSort ltI d a b).1 else pdqTail (partialInsertionSort ltI d a b).1 a b p lim true true)=D:=e
theorem pdq_ok (hn:l.n≤100000000000):∀ nf,PdqOk l (F212.TN nf) nf
 | 0=>fun h d a b lim Q hlt=>absurd hlt (by omega)
 | nf+1=>by
  have hT:=pdq_ok hn nf
  intro h d a b lim Q hlt B hab hb hl hQ
  show F212.G (F212.TN nf) l (a:Int) (b:Int) (lim:Int) h Q
  generalize F212.TN nf=T at hT
  unfold F212.G
  generalize hD:pdq ltI d a b lim true true=D at hQ
  refine ⟨PI h l D nf,PM,⟨a,b,lim,d,rfl,rfl,rfl,hab,hb,by omega,hl,Dx.refl B,hD⟩,?_⟩
  have hI:∀ (a b lim:Nat) wb wp g d',a≤b→b≤l.n→b - a≤nf→lim≤1000→Dx h g l d'→pdq ltI d' a b lim wb wp=D→PI h l D nf (a:Int) (b:Int) (lim:Int) wb wp g:=fun a b lim wb wp g d' h1 h2 h3 h4 S e=>⟨a,b,lim,d',rfl,rfl,rfl,h1,h2,h3,h4,S,e⟩
  clear hab hb hl hlt hD B
  intro n3 n4 n5
  refine ⟨⟨?_,?_⟩,⟨?_,?_⟩⟩
  all_goals
   rintro g ⟨a,b,lim,d1,rfl,rfl,rfl,hab,hb,hnf,hl,S,e⟩
   rw [wM hab (by omega)]
   refine ⟨fun h12=>?_,fun h12=>⟨fun h0=>?_,fun h0=>?_⟩⟩
   ·rw [pdq,if_pos (by omega)] at e
    subst e
    exact insertion_s S.u hb (by omega) hn fun h' S'=>hQ h' (S.from S')
   ·rw [pdq,if_neg (by omega),if_pos (by omega)] at e
    subst e
    exact heap_s S.u hab hb hn fun h' S'=>hQ h' (S.from S')
   rw [pdq_step (by omega) (by omega)] at e
   have hm:∀ (M0:Nat),M0=b - a→∀ (a' b' lim':Nat) wb' wp' g,b' - a' < b - a→PM (a':Int) (b':Int) (lim':Int) wb' wp' g < M0:=fun M0 h0 a' b' lim' wb' wp' g h1=>by unfold PM; omega
   have pm:∀ (lim:Int) wb wp g,PM (a:Int) (b:Int) lim wb wp g=b - a:=fun _ _ _ _=>by unfold PM; omega
  ·rw [if_neg (by decide),if_neg (by decide)] at e
   rw [pm]
   refine round_s S (by omega) hb hn e (fun p g d3 p0 p1 S3 e3=>?_) (fun p hint g d2 J1 S2 e2 hJ=>?_)
   ·have:=mid_s hT hI (hm _ rfl) S3 p0 p1 hb hn hnf hl e3
    rw [wM hab (by omega)] at this
    exact this
   ·refine ⟨fun h1=>?_,fun h1=>?_⟩
    ·have hh:hint=.increasing:=by cases hint <;> first | rfl | exact absurd h1 (by decide)
     subst hh
     have e2:=yes_check e2
     refine partial_s S2.u (by omega) hb hn fun g3 S3=>⟨_,rfl,fun ht=>?_,fun hf=>?_⟩
     ·rw [if_pos ht] at e2
      subst e2
      exact hQ g3 (S2.from S3)
     ·rw [if_neg (by rw [hf]; decide)] at e2
      exact hJ g3 _ (S2.from S3) e2
    ·have hh:¬ hint=.increasing:=by rintro rfl; exact h1 rfl
     exact hJ g _ S2 (no_check (by simp [hh]) e2)
  ·rw [if_neg (by decide),if_neg (by decide)] at e
   rw [pm]
   refine round_s S (by omega) hb hn e (fun p g d3 p0 p1 S3 e3=>?_) (fun p hint g d2 J1 S2 e2 hJ=>hJ g _ S2 (no_check rfl e2))
   have:=mid_s hT hI (hm _ rfl) S3 p0 p1 hb hn hnf hl e3
   rw [wM hab (by omega)] at this
   exact this
  ·rw [if_pos (by decide),if_pos (by decide)] at e
   rw [pm,wS (j:=lim) (by omega) (by omega)]
   refine break_s S.u hab hb hn fun g2 S2=>?_
   refine round_s (S.from S2) (by omega) hb hn e (fun p g d3 p0 p1 S3 e3=>?_) (fun p hint g d2 J1 S2 e2 hJ=>hJ g _ S2 (no_check rfl e2))
   have:=mid_s hT hI (hm _ rfl) S3 p0 p1 hb hn hnf (by omega) e3
   rw [wM hab (by omega)] at this
   exact this
  ·rw [if_pos (by decide),if_pos (by decide)] at e
   rw [pm,wS (j:=lim) (by omega) (by omega)]
   refine break_s S.u hab hb hn fun g2 S2=>?_
   refine round_s (S.from S2) (by omega) hb hn e (fun p g d3 p0 p1 S3 e3=>?_) (fun p hint g d2 J1 S2 e2 hJ=>hJ g _ S2 (no_check rfl e2))
   have:=mid_s hT hI (hm _ rfl) S3 p0 p1 hb hn hnf (by omega) e3
   rw [wM hab (by omega)] at this
   exact this
theorem sort_s {vs:List Int} (B:Buf h l 1 48 (uvs vs)) (hn:l.n≤100000000000) (hQ:∀ h',Buf h' l 1 48 (uvs (vs.mergeSort fun x y=>decide (x≤y)))→Upd h h' l l→Q (.tuple ⟨[]⟩) h'):F160.T l h Q:=by
 unfold F160.T F160.G
 have hl:vs.length=l.n:=by have:=B.len; rw [uvs_len] at this; omega
 rw [wrap_u64 (by omega) (by omega)]
 refine len_s (by omega) ⟨_,rfl,?_⟩
 have hb:=bitsLen_le (n:=l.n) (k:=37) (by show l.n < 137438953472; omega)
 refine ⟨l.n+1,pdq_ok hn (l.n+1) h vs.toArray 0 l.n (bitsLen l.n) _ (by omega) (by rw [List.toList_toArray]; exact B) (Nat.zero_le _) (Nat.le_refl _) (by omega) fun h' S=>?_⟩
 have e:pdq ltI vs.toArray 0 l.n (bitsLen l.n) true true=Go.Sort.sort ltI vs.toArray:=by unfold Go.Sort.sort; rw [List.size_toArray,hl]
 rw [e] at S
 have u:=S.u
 rw [sortInt vs] at u
 exact hQ h' u S.up
end
end Go.Eng.YtbjnlacacapjiaaGreatDoor
end
section
set_option maxRecDepth 100000
namespace Go.Eng.YtbjnlacacapjiaaGreatDoor
theorem VerR.one {h h':Hp} {b vb:Nat} {es:Array MapEntry} {c:Nat} {lv:Lv} (V:VerR h vb lv) (O:One b h h') (hb:h b=some (.map es c)):VerR h' vb lv:=by
 obtain ⟨ls,xs,h1,h2,h3,h4⟩:=V
 exact ⟨ls,xs,O.keep _ _ (by rintro rfl; rw [hb] at h1; cases h1) h1,O.row hb h2,fun x hx=>O.row hb (h3 x hx),h4⟩
theorem Ver.base {g h h':Hp} {vb:Nat} {ls:Sl} {xs:List (Sl×List Tab)} (K:Keep g h) (V:Ver h h' vb ls xs):Ver g h' vb ls xs:=
 ⟨⟨K.trans V.L.k,V.L.nl.mono K.dom,V.L.l,V.L.t,fun x hx=>(V.L.n x hx).mono K.dom,V.L.d⟩,K.dom _ V.nv,V.v⟩
structure SetA (g h:Hp) (sb vb pm cm:Nat) (ps ls:Sl) (xs:List (Sl×List Tab)) (ptrs:List ByteArray):Prop where
 V:Ver g h vb ls xs
 ns:g sb=none
 s:h sb=some (.cells ⟨[.pointer (some ⟨vb,0,none⟩),.map (some pm),.slice ps.a ps.n ps.c,.map (some cm)]⟩ 150 (0,0))
 np:NewN g ps
 p:Buf h ps 1 9 (ptrV ptrs)
 m:∃ c,h pm=some (.map #[] c)
 nc:g cm=none
 c:∃ es c,h cm=some (.map es c)∧U64s es
 ne:pm≠cm
def DA (sb cm:Nat) (ps:Sl) (k:Nat):Prop:=k=sb∨k=cm∨ps.a=some ⟨k,0,none⟩
structure Chg (D:Nat→Prop) (h h':Hp):Prop where
 keep:∀ k x,¬ D k→h k=some x→h' k=some x
 dom:∀ k,h' k=none→h k=none
theorem Chg.trans {D:Nat→Prop} {a b c:Hp} (x:Chg D a b) (y:Chg D b c):Chg D a c:=⟨fun k o n e=>y.keep k o n (x.keep k o n e),fun k e=>x.dom k (y.dom k e)⟩
theorem Chg.of_keep {D:Nat→Prop} {a b:Hp} (k:Keep a b):Chg D a b:=⟨fun i x _ e=>k i x e,k.dom⟩
theorem Chg.one {D:Nat→Prop} {b:Nat} {h h':Hp} (O:One b h h') (hb:D b):Chg D h h':=⟨fun k x n e=>O.keep k x (by rintro rfl; exact n hb) e,O.dom⟩
theorem Chg.upd {D:Nat→Prop} {h h':Hp} {s s':Sl} (U:Upd h h' s s') (hb:∀ k o,s.a=some ⟨k,o,none⟩→D k):Chg D h h':=⟨fun k x n e=>U.keep k x (fun o hs=>n (hb k o hs)) e,U.dom⟩
section
variable {g h h':Hp} {sb vb pm cm:Nat} {ps ls:Sl} {xs:List (Sl×List Tab)} {ptrs:List ByteArray}
theorem SetA.keep (S:SetA g h sb vb pm cm ps ls xs ptrs) (K:Keep h h'):SetA g h' sb vb pm cm ps ls xs ptrs:=by
 obtain ⟨c,hc⟩:=S.m
 obtain ⟨es,c2,h2,h3⟩:=S.c
 exact ⟨S.V.keep K,S.ns,K _ _ S.s,S.np,S.p.keep K,⟨c,K _ _ hc⟩,S.nc,⟨es,c2,K _ _ h2,h3⟩,S.ne⟩
theorem gone_spec {vb2:Nat} {lv2:Lv} {Q:Value→Hp→Prop} (S:SetA g h sb vb pm cm ps ls xs ptrs) (V2:VerR h vb2 lv2) (hs:totL (xs.map (·.2))≤5000000) (h5:xs.length≤5) (hs2:totL lv2≤5000000) (h52:lv2.length≤5)
  (hQ:∀ h' (l:Sl),One cm h h'→(∃ es c,h' cm=some (.map es c)∧U64s es)→Q (.slice l.a l.n l.c) h'):F98.T (some ⟨sb,0,none⟩) (some ⟨vb2,0,none⟩) h Q:=by
 obtain ⟨es,c,hc,hu⟩:=S.c
 obtain ⟨c1,hm⟩:=S.m
 refine ⟨sb,0,rfl,some cm,at_of S.s 3,es,c,hc,sb,0,rfl,?_⟩
 show ∃ p2,(h.new cm (.map #[] c)).at sb 0=_∧_
 have O1:One cm h (h.new cm (.map #[] c)):=One.new _ (by rw [hc]; simp)
 have hsc:sb≠cm:=ne_kd S.s hc (by simp [kd])
 have hs1:=O1.keep _ _ hsc S.s
 refine ⟨some ⟨vb,0,none⟩,at_of hs1 0,sb,0,rfl,some cm,at_of hs1 3,?_⟩
 have hc1:=new_at h cm (.map #[] c)
 refine counted_spec (S.V.r.one O1 hc) (Mp.new h cm c) (fun k=>⟨Int.le_refl _,by omega⟩) hs (by rw [List.length_map]; exact h5) fun h2 M2 O2=>?_
 have O12:=O1.trans O2
 have hs2':=O12.keep _ _ hsc S.s
 have hm2:=O12.keep _ _ S.ne hm
 refine ⟨sb,0,rfl,some pm,at_of hs2' 1,#[],c1,hm2,fun b4 hb4=>?_⟩
 have K3:=Keep.new hb4 (.mapIter (some pm) c1 #[] c1)
 have hi:=new_at h2 b4 (.mapIter (some pm) c1 #[] c1)
 have V3:=(V2.one O12 hc).keep K3
 have M3:=Mp.keep K3 M2
 have hs3:=K3 _ _ hs2'
 have hm3:=K3 _ _ hm2
 have O3:One cm h (h2.new b4 (.mapIter (some pm) c1 #[] c1)):=O12.trans ⟨fun k x _ e=>K3 k x e,K3.dom⟩
 generalize h2.new b4 (.mapIter (some pm) c1 #[] c1)=h3 at hi V3 M3 hs3 hm3 O3 ⊢
 clear K3 hs2' hm2 M2
 refine ⟨fun hh=>hh=h3,fun _=>0,rfl,?_⟩
 intro hh e
 have e':=e.symm
 subst e'
 refine ⟨b4,some pm,c1,#[],c1,#[],c1,rfl,hi,hm3,rfl,fun e he=>by simp at he,fun _=>?_⟩
 obtain ⟨ls2,xs2,v1,v2,v3,rfl⟩:=V3
 have hn2:ls2.n=xs2.length:=by have:=v2.1; rw [slV_length,List.length_map] at this; omega
 rw [List.length_map] at h52
 refine ⟨vb2,0,rfl,ls2,at_of v1 0,fun l1 n1 h4=>∃ P R vs,xs2=P++R∧n1=(P.length:Int)∧Buf h4 l1 1 48 (uvs vs)∧NewN h3 l1∧Keep h3 h4∧vs.length≤totL (P.map (·.2)),fun _ n1 _=>xs2.length - n1.toNat,⟨[],xs2,[],rfl,rfl,Buf.nil _ _ _,.inl rfl,Keep.refl _,Nat.zero_le _⟩,?_⟩
 rintro l1 n1 h4 ⟨P,R,vs,rfl,rfl,B4,N4,K4,hv4⟩
 rw [List.length_append] at hn2 h52
 have htot:totL (P.map (·.2))+totL (R.map (·.2))≤5000000:=by
  unfold totL at hs2 ⊢
  rw [List.map_append,List.map_append,List.sum_append] at hs2
  exact hs2
 refine ⟨fun hlt=>?_,fun hge=>?_⟩
 ·rcases R with _ | ⟨x,R⟩
  ·exact absurd hlt (by simp at hn2; omega)
  rw [List.length_cons] at hn2 h52
  obtain ⟨_,b1,o1,ha1,hat1⟩:=rows_rd (K4.row v2) (i:=P.length) (x:=x) (by simp)
  have htx:=v3 x (by simp)
  have hxn:x.1.n=x.2.length:=by have:=htx.1; rw [tabV_len] at this; omega
  have hxt:totL ((x::R).map (·.2))=x.2.length+totL (R.map (·.2)):=by simp [totL]
  refine ⟨b1,o1,ha1,⟨by omega,hlt⟩,x.1,by rw [Int.toNat_natCast]; exact hat1,fun l3 n2 h5=>∃ A B vs,x.2=A++B∧n2=(A.length:Int)∧Buf h5 l3 1 48 (uvs vs)∧NewN h3 l3∧Keep h3 h5∧vs.length≤totL (P.map (·.2))+A.length,fun _ n2 _=>x.2.length - n2.toNat,⟨[],x.2,vs,rfl,rfl,B4,N4,K4,by simpa using hv4⟩,?_⟩
  rintro l3 n2 h5 ⟨A,B,vs5,eAB,rfl,B5,N5,K5,hv5⟩
  refine ⟨fun hlt1=>?_,fun hge1=>?_⟩
  ·rcases B with _ | ⟨t,B⟩
   ·exact absurd hlt1 (by rw [hxn,eAB]; simp)
   rw [eAB] at htx
   have eL:x.2.length=A.length+(B.length+1):=by rw [eAB,List.length_append,List.length_cons]
   refine tab_rd (K5.row htx) rfl fun b2 o2=>?_
   refine ⟨sb,0,rfl,some cm,at_of (K5 _ _ hs3) 3,?_⟩
   refine Mp.get (Mp.keep K5 M3) t.num fun es4 c4=>⟨fun _=>?_,fun _=>?_⟩
   ·have h5n:l3.n=vs5.length:=by have:=B5.len; rw [uvs_len] at this; omega
    refine append_buf B5 rfl rfl (by omega) fun l4 h6 B6 hl6 U6=>?_
    obtain ⟨K6,N6⟩:=N5.upd K5 U6
    rw [next_i (n:=5100000) (by omega) (by omega)]
    refine ⟨⟨A++[t],B,vs5++[t.num],by rw [eAB]; simp,by simp,by unfold uvs at B6 ⊢; rw [List.map_append]; exact B6,N6,K6,by simp only [List.length_append,List.length_singleton]; omega⟩,by (try dsimp only); rw [eL]; omega⟩
   ·rw [next_i (n:=5100000) (by omega) (by omega)]
    refine ⟨⟨A++[t],B,vs5,by rw [eAB]; simp,by simp,B5,N5,K5,by simp only [List.length_append,List.length_singleton]; omega⟩,by (try dsimp only); rw [eL]; omega⟩
  ·have hB:B=[]:=List.eq_nil_of_length_eq_zero (by have:=congrArg List.length eAB; rw [List.length_append] at this; omega)
   subst hB
   rw [List.append_nil] at eAB
   rw [next_i (n:=100) (by omega) (by omega)]
   refine ⟨⟨P++[x],R,vs5,by simp,by simp,B5,N5,K5,?_⟩,by (try dsimp only); rw [List.length_append,List.length_cons]; omega⟩
   have:totL ((P++[x]).map (·.2))=totL (P.map (·.2))+x.2.length:=by simp [totL]
   rw [this,eAB]; exact hv5
 ·have h4n:l1.n=vs.length:=by have:=B4.len; rw [uvs_len] at this; omega
  refine sort_s B4 (by omega) fun h7 _ U7=>?_
  obtain ⟨K7,N7⟩:=N4.upd K4 U7
  obtain ⟨es7,c7,e7,u7,_⟩:=Mp.keep K7 M3
  exact hQ h7 l1 (O3.trans ⟨fun k x _ e=>K7 k x e,K7.dom⟩) ⟨es7,c7,e7,u7⟩
end
end Go.Eng.YtbjnlacacapjiaaGreatDoor
end
section
set_option maxRecDepth 100000
namespace Go.Eng.YtbjnlacacapjiaaGreatDoor
theorem ptrV_length (l:List ByteArray):(ptrV l).length=l.length:=List.length_map _
theorem ptr_one (l:List ByteArray):∀ v∈ptrV l,Value.oneCell' v=true:=fun v hv=>by
 unfold ptrV at hv
 obtain ⟨s,_,rfl⟩:=List.mem_map.1 hv
 rfl
theorem apply_spec {g h:Hp} {sb vb pm cm:Nat} {ps ls l l1 l2:Sl} {xs:List (Sl×List Tab)} {ptrs:List ByteArray} {e:Edit} {a b c:Int} {Q:Value→Hp→Prop}
  (S:SetA g h sb vb pm cm ps ls xs ptrs) (E:EdAt g e l l1 l2) (hp:ptrs.length=xs.length) (h1:1≤xs.length) (h5:xs.length≤5) (hs:totL (xs.map (·.2))+e.inn.length≤4000000) (ho:e.out.length≤4000000)
  (hQ:∀ h' c (r:Sl) vb' ls' xs' ptrs',Chg (DA sb cm ps) h h'→SetA g h' sb vb' pm cm ps ls' xs' ptrs'→Res (xs.map (·.2)) e c (xs'.map (·.2))→(c=0→ptrs'=e.ptr)→(c≠0→xs'=xs∧ptrs'=ptrs)→Q (.tuple ⟨[.slice r.a r.n r.c,.int .i64 c]⟩) h'):F33.T (some ⟨sb,0,none⟩) a b c l l1 l2 h Q:=by
 have Eh:=E.keep S.V.L.k
 have hl2:l2.n=e.ptr.length:=by have:=E.ptr.1; rw [ptrV_length] at this; omega
 have hln:=S.V.L.len
 refine ⟨sb,0,rfl,some ⟨vb,0,none⟩,at_of S.s 0,vb,0,rfl,ls,at_of S.V.v 0,fun hlen=>?_,fun hlen=>?_⟩
 ·have hpl:e.ptr.length=(xs.map (·.2)).length:=by rw [List.length_map]; omega
  refine ⟨sb,0,rfl,some ⟨vb,0,none⟩,at_of S.s 0,?_⟩
  refine copied_ver S.V.r (by rw [List.length_map]; exact h5) (by omega) fun h1 vb1 ls1 xs1 V1 e1=>⟨some ⟨vb1,0,none⟩,rfl,?_⟩
  have hx1l:xs1.length=xs.length:=by have:=congrArg List.length e1; simpa using this
  refine out_spec V1 Eh.out (by rw [e1]; omega) (by omega) fun h2 xs2 V2 C2 e2=>⟨_,rfl,fun hc=>?_,fun hc=>?_⟩
  ·rw [e1] at hc e2
   have so:=outM_sum e.out (xs.map (·.2))
   have hx2l:xs2.length=xs.length:=by have:=congrArg List.length e2; rw [List.length_map,so.2.1,List.length_map] at this; exact this
   refine in_spec V2 Eh.inn (by rw [e2]; omega) (by omega) (by omega) fun h3 c3 xs3 V3 C3 r3=>⟨c3,rfl,fun hc3=>?_,fun hc3=>?_⟩
   ·subst hc3
    have S3:=S.keep V3.L.k
    have V3g:=V3.base S.V.L.k
    have hR:Res (xs.map (·.2)) e 0 (xs3.map (·.2)):=by
     unfold Res
     rw [if_pos hpl,if_pos hc]
     unfold InR at r3
     rw [e2] at r3
     exact r3
    refine ⟨sb,0,rfl,some ⟨vb,0,none⟩,at_of S3.s 0,sb,0,rfl,canW_new S3.s (by simp),sb,0,rfl,?_⟩
    have C4:Ck [152] h3 (h3.wr sb 0 [.pointer (some ⟨vb1,0,none⟩)]):=Ck.wr S3.s
    have K4:Keep g (h3.wr sb 0 [.pointer (some ⟨vb1,0,none⟩)]):=V3g.L.k.wr S.ns _ _
    have s4:=wr_at (o:=0) (vs:=[.pointer (some ⟨vb1,0,none⟩)]) S3.s
    have Cg4:Chg (DA sb cm ps) h (h3.wr sb 0 [.pointer (some ⟨vb1,0,none⟩)]):=by
     refine (Chg.of_keep V3.L.k).trans ⟨fun k x n ek=>?_,C4.dom⟩
     unfold Hp.wr
     rw [if_neg (fun hk=>n (.inl hk))]; exact ek
    have V4:=V3g.ck C4 K4 (by decide) (by decide) (by decide)
    have Vo4:=S3.V.ck C4 K4 (by decide) (by decide) (by decide)
    have p4:=C4.buf (by decide) S3.p
    obtain ⟨cp,hcp⟩:=S3.m
    have m4:=C4.keep _ _ hcp (by simp [kd])
    obtain ⟨es,ce,hce,hue⟩:=S3.c
    have c4:=C4.keep _ _ hce (by simp [kd])
    clear C4
    generalize h3.wr sb 0 [.pointer (some ⟨vb1,0,none⟩)]=h4 at K4 s4 Cg4 V4 Vo4 p4 m4 c4 ⊢
    have hpn:ps.n=ptrs.length:=by have:=p4.len; rw [ptrV_length] at this; omega
    have hmin:Nat.min l2.n ps.n=l2.n:=Nat.min_eq_left (by omega)
    refine ⟨ps,at_of s4 2,ptrV e.ptr,?_⟩
    rw [hmin,Nat.mul_one]
    obtain ⟨bp,hbp⟩:=buf_b p4 (by rw [ptrV_length]; omega)
    obtain ⟨w5,U5,B5⟩:=bufWr' (A:=[]) (U:=ptrV ptrs) (V:=ptrV e.ptr) (B:=[]) (by rw [List.nil_append,List.append_nil]; exact p4) (by rw [ptrV_length,ptrV_length]; omega) hbp
    simp only [List.nil_append,List.append_nil,List.length_nil] at w5 U5 B5
    rw [← hbp] at w5 U5 B5
    refine ⟨K4.row E.ptr,ptr_one _,w5,?_⟩
    have C5:Ck [11] h4 (h4.wrA ps.a (ptrV e.ptr)):=Ck.of_upd p4 U5
    have K5:=(S.np.upd K4 U5).1
    have S5:SetA g (h4.wrA ps.a (ptrV e.ptr)) sb vb1 pm cm ps ls1 xs3 e.ptr:=⟨V4.ck C5 K5 (by decide) (by decide) (by decide),S.ns,C5.keep _ _ s4 (show 152∉[11] by decide),S.np,B5,⟨cp,C5.keep _ _ m4 (show 0∉[11] by decide)⟩,S.nc,⟨es,ce,C5.keep _ _ c4 (show 0∉[11] by decide),hue⟩,S.ne⟩
    have Vo5:=Vo4.ck C5 K5 (by decide) (by decide) (by decide)
    have Cg5:Chg (DA sb cm ps) h (h4.wrA ps.a (ptrV e.ptr)):=Cg4.trans (Chg.upd U5 fun k o hk=>.inr (.inr (by rw [hbp] at hk ⊢; simp only [Option.some.injEq,Addr.mk.injEq,and_true] at hk; rw [hk.1])))
    obtain ⟨_,l2',hS,hT2,hl2',_⟩:=hR.ok
    have t3:totL (xs3.map (·.2))≤5000000:=by rw [hS.totL]; omega
    have n3:xs3.length=xs.length:=by have:=hS.1; rw [List.length_map,hl2',List.length_map] at this; exact this
    refine gone_spec S5 Vo5.r t3 (by omega) (by omega) (by rw [List.length_map]; exact h5) fun h6 r O6 c6=>⟨r,rfl,?_⟩
    obtain ⟨es5,ce5,hce5,_⟩:=S5.c
    have K6:=K5.one O6 S.nc
    have S6:SetA g h6 sb vb1 pm cm ps ls1 xs3 e.ptr:=by
     obtain ⟨cp5,hcp5⟩:=S5.m
     have C6:=O6.ck hce5
     exact ⟨S5.V.ck C6 K6 (by simp [kd]) (by simp [kd]) (by simp [kd]),S.ns,O6.keep _ _ (ne_kd S5.s hce5 (by simp [kd])) S5.s,S.np,C6.buf (by simp [kd]) S5.p,⟨cp5,O6.keep _ _ S.ne hcp5⟩,S.nc,c6,S.ne⟩
    exact hQ h6 0 r vb1 ls1 xs3 e.ptr (Cg5.trans (Chg.one O6 (.inr (.inl rfl)))) S6 hR (fun _=>rfl) (fun h0=>absurd rfl h0)
   ·refine hQ h3 c3 ⟨none,0,0⟩ vb ls xs ptrs (Chg.of_keep V3.L.k) (S.keep V3.L.k) ?_ (fun h0=>absurd h0 hc3) (fun _=>⟨rfl,rfl⟩)
    unfold Res
    rw [if_pos hpl,if_pos hc]
    unfold InR at r3
    rw [e2] at r3
    split
    ·next h0=>
     rw [if_pos h0] at r3
     exact r3.imp id fun k=>absurd k.1 hc3
    ·next h0=>rw [if_neg h0] at r3; exact r3
  ·rw [e1] at hc
   rw [e1]
   refine hQ h2 _ ⟨none,0,0⟩ vb ls xs ptrs (Chg.of_keep V2.L.k) (S.keep V2.L.k) ?_ (fun h0=>absurd h0 hc) (fun _=>⟨rfl,rfl⟩)
   unfold Res
   rw [if_pos hpl,if_neg hc]
 ·refine hQ h 133 ⟨none,0,0⟩ vb ls xs ptrs (Chg.of_keep (Keep.refl h)) S ?_ (fun h0=>absurd h0 (by decide)) (fun _=>⟨rfl,rfl⟩)
  unfold Res
  rw [if_neg (by rw [List.length_map]; omega)]
theorem new_spec0 {h:Hp} {n:Int} {k:Nat} {Q:Value→Hp→Prop} (hk:n=(k:Int)) (k1:1≤k) (k5:k≤5)
  (hQ:∀ h' sb vb pm cm ps ls xs,SetA h h' sb vb pm cm ps ls xs (List.replicate k ⟨#[]⟩)→h pm=none→xs.map (·.2)=List.replicate k []→Q (.pointer (some ⟨sb,0,none⟩)) h'):F25.T n h Q:=by
 subst hk
 have hm:iMin (iMax (k:Int) 1) 5=(k:Int):=by
  unfold iMin iMax
  by_cases h1:(k:Int) < 1
  ·omega
  ·rw [if_neg h1]
   by_cases h5:5 < (k:Int)
   ·omega
   ·rw [if_neg h5]
 unfold F25.T
 rw [hm]
 simp only [Int.toNat_natCast]
 refine ⟨⟨by omega,by omega,by omega⟩,⟨by omega,by omega,by omega⟩,⟨by omega,by omega,by omega⟩,fun b hb=>⟨⟨by omega,by omega,by omega⟩,fun b1 hb1=>⟨⟨by omega,by omega,by omega⟩,fun b2 hb2=>⟨⟨by omega,by omega,by omega⟩,⟨by omega,by omega,by omega⟩,fun b3 hb3 b4 hb4 b5 hb5=>?_⟩⟩⟩⟩
 have K0:=Keep.new hb (.cells (Builtin.zeroCells (List.toArray [.slice none 0 0]) k) 77 (0,0))
 have B0:=buf_make h b k 77 [.slice none 0 0] (by decide)
 rw [zerosV_one] at B0
 generalize h.new b (.cells (Builtin.zeroCells (List.toArray [.slice none 0 0]) k) 77 (0,0))=g0 at *
 have K1:=Keep.new hb1 (.cells ⟨[.slice (some ⟨b,0,none⟩) k k]⟩ 146 (0,0))
 have x1:=new_at g0 b1 (.cells ⟨[.slice (some ⟨b,0,none⟩) k k]⟩ 146 (0,0))
 generalize g0.new b1 (.cells ⟨[.slice (some ⟨b,0,none⟩) k k]⟩ 146 (0,0))=g1 at *
 have K2:=Keep.new hb2 (.map #[] 0)
 have x2:=new_at g1 b2 (.map #[] 0)
 generalize g1.new b2 (.map #[] 0)=g2 at *
 have K3:=Keep.new hb3 (.cells (Builtin.zeroCells (List.toArray [.string ⟨#[]⟩]) k) 9 (0,0))
 have B3:=buf_make g2 b3 k 9 [.string ⟨#[]⟩] (by decide)
 rw [zerosV_one] at B3
 generalize g2.new b3 (.cells (Builtin.zeroCells (List.toArray [.string ⟨#[]⟩]) k) 9 (0,0))=g3 at *
 have K4:=Keep.new hb4 (.map #[] 0)
 have x4:=new_at g3 b4 (.map #[] 0)
 generalize g3.new b4 (.map #[] 0)=g4 at *
 have K5:=Keep.new hb5 (.cells ⟨[.pointer (some ⟨b1,0,none⟩),.map (some b2),.slice (some ⟨b3,0,none⟩) k k,.map (some b4)]⟩ 150 (0,0))
 have x5:=new_at g4 b5 (.cells ⟨[.pointer (some ⟨b1,0,none⟩),.map (some b2),.slice (some ⟨b3,0,none⟩) k k,.map (some b4)]⟩ 150 (0,0))
 generalize g4.new b5 (.cells ⟨[.pointer (some ⟨b1,0,none⟩),.map (some b2),.slice (some ⟨b3,0,none⟩) k k,.map (some b4)]⟩ 150 (0,0))=g5 at *
 have K15:=((K2.trans K3).trans K4).trans K5
 have Kall:=(K0.trans K1).trans K15
 have d1:=K0.dom
 have d2:=(K0.trans K1).dom
 have d3:=((K0.trans K1).trans K2).dom
 have d4:=(((K0.trans K1).trans K2).trans K3).dom
 have d5:=((((K0.trans K1).trans K2).trans K3).trans K4).dom
 have hmem:∀ x∈List.replicate k ((⟨none,0,0⟩:Sl),([]:List Tab)),x=((⟨none,0,0⟩:Sl),([]:List Tab)):=fun x hx=>(List.mem_replicate.1 hx).2
 refine hQ g5 b5 b1 b2 b4 ⟨some ⟨b3,0,none⟩,k,k⟩ ⟨some ⟨b,0,none⟩,k,k⟩ (List.replicate k (⟨none,0,0⟩,[])) ⟨⟨⟨Kall,.inr ⟨b,rfl,hb⟩,?_,fun x hx=>by rw [hmem x hx]; exact Buf.nil _ _ _,fun x hx=>by rw [hmem x hx]; exact .inl rfl,fun i j x y hx _ _=>by rw [hmem x (List.mem_of_getElem? hx)]; exact off_nil (.inl rfl)⟩,d1 _ hb1,K15 _ _ x1⟩,d5 _ hb5,x5,.inr ⟨b3,rfl,d3 _ hb3⟩,?_,⟨0,((K3.trans K4).trans K5) _ _ x2⟩,d4 _ hb4,⟨#[],0,K5 _ _ x4,fun e he=>by simp at he⟩,?_⟩ (d2 _ hb2) (by simp)
 ·have:slV ((List.replicate k ((⟨none,0,0⟩:Sl),([]:List Tab))).map (·.1))=List.replicate k (.slice none 0 0):=by simp [slV]
  rw [this]
  exact (B0.keep K1).keep K15
 ·have:ptrV (List.replicate k (⟨#[]⟩:ByteArray))=List.replicate k (.string ⟨#[]⟩):=by simp [ptrV]
  rw [this]
  exact B3.keep (K4.trans K5)
 ·exact ne_of (K3 _ _ x2) hb4
theorem new_spec {h:Hp} {n:Int} {k:Nat} {Q:Value→Hp→Prop} (hk:n=(k:Int)) (k1:1≤k) (k5:k≤5)
  (hQ:∀ h' sb vb pm cm ps ls xs,SetA h h' sb vb pm cm ps ls xs (List.replicate k ⟨#[]⟩)→xs.map (·.2)=List.replicate k []→Q (.pointer (some ⟨sb,0,none⟩)) h'):F25.T n h Q:=
 new_spec0 hk k1 k5 fun h' sb vb pm cm ps ls xs S _ e=>hQ h' sb vb pm cm ps ls xs S e
end Go.Eng.YtbjnlacacapjiaaGreatDoor
end
section
set_option maxRecDepth 100000
namespace Go.Eng.YtbjnlacacapjiaaGreatDoor
theorem row_one {h:Hp} {s:Sl} {t:Nat} {vs:List Value} (B:Buf h s 1 t vs):h.row s.a s.n vs:=by have:=B.row; rwa [Nat.mul_one] at this
section
variable {g h:Hp} {sb vb pm cm:Nat} {ps ls:Sl} {xs:List (Sl×List Tab)} {ptrs:List ByteArray} {Q:Value→Hp→Prop}
theorem current_spec (S:SetA g h sb vb pm cm ps ls xs ptrs) (hQ:Q (.pointer (some ⟨vb,0,none⟩)) h):F27.T (some ⟨sb,0,none⟩) h Q:=⟨sb,0,rfl,some ⟨vb,0,none⟩,at_of S.s 0,hQ⟩
theorem levels_spec (V:Ver g h vb ls xs) (hQ:Q (.int .i64 (xs.length:Int)) h):F91.T (some ⟨vb,0,none⟩) h Q:=⟨vb,0,rfl,ls,at_of V.v 0,by rw [V.L.len]; exact hQ⟩
end
def plc (i:Int) (t:Tab):Placed:=⟨i,t.num,t.weight,t.bytes,t.entries,t.least,t.greatest⟩
def wholeM:Nat→Lv→List Placed
 | _,[]=>[]
 | i,l::lv=>l.map (plc i)++wholeM (i+1) lv
end Go.Eng.YtbjnlacacapjiaaGreatDoor
end
section
set_option maxRecDepth 100000
open Go.Proofs
namespace Go.Eng.YtbjnlacacapjiaaGreatDoor
@[reducible] def F74.G (T91:Option Addr→PT) (n n1 n2 n3 n4 n5 n6 n7 n8 n9 n10 n11 n12 n13 n14 n15 n16 n17 n18 n19 n20 n21 n22 n23 n24 n25 n26:Int) (p:Option Addr):PT:=fun h Q=>
 T91 p h fun r h1=>∃ n27:Int,r=.int .i64 n27∧Q (.int .i64 (IntKind.wrap .i64 ((iMin n8 n27) - 1))) h1
def F74.T:=F74.G F91.T
theorem F74.gen (V T91 n n1 n2 n3 n4 n5 n6 n7 n8 n9 n10 n11 n12 n13 n14 n15 n16 n17 n18 n19 n20 n21 n22 n23 n24 n25 n26 p):denF Tryz.prog [2] [(91,F91.W T91)] V [(6,.order [0,1,2,3,4,5,6])] Tryz.f74 [.v (.agg ⟨[.int .i64 n,.int .i64 n1,.int .i64 n2,.int .i64 n3,.int .i64 n4,.int .i64 n5,.int .i64 n6,.int .i64 n7,.int .i64 n8,.int .i64 n9,.int .i64 n10,.int .i64 n11,.int .i64 n12,.int .i64 n13,.int .i64 n14,.int .i64 n15,.int .i64 n16,.int .i64 n17,.int .i64 n18,.int .i64 n19,.int .i64 n20,.int .i64 n21,.int .i64 n22,.int .i64 n23,.int .i64 n24,.int .i64 n25,.int .i64 n26]⟩),.v (.pointer p)]=F74.G T91 n n1 n2 n3 n4 n5 n6 n7 n8 n9 n10 n11 n12 n13 n14 n15 n16 n17 n18 n19 n20 n21 n22 n23 n24 n25 n26 p:=by kernel_rfl
def F74.W (T74:I9 <| I9 <| I9 <| Option Addr→PT) (args:List Value):PT:=match args with
 | [.agg ⟨[.int .i64 n,.int .i64 n1,.int .i64 n2,.int .i64 n3,.int .i64 n4,.int .i64 n5,.int .i64 n6,.int .i64 n7,.int .i64 n8,.int .i64 n9,.int .i64 n10,.int .i64 n11,.int .i64 n12,.int .i64 n13,.int .i64 n14,.int .i64 n15,.int .i64 n16,.int .i64 n17,.int .i64 n18,.int .i64 n19,.int .i64 n20,.int .i64 n21,.int .i64 n22,.int .i64 n23,.int .i64 n24,.int .i64 n25,.int .i64 n26]⟩,.pointer p]=>T74 n n1 n2 n3 n4 n5 n6 n7 n8 n9 n10 n11 n12 n13 n14 n15 n16 n17 n18 n19 n20 n21 n22 n23 n24 n25 n26 p
 | _=>fun _ _=>False
def F74.V:List Value→PT:=F74.W F74.T
theorem F74.ok:FOk Tryz.prog 74 F74.V:=by
 refine ⟨⟨_,Tryz.func74,rfl,rfl⟩,fun args=>?_⟩
 unfold F74.V F74.W
 split
 ·exact denF_okE (GOk.cons F91.ok (GOk.nil)) noV_ok Tryz.func74 (F74.gen noV F91.T _ _ _ _ _ _ _ _ _ _ _ _ _ _ _ _ _ _ _ _ _ _ _ _ _ _ _ _)
 ·exact fun _ _ h=>h.elim
def F75.T (n n1:Int):PT:=fun h Q=>
 par (n1=0) (Q (.int .i64 0) h) (n1≠0∧Q (.int .i64 (IntKind.wrap .i64 (Int.tdiv (IntKind.wrap .i64 (1000*n)) n1))) h)
theorem F75.den (V n n1):denF Tryz.prog [] [] V [] Tryz.f75 [.v (.int .i64 n),.v (.int .i64 n1)]=F75.T n n1:=by kernel_rfl
def F75.W (T75:Int→Int→PT) (args:List Value):PT:=match args with
 | [.int .i64 n,.int .i64 n1]=>T75 n n1
 | _=>fun _ _=>False
def F75.V:List Value→PT:=F75.W F75.T
theorem F75.ok:FOk Tryz.prog 75 F75.V:=by
 refine ⟨⟨_,Tryz.func75,rfl,rfl⟩,fun args=>?_⟩
 unfold F75.V F75.W
 split
 ·exact denF_okE (GOk.nil) noV_ok Tryz.func75 (F75.den noV _ _)
 ·exact fun _ _ h=>h.elim
@[reducible] def F16.G (T73:Option Addr→Int→PT) (T74:I9 <| I9 <| I9 <| Option Addr→PT) (T75:Int→Int→PT) (T76:Option Addr→Int→PT) (n n1 n2 n3 n4 n5 n6 n7 n8 n9 n10 n11 n12 n13 n14 n15 n16 n17 n18 n19 n20 n21 n22 n23 n24 n25 n26:Int) (p:Option Addr):PT:=fun h Q=>
 T74 n n1 n2 n3 n4 n5 n6 n7 n8 n9 n10 n11 n12 n13 n14 n15 n16 n17 n18 n19 n20 n21 n22 n23 n24 n25 n26 p h fun r h1=>∃ n27:Int,r=.int .i64 n27∧∃ (I:Sl→Int→Int→Hp→Prop) (m:Sl→Int→Int→Hp→Nat),I ⟨none,0,0⟩ n9 0 h1∧(∀ l:Sl,∀ n28 n29:Int,∀ h2:Hp,I l n28 n29 h2→par (n29 < (iMax n27 0)) (par (n29=0) (T73 p 0 h2 fun r1 h3=>∃ l1:Sl,r1=.slice l1.a l1.n l1.c∧T75 (l1.n:Int) n5 h3 fun r2 h4=>∃ n30:Int,r2=.int .i64 n30∧appendD l 3 1 8 [.int .i64 0] 1 [.int .i64 n30] h4 fun l2 h5=>I l2 n28 (IntKind.wrap .i64 (n29+1)) h5∧m l2 n28 (IntKind.wrap .i64 (n29+1)) h5 < m l n28 n29 h2) (T76 p n29 h2 fun r3 h6=>∃ n31:Int,r3=.int .i64 n31∧T75 n31 n28 h6 fun r4 h7=>∃ n32:Int,r4=.int .i64 n32∧appendD l 3 1 8 [.int .i64 0] 1 [.int .i64 n32] h7 fun l3 h8=>I l3 (IntKind.wrap .i64 (n28*n10)) (IntKind.wrap .i64 (n29+1)) h8∧m l3 (IntKind.wrap .i64 (n28*n10)) (IntKind.wrap .i64 (n29+1)) h8 < m l n28 n29 h2)) (Q (.slice l.a l.n l.c) h2))
def F16.T:=F16.G F73.T F74.T F75.T F76.T
theorem F16.gen (V T73 T74 T75 T76 n n1 n2 n3 n4 n5 n6 n7 n8 n9 n10 n11 n12 n13 n14 n15 n16 n17 n18 n19 n20 n21 n22 n23 n24 n25 n26 p):denF Tryz.prog [2,26,34] [(73,F73.W T73),(74,F74.W T74),(75,F75.W T75),(76,F76.W T76)] V [(122,.loop [(5,.sl),(6,.int .i64),(14,.int .i64)] []),(125332,.order [0,1,4,5,2,3,6,7,8,9])] Tryz.f16 [.v (.agg ⟨[.int .i64 n,.int .i64 n1,.int .i64 n2,.int .i64 n3,.int .i64 n4,.int .i64 n5,.int .i64 n6,.int .i64 n7,.int .i64 n8,.int .i64 n9,.int .i64 n10,.int .i64 n11,.int .i64 n12,.int .i64 n13,.int .i64 n14,.int .i64 n15,.int .i64 n16,.int .i64 n17,.int .i64 n18,.int .i64 n19,.int .i64 n20,.int .i64 n21,.int .i64 n22,.int .i64 n23,.int .i64 n24,.int .i64 n25,.int .i64 n26]⟩),.v (.pointer p)]=F16.G T73 T74 T75 T76 n n1 n2 n3 n4 n5 n6 n7 n8 n9 n10 n11 n12 n13 n14 n15 n16 n17 n18 n19 n20 n21 n22 n23 n24 n25 n26 p:=by kernel_rfl
def F16.W (T16:I9 <| I9 <| I9 <| Option Addr→PT) (args:List Value):PT:=match args with
 | [.agg ⟨[.int .i64 n,.int .i64 n1,.int .i64 n2,.int .i64 n3,.int .i64 n4,.int .i64 n5,.int .i64 n6,.int .i64 n7,.int .i64 n8,.int .i64 n9,.int .i64 n10,.int .i64 n11,.int .i64 n12,.int .i64 n13,.int .i64 n14,.int .i64 n15,.int .i64 n16,.int .i64 n17,.int .i64 n18,.int .i64 n19,.int .i64 n20,.int .i64 n21,.int .i64 n22,.int .i64 n23,.int .i64 n24,.int .i64 n25,.int .i64 n26]⟩,.pointer p]=>T16 n n1 n2 n3 n4 n5 n6 n7 n8 n9 n10 n11 n12 n13 n14 n15 n16 n17 n18 n19 n20 n21 n22 n23 n24 n25 n26 p
 | _=>fun _ _=>False
def F16.V:List Value→PT:=F16.W F16.T
theorem F16.ok:FOk Tryz.prog 16 F16.V:=by
 refine ⟨⟨_,Tryz.func16,rfl,rfl⟩,fun args=>?_⟩
 unfold F16.V F16.W
 split
 ·exact denF_okE (GOk.cons F73.ok (GOk.cons F74.ok (GOk.cons F75.ok (GOk.cons F76.ok (GOk.nil))))) noV_ok Tryz.func16 (F16.gen noV F73.T F74.T F75.T F76.T _ _ _ _ _ _ _ _ _ _ _ _ _ _ _ _ _ _ _ _ _ _ _ _ _ _ _ _)
 ·exact fun _ _ h=>h.elim
@[reducible] def F77.G (T73:Option Addr→Int→PT) (n n1 n2 n3 n4 n5 n6 n7 n8 n9 n10 n11 n12 n13 n14 n15 n16 n17 n18 n19 n20 n21 n22 n23 n24 n25 n26:Int) (p:Option Addr):PT:=fun h Q=>
 T73 p 0 h fun r h1=>∃ l:Sl,r=.slice l.a l.n l.c∧par (n7≤(l.n:Int)) (Q (.bool true) h1) (Q (.bool false) h1)
def F77.T:=F77.G F73.T
theorem F77.gen (V T73 n n1 n2 n3 n4 n5 n6 n7 n8 n9 n10 n11 n12 n13 n14 n15 n16 n17 n18 n19 n20 n21 n22 n23 n24 n25 n26 p):denF Tryz.prog [2] [(73,F73.W T73)] V [(6,.order [0,3,4,1,2,5,6])] Tryz.f77 [.v (.agg ⟨[.int .i64 n,.int .i64 n1,.int .i64 n2,.int .i64 n3,.int .i64 n4,.int .i64 n5,.int .i64 n6,.int .i64 n7,.int .i64 n8,.int .i64 n9,.int .i64 n10,.int .i64 n11,.int .i64 n12,.int .i64 n13,.int .i64 n14,.int .i64 n15,.int .i64 n16,.int .i64 n17,.int .i64 n18,.int .i64 n19,.int .i64 n20,.int .i64 n21,.int .i64 n22,.int .i64 n23,.int .i64 n24,.int .i64 n25,.int .i64 n26]⟩),.v (.pointer p)]=F77.G T73 n n1 n2 n3 n4 n5 n6 n7 n8 n9 n10 n11 n12 n13 n14 n15 n16 n17 n18 n19 n20 n21 n22 n23 n24 n25 n26 p:=by kernel_rfl
def F77.W (T77:I9 <| I9 <| I9 <| Option Addr→PT) (args:List Value):PT:=match args with
 | [.agg ⟨[.int .i64 n,.int .i64 n1,.int .i64 n2,.int .i64 n3,.int .i64 n4,.int .i64 n5,.int .i64 n6,.int .i64 n7,.int .i64 n8,.int .i64 n9,.int .i64 n10,.int .i64 n11,.int .i64 n12,.int .i64 n13,.int .i64 n14,.int .i64 n15,.int .i64 n16,.int .i64 n17,.int .i64 n18,.int .i64 n19,.int .i64 n20,.int .i64 n21,.int .i64 n22,.int .i64 n23,.int .i64 n24,.int .i64 n25,.int .i64 n26]⟩,.pointer p]=>T77 n n1 n2 n3 n4 n5 n6 n7 n8 n9 n10 n11 n12 n13 n14 n15 n16 n17 n18 n19 n20 n21 n22 n23 n24 n25 n26 p
 | _=>fun _ _=>False
def F77.V:List Value→PT:=F77.W F77.T
theorem F77.ok:FOk Tryz.prog 77 F77.V:=by
 refine ⟨⟨_,Tryz.func77,rfl,rfl⟩,fun args=>?_⟩
 unfold F77.V F77.W
 split
 ·exact denF_okE (GOk.cons F73.ok (GOk.nil)) noV_ok Tryz.func77 (F77.gen noV F73.T _ _ _ _ _ _ _ _ _ _ _ _ _ _ _ _ _ _ _ _ _ _ _ _ _ _ _ _)
 ·exact fun _ _ h=>h.elim
def F145.T (n:Int):PT:=fun h Q=>
 par (n=n) (Q (.bool false) h) (Q (.bool true) h)
theorem F145.den (V n):denF Tryz.prog [] [] V [] Tryz.f145 [.v (.int .i64 n)]=F145.T n:=by kernel_rfl
def F145.W (T145:Int→PT) (args:List Value):PT:=match args with
 | [.int .i64 n]=>T145 n
 | _=>fun _ _=>False
def F145.V:List Value→PT:=F145.W F145.T
theorem F145.ok:FOk Tryz.prog 145 F145.V:=by
 refine ⟨⟨_,Tryz.func145,rfl,rfl⟩,fun args=>?_⟩
 unfold F145.V F145.W
 split
 ·exact denF_okE (GOk.nil) noV_ok Tryz.func145 (F145.den noV _)
 ·exact fun _ _ h=>h.elim
@[reducible] def F80.G (T145:Int→PT) (n n1:Int):PT:=fun h Q=>
 T145 n h fun r h1=>∃ b:Bool,r=.bool b∧parB b (T145 n1 h1 fun r1 h2=>∃ b1:Bool,r1=.bool b1∧parB b1 (Q (.int .i64 0) h2) (Q (.int .i64 (-1)) h2)) (T145 n1 h1 fun r2 h3=>∃ b2:Bool,r2=.bool b2∧parB b2 (Q (.int .i64 1) h3) (par (n < n1) (Q (.int .i64 (-1)) h3) (par (n1 < n) (Q (.int .i64 1) h3) (Q (.int .i64 0) h3))))
def F80.T:=F80.G F145.T
theorem F80.gen (V T145 n n1):denF Tryz.prog [] [(145,F145.W T145)] V [] Tryz.f80 [.v (.int .i64 n),.v (.int .i64 n1)]=F80.G T145 n n1:=by kernel_rfl
def F80.W (T80:Int→Int→PT) (args:List Value):PT:=match args with
 | [.int .i64 n,.int .i64 n1]=>T80 n n1
 | _=>fun _ _=>False
def F80.V:List Value→PT:=F80.W F80.T
theorem F80.ok:FOk Tryz.prog 80 F80.V:=by
 refine ⟨⟨_,Tryz.func80,rfl,rfl⟩,fun args=>?_⟩
 unfold F80.V F80.W
 split
 ·exact denF_okE (GOk.cons F145.ok (GOk.nil)) noV_ok Tryz.func80 (F80.gen noV F145.T _ _)
 ·exact fun _ _ h=>h.elim
@[reducible] def F79.G (T77:I9 <| I9 <| I9 <| Option Addr→PT) (T80:Int→Int→PT) (n n1:Int) (b o b1 o1 b2 o2:Nat):PT:=fun h Q=>
 ∃ J:Hp→Prop,(∀ h1:Hp,J h1→∃ l:Sl,h1.at b2 o2=some (.slice l.a l.n l.c)∧∃ b3 o3,(l.a:Option Addr)=some ⟨b3,o3,none⟩∧((0:Int)≤n1∧n1 < (l.n:Int))∧∃ n2:Int,h1.at b3 (o3+n1.toNat)=some (.int .i64 n2)∧∃ l1:Sl,h1.at b2 o2=some (.slice l1.a l1.n l1.c)∧∃ b4 o4,(l1.a:Option Addr)=some ⟨b4,o4,none⟩∧((0:Int)≤n∧n < (l1.n:Int))∧∃ n3:Int,h1.at b4 (o4+n.toNat)=some (.int .i64 n3)∧T80 n2 n3 h1 fun r h2=>∃ n4:Int,r=.int .i64 n4∧Q (.int .i64 n4) h2)∧(par (n=0) (par (n=n1) (J h) (∃ n5:Int,h.at b o=some (.int .i64 n5)∧∃ n6:Int,h.at b (o+1)=some (.int .i64 n6)∧∃ n7:Int,h.at b (o+2)=some (.int .i64 n7)∧∃ n8:Int,h.at b (o+3)=some (.int .i64 n8)∧∃ n9:Int,h.at b (o+4)=some (.int .i64 n9)∧∃ n10:Int,h.at b (o+5)=some (.int .i64 n10)∧∃ n11:Int,h.at b (o+6)=some (.int .i64 n11)∧∃ n12:Int,h.at b (o+7)=some (.int .i64 n12)∧∃ n13:Int,h.at b (o+8)=some (.int .i64 n13)∧∃ n14:Int,h.at b (o+9)=some (.int .i64 n14)∧∃ n15:Int,h.at b (o+10)=some (.int .i64 n15)∧∃ n16:Int,h.at b (o+11)=some (.int .i64 n16)∧∃ n17:Int,h.at b (o+12)=some (.int .i64 n17)∧∃ n18:Int,h.at b (o+13)=some (.int .i64 n18)∧∃ n19:Int,h.at b (o+14)=some (.int .i64 n19)∧∃ n20:Int,h.at b (o+15)=some (.int .i64 n20)∧∃ n21:Int,h.at b (o+16)=some (.int .i64 n21)∧∃ n22:Int,h.at b (o+17)=some (.int .i64 n22)∧∃ n23:Int,h.at b (o+18)=some (.int .i64 n23)∧∃ n24:Int,h.at b (o+19)=some (.int .i64 n24)∧∃ n25:Int,h.at b (o+20)=some (.int .i64 n25)∧∃ n26:Int,h.at b (o+21)=some (.int .i64 n26)∧∃ n27:Int,h.at b (o+22)=some (.int .i64 n27)∧∃ n28:Int,h.at b (o+23)=some (.int .i64 n28)∧∃ n29:Int,h.at b (o+24)=some (.int .i64 n29)∧∃ n30:Int,h.at b (o+25)=some (.int .i64 n30)∧∃ n31:Int,h.at b (o+26)=some (.int .i64 n31)∧∃ p:Option Addr,h.at b1 o1=some (.pointer p)∧T77 n5 n6 n7 n8 n9 n10 n11 n12 n13 n14 n15 n16 n17 n18 n19 n20 n21 n22 n23 n24 n25 n26 n27 n28 n29 n30 n31 p h fun r1 h3=>∃ b5:Bool,r1=.bool b5∧parB b5 (T80 n n1 h3 fun r2 h4=>∃ n32:Int,r2=.int .i64 n32∧Q (.int .i64 n32) h4) (J h3))) (par (n1=0) (par (n=n1) (J h) (∃ n33:Int,h.at b o=some (.int .i64 n33)∧∃ n34:Int,h.at b (o+1)=some (.int .i64 n34)∧∃ n35:Int,h.at b (o+2)=some (.int .i64 n35)∧∃ n36:Int,h.at b (o+3)=some (.int .i64 n36)∧∃ n37:Int,h.at b (o+4)=some (.int .i64 n37)∧∃ n38:Int,h.at b (o+5)=some (.int .i64 n38)∧∃ n39:Int,h.at b (o+6)=some (.int .i64 n39)∧∃ n40:Int,h.at b (o+7)=some (.int .i64 n40)∧∃ n41:Int,h.at b (o+8)=some (.int .i64 n41)∧∃ n42:Int,h.at b (o+9)=some (.int .i64 n42)∧∃ n43:Int,h.at b (o+10)=some (.int .i64 n43)∧∃ n44:Int,h.at b (o+11)=some (.int .i64 n44)∧∃ n45:Int,h.at b (o+12)=some (.int .i64 n45)∧∃ n46:Int,h.at b (o+13)=some (.int .i64 n46)∧∃ n47:Int,h.at b (o+14)=some (.int .i64 n47)∧∃ n48:Int,h.at b (o+15)=some (.int .i64 n48)∧∃ n49:Int,h.at b (o+16)=some (.int .i64 n49)∧∃ n50:Int,h.at b (o+17)=some (.int .i64 n50)∧∃ n51:Int,h.at b (o+18)=some (.int .i64 n51)∧∃ n52:Int,h.at b (o+19)=some (.int .i64 n52)∧∃ n53:Int,h.at b (o+20)=some (.int .i64 n53)∧∃ n54:Int,h.at b (o+21)=some (.int .i64 n54)∧∃ n55:Int,h.at b (o+22)=some (.int .i64 n55)∧∃ n56:Int,h.at b (o+23)=some (.int .i64 n56)∧∃ n57:Int,h.at b (o+24)=some (.int .i64 n57)∧∃ n58:Int,h.at b (o+25)=some (.int .i64 n58)∧∃ n59:Int,h.at b (o+26)=some (.int .i64 n59)∧∃ p1:Option Addr,h.at b1 o1=some (.pointer p1)∧T77 n33 n34 n35 n36 n37 n38 n39 n40 n41 n42 n43 n44 n45 n46 n47 n48 n49 n50 n51 n52 n53 n54 n55 n56 n57 n58 n59 p1 h fun r3 h5=>∃ b6:Bool,r3=.bool b6∧parB b6 (T80 n n1 h5 fun r4 h6=>∃ n60:Int,r4=.int .i64 n60∧Q (.int .i64 n60) h6) (J h5))) (J h)))
def F79.T:=F79.G F77.T F80.T
theorem F79.gen (V T77 T80 n n1 b o b1 o1 b2 o2):denF Tryz.prog [] [(77,F77.W T77),(80,F80.W T80)] V [(3,.join [] []),(14,.order [0,1,2,3,4,5,6,7,8,9])] Tryz.f79 [.v (.int .i64 n),.v (.int .i64 n1),.p b o,.p b1 o1,.p b2 o2]=F79.G T77 T80 n n1 b o b1 o1 b2 o2:=by kernel_rfl
def F79.W (T79:Int→Int→Nat→Nat→Nat→Nat→Nat→Nat→PT) (args:List Value):PT:=match args with
 | [.int .i64 n,.int .i64 n1,.pointer (some ⟨b,o,none⟩),.pointer (some ⟨b1,o1,none⟩),.pointer (some ⟨b2,o2,none⟩)]=>T79 n n1 b o b1 o1 b2 o2
 | _=>fun _ _=>False
def F79.V:List Value→PT:=F79.W F79.T
theorem F79.ok:FOk Tryz.prog 79 F79.V:=by
 refine ⟨⟨_,Tryz.func79,rfl,rfl⟩,fun args=>?_⟩
 unfold F79.V F79.W
 split
 ·exact denF_okEA (xs:=[.v _,.v _,.p _ _,.p _ _,.p _ _]) (GOk.cons F77.ok (GOk.cons F80.ok (GOk.nil))) noV_ok Tryz.func79 (inStep_cons rfl (inStep_cons rfl (inStep_cons rfl (inStep_cons rfl (inStep_cons rfl (inStep_nil _)))))) (by intro x hx; simp only [List.mem_cons,List.not_mem_nil,or_false] at hx; rcases hx with rfl | rfl | rfl | rfl | rfl <;> rfl) (F79.gen noV F77.T F80.T _ _ _ _ _ _ _ _)
 ·exact fun _ _ h=>h.elim
def F232.T (l:Sl) (n n1 n2:Int) (b o b1 o1 b2 o2:Nat):PT:=fun h Q=>
 ∃ (I:Int→Hp→Prop) (m:Int→Hp→Nat),I 0 h∧(∀ n3:Int,∀ h1:Hp,I n3 h1→par (n3 < n2) (∃ b3 o3,(l.a:Option Addr)=some ⟨b3,o3,none⟩∧((0:Int)≤(IntKind.wrap .i64 (n1+n3))∧(IntKind.wrap .i64 (n1+n3)) < (l.n:Int))∧∃ n4:Int,h1.at b3 (o3+((IntKind.wrap .i64 (n1+n3))).toNat)=some (.int .i64 n4)∧∃ b4 o4,(l.a:Option Addr)=some ⟨b4,o4,none⟩∧((0:Int)≤(IntKind.wrap .i64 (n+n3))∧(IntKind.wrap .i64 (n+n3)) < (l.n:Int))∧∃ n5:Int,h1.at b4 (o4+((IntKind.wrap .i64 (n+n3))).toNat)=some (.int .i64 n5)∧∃ b5 o5,(l.a:Option Addr)=some ⟨b5,o5,none⟩∧((0:Int)≤(IntKind.wrap .i64 (n+n3))∧(IntKind.wrap .i64 (n+n3)) < (l.n:Int))∧h1.canW b5 (o5+((IntKind.wrap .i64 (n+n3))).toNat) 1∧∃ b6 o6,(l.a:Option Addr)=some ⟨b6,o6,none⟩∧((0:Int)≤(IntKind.wrap .i64 (n1+n3))∧(IntKind.wrap .i64 (n1+n3)) < (l.n:Int))∧(h1.wr b5 (o5+((IntKind.wrap .i64 (n+n3))).toNat) [.int .i64 n4]).canW b6 (o6+((IntKind.wrap .i64 (n1+n3))).toNat) 1∧I (IntKind.wrap .i64 (n3+1)) ((h1.wr b5 (o5+((IntKind.wrap .i64 (n+n3))).toNat) [.int .i64 n4]).wr b6 (o6+((IntKind.wrap .i64 (n1+n3))).toNat) [.int .i64 n5])∧m (IntKind.wrap .i64 (n3+1)) ((h1.wr b5 (o5+((IntKind.wrap .i64 (n+n3))).toNat) [.int .i64 n4]).wr b6 (o6+((IntKind.wrap .i64 (n1+n3))).toNat) [.int .i64 n5]) < m n3 h1) (Q (.tuple ⟨[]⟩) h1))
theorem F232.den (V l n n1 n2 b o b1 o1 b2 o2):denF Tryz.prog [] [] V [(6,.loop [(10,.int .i64)] []),(100,.order [0,1,2,3,4,5,6,7,8,9,10,11,12,13,14,15,16,17,18,19,20,21,22,23])] Tryz.f232 [.v (.slice l.a l.n l.c),.v (.int .i64 n),.v (.int .i64 n1),.v (.int .i64 n2),.v (.func (.func 79) ⟨[]⟩ ⟨[.pointer (some ⟨b,o,none⟩),.pointer (some ⟨b1,o1,none⟩),.pointer (some ⟨b2,o2,none⟩)]⟩)]=F232.T l n n1 n2 b o b1 o1 b2 o2:=by kernel_rfl
def F232.W (T232:Sl→Int→Int→Int→Nat→Nat→Nat→Nat→Nat→Nat→PT) (args:List Value):PT:=match args with
 | [.slice l_a l_n l_c,.int .i64 n,.int .i64 n1,.int .i64 n2,.func (.func 79) ⟨[]⟩ ⟨[.pointer (some ⟨b,o,none⟩),.pointer (some ⟨b1,o1,none⟩),.pointer (some ⟨b2,o2,none⟩)]⟩]=>T232 ⟨l_a,l_n,l_c⟩ n n1 n2 b o b1 o1 b2 o2
 | _=>fun _ _=>False
def F232.V:List Value→PT:=F232.W F232.T
theorem F232.ok:FOk Tryz.prog 232 F232.V:=by
 refine ⟨⟨_,Tryz.func232,rfl,rfl⟩,fun args=>?_⟩
 unfold F232.V F232.W
 split
 ·exact denF_okE (GOk.nil) noV_ok Tryz.func232 (F232.den noV ⟨_,_,_⟩ _ _ _ _ _ _ _ _ _)
 ·exact fun _ _ h=>h.elim
@[reducible] def F215.G (T232:Sl→Int→Int→Int→Nat→Nat→Nat→Nat→Nat→Nat→PT) (l:Sl) (n n1 n2:Int) (b o b1 o1 b2 o2:Nat):PT:=fun h Q=>
 ∃ (I:Int→Int→Hp→Prop) (m:Int→Int→Hp→Nat),I (IntKind.wrap .i64 (n1 - n)) (IntKind.wrap .i64 (n2 - n1)) h∧(∀ n3 n4:Int,∀ h1:Hp,I n3 n4 h1→par (n3=n4) (T232 l (IntKind.wrap .i64 (n1 - n3)) n1 n3 b o b1 o1 b2 o2 h1 fun r h2=>Q (.tuple ⟨[]⟩) h2) (par (n4 < n3) (T232 l (IntKind.wrap .i64 (n1 - n3)) n1 n4 b o b1 o1 b2 o2 h1 fun r1 h3=>I (IntKind.wrap .i64 (n3 - n4)) n4 h3∧m (IntKind.wrap .i64 (n3 - n4)) n4 h3 < m n3 n4 h1) (T232 l (IntKind.wrap .i64 (n1 - n3)) (IntKind.wrap .i64 ((IntKind.wrap .i64 (n1+n4)) - n3)) n3 b o b1 o1 b2 o2 h1 fun r2 h4=>I n3 (IntKind.wrap .i64 (n4 - n3)) h4∧m n3 (IntKind.wrap .i64 (n4 - n3)) h4 < m n3 n4 h1)))
def F215.T:=F215.G F232.T
theorem F215.gen (V T232 l n n1 n2 b o b1 o1 b2 o2):denF Tryz.prog [] [(232,F232.W T232)] V [(28,.loop [(10,.int .i64),(11,.int .i64)] [])] Tryz.f215 [.v (.slice l.a l.n l.c),.v (.int .i64 n),.v (.int .i64 n1),.v (.int .i64 n2),.v (.func (.func 79) ⟨[]⟩ ⟨[.pointer (some ⟨b,o,none⟩),.pointer (some ⟨b1,o1,none⟩),.pointer (some ⟨b2,o2,none⟩)]⟩)]=F215.G T232 l n n1 n2 b o b1 o1 b2 o2:=by kernel_rfl
def F215.W (T215:Sl→Int→Int→Int→Nat→Nat→Nat→Nat→Nat→Nat→PT) (args:List Value):PT:=match args with
 | [.slice l_a l_n l_c,.int .i64 n,.int .i64 n1,.int .i64 n2,.func (.func 79) ⟨[]⟩ ⟨[.pointer (some ⟨b,o,none⟩),.pointer (some ⟨b1,o1,none⟩),.pointer (some ⟨b2,o2,none⟩)]⟩]=>T215 ⟨l_a,l_n,l_c⟩ n n1 n2 b o b1 o1 b2 o2
 | _=>fun _ _=>False
def F215.V:List Value→PT:=F215.W F215.T
theorem F215.ok:FOk Tryz.prog 215 F215.V:=by
 refine ⟨⟨_,Tryz.func215,rfl,rfl⟩,fun args=>?_⟩
 unfold F215.V F215.W
 split
 ·exact denF_okE (GOk.cons F232.ok (GOk.nil)) noV_ok Tryz.func215 (F215.gen noV F232.T ⟨_,_,_⟩ _ _ _ _ _ _ _ _ _)
 ·exact fun _ _ h=>h.elim
@[reducible] def F170.G (T79:Int→Int→Nat→Nat→Nat→Nat→Nat→Nat→PT) (l:Sl) (n n1:Int) (b o b1 o1 b2 o2:Nat):PT:=fun h Q=>
 ∃ (I:Int→Hp→Prop) (m:Int→Hp→Nat),I (IntKind.wrap .i64 (n+1)) h∧(∀ n2:Int,∀ h1:Hp,I n2 h1→par (n2 < n1) (∃ (I1:Int→Hp→Prop) (m1:Int→Hp→Nat),I1 n2 h1∧(∀ n3:Int,∀ h2:Hp,I1 n3 h2→par (n < n3) (∃ b3 o3,(l.a:Option Addr)=some ⟨b3,o3,none⟩∧((0:Int)≤n3∧n3 < (l.n:Int))∧∃ n4:Int,h2.at b3 (o3+n3.toNat)=some (.int .i64 n4)∧∃ b4 o4,(l.a:Option Addr)=some ⟨b4,o4,none⟩∧((0:Int)≤(IntKind.wrap .i64 (n3 - 1))∧(IntKind.wrap .i64 (n3 - 1)) < (l.n:Int))∧∃ n5:Int,h2.at b4 (o4+((IntKind.wrap .i64 (n3 - 1))).toNat)=some (.int .i64 n5)∧T79 n4 n5 b o b1 o1 b2 o2 h2 fun r h3=>∃ n6:Int,r=.int .i64 n6∧par (n6 < 0) (∃ b5 o5,(l.a:Option Addr)=some ⟨b5,o5,none⟩∧((0:Int)≤(IntKind.wrap .i64 (n3 - 1))∧(IntKind.wrap .i64 (n3 - 1)) < (l.n:Int))∧∃ n7:Int,h3.at b5 (o5+((IntKind.wrap .i64 (n3 - 1))).toNat)=some (.int .i64 n7)∧∃ b6 o6,(l.a:Option Addr)=some ⟨b6,o6,none⟩∧((0:Int)≤n3∧n3 < (l.n:Int))∧∃ n8:Int,h3.at b6 (o6+n3.toNat)=some (.int .i64 n8)∧∃ b7 o7,(l.a:Option Addr)=some ⟨b7,o7,none⟩∧((0:Int)≤n3∧n3 < (l.n:Int))∧h3.canW b7 (o7+n3.toNat) 1∧∃ b8 o8,(l.a:Option Addr)=some ⟨b8,o8,none⟩∧((0:Int)≤(IntKind.wrap .i64 (n3 - 1))∧(IntKind.wrap .i64 (n3 - 1)) < (l.n:Int))∧(h3.wr b7 (o7+n3.toNat) [.int .i64 n7]).canW b8 (o8+((IntKind.wrap .i64 (n3 - 1))).toNat) 1∧I1 (IntKind.wrap .i64 (n3 - 1)) ((h3.wr b7 (o7+n3.toNat) [.int .i64 n7]).wr b8 (o8+((IntKind.wrap .i64 (n3 - 1))).toNat) [.int .i64 n8])∧m1 (IntKind.wrap .i64 (n3 - 1)) ((h3.wr b7 (o7+n3.toNat) [.int .i64 n7]).wr b8 (o8+((IntKind.wrap .i64 (n3 - 1))).toNat) [.int .i64 n8]) < m1 n3 h2) (I (IntKind.wrap .i64 (n2+1)) h3∧m (IntKind.wrap .i64 (n2+1)) h3 < m n2 h1)) (I (IntKind.wrap .i64 (n2+1)) h2∧m (IntKind.wrap .i64 (n2+1)) h2 < m n2 h1))) (Q (.tuple ⟨[]⟩) h1))
def F170.T:=F170.G F79.T
theorem F170.gen (V T79 l n n1 b o b1 o1 b2 o2):denF Tryz.prog [] [(79,F79.W T79)] V [(6,.loop [(8,.int .i64)] []),(402,.loop [(9,.int .i64)] []),(3216,.order [0,1,2,3,4,5,6,7,8,9,10,11,12,13,14,15,16]),(6436,.order [0,1,2,3,4,5,6,7,8,9,10,11,12,13,14,15,16,17])] Tryz.f170 [.v (.slice l.a l.n l.c),.v (.int .i64 n),.v (.int .i64 n1),.v (.func (.func 79) ⟨[]⟩ ⟨[.pointer (some ⟨b,o,none⟩),.pointer (some ⟨b1,o1,none⟩),.pointer (some ⟨b2,o2,none⟩)]⟩)]=F170.G T79 l n n1 b o b1 o1 b2 o2:=by kernel_rfl
def F170.W (T170:Sl→Int→Int→Nat→Nat→Nat→Nat→Nat→Nat→PT) (args:List Value):PT:=match args with
 | [.slice l_a l_n l_c,.int .i64 n,.int .i64 n1,.func (.func 79) ⟨[]⟩ ⟨[.pointer (some ⟨b,o,none⟩),.pointer (some ⟨b1,o1,none⟩),.pointer (some ⟨b2,o2,none⟩)]⟩]=>T170 ⟨l_a,l_n,l_c⟩ n n1 b o b1 o1 b2 o2
 | _=>fun _ _=>False
def F170.V:List Value→PT:=F170.W F170.T
theorem F170.ok:FOk Tryz.prog 170 F170.V:=by
 refine ⟨⟨_,Tryz.func170,rfl,rfl⟩,fun args=>?_⟩
 unfold F170.V F170.W
 split
 ·exact denF_okE (GOk.cons F79.ok (GOk.nil)) noV_ok Tryz.func170 (F170.gen noV F79.T ⟨_,_,_⟩ _ _ _ _ _ _ _ _)
 ·exact fun _ _ h=>h.elim
def F171.G (T171:Sl→Int→Int→Int→Nat→Nat→Nat→Nat→Nat→Nat→PT) (l:Sl) (n n1 n2:Int) (b o b1 o1 b2 o2:Nat):PT:=fun h Q=>
 par ((IntKind.wrap .i64 (n1 - n))=1) (∃ (I:Int→Int→Hp→Prop) (m:Int→Int→Hp→Nat),I n1 n2 h∧(∀ n3 n4:Int,∀ h1:Hp,I n3 n4 h1→par (n3 < n4) ((0:Int)≤1∧∃ b3 o3,(l.a:Option Addr)=some ⟨b3,o3,none⟩∧((0:Int)≤(IntKind.wrap .i64 (shrI .u64 (IntKind.wrap .u64 (IntKind.wrap .i64 (n3+n4))) 1))∧(IntKind.wrap .i64 (shrI .u64 (IntKind.wrap .u64 (IntKind.wrap .i64 (n3+n4))) 1)) < (l.n:Int))∧∃ n5:Int,h1.at b3 (o3+((IntKind.wrap .i64 (shrI .u64 (IntKind.wrap .u64 (IntKind.wrap .i64 (n3+n4))) 1))).toNat)=some (.int .i64 n5)∧∃ b4 o4,(l.a:Option Addr)=some ⟨b4,o4,none⟩∧((0:Int)≤n∧n < (l.n:Int))∧∃ n6:Int,h1.at b4 (o4+n.toNat)=some (.int .i64 n6)∧F79.T n5 n6 b o b1 o1 b2 o2 h1 fun r h2=>∃ n7:Int,r=.int .i64 n7∧par (n7 < 0) (I (IntKind.wrap .i64 ((IntKind.wrap .i64 (shrI .u64 (IntKind.wrap .u64 (IntKind.wrap .i64 (n3+n4))) 1))+1)) n4 h2∧m (IntKind.wrap .i64 ((IntKind.wrap .i64 (shrI .u64 (IntKind.wrap .u64 (IntKind.wrap .i64 (n3+n4))) 1))+1)) n4 h2 < m n3 n4 h1) (I n3 (IntKind.wrap .i64 (shrI .u64 (IntKind.wrap .u64 (IntKind.wrap .i64 (n3+n4))) 1)) h2∧m n3 (IntKind.wrap .i64 (shrI .u64 (IntKind.wrap .u64 (IntKind.wrap .i64 (n3+n4))) 1)) h2 < m n3 n4 h1)) (∃ (I1:Int→Hp→Prop) (m1:Int→Hp→Nat),I1 n h1∧(∀ n8:Int,∀ h3:Hp,I1 n8 h3→par (n8 < (IntKind.wrap .i64 (n3 - 1))) (∃ b5 o5,(l.a:Option Addr)=some ⟨b5,o5,none⟩∧((0:Int)≤(IntKind.wrap .i64 (n8+1))∧(IntKind.wrap .i64 (n8+1)) < (l.n:Int))∧∃ n9:Int,h3.at b5 (o5+((IntKind.wrap .i64 (n8+1))).toNat)=some (.int .i64 n9)∧∃ b6 o6,(l.a:Option Addr)=some ⟨b6,o6,none⟩∧((0:Int)≤n8∧n8 < (l.n:Int))∧∃ n10:Int,h3.at b6 (o6+n8.toNat)=some (.int .i64 n10)∧∃ b7 o7,(l.a:Option Addr)=some ⟨b7,o7,none⟩∧((0:Int)≤n8∧n8 < (l.n:Int))∧h3.canW b7 (o7+n8.toNat) 1∧∃ b8 o8,(l.a:Option Addr)=some ⟨b8,o8,none⟩∧((0:Int)≤(IntKind.wrap .i64 (n8+1))∧(IntKind.wrap .i64 (n8+1)) < (l.n:Int))∧(h3.wr b7 (o7+n8.toNat) [.int .i64 n9]).canW b8 (o8+((IntKind.wrap .i64 (n8+1))).toNat) 1∧I1 (IntKind.wrap .i64 (n8+1)) ((h3.wr b7 (o7+n8.toNat) [.int .i64 n9]).wr b8 (o8+((IntKind.wrap .i64 (n8+1))).toNat) [.int .i64 n10])∧m1 (IntKind.wrap .i64 (n8+1)) ((h3.wr b7 (o7+n8.toNat) [.int .i64 n9]).wr b8 (o8+((IntKind.wrap .i64 (n8+1))).toNat) [.int .i64 n10]) < m1 n8 h3) (Q (.tuple ⟨[]⟩) h3))))) (par ((IntKind.wrap .i64 (n2 - n1))=1) (∃ (I2:Int→Int→Hp→Prop) (m2:Int→Int→Hp→Nat),I2 n n1 h∧(∀ n11 n12:Int,∀ h4:Hp,I2 n11 n12 h4→par (n11 < n12) ((0:Int)≤1∧∃ b9 o9,(l.a:Option Addr)=some ⟨b9,o9,none⟩∧((0:Int)≤n1∧n1 < (l.n:Int))∧∃ n13:Int,h4.at b9 (o9+n1.toNat)=some (.int .i64 n13)∧∃ b10 o10,(l.a:Option Addr)=some ⟨b10,o10,none⟩∧((0:Int)≤(IntKind.wrap .i64 (shrI .u64 (IntKind.wrap .u64 (IntKind.wrap .i64 (n11+n12))) 1))∧(IntKind.wrap .i64 (shrI .u64 (IntKind.wrap .u64 (IntKind.wrap .i64 (n11+n12))) 1)) < (l.n:Int))∧∃ n14:Int,h4.at b10 (o10+((IntKind.wrap .i64 (shrI .u64 (IntKind.wrap .u64 (IntKind.wrap .i64 (n11+n12))) 1))).toNat)=some (.int .i64 n14)∧F79.T n13 n14 b o b1 o1 b2 o2 h4 fun r1 h5=>∃ n15:Int,r1=.int .i64 n15∧par (n15 < 0) (I2 n11 (IntKind.wrap .i64 (shrI .u64 (IntKind.wrap .u64 (IntKind.wrap .i64 (n11+n12))) 1)) h5∧m2 n11 (IntKind.wrap .i64 (shrI .u64 (IntKind.wrap .u64 (IntKind.wrap .i64 (n11+n12))) 1)) h5 < m2 n11 n12 h4) (I2 (IntKind.wrap .i64 ((IntKind.wrap .i64 (shrI .u64 (IntKind.wrap .u64 (IntKind.wrap .i64 (n11+n12))) 1))+1)) n12 h5∧m2 (IntKind.wrap .i64 ((IntKind.wrap .i64 (shrI .u64 (IntKind.wrap .u64 (IntKind.wrap .i64 (n11+n12))) 1))+1)) n12 h5 < m2 n11 n12 h4)) (∃ (I3:Int→Hp→Prop) (m3:Int→Hp→Nat),I3 n1 h4∧(∀ n16:Int,∀ h6:Hp,I3 n16 h6→par (n11 < n16) (∃ b11 o11,(l.a:Option Addr)=some ⟨b11,o11,none⟩∧((0:Int)≤(IntKind.wrap .i64 (n16 - 1))∧(IntKind.wrap .i64 (n16 - 1)) < (l.n:Int))∧∃ n17:Int,h6.at b11 (o11+((IntKind.wrap .i64 (n16 - 1))).toNat)=some (.int .i64 n17)∧∃ b12 o12,(l.a:Option Addr)=some ⟨b12,o12,none⟩∧((0:Int)≤n16∧n16 < (l.n:Int))∧∃ n18:Int,h6.at b12 (o12+n16.toNat)=some (.int .i64 n18)∧∃ b13 o13,(l.a:Option Addr)=some ⟨b13,o13,none⟩∧((0:Int)≤n16∧n16 < (l.n:Int))∧h6.canW b13 (o13+n16.toNat) 1∧∃ b14 o14,(l.a:Option Addr)=some ⟨b14,o14,none⟩∧((0:Int)≤(IntKind.wrap .i64 (n16 - 1))∧(IntKind.wrap .i64 (n16 - 1)) < (l.n:Int))∧(h6.wr b13 (o13+n16.toNat) [.int .i64 n17]).canW b14 (o14+((IntKind.wrap .i64 (n16 - 1))).toNat) 1∧I3 (IntKind.wrap .i64 (n16 - 1)) ((h6.wr b13 (o13+n16.toNat) [.int .i64 n17]).wr b14 (o14+((IntKind.wrap .i64 (n16 - 1))).toNat) [.int .i64 n18])∧m3 (IntKind.wrap .i64 (n16 - 1)) ((h6.wr b13 (o13+n16.toNat) [.int .i64 n17]).wr b14 (o14+((IntKind.wrap .i64 (n16 - 1))).toNat) [.int .i64 n18]) < m3 n16 h6) (Q (.tuple ⟨[]⟩) h6))))) ((0:Int)≤1∧∃ J:Int→Int→Hp→Prop,(∀ n19 n20:Int,∀ h7:Hp,J n19 n20 h7→∃ (I4:Int→Int→Hp→Prop) (m4:Int→Int→Hp→Nat),I4 n19 n20 h7∧(∀ n21 n22:Int,∀ h8:Hp,I4 n21 n22 h8→par (n21 < n22) ((0:Int)≤1∧∃ b15 o15,(l.a:Option Addr)=some ⟨b15,o15,none⟩∧((0:Int)≤(IntKind.wrap .i64 ((IntKind.wrap .i64 ((IntKind.wrap .i64 ((IntKind.wrap .i64 (shrI .u64 (IntKind.wrap .u64 (IntKind.wrap .i64 (n+n2))) 1))+n1)) - 1)) - (IntKind.wrap .i64 (shrI .u64 (IntKind.wrap .u64 (IntKind.wrap .i64 (n21+n22))) 1))))∧(IntKind.wrap .i64 ((IntKind.wrap .i64 ((IntKind.wrap .i64 ((IntKind.wrap .i64 (shrI .u64 (IntKind.wrap .u64 (IntKind.wrap .i64 (n+n2))) 1))+n1)) - 1)) - (IntKind.wrap .i64 (shrI .u64 (IntKind.wrap .u64 (IntKind.wrap .i64 (n21+n22))) 1)))) < (l.n:Int))∧∃ n23:Int,h8.at b15 (o15+((IntKind.wrap .i64 ((IntKind.wrap .i64 ((IntKind.wrap .i64 ((IntKind.wrap .i64 (shrI .u64 (IntKind.wrap .u64 (IntKind.wrap .i64 (n+n2))) 1))+n1)) - 1)) - (IntKind.wrap .i64 (shrI .u64 (IntKind.wrap .u64 (IntKind.wrap .i64 (n21+n22))) 1))))).toNat)=some (.int .i64 n23)∧∃ b16 o16,(l.a:Option Addr)=some ⟨b16,o16,none⟩∧((0:Int)≤(IntKind.wrap .i64 (shrI .u64 (IntKind.wrap .u64 (IntKind.wrap .i64 (n21+n22))) 1))∧(IntKind.wrap .i64 (shrI .u64 (IntKind.wrap .u64 (IntKind.wrap .i64 (n21+n22))) 1)) < (l.n:Int))∧∃ n24:Int,h8.at b16 (o16+((IntKind.wrap .i64 (shrI .u64 (IntKind.wrap .u64 (IntKind.wrap .i64 (n21+n22))) 1))).toNat)=some (.int .i64 n24)∧F79.T n23 n24 b o b1 o1 b2 o2 h8 fun r2 h9=>∃ n25:Int,r2=.int .i64 n25∧par (n25 < 0) (I4 n21 (IntKind.wrap .i64 (shrI .u64 (IntKind.wrap .u64 (IntKind.wrap .i64 (n21+n22))) 1)) h9∧m4 n21 (IntKind.wrap .i64 (shrI .u64 (IntKind.wrap .u64 (IntKind.wrap .i64 (n21+n22))) 1)) h9 < m4 n21 n22 h8) (I4 (IntKind.wrap .i64 ((IntKind.wrap .i64 (shrI .u64 (IntKind.wrap .u64 (IntKind.wrap .i64 (n21+n22))) 1))+1)) n22 h9∧m4 (IntKind.wrap .i64 ((IntKind.wrap .i64 (shrI .u64 (IntKind.wrap .u64 (IntKind.wrap .i64 (n21+n22))) 1))+1)) n22 h9 < m4 n21 n22 h8)) (∃ J1:Hp→Prop,(∀ h10:Hp,J1 h10→∃ J2:Hp→Prop,(∀ h11:Hp,J2 h11→par ((IntKind.wrap .i64 (shrI .u64 (IntKind.wrap .u64 (IntKind.wrap .i64 (n+n2))) 1)) < (IntKind.wrap .i64 ((IntKind.wrap .i64 ((IntKind.wrap .i64 (shrI .u64 (IntKind.wrap .u64 (IntKind.wrap .i64 (n+n2))) 1))+n1)) - n21))) (par ((IntKind.wrap .i64 ((IntKind.wrap .i64 ((IntKind.wrap .i64 (shrI .u64 (IntKind.wrap .u64 (IntKind.wrap .i64 (n+n2))) 1))+n1)) - n21)) < n2) (T171 l (IntKind.wrap .i64 (shrI .u64 (IntKind.wrap .u64 (IntKind.wrap .i64 (n+n2))) 1)) (IntKind.wrap .i64 ((IntKind.wrap .i64 ((IntKind.wrap .i64 (shrI .u64 (IntKind.wrap .u64 (IntKind.wrap .i64 (n+n2))) 1))+n1)) - n21)) n2 b o b1 o1 b2 o2 h11 fun r3 h12=>Q (.tuple ⟨[]⟩) h12) (Q (.tuple ⟨[]⟩) h11)) (Q (.tuple ⟨[]⟩) h11))∧(par (n < n21) (par (n21 < (IntKind.wrap .i64 (shrI .u64 (IntKind.wrap .u64 (IntKind.wrap .i64 (n+n2))) 1))) (T171 l n n21 (IntKind.wrap .i64 (shrI .u64 (IntKind.wrap .u64 (IntKind.wrap .i64 (n+n2))) 1)) b o b1 o1 b2 o2 h10 fun r4 h13=>J2 h13) (J2 h10)) (J2 h10)))∧(par (n21 < n1) (par (n1 < (IntKind.wrap .i64 ((IntKind.wrap .i64 ((IntKind.wrap .i64 (shrI .u64 (IntKind.wrap .u64 (IntKind.wrap .i64 (n+n2))) 1))+n1)) - n21))) (F215.T l n21 n1 (IntKind.wrap .i64 ((IntKind.wrap .i64 ((IntKind.wrap .i64 (shrI .u64 (IntKind.wrap .u64 (IntKind.wrap .i64 (n+n2))) 1))+n1)) - n21)) b o b1 o1 b2 o2 h8 fun r5 h14=>J1 h14) (J1 h8)) (J1 h8)))))∧(par ((IntKind.wrap .i64 (shrI .u64 (IntKind.wrap .u64 (IntKind.wrap .i64 (n+n2))) 1)) < n1) (J (IntKind.wrap .i64 ((IntKind.wrap .i64 ((IntKind.wrap .i64 (shrI .u64 (IntKind.wrap .u64 (IntKind.wrap .i64 (n+n2))) 1))+n1)) - n2)) (IntKind.wrap .i64 (shrI .u64 (IntKind.wrap .u64 (IntKind.wrap .i64 (n+n2))) 1)) h) (J n n1 h))))
def F171.TN:Nat→Sl→Int→Int→Int→Nat→Nat→Nat→Nat→Nat→Nat→PT
 | 0=>fun _ _ _ _ _ _ _ _ _ _ _ _=>False
 | n+1=>F171.G (F171.TN n)
def F171.T (l:Sl) (n n1 n2:Int) (b o b1 o1 b2 o2:Nat):PT:=fun h Q=>∃ nf,F171.TN nf l n n1 n2 b o b1 o1 b2 o2 h Q
def F171.W (T171:Sl→Int→Int→Int→Nat→Nat→Nat→Nat→Nat→Nat→PT) (args:List Value):PT:=match args with
 | [.slice l_a l_n l_c,.int .i64 n,.int .i64 n1,.int .i64 n2,.func (.func 79) ⟨[]⟩ ⟨[.pointer (some ⟨b,o,none⟩),.pointer (some ⟨b1,o1,none⟩),.pointer (some ⟨b2,o2,none⟩)]⟩]=>T171 ⟨l_a,l_n,l_c⟩ n n1 n2 b o b1 o1 b2 o2
 | _=>fun _ _=>False
def F171.V:List Value→PT:=F171.W F171.T
theorem F171.gen (V:Value→List Value→PT) (T79:Int→Int→Nat→Nat→Nat→Nat→Nat→Nat→PT) (T171:Sl→Int→Int→Int→Nat→Nat→Nat→Nat→Nat→Nat→PT) (T215:Sl→Int→Int→Int→Nat→Nat→Nat→Nat→Nat→Nat→PT) (l:Sl) (n n1 n2:Int) (b:Nat) (o:Nat) (b1:Nat) (o1:Nat) (b2:Nat) (o2:Nat):denF Tryz.prog [] [(79,F79.W T79),(171,F171.W T171),(215,F215.W T215)] V [(63,.join [(20,.int .i64),(21,.int .i64)] []),(172,.loop [(10,.int .i64),(11,.int .i64)] []),(428,.loop [(14,.int .i64),(15,.int .i64)] []),(698,.loop [(13,.int .i64)] []),(1020,.loop [(20,.int .i64),(21,.int .i64)] []),(1023,.join [] []),(1722,.loop [(17,.int .i64)] []),(2047,.join [] []),(5514,.order [0,1,2,3,4,5,6,7,8,9,10]),(11172,.order [0,1,2,3,4,5,6,7,8,9,10,11,12,13,14,15,16,17]),(13706,.order [0,1,2,3,4,5,6,7,8,9,10,11]),(27556,.order [0,1,2,3,4,5,6,7,8,9,10,11,12,13,14,15,16,17]),(32650,.order [0,1,2,3,4,5,6,7,8,9,10,11,12,13])] Tryz.f171 [.v (.slice l.a l.n l.c),.v (.int .i64 n),.v (.int .i64 n1),.v (.int .i64 n2),.v (.func (.func 79) ⟨[]⟩ ⟨[.pointer (some ⟨b,o,none⟩),.pointer (some ⟨b1,o1,none⟩),.pointer (some ⟨b2,o2,none⟩)]⟩)]=fun h Q=>
 par ((IntKind.wrap .i64 (n1 - n))=1) (∃ (I:Int→Int→Hp→Prop) (m:Int→Int→Hp→Nat),I n1 n2 h∧(∀ n3 n4:Int,∀ h1:Hp,I n3 n4 h1→par (n3 < n4) ((0:Int)≤1∧∃ b3 o3,(l.a:Option Addr)=some ⟨b3,o3,none⟩∧((0:Int)≤(IntKind.wrap .i64 (shrI .u64 (IntKind.wrap .u64 (IntKind.wrap .i64 (n3+n4))) 1))∧(IntKind.wrap .i64 (shrI .u64 (IntKind.wrap .u64 (IntKind.wrap .i64 (n3+n4))) 1)) < (l.n:Int))∧∃ n5:Int,h1.at b3 (o3+((IntKind.wrap .i64 (shrI .u64 (IntKind.wrap .u64 (IntKind.wrap .i64 (n3+n4))) 1))).toNat)=some (.int .i64 n5)∧∃ b4 o4,(l.a:Option Addr)=some ⟨b4,o4,none⟩∧((0:Int)≤n∧n < (l.n:Int))∧∃ n6:Int,h1.at b4 (o4+n.toNat)=some (.int .i64 n6)∧T79 n5 n6 b o b1 o1 b2 o2 h1 fun r h2=>∃ n7:Int,r=.int .i64 n7∧par (n7 < 0) (I (IntKind.wrap .i64 ((IntKind.wrap .i64 (shrI .u64 (IntKind.wrap .u64 (IntKind.wrap .i64 (n3+n4))) 1))+1)) n4 h2∧m (IntKind.wrap .i64 ((IntKind.wrap .i64 (shrI .u64 (IntKind.wrap .u64 (IntKind.wrap .i64 (n3+n4))) 1))+1)) n4 h2 < m n3 n4 h1) (I n3 (IntKind.wrap .i64 (shrI .u64 (IntKind.wrap .u64 (IntKind.wrap .i64 (n3+n4))) 1)) h2∧m n3 (IntKind.wrap .i64 (shrI .u64 (IntKind.wrap .u64 (IntKind.wrap .i64 (n3+n4))) 1)) h2 < m n3 n4 h1)) (∃ (I1:Int→Hp→Prop) (m1:Int→Hp→Nat),I1 n h1∧(∀ n8:Int,∀ h3:Hp,I1 n8 h3→par (n8 < (IntKind.wrap .i64 (n3 - 1))) (∃ b5 o5,(l.a:Option Addr)=some ⟨b5,o5,none⟩∧((0:Int)≤(IntKind.wrap .i64 (n8+1))∧(IntKind.wrap .i64 (n8+1)) < (l.n:Int))∧∃ n9:Int,h3.at b5 (o5+((IntKind.wrap .i64 (n8+1))).toNat)=some (.int .i64 n9)∧∃ b6 o6,(l.a:Option Addr)=some ⟨b6,o6,none⟩∧((0:Int)≤n8∧n8 < (l.n:Int))∧∃ n10:Int,h3.at b6 (o6+n8.toNat)=some (.int .i64 n10)∧∃ b7 o7,(l.a:Option Addr)=some ⟨b7,o7,none⟩∧((0:Int)≤n8∧n8 < (l.n:Int))∧h3.canW b7 (o7+n8.toNat) 1∧∃ b8 o8,(l.a:Option Addr)=some ⟨b8,o8,none⟩∧((0:Int)≤(IntKind.wrap .i64 (n8+1))∧(IntKind.wrap .i64 (n8+1)) < (l.n:Int))∧(h3.wr b7 (o7+n8.toNat) [.int .i64 n9]).canW b8 (o8+((IntKind.wrap .i64 (n8+1))).toNat) 1∧I1 (IntKind.wrap .i64 (n8+1)) ((h3.wr b7 (o7+n8.toNat) [.int .i64 n9]).wr b8 (o8+((IntKind.wrap .i64 (n8+1))).toNat) [.int .i64 n10])∧m1 (IntKind.wrap .i64 (n8+1)) ((h3.wr b7 (o7+n8.toNat) [.int .i64 n9]).wr b8 (o8+((IntKind.wrap .i64 (n8+1))).toNat) [.int .i64 n10]) < m1 n8 h3) (Q (.tuple ⟨[]⟩) h3))))) (par ((IntKind.wrap .i64 (n2 - n1))=1) (∃ (I2:Int→Int→Hp→Prop) (m2:Int→Int→Hp→Nat),I2 n n1 h∧(∀ n11 n12:Int,∀ h4:Hp,I2 n11 n12 h4→par (n11 < n12) ((0:Int)≤1∧∃ b9 o9,(l.a:Option Addr)=some ⟨b9,o9,none⟩∧((0:Int)≤n1∧n1 < (l.n:Int))∧∃ n13:Int,h4.at b9 (o9+n1.toNat)=some (.int .i64 n13)∧∃ b10 o10,(l.a:Option Addr)=some ⟨b10,o10,none⟩∧((0:Int)≤(IntKind.wrap .i64 (shrI .u64 (IntKind.wrap .u64 (IntKind.wrap .i64 (n11+n12))) 1))∧(IntKind.wrap .i64 (shrI .u64 (IntKind.wrap .u64 (IntKind.wrap .i64 (n11+n12))) 1)) < (l.n:Int))∧∃ n14:Int,h4.at b10 (o10+((IntKind.wrap .i64 (shrI .u64 (IntKind.wrap .u64 (IntKind.wrap .i64 (n11+n12))) 1))).toNat)=some (.int .i64 n14)∧T79 n13 n14 b o b1 o1 b2 o2 h4 fun r1 h5=>∃ n15:Int,r1=.int .i64 n15∧par (n15 < 0) (I2 n11 (IntKind.wrap .i64 (shrI .u64 (IntKind.wrap .u64 (IntKind.wrap .i64 (n11+n12))) 1)) h5∧m2 n11 (IntKind.wrap .i64 (shrI .u64 (IntKind.wrap .u64 (IntKind.wrap .i64 (n11+n12))) 1)) h5 < m2 n11 n12 h4) (I2 (IntKind.wrap .i64 ((IntKind.wrap .i64 (shrI .u64 (IntKind.wrap .u64 (IntKind.wrap .i64 (n11+n12))) 1))+1)) n12 h5∧m2 (IntKind.wrap .i64 ((IntKind.wrap .i64 (shrI .u64 (IntKind.wrap .u64 (IntKind.wrap .i64 (n11+n12))) 1))+1)) n12 h5 < m2 n11 n12 h4)) (∃ (I3:Int→Hp→Prop) (m3:Int→Hp→Nat),I3 n1 h4∧(∀ n16:Int,∀ h6:Hp,I3 n16 h6→par (n11 < n16) (∃ b11 o11,(l.a:Option Addr)=some ⟨b11,o11,none⟩∧((0:Int)≤(IntKind.wrap .i64 (n16 - 1))∧(IntKind.wrap .i64 (n16 - 1)) < (l.n:Int))∧∃ n17:Int,h6.at b11 (o11+((IntKind.wrap .i64 (n16 - 1))).toNat)=some (.int .i64 n17)∧∃ b12 o12,(l.a:Option Addr)=some ⟨b12,o12,none⟩∧((0:Int)≤n16∧n16 < (l.n:Int))∧∃ n18:Int,h6.at b12 (o12+n16.toNat)=some (.int .i64 n18)∧∃ b13 o13,(l.a:Option Addr)=some ⟨b13,o13,none⟩∧((0:Int)≤n16∧n16 < (l.n:Int))∧h6.canW b13 (o13+n16.toNat) 1∧∃ b14 o14,(l.a:Option Addr)=some ⟨b14,o14,none⟩∧((0:Int)≤(IntKind.wrap .i64 (n16 - 1))∧(IntKind.wrap .i64 (n16 - 1)) < (l.n:Int))∧(h6.wr b13 (o13+n16.toNat) [.int .i64 n17]).canW b14 (o14+((IntKind.wrap .i64 (n16 - 1))).toNat) 1∧I3 (IntKind.wrap .i64 (n16 - 1)) ((h6.wr b13 (o13+n16.toNat) [.int .i64 n17]).wr b14 (o14+((IntKind.wrap .i64 (n16 - 1))).toNat) [.int .i64 n18])∧m3 (IntKind.wrap .i64 (n16 - 1)) ((h6.wr b13 (o13+n16.toNat) [.int .i64 n17]).wr b14 (o14+((IntKind.wrap .i64 (n16 - 1))).toNat) [.int .i64 n18]) < m3 n16 h6) (Q (.tuple ⟨[]⟩) h6))))) ((0:Int)≤1∧∃ J:Int→Int→Hp→Prop,(∀ n19 n20:Int,∀ h7:Hp,J n19 n20 h7→∃ (I4:Int→Int→Hp→Prop) (m4:Int→Int→Hp→Nat),I4 n19 n20 h7∧(∀ n21 n22:Int,∀ h8:Hp,I4 n21 n22 h8→par (n21 < n22) ((0:Int)≤1∧∃ b15 o15,(l.a:Option Addr)=some ⟨b15,o15,none⟩∧((0:Int)≤(IntKind.wrap .i64 ((IntKind.wrap .i64 ((IntKind.wrap .i64 ((IntKind.wrap .i64 (shrI .u64 (IntKind.wrap .u64 (IntKind.wrap .i64 (n+n2))) 1))+n1)) - 1)) - (IntKind.wrap .i64 (shrI .u64 (IntKind.wrap .u64 (IntKind.wrap .i64 (n21+n22))) 1))))∧(IntKind.wrap .i64 ((IntKind.wrap .i64 ((IntKind.wrap .i64 ((IntKind.wrap .i64 (shrI .u64 (IntKind.wrap .u64 (IntKind.wrap .i64 (n+n2))) 1))+n1)) - 1)) - (IntKind.wrap .i64 (shrI .u64 (IntKind.wrap .u64 (IntKind.wrap .i64 (n21+n22))) 1)))) < (l.n:Int))∧∃ n23:Int,h8.at b15 (o15+((IntKind.wrap .i64 ((IntKind.wrap .i64 ((IntKind.wrap .i64 ((IntKind.wrap .i64 (shrI .u64 (IntKind.wrap .u64 (IntKind.wrap .i64 (n+n2))) 1))+n1)) - 1)) - (IntKind.wrap .i64 (shrI .u64 (IntKind.wrap .u64 (IntKind.wrap .i64 (n21+n22))) 1))))).toNat)=some (.int .i64 n23)∧∃ b16 o16,(l.a:Option Addr)=some ⟨b16,o16,none⟩∧((0:Int)≤(IntKind.wrap .i64 (shrI .u64 (IntKind.wrap .u64 (IntKind.wrap .i64 (n21+n22))) 1))∧(IntKind.wrap .i64 (shrI .u64 (IntKind.wrap .u64 (IntKind.wrap .i64 (n21+n22))) 1)) < (l.n:Int))∧∃ n24:Int,h8.at b16 (o16+((IntKind.wrap .i64 (shrI .u64 (IntKind.wrap .u64 (IntKind.wrap .i64 (n21+n22))) 1))).toNat)=some (.int .i64 n24)∧T79 n23 n24 b o b1 o1 b2 o2 h8 fun r2 h9=>∃ n25:Int,r2=.int .i64 n25∧par (n25 < 0) (I4 n21 (IntKind.wrap .i64 (shrI .u64 (IntKind.wrap .u64 (IntKind.wrap .i64 (n21+n22))) 1)) h9∧m4 n21 (IntKind.wrap .i64 (shrI .u64 (IntKind.wrap .u64 (IntKind.wrap .i64 (n21+n22))) 1)) h9 < m4 n21 n22 h8) (I4 (IntKind.wrap .i64 ((IntKind.wrap .i64 (shrI .u64 (IntKind.wrap .u64 (IntKind.wrap .i64 (n21+n22))) 1))+1)) n22 h9∧m4 (IntKind.wrap .i64 ((IntKind.wrap .i64 (shrI .u64 (IntKind.wrap .u64 (IntKind.wrap .i64 (n21+n22))) 1))+1)) n22 h9 < m4 n21 n22 h8)) (∃ J1:Hp→Prop,(∀ h10:Hp,J1 h10→∃ J2:Hp→Prop,(∀ h11:Hp,J2 h11→par ((IntKind.wrap .i64 (shrI .u64 (IntKind.wrap .u64 (IntKind.wrap .i64 (n+n2))) 1)) < (IntKind.wrap .i64 ((IntKind.wrap .i64 ((IntKind.wrap .i64 (shrI .u64 (IntKind.wrap .u64 (IntKind.wrap .i64 (n+n2))) 1))+n1)) - n21))) (par ((IntKind.wrap .i64 ((IntKind.wrap .i64 ((IntKind.wrap .i64 (shrI .u64 (IntKind.wrap .u64 (IntKind.wrap .i64 (n+n2))) 1))+n1)) - n21)) < n2) (T171 l (IntKind.wrap .i64 (shrI .u64 (IntKind.wrap .u64 (IntKind.wrap .i64 (n+n2))) 1)) (IntKind.wrap .i64 ((IntKind.wrap .i64 ((IntKind.wrap .i64 (shrI .u64 (IntKind.wrap .u64 (IntKind.wrap .i64 (n+n2))) 1))+n1)) - n21)) n2 b o b1 o1 b2 o2 h11 fun r3 h12=>Q (.tuple ⟨[]⟩) h12) (Q (.tuple ⟨[]⟩) h11)) (Q (.tuple ⟨[]⟩) h11))∧(par (n < n21) (par (n21 < (IntKind.wrap .i64 (shrI .u64 (IntKind.wrap .u64 (IntKind.wrap .i64 (n+n2))) 1))) (T171 l n n21 (IntKind.wrap .i64 (shrI .u64 (IntKind.wrap .u64 (IntKind.wrap .i64 (n+n2))) 1)) b o b1 o1 b2 o2 h10 fun r4 h13=>J2 h13) (J2 h10)) (J2 h10)))∧(par (n21 < n1) (par (n1 < (IntKind.wrap .i64 ((IntKind.wrap .i64 ((IntKind.wrap .i64 (shrI .u64 (IntKind.wrap .u64 (IntKind.wrap .i64 (n+n2))) 1))+n1)) - n21))) (T215 l n21 n1 (IntKind.wrap .i64 ((IntKind.wrap .i64 ((IntKind.wrap .i64 (shrI .u64 (IntKind.wrap .u64 (IntKind.wrap .i64 (n+n2))) 1))+n1)) - n21)) b o b1 o1 b2 o2 h8 fun r5 h14=>J1 h14) (J1 h8)) (J1 h8)))))∧(par ((IntKind.wrap .i64 (shrI .u64 (IntKind.wrap .u64 (IntKind.wrap .i64 (n+n2))) 1)) < n1) (J (IntKind.wrap .i64 ((IntKind.wrap .i64 ((IntKind.wrap .i64 (shrI .u64 (IntKind.wrap .u64 (IntKind.wrap .i64 (n+n2))) 1))+n1)) - n2)) (IntKind.wrap .i64 (shrI .u64 (IntKind.wrap .u64 (IntKind.wrap .i64 (n+n2))) 1)) h) (J n n1 h)))):=by kernel_rfl
theorem F171.den (V:Value→List Value→PT) (nf:Nat) (l:Sl) (n n1 n2:Int) (b:Nat) (o:Nat) (b1:Nat) (o1:Nat) (b2:Nat) (o2:Nat):denF Tryz.prog [] [(79,F79.V),(171,F171.W (F171.TN nf)),(215,F215.V)] V [(63,.join [(20,.int .i64),(21,.int .i64)] []),(172,.loop [(10,.int .i64),(11,.int .i64)] []),(428,.loop [(14,.int .i64),(15,.int .i64)] []),(698,.loop [(13,.int .i64)] []),(1020,.loop [(20,.int .i64),(21,.int .i64)] []),(1023,.join [] []),(1722,.loop [(17,.int .i64)] []),(2047,.join [] []),(5514,.order [0,1,2,3,4,5,6,7,8,9,10]),(11172,.order [0,1,2,3,4,5,6,7,8,9,10,11,12,13,14,15,16,17]),(13706,.order [0,1,2,3,4,5,6,7,8,9,10,11]),(27556,.order [0,1,2,3,4,5,6,7,8,9,10,11,12,13,14,15,16,17]),(32650,.order [0,1,2,3,4,5,6,7,8,9,10,11,12,13])] Tryz.f171 [.v (.slice l.a l.n l.c),.v (.int .i64 n),.v (.int .i64 n1),.v (.int .i64 n2),.v (.func (.func 79) ⟨[]⟩ ⟨[.pointer (some ⟨b,o,none⟩),.pointer (some ⟨b1,o1,none⟩),.pointer (some ⟨b2,o2,none⟩)]⟩)]=F171.TN (nf+1) l n n1 n2 b o b1 o1 b2 o2:=F171.gen V F79.T (F171.TN nf) F215.T l n n1 n2 b o b1 o1 b2 o2
theorem F171.okN:∀ n,FOk Tryz.prog 171 (F171.W (F171.TN n))
 | 0=>by
  refine ⟨⟨_,Tryz.func171,rfl,rfl⟩,fun args=>?_⟩
  unfold F171.W
  split
  ·exact fun h Q hq=>hq.elim
  ·exact fun h Q hq=>hq.elim
 | nf+1=>by
  refine ⟨⟨_,Tryz.func171,rfl,rfl⟩,fun args=>?_⟩
  have hG:GOk Tryz.prog [(79,F79.V),(171,F171.W (F171.TN nf)),(215,F215.V)]:=GOk.cons F79.ok (GOk.cons (F171.okN nf) (GOk.cons F215.ok (GOk.nil)))
  have hV:VOk Tryz.prog noV:=noV_ok
  unfold F171.W
  split
  ·exact denF_okV hG hV Tryz.func171 (fun h Q hq=>(F171.den _ nf _ _ _ _ _ _ _ _ _ _) ▸ hq)
  ·exact fun h Q hq=>hq.elim
theorem F171.ok:FOk Tryz.prog 171 F171.V:=by
 refine ⟨(F171.okN 0).1,fun args h Q hq=>?_⟩
 unfold F171.V F171.W at hq
 split at hq
 ·obtain ⟨nf,hn⟩:=hq
  exact (F171.okN nf).2 _ h Q hn
 ·exact hq.elim
@[reducible] def F144.G (T170:Sl→Int→Int→Nat→Nat→Nat→Nat→Nat→Nat→PT) (T171:Sl→Int→Int→Int→Nat→Nat→Nat→Nat→Nat→Nat→PT) (l:Sl) (n:Int) (b o b1 o1 b2 o2:Nat):PT:=fun h Q=>
 ∃ (I:Int→Int→Hp→Prop) (m:Int→Int→Hp→Nat),I 0 20 h∧(∀ n1 n2:Int,∀ h1:Hp,I n1 n2 h1→par (n2≤n) (T170 l n1 n2 b o b1 o1 b2 o2 h1 fun r h2=>I n2 (IntKind.wrap .i64 (n2+20)) h2∧m n2 (IntKind.wrap .i64 (n2+20)) h2 < m n1 n2 h1) (T170 l n1 n b o b1 o1 b2 o2 h1 fun r1 h3=>∃ (I1:Int→Hp→Prop) (m1:Int→Hp→Nat),I1 20 h3∧(∀ n3:Int,∀ h4:Hp,I1 n3 h4→par (n3 < n) (∃ (I2:Int→Int→Hp→Prop) (m2:Int→Int→Hp→Nat),I2 0 (IntKind.wrap .i64 (2*n3)) h4∧(∀ n4 n5:Int,∀ h5:Hp,I2 n4 n5 h5→par (n5≤n) (T171 l n4 (IntKind.wrap .i64 (n4+n3)) n5 b o b1 o1 b2 o2 h5 fun r2 h6=>I2 n5 (IntKind.wrap .i64 (n5+(IntKind.wrap .i64 (2*n3)))) h6∧m2 n5 (IntKind.wrap .i64 (n5+(IntKind.wrap .i64 (2*n3)))) h6 < m2 n4 n5 h5) (par ((IntKind.wrap .i64 (n4+n3)) < n) (T171 l n4 (IntKind.wrap .i64 (n4+n3)) n b o b1 o1 b2 o2 h5 fun r3 h7=>I1 (IntKind.wrap .i64 (n3*2)) h7∧m1 (IntKind.wrap .i64 (n3*2)) h7 < m1 n3 h4) (I1 (IntKind.wrap .i64 (n3*2)) h5∧m1 (IntKind.wrap .i64 (n3*2)) h5 < m1 n3 h4)))) (Q (.tuple ⟨[]⟩) h4))))
def F144.T:=F144.G F170.T F171.T
theorem F144.gen (V T170 T171 l n b o b1 o1 b2 o2):denF Tryz.prog [] [(170,F170.W T170),(171,F171.W T171)] V [(28,.loop [(7,.int .i64),(8,.int .i64)] []),(62,.loop [(6,.int .i64)] []),(3988,.loop [(7,.int .i64),(8,.int .i64)] [])] Tryz.f144 [.v (.slice l.a l.n l.c),.v (.int .i64 n),.v (.func (.func 79) ⟨[]⟩ ⟨[.pointer (some ⟨b,o,none⟩),.pointer (some ⟨b1,o1,none⟩),.pointer (some ⟨b2,o2,none⟩)]⟩)]=F144.G T170 T171 l n b o b1 o1 b2 o2:=by kernel_rfl
def F144.W (T144:Sl→Int→Nat→Nat→Nat→Nat→Nat→Nat→PT) (args:List Value):PT:=match args with
 | [.slice l_a l_n l_c,.int .i64 n,.func (.func 79) ⟨[]⟩ ⟨[.pointer (some ⟨b,o,none⟩),.pointer (some ⟨b1,o1,none⟩),.pointer (some ⟨b2,o2,none⟩)]⟩]=>T144 ⟨l_a,l_n,l_c⟩ n b o b1 o1 b2 o2
 | _=>fun _ _=>False
def F144.V:List Value→PT:=F144.W F144.T
theorem F144.ok:FOk Tryz.prog 144 F144.V:=by
 refine ⟨⟨_,Tryz.func144,rfl,rfl⟩,fun args=>?_⟩
 unfold F144.V F144.W
 split
 ·exact denF_okE (GOk.cons F170.ok (GOk.cons F171.ok (GOk.nil))) noV_ok Tryz.func144 (F144.gen noV F170.T F171.T ⟨_,_,_⟩ _ _ _ _ _ _ _)
 ·exact fun _ _ h=>h.elim
@[reducible] def F78.G (T144:Sl→Int→Nat→Nat→Nat→Nat→Nat→Nat→PT) (l:Sl) (b o b1 o1 b2 o2:Nat):PT:=fun h Q=>
 T144 l (l.n:Int) b o b1 o1 b2 o2 h fun r h1=>Q (.tuple ⟨[]⟩) h1
def F78.T:=F78.G F144.T
theorem F78.gen (V T144 l b o b1 o1 b2 o2):denF Tryz.prog [] [(144,F144.W T144)] V [] Tryz.f78 [.v (.slice l.a l.n l.c),.v (.func (.func 79) ⟨[]⟩ ⟨[.pointer (some ⟨b,o,none⟩),.pointer (some ⟨b1,o1,none⟩),.pointer (some ⟨b2,o2,none⟩)]⟩)]=F78.G T144 l b o b1 o1 b2 o2:=by kernel_rfl
def F78.W (T78:Sl→Nat→Nat→Nat→Nat→Nat→Nat→PT) (args:List Value):PT:=match args with
 | [.slice l_a l_n l_c,.func (.func 79) ⟨[]⟩ ⟨[.pointer (some ⟨b,o,none⟩),.pointer (some ⟨b1,o1,none⟩),.pointer (some ⟨b2,o2,none⟩)]⟩]=>T78 ⟨l_a,l_n,l_c⟩ b o b1 o1 b2 o2
 | _=>fun _ _=>False
def F78.V:List Value→PT:=F78.W F78.T
theorem F78.ok:FOk Tryz.prog 78 F78.V:=by
 refine ⟨⟨_,Tryz.func78,rfl,rfl⟩,fun args=>?_⟩
 unfold F78.V F78.W
 split
 ·exact denF_okE (GOk.cons F144.ok (GOk.nil)) noV_ok Tryz.func78 (F78.gen noV F144.T ⟨_,_,_⟩ _ _ _ _ _ _)
 ·exact fun _ _ h=>h.elim
@[reducible] def F17.G (T16 T77:I9 <| I9 <| I9 <| Option Addr→PT) (T78:Sl→Nat→Nat→Nat→Nat→Nat→Nat→PT) (n n1 n2 n3 n4 n5 n6 n7 n8 n9 n10 n11 n12 n13 n14 n15 n16 n17 n18 n19 n20 n21 n22 n23 n24 n25 n26:Int) (p:Option Addr):PT:=fun h Q=>
 ∀ b,h b=none→∀ b1,(h.new b (.cells ⟨[.int .i64 n,.int .i64 n1,.int .i64 n2,.int .i64 n3,.int .i64 n4,.int .i64 n5,.int .i64 n6,.int .i64 n7,.int .i64 n8,.int .i64 n9,.int .i64 n10,.int .i64 n11,.int .i64 n12,.int .i64 n13,.int .i64 n14,.int .i64 n15,.int .i64 n16,.int .i64 n17,.int .i64 n18,.int .i64 n19,.int .i64 n20,.int .i64 n21,.int .i64 n22,.int .i64 n23,.int .i64 n24,.int .i64 n25,.int .i64 n26]⟩ 68 (0,0))) b1=none→∃ n27:Int,((h.new b (.cells ⟨[.int .i64 n,.int .i64 n1,.int .i64 n2,.int .i64 n3,.int .i64 n4,.int .i64 n5,.int .i64 n6,.int .i64 n7,.int .i64 n8,.int .i64 n9,.int .i64 n10,.int .i64 n11,.int .i64 n12,.int .i64 n13,.int .i64 n14,.int .i64 n15,.int .i64 n16,.int .i64 n17,.int .i64 n18,.int .i64 n19,.int .i64 n20,.int .i64 n21,.int .i64 n22,.int .i64 n23,.int .i64 n24,.int .i64 n25,.int .i64 n26]⟩ 68 (0,0))).new b1 (.cells ⟨[.pointer p]⟩ 71 (0,0))).at b 0=some (.int .i64 n27)∧∃ n28:Int,((h.new b (.cells ⟨[.int .i64 n,.int .i64 n1,.int .i64 n2,.int .i64 n3,.int .i64 n4,.int .i64 n5,.int .i64 n6,.int .i64 n7,.int .i64 n8,.int .i64 n9,.int .i64 n10,.int .i64 n11,.int .i64 n12,.int .i64 n13,.int .i64 n14,.int .i64 n15,.int .i64 n16,.int .i64 n17,.int .i64 n18,.int .i64 n19,.int .i64 n20,.int .i64 n21,.int .i64 n22,.int .i64 n23,.int .i64 n24,.int .i64 n25,.int .i64 n26]⟩ 68 (0,0))).new b1 (.cells ⟨[.pointer p]⟩ 71 (0,0))).at b 1=some (.int .i64 n28)∧∃ n29:Int,((h.new b (.cells ⟨[.int .i64 n,.int .i64 n1,.int .i64 n2,.int .i64 n3,.int .i64 n4,.int .i64 n5,.int .i64 n6,.int .i64 n7,.int .i64 n8,.int .i64 n9,.int .i64 n10,.int .i64 n11,.int .i64 n12,.int .i64 n13,.int .i64 n14,.int .i64 n15,.int .i64 n16,.int .i64 n17,.int .i64 n18,.int .i64 n19,.int .i64 n20,.int .i64 n21,.int .i64 n22,.int .i64 n23,.int .i64 n24,.int .i64 n25,.int .i64 n26]⟩ 68 (0,0))).new b1 (.cells ⟨[.pointer p]⟩ 71 (0,0))).at b 2=some (.int .i64 n29)∧∃ n30:Int,((h.new b (.cells ⟨[.int .i64 n,.int .i64 n1,.int .i64 n2,.int .i64 n3,.int .i64 n4,.int .i64 n5,.int .i64 n6,.int .i64 n7,.int .i64 n8,.int .i64 n9,.int .i64 n10,.int .i64 n11,.int .i64 n12,.int .i64 n13,.int .i64 n14,.int .i64 n15,.int .i64 n16,.int .i64 n17,.int .i64 n18,.int .i64 n19,.int .i64 n20,.int .i64 n21,.int .i64 n22,.int .i64 n23,.int .i64 n24,.int .i64 n25,.int .i64 n26]⟩ 68 (0,0))).new b1 (.cells ⟨[.pointer p]⟩ 71 (0,0))).at b 3=some (.int .i64 n30)∧∃ n31:Int,((h.new b (.cells ⟨[.int .i64 n,.int .i64 n1,.int .i64 n2,.int .i64 n3,.int .i64 n4,.int .i64 n5,.int .i64 n6,.int .i64 n7,.int .i64 n8,.int .i64 n9,.int .i64 n10,.int .i64 n11,.int .i64 n12,.int .i64 n13,.int .i64 n14,.int .i64 n15,.int .i64 n16,.int .i64 n17,.int .i64 n18,.int .i64 n19,.int .i64 n20,.int .i64 n21,.int .i64 n22,.int .i64 n23,.int .i64 n24,.int .i64 n25,.int .i64 n26]⟩ 68 (0,0))).new b1 (.cells ⟨[.pointer p]⟩ 71 (0,0))).at b 4=some (.int .i64 n31)∧∃ n32:Int,((h.new b (.cells ⟨[.int .i64 n,.int .i64 n1,.int .i64 n2,.int .i64 n3,.int .i64 n4,.int .i64 n5,.int .i64 n6,.int .i64 n7,.int .i64 n8,.int .i64 n9,.int .i64 n10,.int .i64 n11,.int .i64 n12,.int .i64 n13,.int .i64 n14,.int .i64 n15,.int .i64 n16,.int .i64 n17,.int .i64 n18,.int .i64 n19,.int .i64 n20,.int .i64 n21,.int .i64 n22,.int .i64 n23,.int .i64 n24,.int .i64 n25,.int .i64 n26]⟩ 68 (0,0))).new b1 (.cells ⟨[.pointer p]⟩ 71 (0,0))).at b 5=some (.int .i64 n32)∧∃ n33:Int,((h.new b (.cells ⟨[.int .i64 n,.int .i64 n1,.int .i64 n2,.int .i64 n3,.int .i64 n4,.int .i64 n5,.int .i64 n6,.int .i64 n7,.int .i64 n8,.int .i64 n9,.int .i64 n10,.int .i64 n11,.int .i64 n12,.int .i64 n13,.int .i64 n14,.int .i64 n15,.int .i64 n16,.int .i64 n17,.int .i64 n18,.int .i64 n19,.int .i64 n20,.int .i64 n21,.int .i64 n22,.int .i64 n23,.int .i64 n24,.int .i64 n25,.int .i64 n26]⟩ 68 (0,0))).new b1 (.cells ⟨[.pointer p]⟩ 71 (0,0))).at b 6=some (.int .i64 n33)∧∃ n34:Int,((h.new b (.cells ⟨[.int .i64 n,.int .i64 n1,.int .i64 n2,.int .i64 n3,.int .i64 n4,.int .i64 n5,.int .i64 n6,.int .i64 n7,.int .i64 n8,.int .i64 n9,.int .i64 n10,.int .i64 n11,.int .i64 n12,.int .i64 n13,.int .i64 n14,.int .i64 n15,.int .i64 n16,.int .i64 n17,.int .i64 n18,.int .i64 n19,.int .i64 n20,.int .i64 n21,.int .i64 n22,.int .i64 n23,.int .i64 n24,.int .i64 n25,.int .i64 n26]⟩ 68 (0,0))).new b1 (.cells ⟨[.pointer p]⟩ 71 (0,0))).at b 7=some (.int .i64 n34)∧∃ n35:Int,((h.new b (.cells ⟨[.int .i64 n,.int .i64 n1,.int .i64 n2,.int .i64 n3,.int .i64 n4,.int .i64 n5,.int .i64 n6,.int .i64 n7,.int .i64 n8,.int .i64 n9,.int .i64 n10,.int .i64 n11,.int .i64 n12,.int .i64 n13,.int .i64 n14,.int .i64 n15,.int .i64 n16,.int .i64 n17,.int .i64 n18,.int .i64 n19,.int .i64 n20,.int .i64 n21,.int .i64 n22,.int .i64 n23,.int .i64 n24,.int .i64 n25,.int .i64 n26]⟩ 68 (0,0))).new b1 (.cells ⟨[.pointer p]⟩ 71 (0,0))).at b 8=some (.int .i64 n35)∧∃ n36:Int,((h.new b (.cells ⟨[.int .i64 n,.int .i64 n1,.int .i64 n2,.int .i64 n3,.int .i64 n4,.int .i64 n5,.int .i64 n6,.int .i64 n7,.int .i64 n8,.int .i64 n9,.int .i64 n10,.int .i64 n11,.int .i64 n12,.int .i64 n13,.int .i64 n14,.int .i64 n15,.int .i64 n16,.int .i64 n17,.int .i64 n18,.int .i64 n19,.int .i64 n20,.int .i64 n21,.int .i64 n22,.int .i64 n23,.int .i64 n24,.int .i64 n25,.int .i64 n26]⟩ 68 (0,0))).new b1 (.cells ⟨[.pointer p]⟩ 71 (0,0))).at b 9=some (.int .i64 n36)∧∃ n37:Int,((h.new b (.cells ⟨[.int .i64 n,.int .i64 n1,.int .i64 n2,.int .i64 n3,.int .i64 n4,.int .i64 n5,.int .i64 n6,.int .i64 n7,.int .i64 n8,.int .i64 n9,.int .i64 n10,.int .i64 n11,.int .i64 n12,.int .i64 n13,.int .i64 n14,.int .i64 n15,.int .i64 n16,.int .i64 n17,.int .i64 n18,.int .i64 n19,.int .i64 n20,.int .i64 n21,.int .i64 n22,.int .i64 n23,.int .i64 n24,.int .i64 n25,.int .i64 n26]⟩ 68 (0,0))).new b1 (.cells ⟨[.pointer p]⟩ 71 (0,0))).at b 10=some (.int .i64 n37)∧∃ n38:Int,((h.new b (.cells ⟨[.int .i64 n,.int .i64 n1,.int .i64 n2,.int .i64 n3,.int .i64 n4,.int .i64 n5,.int .i64 n6,.int .i64 n7,.int .i64 n8,.int .i64 n9,.int .i64 n10,.int .i64 n11,.int .i64 n12,.int .i64 n13,.int .i64 n14,.int .i64 n15,.int .i64 n16,.int .i64 n17,.int .i64 n18,.int .i64 n19,.int .i64 n20,.int .i64 n21,.int .i64 n22,.int .i64 n23,.int .i64 n24,.int .i64 n25,.int .i64 n26]⟩ 68 (0,0))).new b1 (.cells ⟨[.pointer p]⟩ 71 (0,0))).at b 11=some (.int .i64 n38)∧∃ n39:Int,((h.new b (.cells ⟨[.int .i64 n,.int .i64 n1,.int .i64 n2,.int .i64 n3,.int .i64 n4,.int .i64 n5,.int .i64 n6,.int .i64 n7,.int .i64 n8,.int .i64 n9,.int .i64 n10,.int .i64 n11,.int .i64 n12,.int .i64 n13,.int .i64 n14,.int .i64 n15,.int .i64 n16,.int .i64 n17,.int .i64 n18,.int .i64 n19,.int .i64 n20,.int .i64 n21,.int .i64 n22,.int .i64 n23,.int .i64 n24,.int .i64 n25,.int .i64 n26]⟩ 68 (0,0))).new b1 (.cells ⟨[.pointer p]⟩ 71 (0,0))).at b 12=some (.int .i64 n39)∧∃ n40:Int,((h.new b (.cells ⟨[.int .i64 n,.int .i64 n1,.int .i64 n2,.int .i64 n3,.int .i64 n4,.int .i64 n5,.int .i64 n6,.int .i64 n7,.int .i64 n8,.int .i64 n9,.int .i64 n10,.int .i64 n11,.int .i64 n12,.int .i64 n13,.int .i64 n14,.int .i64 n15,.int .i64 n16,.int .i64 n17,.int .i64 n18,.int .i64 n19,.int .i64 n20,.int .i64 n21,.int .i64 n22,.int .i64 n23,.int .i64 n24,.int .i64 n25,.int .i64 n26]⟩ 68 (0,0))).new b1 (.cells ⟨[.pointer p]⟩ 71 (0,0))).at b 13=some (.int .i64 n40)∧∃ n41:Int,((h.new b (.cells ⟨[.int .i64 n,.int .i64 n1,.int .i64 n2,.int .i64 n3,.int .i64 n4,.int .i64 n5,.int .i64 n6,.int .i64 n7,.int .i64 n8,.int .i64 n9,.int .i64 n10,.int .i64 n11,.int .i64 n12,.int .i64 n13,.int .i64 n14,.int .i64 n15,.int .i64 n16,.int .i64 n17,.int .i64 n18,.int .i64 n19,.int .i64 n20,.int .i64 n21,.int .i64 n22,.int .i64 n23,.int .i64 n24,.int .i64 n25,.int .i64 n26]⟩ 68 (0,0))).new b1 (.cells ⟨[.pointer p]⟩ 71 (0,0))).at b 14=some (.int .i64 n41)∧∃ n42:Int,((h.new b (.cells ⟨[.int .i64 n,.int .i64 n1,.int .i64 n2,.int .i64 n3,.int .i64 n4,.int .i64 n5,.int .i64 n6,.int .i64 n7,.int .i64 n8,.int .i64 n9,.int .i64 n10,.int .i64 n11,.int .i64 n12,.int .i64 n13,.int .i64 n14,.int .i64 n15,.int .i64 n16,.int .i64 n17,.int .i64 n18,.int .i64 n19,.int .i64 n20,.int .i64 n21,.int .i64 n22,.int .i64 n23,.int .i64 n24,.int .i64 n25,.int .i64 n26]⟩ 68 (0,0))).new b1 (.cells ⟨[.pointer p]⟩ 71 (0,0))).at b 15=some (.int .i64 n42)∧∃ n43:Int,((h.new b (.cells ⟨[.int .i64 n,.int .i64 n1,.int .i64 n2,.int .i64 n3,.int .i64 n4,.int .i64 n5,.int .i64 n6,.int .i64 n7,.int .i64 n8,.int .i64 n9,.int .i64 n10,.int .i64 n11,.int .i64 n12,.int .i64 n13,.int .i64 n14,.int .i64 n15,.int .i64 n16,.int .i64 n17,.int .i64 n18,.int .i64 n19,.int .i64 n20,.int .i64 n21,.int .i64 n22,.int .i64 n23,.int .i64 n24,.int .i64 n25,.int .i64 n26]⟩ 68 (0,0))).new b1 (.cells ⟨[.pointer p]⟩ 71 (0,0))).at b 16=some (.int .i64 n43)∧∃ n44:Int,((h.new b (.cells ⟨[.int .i64 n,.int .i64 n1,.int .i64 n2,.int .i64 n3,.int .i64 n4,.int .i64 n5,.int .i64 n6,.int .i64 n7,.int .i64 n8,.int .i64 n9,.int .i64 n10,.int .i64 n11,.int .i64 n12,.int .i64 n13,.int .i64 n14,.int .i64 n15,.int .i64 n16,.int .i64 n17,.int .i64 n18,.int .i64 n19,.int .i64 n20,.int .i64 n21,.int .i64 n22,.int .i64 n23,.int .i64 n24,.int .i64 n25,.int .i64 n26]⟩ 68 (0,0))).new b1 (.cells ⟨[.pointer p]⟩ 71 (0,0))).at b 17=some (.int .i64 n44)∧∃ n45:Int,((h.new b (.cells ⟨[.int .i64 n,.int .i64 n1,.int .i64 n2,.int .i64 n3,.int .i64 n4,.int .i64 n5,.int .i64 n6,.int .i64 n7,.int .i64 n8,.int .i64 n9,.int .i64 n10,.int .i64 n11,.int .i64 n12,.int .i64 n13,.int .i64 n14,.int .i64 n15,.int .i64 n16,.int .i64 n17,.int .i64 n18,.int .i64 n19,.int .i64 n20,.int .i64 n21,.int .i64 n22,.int .i64 n23,.int .i64 n24,.int .i64 n25,.int .i64 n26]⟩ 68 (0,0))).new b1 (.cells ⟨[.pointer p]⟩ 71 (0,0))).at b 18=some (.int .i64 n45)∧∃ n46:Int,((h.new b (.cells ⟨[.int .i64 n,.int .i64 n1,.int .i64 n2,.int .i64 n3,.int .i64 n4,.int .i64 n5,.int .i64 n6,.int .i64 n7,.int .i64 n8,.int .i64 n9,.int .i64 n10,.int .i64 n11,.int .i64 n12,.int .i64 n13,.int .i64 n14,.int .i64 n15,.int .i64 n16,.int .i64 n17,.int .i64 n18,.int .i64 n19,.int .i64 n20,.int .i64 n21,.int .i64 n22,.int .i64 n23,.int .i64 n24,.int .i64 n25,.int .i64 n26]⟩ 68 (0,0))).new b1 (.cells ⟨[.pointer p]⟩ 71 (0,0))).at b 19=some (.int .i64 n46)∧∃ n47:Int,((h.new b (.cells ⟨[.int .i64 n,.int .i64 n1,.int .i64 n2,.int .i64 n3,.int .i64 n4,.int .i64 n5,.int .i64 n6,.int .i64 n7,.int .i64 n8,.int .i64 n9,.int .i64 n10,.int .i64 n11,.int .i64 n12,.int .i64 n13,.int .i64 n14,.int .i64 n15,.int .i64 n16,.int .i64 n17,.int .i64 n18,.int .i64 n19,.int .i64 n20,.int .i64 n21,.int .i64 n22,.int .i64 n23,.int .i64 n24,.int .i64 n25,.int .i64 n26]⟩ 68 (0,0))).new b1 (.cells ⟨[.pointer p]⟩ 71 (0,0))).at b 20=some (.int .i64 n47)∧∃ n48:Int,((h.new b (.cells ⟨[.int .i64 n,.int .i64 n1,.int .i64 n2,.int .i64 n3,.int .i64 n4,.int .i64 n5,.int .i64 n6,.int .i64 n7,.int .i64 n8,.int .i64 n9,.int .i64 n10,.int .i64 n11,.int .i64 n12,.int .i64 n13,.int .i64 n14,.int .i64 n15,.int .i64 n16,.int .i64 n17,.int .i64 n18,.int .i64 n19,.int .i64 n20,.int .i64 n21,.int .i64 n22,.int .i64 n23,.int .i64 n24,.int .i64 n25,.int .i64 n26]⟩ 68 (0,0))).new b1 (.cells ⟨[.pointer p]⟩ 71 (0,0))).at b 21=some (.int .i64 n48)∧∃ n49:Int,((h.new b (.cells ⟨[.int .i64 n,.int .i64 n1,.int .i64 n2,.int .i64 n3,.int .i64 n4,.int .i64 n5,.int .i64 n6,.int .i64 n7,.int .i64 n8,.int .i64 n9,.int .i64 n10,.int .i64 n11,.int .i64 n12,.int .i64 n13,.int .i64 n14,.int .i64 n15,.int .i64 n16,.int .i64 n17,.int .i64 n18,.int .i64 n19,.int .i64 n20,.int .i64 n21,.int .i64 n22,.int .i64 n23,.int .i64 n24,.int .i64 n25,.int .i64 n26]⟩ 68 (0,0))).new b1 (.cells ⟨[.pointer p]⟩ 71 (0,0))).at b 22=some (.int .i64 n49)∧∃ n50:Int,((h.new b (.cells ⟨[.int .i64 n,.int .i64 n1,.int .i64 n2,.int .i64 n3,.int .i64 n4,.int .i64 n5,.int .i64 n6,.int .i64 n7,.int .i64 n8,.int .i64 n9,.int .i64 n10,.int .i64 n11,.int .i64 n12,.int .i64 n13,.int .i64 n14,.int .i64 n15,.int .i64 n16,.int .i64 n17,.int .i64 n18,.int .i64 n19,.int .i64 n20,.int .i64 n21,.int .i64 n22,.int .i64 n23,.int .i64 n24,.int .i64 n25,.int .i64 n26]⟩ 68 (0,0))).new b1 (.cells ⟨[.pointer p]⟩ 71 (0,0))).at b 23=some (.int .i64 n50)∧∃ n51:Int,((h.new b (.cells ⟨[.int .i64 n,.int .i64 n1,.int .i64 n2,.int .i64 n3,.int .i64 n4,.int .i64 n5,.int .i64 n6,.int .i64 n7,.int .i64 n8,.int .i64 n9,.int .i64 n10,.int .i64 n11,.int .i64 n12,.int .i64 n13,.int .i64 n14,.int .i64 n15,.int .i64 n16,.int .i64 n17,.int .i64 n18,.int .i64 n19,.int .i64 n20,.int .i64 n21,.int .i64 n22,.int .i64 n23,.int .i64 n24,.int .i64 n25,.int .i64 n26]⟩ 68 (0,0))).new b1 (.cells ⟨[.pointer p]⟩ 71 (0,0))).at b 24=some (.int .i64 n51)∧∃ n52:Int,((h.new b (.cells ⟨[.int .i64 n,.int .i64 n1,.int .i64 n2,.int .i64 n3,.int .i64 n4,.int .i64 n5,.int .i64 n6,.int .i64 n7,.int .i64 n8,.int .i64 n9,.int .i64 n10,.int .i64 n11,.int .i64 n12,.int .i64 n13,.int .i64 n14,.int .i64 n15,.int .i64 n16,.int .i64 n17,.int .i64 n18,.int .i64 n19,.int .i64 n20,.int .i64 n21,.int .i64 n22,.int .i64 n23,.int .i64 n24,.int .i64 n25,.int .i64 n26]⟩ 68 (0,0))).new b1 (.cells ⟨[.pointer p]⟩ 71 (0,0))).at b 25=some (.int .i64 n52)∧∃ n53:Int,((h.new b (.cells ⟨[.int .i64 n,.int .i64 n1,.int .i64 n2,.int .i64 n3,.int .i64 n4,.int .i64 n5,.int .i64 n6,.int .i64 n7,.int .i64 n8,.int .i64 n9,.int .i64 n10,.int .i64 n11,.int .i64 n12,.int .i64 n13,.int .i64 n14,.int .i64 n15,.int .i64 n16,.int .i64 n17,.int .i64 n18,.int .i64 n19,.int .i64 n20,.int .i64 n21,.int .i64 n22,.int .i64 n23,.int .i64 n24,.int .i64 n25,.int .i64 n26]⟩ 68 (0,0))).new b1 (.cells ⟨[.pointer p]⟩ 71 (0,0))).at b 26=some (.int .i64 n53)∧∃ p1:Option Addr,((h.new b (.cells ⟨[.int .i64 n,.int .i64 n1,.int .i64 n2,.int .i64 n3,.int .i64 n4,.int .i64 n5,.int .i64 n6,.int .i64 n7,.int .i64 n8,.int .i64 n9,.int .i64 n10,.int .i64 n11,.int .i64 n12,.int .i64 n13,.int .i64 n14,.int .i64 n15,.int .i64 n16,.int .i64 n17,.int .i64 n18,.int .i64 n19,.int .i64 n20,.int .i64 n21,.int .i64 n22,.int .i64 n23,.int .i64 n24,.int .i64 n25,.int .i64 n26]⟩ 68 (0,0))).new b1 (.cells ⟨[.pointer p]⟩ 71 (0,0))).at b1 0=some (.pointer p1)∧T16 n27 n28 n29 n30 n31 n32 n33 n34 n35 n36 n37 n38 n39 n40 n41 n42 n43 n44 n45 n46 n47 n48 n49 n50 n51 n52 n53 p1 ((h.new b (.cells ⟨[.int .i64 n,.int .i64 n1,.int .i64 n2,.int .i64 n3,.int .i64 n4,.int .i64 n5,.int .i64 n6,.int .i64 n7,.int .i64 n8,.int .i64 n9,.int .i64 n10,.int .i64 n11,.int .i64 n12,.int .i64 n13,.int .i64 n14,.int .i64 n15,.int .i64 n16,.int .i64 n17,.int .i64 n18,.int .i64 n19,.int .i64 n20,.int .i64 n21,.int .i64 n22,.int .i64 n23,.int .i64 n24,.int .i64 n25,.int .i64 n26]⟩ 68 (0,0))).new b1 (.cells ⟨[.pointer p]⟩ 71 (0,0))) fun r h1=>∃ l:Sl,r=.slice l.a l.n l.c∧∀ b2,h1 b2=none→(h1.new b2 (.cells ⟨[.slice none 0 0]⟩ 25 (0,0))).canW b2 0 1∧∃ l1:Sl,((h1.new b2 (.cells ⟨[.slice none 0 0]⟩ 25 (0,0))).wr b2 0 [.slice l.a l.n l.c]).at b2 0=some (.slice l1.a l1.n l1.c)∧∃ (I:Sl→Int→Hp→Prop) (m:Sl→Int→Hp→Nat),I ⟨none,0,0⟩ 0 ((h1.new b2 (.cells ⟨[.slice none 0 0]⟩ 25 (0,0))).wr b2 0 [.slice l.a l.n l.c])∧(∀ l2:Sl,∀ n54:Int,∀ h2:Hp,I l2 n54 h2→par (n54 < (l1.n:Int)) (∃ b3 o,(l1.a:Option Addr)=some ⟨b3,o,none⟩∧((0:Int)≤n54∧n54 < (l1.n:Int))∧∃ n55:Int,h2.at b3 (o+n54.toNat)=some (.int .i64 n55)∧par ((1000:Int)≤n55) (appendD l2 3 1 8 [.int .i64 0] 1 [.int .i64 n54] h2 fun l3 h3=>I l3 (IntKind.wrap .i64 (n54+1)) h3∧m l3 (IntKind.wrap .i64 (n54+1)) h3 < m l2 n54 h2) (par (n54=0) (∃ n56:Int,h2.at b 0=some (.int .i64 n56)∧∃ n57:Int,h2.at b 1=some (.int .i64 n57)∧∃ n58:Int,h2.at b 2=some (.int .i64 n58)∧∃ n59:Int,h2.at b 3=some (.int .i64 n59)∧∃ n60:Int,h2.at b 4=some (.int .i64 n60)∧∃ n61:Int,h2.at b 5=some (.int .i64 n61)∧∃ n62:Int,h2.at b 6=some (.int .i64 n62)∧∃ n63:Int,h2.at b 7=some (.int .i64 n63)∧∃ n64:Int,h2.at b 8=some (.int .i64 n64)∧∃ n65:Int,h2.at b 9=some (.int .i64 n65)∧∃ n66:Int,h2.at b 10=some (.int .i64 n66)∧∃ n67:Int,h2.at b 11=some (.int .i64 n67)∧∃ n68:Int,h2.at b 12=some (.int .i64 n68)∧∃ n69:Int,h2.at b 13=some (.int .i64 n69)∧∃ n70:Int,h2.at b 14=some (.int .i64 n70)∧∃ n71:Int,h2.at b 15=some (.int .i64 n71)∧∃ n72:Int,h2.at b 16=some (.int .i64 n72)∧∃ n73:Int,h2.at b 17=some (.int .i64 n73)∧∃ n74:Int,h2.at b 18=some (.int .i64 n74)∧∃ n75:Int,h2.at b 19=some (.int .i64 n75)∧∃ n76:Int,h2.at b 20=some (.int .i64 n76)∧∃ n77:Int,h2.at b 21=some (.int .i64 n77)∧∃ n78:Int,h2.at b 22=some (.int .i64 n78)∧∃ n79:Int,h2.at b 23=some (.int .i64 n79)∧∃ n80:Int,h2.at b 24=some (.int .i64 n80)∧∃ n81:Int,h2.at b 25=some (.int .i64 n81)∧∃ n82:Int,h2.at b 26=some (.int .i64 n82)∧∃ p2:Option Addr,h2.at b1 0=some (.pointer p2)∧T77 n56 n57 n58 n59 n60 n61 n62 n63 n64 n65 n66 n67 n68 n69 n70 n71 n72 n73 n74 n75 n76 n77 n78 n79 n80 n81 n82 p2 h2 fun r1 h4=>∃ b4:Bool,r1=.bool b4∧parB b4 (appendD l2 3 1 8 [.int .i64 0] 1 [.int .i64 n54] h4 fun l4 h5=>I l4 (IntKind.wrap .i64 (n54+1)) h5∧m l4 (IntKind.wrap .i64 (n54+1)) h5 < m l2 n54 h2) (I l2 (IntKind.wrap .i64 (n54+1)) h4∧m l2 (IntKind.wrap .i64 (n54+1)) h4 < m l2 n54 h2)) (I l2 (IntKind.wrap .i64 (n54+1)) h2∧m l2 (IntKind.wrap .i64 (n54+1)) h2 < m l2 n54 h2))) (T78 l2 b 0 b1 0 b2 0 h2 fun r2 h6=>Q (.slice l2.a l2.n l2.c) h6))
def F17.T:=F17.G F16.T F77.T F78.T
theorem F17.gen (V T16 T77 T78 n n1 n2 n3 n4 n5 n6 n7 n8 n9 n10 n11 n12 n13 n14 n15 n16 n17 n18 n19 n20 n21 n22 n23 n24 n25 n26 p):denF Tryz.prog [32] [(16,F16.W T16),(77,F77.W T77),(78,F78.W T78)] V [(122,.loop [(6,.sl),(14,.int .i64)] [])] Tryz.f17 [.v (.agg ⟨[.int .i64 n,.int .i64 n1,.int .i64 n2,.int .i64 n3,.int .i64 n4,.int .i64 n5,.int .i64 n6,.int .i64 n7,.int .i64 n8,.int .i64 n9,.int .i64 n10,.int .i64 n11,.int .i64 n12,.int .i64 n13,.int .i64 n14,.int .i64 n15,.int .i64 n16,.int .i64 n17,.int .i64 n18,.int .i64 n19,.int .i64 n20,.int .i64 n21,.int .i64 n22,.int .i64 n23,.int .i64 n24,.int .i64 n25,.int .i64 n26]⟩),.v (.pointer p)]=F17.G T16 T77 T78 n n1 n2 n3 n4 n5 n6 n7 n8 n9 n10 n11 n12 n13 n14 n15 n16 n17 n18 n19 n20 n21 n22 n23 n24 n25 n26 p:=by kernel_rfl
def F17.W (T17:I9 <| I9 <| I9 <| Option Addr→PT) (args:List Value):PT:=match args with
 | [.agg ⟨[.int .i64 n,.int .i64 n1,.int .i64 n2,.int .i64 n3,.int .i64 n4,.int .i64 n5,.int .i64 n6,.int .i64 n7,.int .i64 n8,.int .i64 n9,.int .i64 n10,.int .i64 n11,.int .i64 n12,.int .i64 n13,.int .i64 n14,.int .i64 n15,.int .i64 n16,.int .i64 n17,.int .i64 n18,.int .i64 n19,.int .i64 n20,.int .i64 n21,.int .i64 n22,.int .i64 n23,.int .i64 n24,.int .i64 n25,.int .i64 n26]⟩,.pointer p]=>T17 n n1 n2 n3 n4 n5 n6 n7 n8 n9 n10 n11 n12 n13 n14 n15 n16 n17 n18 n19 n20 n21 n22 n23 n24 n25 n26 p
 | _=>fun _ _=>False
def F17.V:List Value→PT:=F17.W F17.T
theorem F17.ok:FOk Tryz.prog 17 F17.V:=by
 refine ⟨⟨_,Tryz.func17,rfl,rfl⟩,fun args=>?_⟩
 unfold F17.V F17.W
 split
 ·exact denF_okE (GOk.cons F16.ok (GOk.cons F77.ok (GOk.cons F78.ok (GOk.nil)))) noV_ok Tryz.func17 (F17.gen noV F16.T F77.T F78.T _ _ _ _ _ _ _ _ _ _ _ _ _ _ _ _ _ _ _ _ _ _ _ _ _ _ _ _)
 ·exact fun _ _ h=>h.elim
end Go.Eng.YtbjnlacacapjiaaGreatDoor
end
section
set_option maxRecDepth 100000
open Go.Proofs
namespace Go.Eng.YtbjnlacacapjiaaGreatDoor
def F83.T (l:Sl):PT:=fun h Q=>
 ∃ b o,(l.a:Option Addr)=some ⟨b,o,none⟩∧((0:Int)≤0∧0 < (l.n:Int))∧∃ s:ByteArray,h.at b ((o+(0:Int).toNat*6)+4)=some (.string s)∧∃ b1 o1,(l.a:Option Addr)=some ⟨b1,o1,none⟩∧((0:Int)≤0∧0 < (l.n:Int))∧∃ s1:ByteArray,h.at b1 ((o1+(0:Int).toNat*6)+5)=some (.string s1)∧h.at b1 ((o1+(0:Int).toNat*6)+5)=some (.string s1)∧∃ (I:ByteArray→ByteArray→Int→Hp→Prop) (m:ByteArray→ByteArray→Int→Hp→Nat),I s s1 0 h∧(∀ s2 s3:ByteArray,∀ n:Int,∀ h1:Hp,I s2 s3 n h1→par (n < (l.n:Int)) (∃ b2 o2,(l.a:Option Addr)=some ⟨b2,o2,none⟩∧((0:Int)≤n∧n < (l.n:Int))∧∃ n1:Int,h1.at b2 (o2+n.toNat*6)=some (.int .u64 n1)∧∃ n2:Int,h1.at b2 ((o2+n.toNat*6)+1)=some (.int .i64 n2)∧∃ n3:Int,h1.at b2 ((o2+n.toNat*6)+2)=some (.int .i64 n3)∧∃ n4:Int,h1.at b2 ((o2+n.toNat*6)+3)=some (.int .i64 n4)∧∃ s4:ByteArray,h1.at b2 ((o2+n.toNat*6)+4)=some (.string s4)∧∃ s5:ByteArray,h1.at b2 ((o2+n.toNat*6)+5)=some (.string s5)∧I (sMin s2 s4) (sMax s3 s5) (IntKind.wrap .i64 (n+1)) h1∧m (sMin s2 s4) (sMax s3 s5) (IntKind.wrap .i64 (n+1)) h1 < m s2 s3 n h1) (Q (.tuple ⟨[.string s2,.string s3]⟩) h1))
theorem F83.den (V l):denF Tryz.prog [7] [] V [(6,.order [0,1,2,3,4,5,6,7,8,9]),(58,.loop [(4,.str),(5,.str),(18,.int .i64)] []),(3737,.order [0,1,2,3,4,5,6,7,8,9])] Tryz.f83 [.v (.slice l.a l.n l.c)]=F83.T l:=by kernel_rfl
def F83.W (T83:Sl→PT) (args:List Value):PT:=match args with
 | [.slice l_a l_n l_c]=>T83 ⟨l_a,l_n,l_c⟩
 | _=>fun _ _=>False
def F83.V:List Value→PT:=F83.W F83.T
theorem F83.ok:FOk Tryz.prog 83 F83.V:=by
 refine ⟨⟨_,Tryz.func83,rfl,rfl⟩,fun args=>?_⟩
 unfold F83.V F83.W
 split
 ·exact denF_okE (GOk.nil) noV_ok Tryz.func83 (F83.den noV ⟨_,_,_⟩)
 ·exact fun _ _ h=>h.elim
def F85.T (l:Sl) (s:ByteArray):PT:=fun h Q=>
 ∃ (I:Int→Int→Int→Int→Int→ByteArray→ByteArray→Hp→Prop) (m:Int→Int→Int→Int→Int→ByteArray→ByteArray→Hp→Nat),I 0 0 0 0 0 (ByteArray.mk #[]) (ByteArray.mk #[]) h∧(∀ n n1:Int,∀ n2 n3 n4:Int,∀ s1 s2:ByteArray,∀ h1:Hp,I n n1 n2 n3 n4 s1 s2 h1→par (n < (l.n:Int)) (∃ b o,(l.a:Option Addr)=some ⟨b,o,none⟩∧((0:Int)≤n∧n < (l.n:Int))∧∃ n5:Int,h1.at b (o+n.toNat*6)=some (.int .u64 n5)∧∃ n6:Int,h1.at b ((o+n.toNat*6)+1)=some (.int .i64 n6)∧∃ n7:Int,h1.at b ((o+n.toNat*6)+2)=some (.int .i64 n7)∧∃ n8:Int,h1.at b ((o+n.toNat*6)+3)=some (.int .i64 n8)∧∃ s3:ByteArray,h1.at b ((o+n.toNat*6)+4)=some (.string s3)∧∃ s4:ByteArray,h1.at b ((o+n.toNat*6)+5)=some (.string s4)∧par (sLt s3 s∨s3=s) (I (IntKind.wrap .i64 (n+1)) n1 n2 n3 n4 s1 s2 h1∧m (IntKind.wrap .i64 (n+1)) n1 n2 n3 n4 s1 s2 h1 < m n n1 n2 n3 n4 s1 s2 h1) (par (([.int .u64 n1,.int .i64 n2,.int .i64 n3,.int .i64 n4,.string s1,.string s2]:List Value)=[.int .u64 0,.int .i64 0,.int .i64 0,.int .i64 0,.string ⟨#[]⟩,.string ⟨#[]⟩]) (I (IntKind.wrap .i64 (n+1)) n5 n6 n7 n8 s3 s4 h1∧m (IntKind.wrap .i64 (n+1)) n5 n6 n7 n8 s3 s4 h1 < m n n1 n2 n3 n4 s1 s2 h1) (I (IntKind.wrap .i64 (n+1)) n1 n2 n3 n4 s1 s2 h1∧m (IntKind.wrap .i64 (n+1)) n1 n2 n3 n4 s1 s2 h1 < m n n1 n2 n3 n4 s1 s2 h1))) (par (([.int .u64 n1,.int .i64 n2,.int .i64 n3,.int .i64 n4,.string s1,.string s2]:List Value)=[.int .u64 0,.int .i64 0,.int .i64 0,.int .i64 0,.string ⟨#[]⟩,.string ⟨#[]⟩]) (∃ b1 o1,(l.a:Option Addr)=some ⟨b1,o1,none⟩∧((0:Int)≤0∧0 < (l.n:Int))∧∃ n9:Int,h1.at b1 (o1+(0:Int).toNat*6)=some (.int .u64 n9)∧∃ n10:Int,h1.at b1 ((o1+(0:Int).toNat*6)+1)=some (.int .i64 n10)∧∃ n11:Int,h1.at b1 ((o1+(0:Int).toNat*6)+2)=some (.int .i64 n11)∧∃ n12:Int,h1.at b1 ((o1+(0:Int).toNat*6)+3)=some (.int .i64 n12)∧∃ s5:ByteArray,h1.at b1 ((o1+(0:Int).toNat*6)+4)=some (.string s5)∧∃ s6:ByteArray,h1.at b1 ((o1+(0:Int).toNat*6)+5)=some (.string s6)∧Q (.agg ⟨[.int .u64 n9,.int .i64 n10,.int .i64 n11,.int .i64 n12,.string s5,.string s6]⟩) h1) (Q (.agg ⟨[.int .u64 n1,.int .i64 n2,.int .i64 n3,.int .i64 n4,.string s1,.string s2]⟩) h1)))
theorem F85.den (V l s):denF Tryz.prog [4,5,7] [] V [(58,.loop [(10,.int .i64)] [(5,[.int .u64,.int .i64,.int .i64,.int .i64,.str,.str])])] Tryz.f85 [.v (.slice l.a l.n l.c),.v (.string s)]=F85.T l s:=by kernel_rfl
def F85.W (T85:Sl→ByteArray→PT) (args:List Value):PT:=match args with
 | [.slice l_a l_n l_c,.string s]=>T85 ⟨l_a,l_n,l_c⟩ s
 | _=>fun _ _=>False
def F85.V:List Value→PT:=F85.W F85.T
theorem F85.ok:FOk Tryz.prog 85 F85.V:=by
 refine ⟨⟨_,Tryz.func85,rfl,rfl⟩,fun args=>?_⟩
 unfold F85.V F85.W
 split
 ·exact denF_okE (GOk.nil) noV_ok Tryz.func85 (F85.den noV ⟨_,_,_⟩ _)
 ·exact fun _ _ h=>h.elim
def F86.T (l:Sl) (n:Int):PT:=fun h Q=>
 par (n < (l.n:Int)) (∃ b o,(l.a:Option Addr)=some ⟨b,o,none⟩∧((0:Int)≤n∧n < (l.n:Int))∧∃ s:ByteArray,h.at b (o+n.toNat)=some (.string s)∧Q (.string s) h) (Q (.string ⟨#[]⟩) h)
theorem F86.den (V l n):denF Tryz.prog [] [] V [] Tryz.f86 [.v (.slice l.a l.n l.c),.v (.int .i64 n)]=F86.T l n:=by kernel_rfl
def F86.W (T86:Sl→Int→PT) (args:List Value):PT:=match args with
 | [.slice l_a l_n l_c,.int .i64 n]=>T86 ⟨l_a,l_n,l_c⟩ n
 | _=>fun _ _=>False
def F86.V:List Value→PT:=F86.W F86.T
theorem F86.ok:FOk Tryz.prog 86 F86.V:=by
 refine ⟨⟨_,Tryz.func86,rfl,rfl⟩,fun args=>?_⟩
 unfold F86.V F86.W
 split
 ·exact denF_okE (GOk.nil) noV_ok Tryz.func86 (F86.den noV ⟨_,_,_⟩ _)
 ·exact fun _ _ h=>h.elim
@[reducible] def F20.G (T73:Option Addr→Int→PT) (T74:I9 <| I9 <| I9 <| Option Addr→PT) (T83:Sl→PT) (T84:Option Addr→Int→ByteArray→ByteArray→PT) (T85:Sl→ByteArray→PT) (T86:Sl→Int→PT) (n n1 n2 n3 n4 n5 n6 n7 n8 n9 n10 n11 n12 n13 n14 n15 n16 n17 n18 n19 n20 n21 n22 n23 n24 n25 n26:Int) (p:Option Addr) (l:Sl) (n27:Int):PT:=fun h Q=>
 par (n27 < 0) (Q (.tuple ⟨[.agg ⟨[.int .i64 0,.slice none 0 0,.slice none 0 0,.string ⟨#[]⟩,.bool false]⟩,.bool false]⟩) h) (T74 n n1 n2 n3 n4 n5 n6 n7 n8 n9 n10 n11 n12 n13 n14 n15 n16 n17 n18 n19 n20 n21 n22 n23 n24 n25 n26 p h fun r h1=>∃ n28:Int,r=.int .i64 n28∧par (n28≤n27) (Q (.tuple ⟨[.agg ⟨[.int .i64 0,.slice none 0 0,.slice none 0 0,.string ⟨#[]⟩,.bool false]⟩,.bool false]⟩) h1) (T73 p n27 h1 fun r1 h2=>∃ l1:Sl,r1=.slice l1.a l1.n l1.c∧par ((l1.n:Int)=0) (Q (.tuple ⟨[.agg ⟨[.int .i64 0,.slice none 0 0,.slice none 0 0,.string ⟨#[]⟩,.bool false]⟩,.bool false]⟩) h2) (par (n27=0) (T83 l1 h2 fun r2 h3=>∃ s s1:ByteArray,r2=.tuple ⟨[.string s,.string s1]⟩∧T84 p 1 s s1 h3 fun r3 h4=>∃ l2:Sl,r3=.slice l2.a l2.n l2.c∧Q (.tuple ⟨[.agg ⟨[.int .i64 0,.slice l1.a l1.n l1.c,.slice l2.a l2.n l2.c,.string ⟨#[]⟩,.bool false]⟩,.bool true]⟩) h4) (T86 l n27 h2 fun r4 h5=>∃ s2:ByteArray,r4=.string s2∧T85 l1 s2 h5 fun r5 h6=>∃ n29 n30:Int,∃ n31 n32:Int,∃ s3 s4:ByteArray,r5=.agg ⟨[.int .u64 n29,.int .i64 n30,.int .i64 n31,.int .i64 n32,.string s3,.string s4]⟩∧∀ b,h6 b=none→T84 p (IntKind.wrap .i64 (n27+1)) s3 s4 (h6.new b (.cells ⟨[.int .u64 n29,.int .i64 n30,.int .i64 n31,.int .i64 n32,.string s3,.string s4]⟩ 63 (0,0))) fun r6 h7=>∃ l3:Sl,r6=.slice l3.a l3.n l3.c∧par ((l3.n:Int)=0) (T74 n n1 n2 n3 n4 n5 n6 n7 n8 n9 n10 n11 n12 n13 n14 n15 n16 n17 n18 n19 n20 n21 n22 n23 n24 n25 n26 p h7 fun r7 h8=>∃ n33:Int,r7=.int .i64 n33∧par ((IntKind.wrap .i64 (n27+1))=n33) (par ((iMax n12 0) < (l3.n:Int)) (∃ b1 o,(l3.a:Option Addr)=some ⟨b1,o,none⟩∧((0:Int)≤(iMax n12 0)∧(iMax n12 0) < (l3.n:Int))∧∃ s5:ByteArray,h8.at b1 ((o+((iMax n12 0)).toNat*6)+4)=some (.string s5)∧Sl.okCut l3 0 (iMax n12 0) (iMax n12 0)∧Q (.tuple ⟨[.agg ⟨[.int .i64 n27,.slice (some ⟨b,0,none⟩) 1 1,.slice (Sl.cut l3 6 0 (iMax n12 0) (iMax n12 0)).a (Sl.cut l3 6 0 (iMax n12 0) (iMax n12 0)).n (Sl.cut l3 6 0 (iMax n12 0) (iMax n12 0)).c,.string s5,.bool false]⟩,.bool true]⟩) h8) (Q (.tuple ⟨[.agg ⟨[.int .i64 n27,.slice (some ⟨b,0,none⟩) 1 1,.slice l3.a l3.n l3.c,.string ⟨#[]⟩,.bool false]⟩,.bool true]⟩) h8)) (par ((iMax n12 0) < (l3.n:Int)) (∃ b2 o1,(l3.a:Option Addr)=some ⟨b2,o1,none⟩∧((0:Int)≤(iMax n12 0)∧(iMax n12 0) < (l3.n:Int))∧∃ s6:ByteArray,h8.at b2 ((o1+((iMax n12 0)).toNat*6)+4)=some (.string s6)∧Sl.okCut l3 0 (iMax n12 0) (iMax n12 0)∧Q (.tuple ⟨[.agg ⟨[.int .i64 n27,.slice (some ⟨b,0,none⟩) 1 1,.slice (Sl.cut l3 6 0 (iMax n12 0) (iMax n12 0)).a (Sl.cut l3 6 0 (iMax n12 0) (iMax n12 0)).n (Sl.cut l3 6 0 (iMax n12 0) (iMax n12 0)).c,.string s6,.bool true]⟩,.bool true]⟩) h8) (Q (.tuple ⟨[.agg ⟨[.int .i64 n27,.slice (some ⟨b,0,none⟩) 1 1,.slice l3.a l3.n l3.c,.string ⟨#[]⟩,.bool true]⟩,.bool true]⟩) h8))) (par ((iMax n12 0) < (l3.n:Int)) (∃ b3 o2,(l3.a:Option Addr)=some ⟨b3,o2,none⟩∧((0:Int)≤(iMax n12 0)∧(iMax n12 0) < (l3.n:Int))∧∃ s7:ByteArray,h7.at b3 ((o2+((iMax n12 0)).toNat*6)+4)=some (.string s7)∧Sl.okCut l3 0 (iMax n12 0) (iMax n12 0)∧Q (.tuple ⟨[.agg ⟨[.int .i64 n27,.slice (some ⟨b,0,none⟩) 1 1,.slice (Sl.cut l3 6 0 (iMax n12 0) (iMax n12 0)).a (Sl.cut l3 6 0 (iMax n12 0) (iMax n12 0)).n (Sl.cut l3 6 0 (iMax n12 0) (iMax n12 0)).c,.string s7,.bool false]⟩,.bool true]⟩) h7) (Q (.tuple ⟨[.agg ⟨[.int .i64 n27,.slice (some ⟨b,0,none⟩) 1 1,.slice l3.a l3.n l3.c,.string ⟨#[]⟩,.bool false]⟩,.bool true]⟩) h7))))))
def F20.T:=F20.G F73.T F74.T F83.T F84.T F85.T F86.T
theorem F20.gen (V T73 T74 T83 T84 T85 T86 n n1 n2 n3 n4 n5 n6 n7 n8 n9 n10 n11 n12 n13 n14 n15 n16 n17 n18 n19 n20 n21 n22 n23 n24 n25 n26 p l n27):denF Tryz.prog [4,8,13,14] [(73,F73.W T73),(74,F74.W T74),(83,F83.W T83),(84,F84.W T84),(85,F85.W T85),(86,F86.W T86)] V [] Tryz.f20 [.v (.agg ⟨[.int .i64 n,.int .i64 n1,.int .i64 n2,.int .i64 n3,.int .i64 n4,.int .i64 n5,.int .i64 n6,.int .i64 n7,.int .i64 n8,.int .i64 n9,.int .i64 n10,.int .i64 n11,.int .i64 n12,.int .i64 n13,.int .i64 n14,.int .i64 n15,.int .i64 n16,.int .i64 n17,.int .i64 n18,.int .i64 n19,.int .i64 n20,.int .i64 n21,.int .i64 n22,.int .i64 n23,.int .i64 n24,.int .i64 n25,.int .i64 n26]⟩),.v (.pointer p),.v (.slice l.a l.n l.c),.v (.int .i64 n27)]=F20.G T73 T74 T83 T84 T85 T86 n n1 n2 n3 n4 n5 n6 n7 n8 n9 n10 n11 n12 n13 n14 n15 n16 n17 n18 n19 n20 n21 n22 n23 n24 n25 n26 p l n27:=by kernel_rfl
def F20.W (T20:I9 <| I9 <| I9 <| Option Addr→Sl→Int→PT) (args:List Value):PT:=match args with
 | [.agg ⟨[.int .i64 n,.int .i64 n1,.int .i64 n2,.int .i64 n3,.int .i64 n4,.int .i64 n5,.int .i64 n6,.int .i64 n7,.int .i64 n8,.int .i64 n9,.int .i64 n10,.int .i64 n11,.int .i64 n12,.int .i64 n13,.int .i64 n14,.int .i64 n15,.int .i64 n16,.int .i64 n17,.int .i64 n18,.int .i64 n19,.int .i64 n20,.int .i64 n21,.int .i64 n22,.int .i64 n23,.int .i64 n24,.int .i64 n25,.int .i64 n26]⟩,.pointer p,.slice l_a l_n l_c,.int .i64 n27]=>T20 n n1 n2 n3 n4 n5 n6 n7 n8 n9 n10 n11 n12 n13 n14 n15 n16 n17 n18 n19 n20 n21 n22 n23 n24 n25 n26 p ⟨l_a,l_n,l_c⟩ n27
 | _=>fun _ _=>False
def F20.V:List Value→PT:=F20.W F20.T
theorem F20.ok:FOk Tryz.prog 20 F20.V:=by
 refine ⟨⟨_,Tryz.func20,rfl,rfl⟩,fun args=>?_⟩
 unfold F20.V F20.W
 split
 ·exact denF_okE (GOk.cons F73.ok (GOk.cons F74.ok (GOk.cons F83.ok (GOk.cons F84.ok (GOk.cons F85.ok (GOk.cons F86.ok (GOk.nil))))))) noV_ok Tryz.func20 (F20.gen noV F73.T F74.T F83.T F84.T F85.T F86.T _ _ _ _ _ _ _ _ _ _ _ _ _ _ _ _ _ _ _ _ _ _ _ _ _ _ _ _ ⟨_,_,_⟩ _)
 ·exact fun _ _ h=>h.elim
def F142.T (n n1:Int) (s s1:ByteArray):PT:=fun h Q=>
 Q (.agg ⟨[.int .u64 n,.int .i64 n1,.int .i64 0,.int .i64 0,.string s,.string s1]⟩) h
theorem F142.den (V n n1 s s1):denF Tryz.prog [8] [] V [] Tryz.f142 [.v (.int .u64 n),.v (.int .i64 n1),.v (.string s),.v (.string s1)]=F142.T n n1 s s1:=by kernel_rfl
def F142.W (T142:Int→Int→ByteArray→ByteArray→PT) (args:List Value):PT:=match args with
 | [.int .u64 n,.int .i64 n1,.string s,.string s1]=>T142 n n1 s s1
 | _=>fun _ _=>False
def F142.V:List Value→PT:=F142.W F142.T
theorem F142.ok:FOk Tryz.prog 142 F142.V:=by
 refine ⟨⟨_,Tryz.func142,rfl,rfl⟩,fun args=>?_⟩
 unfold F142.V F142.W
 split
 ·exact denF_okE (GOk.nil) noV_ok Tryz.func142 (F142.den noV _ _ _ _)
 ·exact fun _ _ h=>h.elim
@[reducible] def F69.G (T25:Int→PT) (T27:Option Addr→PT) (T33:Option Addr→Int→Int→Int→Sl→Sl→Sl→PT) (T142:Int→Int→ByteArray→ByteArray→PT):PT:=fun h Q=>
 T25 4 h fun r h1=>∃ p:Option Addr,r=.pointer p∧okPtr h1 p none∧par ((p:Option Addr)=none) (Q (.tuple ⟨[.agg ⟨[.int .i64 0,.int .i64 0,.int .i64 0,.int .i64 0,.int .i64 0,.int .i64 2,.int .i64 0,.int .i64 4,.int .i64 4,.int .i64 4096,.int .i64 2,.int .i64 0,.int .i64 2,.int .i64 0,.int .i64 0,.int .i64 0,.int .i64 0,.int .i64 0,.int .i64 0,.int .i64 0,.int .i64 0,.int .i64 0,.int .i64 0,.int .i64 0,.int .i64 0,.int .i64 0,.int .i64 0]⟩,.pointer none]⟩) h1) (T142 9 500 (ByteArray.mk #[98]) (ByteArray.mk #[100]) h1 fun r1 h2=>∃ n n1:Int,∃ n2 n3:Int,∃ s s1:ByteArray,r1=.agg ⟨[.int .u64 n,.int .i64 n1,.int .i64 n2,.int .i64 n3,.string s,.string s1]⟩∧T142 12 500 (ByteArray.mk #[99]) (ByteArray.mk #[107]) h2 fun r2 h3=>∃ n4 n5:Int,∃ n6 n7:Int,∃ s2 s3:ByteArray,r2=.agg ⟨[.int .u64 n4,.int .i64 n5,.int .i64 n6,.int .i64 n7,.string s2,.string s3]⟩∧T142 3 2000 (ByteArray.mk #[97]) (ByteArray.mk #[99]) h3 fun r3 h4=>∃ n8 n9:Int,∃ n10 n11:Int,∃ s4 s5:ByteArray,r3=.agg ⟨[.int .u64 n8,.int .i64 n9,.int .i64 n10,.int .i64 n11,.string s4,.string s5]⟩∧T142 4 2000 (ByteArray.mk #[101]) (ByteArray.mk #[112]) h4 fun r4 h5=>∃ n12 n13:Int,∃ n14 n15:Int,∃ s6 s7:ByteArray,r4=.agg ⟨[.int .u64 n12,.int .i64 n13,.int .i64 n14,.int .i64 n15,.string s6,.string s7]⟩∧T142 5 1000 (ByteArray.mk #[113]) (ByteArray.mk #[122]) h5 fun r5 h6=>∃ n16 n17:Int,∃ n18 n19:Int,∃ s8 s9:ByteArray,r5=.agg ⟨[.int .u64 n16,.int .i64 n17,.int .i64 n18,.int .i64 n19,.string s8,.string s9]⟩∧T142 6 3000 (ByteArray.mk #[100]) (ByteArray.mk #[102]) h6 fun r6 h7=>∃ n20 n21:Int,∃ n22 n23:Int,∃ s10 s11:ByteArray,r6=.agg ⟨[.int .u64 n20,.int .i64 n21,.int .i64 n22,.int .i64 n23,.string s10,.string s11]⟩∧T142 7 3000 (ByteArray.mk #[103]) (ByteArray.mk #[105]) h7 fun r7 h8=>∃ n24 n25:Int,∃ n26 n27:Int,∃ s12 s13:ByteArray,r7=.agg ⟨[.int .u64 n24,.int .i64 n25,.int .i64 n26,.int .i64 n27,.string s12,.string s13]⟩∧T142 8 2000 (ByteArray.mk #[107]) (ByteArray.mk #[108]) h8 fun r8 h9=>∃ n28 n29:Int,∃ n30 n31:Int,∃ s14 s15:ByteArray,r8=.agg ⟨[.int .u64 n28,.int .i64 n29,.int .i64 n30,.int .i64 n31,.string s14,.string s15]⟩∧T142 10 1000 (ByteArray.mk #[120]) (ByteArray.mk #[122]) h9 fun r9 h10=>∃ n32 n33:Int,∃ n34 n35:Int,∃ s16 s17:ByteArray,r9=.agg ⟨[.int .u64 n32,.int .i64 n33,.int .i64 n34,.int .i64 n35,.string s16,.string s17]⟩∧T142 11 90000 (ByteArray.mk #[97]) (ByteArray.mk #[122]) h10 fun r10 h11=>∃ n36 n37:Int,∃ n38 n39:Int,∃ s18 s19:ByteArray,r10=.agg ⟨[.int .u64 n36,.int .i64 n37,.int .i64 n38,.int .i64 n39,.string s18,.string s19]⟩∧∀ b,h11 b=none→∀ b1,(h11.new b (.cells ⟨[.int .i64 0,.int .u64 n,.int .i64 n1,.int .i64 n2,.int .i64 n3,.string s,.string s1,.int .i64 0,.int .u64 n4,.int .i64 n5,.int .i64 n6,.int .i64 n7,.string s2,.string s3,.int .i64 1,.int .u64 n8,.int .i64 n9,.int .i64 n10,.int .i64 n11,.string s4,.string s5,.int .i64 1,.int .u64 n12,.int .i64 n13,.int .i64 n14,.int .i64 n15,.string s6,.string s7,.int .i64 1,.int .u64 n16,.int .i64 n17,.int .i64 n18,.int .i64 n19,.string s8,.string s9,.int .i64 2,.int .u64 n20,.int .i64 n21,.int .i64 n22,.int .i64 n23,.string s10,.string s11,.int .i64 2,.int .u64 n24,.int .i64 n25,.int .i64 n26,.int .i64 n27,.string s12,.string s13,.int .i64 2,.int .u64 n28,.int .i64 n29,.int .i64 n30,.int .i64 n31,.string s14,.string s15,.int .i64 2,.int .u64 n32,.int .i64 n33,.int .i64 n34,.int .i64 n35,.string s16,.string s17,.int .i64 3,.int .u64 n36,.int .i64 n37,.int .i64 n38,.int .i64 n39,.string s18,.string s19]⟩ 65 (0,0))) b1=none→T33 p 0 0 0 ⟨none,0,0⟩ ⟨(some ⟨b,0,none⟩),10,10⟩ ⟨(some ⟨b1,0,none⟩),4,4⟩ ((h11.new b (.cells ⟨[.int .i64 0,.int .u64 n,.int .i64 n1,.int .i64 n2,.int .i64 n3,.string s,.string s1,.int .i64 0,.int .u64 n4,.int .i64 n5,.int .i64 n6,.int .i64 n7,.string s2,.string s3,.int .i64 1,.int .u64 n8,.int .i64 n9,.int .i64 n10,.int .i64 n11,.string s4,.string s5,.int .i64 1,.int .u64 n12,.int .i64 n13,.int .i64 n14,.int .i64 n15,.string s6,.string s7,.int .i64 1,.int .u64 n16,.int .i64 n17,.int .i64 n18,.int .i64 n19,.string s8,.string s9,.int .i64 2,.int .u64 n20,.int .i64 n21,.int .i64 n22,.int .i64 n23,.string s10,.string s11,.int .i64 2,.int .u64 n24,.int .i64 n25,.int .i64 n26,.int .i64 n27,.string s12,.string s13,.int .i64 2,.int .u64 n28,.int .i64 n29,.int .i64 n30,.int .i64 n31,.string s14,.string s15,.int .i64 2,.int .u64 n32,.int .i64 n33,.int .i64 n34,.int .i64 n35,.string s16,.string s17,.int .i64 3,.int .u64 n36,.int .i64 n37,.int .i64 n38,.int .i64 n39,.string s18,.string s19]⟩ 65 (0,0))).new b1 (.cells ⟨[.string ⟨#[]⟩,.string ⟨#[]⟩,.string ⟨#[]⟩,.string ⟨#[]⟩]⟩ 9 (0,0))) fun r11 h12=>∃ l:Sl,∃ n40:Int,r11=.tuple ⟨[.slice l.a l.n l.c,.int .i64 n40]⟩∧par (n40=0) (T27 p h12 fun r12 h13=>∃ p1:Option Addr,r12=.pointer p1∧Q (.tuple ⟨[.agg ⟨[.int .i64 0,.int .i64 0,.int .i64 0,.int .i64 0,.int .i64 0,.int .i64 2,.int .i64 0,.int .i64 4,.int .i64 4,.int .i64 4096,.int .i64 2,.int .i64 0,.int .i64 2,.int .i64 0,.int .i64 0,.int .i64 0,.int .i64 0,.int .i64 0,.int .i64 0,.int .i64 0,.int .i64 0,.int .i64 0,.int .i64 0,.int .i64 0,.int .i64 0,.int .i64 0,.int .i64 0]⟩,.pointer p1]⟩) h13) (Q (.tuple ⟨[.agg ⟨[.int .i64 0,.int .i64 0,.int .i64 0,.int .i64 0,.int .i64 0,.int .i64 2,.int .i64 0,.int .i64 4,.int .i64 4,.int .i64 4096,.int .i64 2,.int .i64 0,.int .i64 2,.int .i64 0,.int .i64 0,.int .i64 0,.int .i64 0,.int .i64 0,.int .i64 0,.int .i64 0,.int .i64 0,.int .i64 0,.int .i64 0,.int .i64 0,.int .i64 0,.int .i64 0,.int .i64 0]⟩,.pointer none]⟩) h12))
def F69.T:=F69.G F25.T F27.T F33.T F142.T
theorem F69.gen (V T25 T27 T33 T142):denF Tryz.prog [0,2] [(25,F25.W T25),(27,F27.W T27),(33,F33.W T33),(142,F142.W T142)] V [(510,.order [0,1,2,3,4])] Tryz.f69 []=F69.G T25 T27 T33 T142 :=by kernel_rfl
def F69.W (T69:PT) (args:List Value):PT:=match args with
 | []=>T69
 | _=>fun _ _=>False
def F69.V:List Value→PT:=F69.W F69.T
theorem F69.ok:FOk Tryz.prog 69 F69.V:=by
 refine ⟨⟨_,Tryz.func69,rfl,rfl⟩,fun args=>?_⟩
 unfold F69.V F69.W
 split
 ·exact denF_okE (GOk.cons F25.ok (GOk.cons F27.ok (GOk.cons F33.ok (GOk.cons F142.ok (GOk.nil))))) noV_ok Tryz.func69 (F69.gen noV F25.T F27.T F33.T F142.T )
 ·exact fun _ _ h=>h.elim
def F18.T (l l1:Sl):PT:=fun h Q=>
 par ((l.n:Int)=(l1.n:Int)) (∃ (I:Int→Hp→Prop) (m:Int→Hp→Nat),I 0 h∧(∀ n:Int,∀ h1:Hp,I n h1→par (n < (l.n:Int)) (∃ b o,(l.a:Option Addr)=some ⟨b,o,none⟩∧((0:Int)≤n∧n < (l.n:Int))∧∃ n1:Int,h1.at b (o+n.toNat)=some (.int .i64 n1)∧∃ b1 o1,(l1.a:Option Addr)=some ⟨b1,o1,none⟩∧((0:Int)≤n∧n < (l1.n:Int))∧∃ n2:Int,h1.at b1 (o1+n.toNat)=some (.int .i64 n2)∧par (n1=n2) (I (IntKind.wrap .i64 (n+1)) h1∧m (IntKind.wrap .i64 (n+1)) h1 < m n h1) (Q (.bool false) h1)) (Q (.bool true) h1))) (Q (.bool false) h)
theorem F18.den (V l l1):denF Tryz.prog [] [] V [(58,.loop [(5,.int .i64)] []),(1864,.order [0,1,2,3,4,5,6,7,8])] Tryz.f18 [.v (.slice l.a l.n l.c),.v (.slice l1.a l1.n l1.c)]=F18.T l l1:=by kernel_rfl
def F18.W (T18:Sl→Sl→PT) (args:List Value):PT:=match args with
 | [.slice l_a l_n l_c,.slice l1_a l1_n l1_c]=>T18 ⟨l_a,l_n,l_c⟩ ⟨l1_a,l1_n,l1_c⟩
 | _=>fun _ _=>False
def F18.V:List Value→PT:=F18.W F18.T
theorem F18.ok:FOk Tryz.prog 18 F18.V:=by
 refine ⟨⟨_,Tryz.func18,rfl,rfl⟩,fun args=>?_⟩
 unfold F18.V F18.W
 split
 ·exact denF_okE (GOk.nil) noV_ok Tryz.func18 (F18.den noV ⟨_,_,_⟩ ⟨_,_,_⟩)
 ·exact fun _ _ h=>h.elim
def F148.T (l:Sl) (n:Int):PT:=fun h Q=>
 par (n < 0) (False) (par ((0:Int) < (IntKind.wrap .i64 (n - (IntKind.wrap .i64 ((l.c:Int) - (l.n:Int)))))) (Sl.okCut l 0 (l.c:Int) (l.c:Int)∧(0:Int)≤(IntKind.wrap .i64 (n - (IntKind.wrap .i64 ((l.c:Int) - (l.n:Int)))))∧appendD (Sl.cut l 6 0 (l.c:Int) (l.c:Int)) 63 6 64 [.int .u64 0,.int .i64 0,.int .i64 0,.int .i64 0,.string ⟨#[]⟩,.string ⟨#[]⟩] (IntKind.wrap .i64 (n - (IntKind.wrap .i64 ((l.c:Int) - (l.n:Int))))).toNat (zerosV [.int .u64 0,.int .i64 0,.int .i64 0,.int .i64 0,.string ⟨#[]⟩,.string ⟨#[]⟩] (IntKind.wrap .i64 (n - (IntKind.wrap .i64 ((l.c:Int) - (l.n:Int))))).toNat) h fun l1 h1=>Sl.okCut l1 0 (l.n:Int) (l1.c:Int)∧Q (.slice (Sl.cut l1 6 0 (l.n:Int) (l1.c:Int)).a (Sl.cut l1 6 0 (l.n:Int) (l1.c:Int)).n (Sl.cut l1 6 0 (l.n:Int) (l1.c:Int)).c) h1) (Q (.slice l.a l.n l.c) h))
theorem F148.den (V l n):denF Tryz.prog [] [] V [] Tryz.f148 [.v (.slice l.a l.n l.c),.v (.int .i64 n)]=F148.T l n:=by kernel_rfl
def F148.W (T148:Sl→Int→PT) (args:List Value):PT:=match args with
 | [.slice l_a l_n l_c,.int .i64 n]=>T148 ⟨l_a,l_n,l_c⟩ n
 | _=>fun _ _=>False
def F148.V:List Value→PT:=F148.W F148.T
theorem F148.ok:FOk Tryz.prog 148 F148.V:=by
 refine ⟨⟨_,Tryz.func148,rfl,rfl⟩,fun args=>?_⟩
 unfold F148.V F148.W
 split
 ·exact denF_okE (GOk.nil) noV_ok Tryz.func148 (F148.den noV ⟨_,_,_⟩ _)
 ·exact fun _ _ h=>h.elim
@[reducible] def F87.G (T148:Sl→Int→PT) (l:Sl):PT:=fun h Q=>
 ∃ (I:Int→Int→Hp→Prop) (m:Int→Int→Hp→Nat),I 0 0 h∧(∀ n n1:Int,∀ h1:Hp,I n n1 h1→par (n1 < (l.n:Int)) (∃ b o,(l.a:Option Addr)=some ⟨b,o,none⟩∧((0:Int)≤n1∧n1 < (l.n:Int))∧∃ l1:Sl,h1.at b (o+n1.toNat)=some (.slice l1.a l1.n l1.c)∧par ((IntKind.wrap .i64 (n+(l1.n:Int))) < 0) (False) (I (IntKind.wrap .i64 (n+(l1.n:Int))) (IntKind.wrap .i64 (n1+1)) h1∧m (IntKind.wrap .i64 (n+(l1.n:Int))) (IntKind.wrap .i64 (n1+1)) h1 < m n n1 h1)) (T148 ⟨none,0,0⟩ n h1 fun r h2=>∃ l2:Sl,r=.slice l2.a l2.n l2.c∧∃ (I1:Sl→Int→Hp→Prop) (m1:Sl→Int→Hp→Nat),I1 l2 0 h2∧(∀ l3:Sl,∀ n2:Int,∀ h3:Hp,I1 l3 n2 h3→par (n2 < (l.n:Int)) (∃ b1 o1,(l.a:Option Addr)=some ⟨b1,o1,none⟩∧((0:Int)≤n2∧n2 < (l.n:Int))∧∃ l4:Sl,h3.at b1 (o1+n2.toNat)=some (.slice l4.a l4.n l4.c)∧∃ vs,h3.row l4.a (l4.n*6) vs∧(∀ v∈vs,Value.oneCell' v=true)∧appendD l3 63 6 64 [.int .u64 0,.int .i64 0,.int .i64 0,.int .i64 0,.string ⟨#[]⟩,.string ⟨#[]⟩] l4.n vs h3 fun l5 h4=>I1 l5 (IntKind.wrap .i64 (n2+1)) h4∧m1 l5 (IntKind.wrap .i64 (n2+1)) h4 < m1 l3 n2 h3) (Q (.slice l3.a l3.n l3.c) h3))))
def F87.T:=F87.G F148.T
theorem F87.gen (V T148 l):denF Tryz.prog [] [(148,F148.W T148)] V [(58,.loop [(3,.int .i64),(11,.int .i64)] []),(250,.loop [(6,.sl),(27,.int .i64)] [])] Tryz.f87 [.v (.slice l.a l.n l.c)]=F87.G T148 l:=by kernel_rfl
def F87.W (T87:Sl→PT) (args:List Value):PT:=match args with
 | [.slice l_a l_n l_c]=>T87 ⟨l_a,l_n,l_c⟩
 | _=>fun _ _=>False
def F87.V:List Value→PT:=F87.W F87.T
theorem F87.ok:FOk Tryz.prog 87 F87.V:=by
 refine ⟨⟨_,Tryz.func87,rfl,rfl⟩,fun args=>?_⟩
 unfold F87.V F87.W
 split
 ·exact denF_okE (GOk.cons F148.ok (GOk.nil)) noV_ok Tryz.func87 (F87.gen noV F148.T ⟨_,_,_⟩)
 ·exact fun _ _ h=>h.elim
def F149.T (l:Sl) (n:Int):PT:=fun h Q=>
 ∃ (I:Int→Hp→Prop) (m:Int→Hp→Nat),I 0 h∧(∀ n1:Int,∀ h1:Hp,I n1 h1→par (n1 < (l.n:Int)) (∃ b o,(l.a:Option Addr)=some ⟨b,o,none⟩∧((0:Int)≤n1∧n1 < (l.n:Int))∧∃ n2:Int,h1.at b (o+n1.toNat)=some (.int .u64 n2)∧par (n=n2) (Q (.int .i64 n1) h1) (I (IntKind.wrap .i64 (n1+1)) h1∧m (IntKind.wrap .i64 (n1+1)) h1 < m n1 h1)) (Q (.int .i64 (-1)) h1))
theorem F149.den (V l n):denF Tryz.prog [] [] V [(26,.loop [(8,.int .i64)] [])] Tryz.f149 [.v (.slice l.a l.n l.c),.v (.int .u64 n)]=F149.T l n:=by kernel_rfl
def F149.W (T149:Sl→Int→PT) (args:List Value):PT:=match args with
 | [.slice l_a l_n l_c,.int .u64 n]=>T149 ⟨l_a,l_n,l_c⟩ n
 | _=>fun _ _=>False
def F149.V:List Value→PT:=F149.W F149.T
theorem F149.ok:FOk Tryz.prog 149 F149.V:=by
 refine ⟨⟨_,Tryz.func149,rfl,rfl⟩,fun args=>?_⟩
 unfold F149.V F149.W
 split
 ·exact denF_okE (GOk.nil) noV_ok Tryz.func149 (F149.den noV ⟨_,_,_⟩ _)
 ·exact fun _ _ h=>h.elim
@[reducible] def F88.G (T149:Sl→Int→PT) (l:Sl) (n:Int):PT:=fun h Q=>
 T149 l n h fun r h1=>∃ n1:Int,r=.int .i64 n1∧par ((0:Int)≤n1) (Q (.bool true) h1) (Q (.bool false) h1)
def F88.T:=F88.G F149.T
theorem F88.gen (V T149 l n):denF Tryz.prog [] [(149,F149.W T149)] V [] Tryz.f88 [.v (.slice l.a l.n l.c),.v (.int .u64 n)]=F88.G T149 l n:=by kernel_rfl
def F88.W (T88:Sl→Int→PT) (args:List Value):PT:=match args with
 | [.slice l_a l_n l_c,.int .u64 n]=>T88 ⟨l_a,l_n,l_c⟩ n
 | _=>fun _ _=>False
def F88.V:List Value→PT:=F88.W F88.T
theorem F88.ok:FOk Tryz.prog 88 F88.V:=by
 refine ⟨⟨_,Tryz.func88,rfl,rfl⟩,fun args=>?_⟩
 unfold F88.V F88.W
 split
 ·exact denF_okE (GOk.cons F149.ok (GOk.nil)) noV_ok Tryz.func88 (F88.gen noV F149.T ⟨_,_,_⟩ _)
 ·exact fun _ _ h=>h.elim
@[reducible] def F21.G (T17:I9 <| I9 <| I9 <| Option Addr→PT) (T20:I9 <| I9 <| I9 <| Option Addr→Sl→Int→PT) (T87:Sl→PT) (T88:Sl→Int→PT) (n n1 n2 n3 n4 n5 n6 n7 n8 n9 n10 n11 n12 n13 n14 n15 n16 n17 n18 n19 n20 n21 n22 n23 n24 n25 n26:Int) (p:Option Addr) (l l1:Sl):PT:=fun h Q=>
 T17 n n1 n2 n3 n4 n5 n6 n7 n8 n9 n10 n11 n12 n13 n14 n15 n16 n17 n18 n19 n20 n21 n22 n23 n24 n25 n26 p h fun r h1=>∃ l2:Sl,r=.slice l2.a l2.n l2.c∧∀ b,h1 b=none→∃ (I:Int→Int→Sl→Sl→ByteArray→Bool→Hp→Prop) (m:Int→Int→Sl→Sl→ByteArray→Bool→Hp→Nat),I 0 0 ⟨none,0,0⟩ ⟨none,0,0⟩ (ByteArray.mk #[]) false (h1.new b (.cells ⟨[.bool false,.bool false,.bool false,.bool false,.bool false,.bool false]⟩ 139 (0,0)))∧(∀ n27 n28:Int,∀ l3 l4:Sl,∀ s:ByteArray,(∀ h2:Hp,I n27 n28 l3 l4 s true h2→par (n27 < (l2.n:Int)) (∃ b2 o,(l2.a:Option Addr)=some ⟨b2,o,none⟩∧((0:Int)≤n27∧n27 < (l2.n:Int))∧∃ n29:Int,h2.at b2 (o+n27.toNat)=some (.int .i64 n29)∧T20 n n1 n2 n3 n4 n5 n6 n7 n8 n9 n10 n11 n12 n13 n14 n15 n16 n17 n18 n19 n20 n21 n22 n23 n24 n25 n26 p l n29 h2 fun r1 h3=>∃ n30:Int,∃ l5 l6:Sl,∃ s1:ByteArray,∃ b3:Bool,parB b3 (∃ b4:Bool,parB b4 (r1=.tuple ⟨[.agg ⟨[.int .i64 n30,.slice l5.a l5.n l5.c,.slice l6.a l6.n l6.c,.string s1,.bool true]⟩,.bool true]⟩∧((0:Int)≤n29∧n29 < ((6:Nat):Int))∧∃ b5:Bool,h3.at b (0+(n29:Int).toNat)=some (.bool b5)∧parB b5 (((0:Int)≤n29∧n29 < ((6:Nat):Int))∧h3.canW b (0+(n29:Int).toNat) 1∧((0:Int)≤(IntKind.wrap .i64 (n29+1))∧(IntKind.wrap .i64 (n29+1)) < ((6:Nat):Int))∧(h3.wr b (0+(n29:Int).toNat) [.bool true]).canW b (0+((IntKind.wrap .i64 (n29+1)):Int).toNat) 1∧I (IntKind.wrap .i64 (n27+1)) n28 l3 l4 s true ((h3.wr b (0+(n29:Int).toNat) [.bool true]).wr b (0+((IntKind.wrap .i64 (n29+1)):Int).toNat) [.bool true])∧m (IntKind.wrap .i64 (n27+1)) n28 l3 l4 s true ((h3.wr b (0+(n29:Int).toNat) [.bool true]).wr b (0+((IntKind.wrap .i64 (n29+1)):Int).toNat) [.bool true]) < m n27 n28 l3 l4 s true h2) (((0:Int)≤(IntKind.wrap .i64 (n29+1))∧(IntKind.wrap .i64 (n29+1)) < ((6:Nat):Int))∧∃ b6:Bool,h3.at b (0+((IntKind.wrap .i64 (n29+1)):Int).toNat)=some (.bool b6)∧parB b6 (((0:Int)≤n29∧n29 < ((6:Nat):Int))∧h3.canW b (0+(n29:Int).toNat) 1∧((0:Int)≤(IntKind.wrap .i64 (n29+1))∧(IntKind.wrap .i64 (n29+1)) < ((6:Nat):Int))∧(h3.wr b (0+(n29:Int).toNat) [.bool true]).canW b (0+((IntKind.wrap .i64 (n29+1)):Int).toNat) 1∧I (IntKind.wrap .i64 (n27+1)) n28 l3 l4 s true ((h3.wr b (0+(n29:Int).toNat) [.bool true]).wr b (0+((IntKind.wrap .i64 (n29+1)):Int).toNat) [.bool true])∧m (IntKind.wrap .i64 (n27+1)) n28 l3 l4 s true ((h3.wr b (0+(n29:Int).toNat) [.bool true]).wr b (0+((IntKind.wrap .i64 (n29+1)):Int).toNat) [.bool true]) < m n27 n28 l3 l4 s true h2) (∀ b7,h3 b7=none→T87 ⟨(some ⟨b7,0,none⟩),2,2⟩ (h3.new b7 (.cells ⟨[.slice l5.a l5.n l5.c,.slice l6.a l6.n l6.c]⟩ 77 (0,0))) fun r2 h4=>∃ l7:Sl,r2=.slice l7.a l7.n l7.c∧∃ (I1:Int→Hp→Prop) (m1:Int→Hp→Nat),I1 0 h4∧(∀ n31:Int,∀ h5:Hp,I1 n31 h5→par (n31 < (l7.n:Int)) (∃ b8 o1,(l7.a:Option Addr)=some ⟨b8,o1,none⟩∧((0:Int)≤n31∧n31 < (l7.n:Int))∧∃ n32:Int,h5.at b8 (o1+n31.toNat*6)=some (.int .u64 n32)∧∃ n33:Int,h5.at b8 ((o1+n31.toNat*6)+1)=some (.int .i64 n33)∧∃ n34:Int,h5.at b8 ((o1+n31.toNat*6)+2)=some (.int .i64 n34)∧∃ n35:Int,h5.at b8 ((o1+n31.toNat*6)+3)=some (.int .i64 n35)∧∃ s2:ByteArray,h5.at b8 ((o1+n31.toNat*6)+4)=some (.string s2)∧∃ s3:ByteArray,h5.at b8 ((o1+n31.toNat*6)+5)=some (.string s3)∧T88 l1 n32 h5 fun r3 h6=>∃ b9:Bool,r3=.bool b9∧parB b9 (((0:Int)≤n29∧n29 < ((6:Nat):Int))∧h6.canW b (0+(n29:Int).toNat) 1∧((0:Int)≤(IntKind.wrap .i64 (n29+1))∧(IntKind.wrap .i64 (n29+1)) < ((6:Nat):Int))∧(h6.wr b (0+(n29:Int).toNat) [.bool true]).canW b (0+((IntKind.wrap .i64 (n29+1)):Int).toNat) 1∧I (IntKind.wrap .i64 (n27+1)) n28 l3 l4 s true ((h6.wr b (0+(n29:Int).toNat) [.bool true]).wr b (0+((IntKind.wrap .i64 (n29+1)):Int).toNat) [.bool true])∧m (IntKind.wrap .i64 (n27+1)) n28 l3 l4 s true ((h6.wr b (0+(n29:Int).toNat) [.bool true]).wr b (0+((IntKind.wrap .i64 (n29+1)):Int).toNat) [.bool true]) < m n27 n28 l3 l4 s true h2) (I1 (IntKind.wrap .i64 (n31+1)) h6∧m1 (IntKind.wrap .i64 (n31+1)) h6 < m1 n31 h5)) (Q (.tuple ⟨[.agg ⟨[.int .i64 n30,.slice l5.a l5.n l5.c,.slice l6.a l6.n l6.c,.string s1,.bool true]⟩,.int .i64 2]⟩) h5))))) (r1=.tuple ⟨[.agg ⟨[.int .i64 n30,.slice l5.a l5.n l5.c,.slice l6.a l6.n l6.c,.string s1,.bool true]⟩,.bool false]⟩∧I (IntKind.wrap .i64 (n27+1)) n28 l3 l4 s true h3∧m (IntKind.wrap .i64 (n27+1)) n28 l3 l4 s true h3 < m n27 n28 l3 l4 s true h2)) (∃ b10:Bool,parB b10 (r1=.tuple ⟨[.agg ⟨[.int .i64 n30,.slice l5.a l5.n l5.c,.slice l6.a l6.n l6.c,.string s1,.bool false]⟩,.bool true]⟩∧((0:Int)≤n29∧n29 < ((6:Nat):Int))∧∃ b11:Bool,h3.at b (0+(n29:Int).toNat)=some (.bool b11)∧parB b11 (((0:Int)≤n29∧n29 < ((6:Nat):Int))∧h3.canW b (0+(n29:Int).toNat) 1∧((0:Int)≤(IntKind.wrap .i64 (n29+1))∧(IntKind.wrap .i64 (n29+1)) < ((6:Nat):Int))∧(h3.wr b (0+(n29:Int).toNat) [.bool true]).canW b (0+((IntKind.wrap .i64 (n29+1)):Int).toNat) 1∧I (IntKind.wrap .i64 (n27+1)) n28 l3 l4 s true ((h3.wr b (0+(n29:Int).toNat) [.bool true]).wr b (0+((IntKind.wrap .i64 (n29+1)):Int).toNat) [.bool true])∧m (IntKind.wrap .i64 (n27+1)) n28 l3 l4 s true ((h3.wr b (0+(n29:Int).toNat) [.bool true]).wr b (0+((IntKind.wrap .i64 (n29+1)):Int).toNat) [.bool true]) < m n27 n28 l3 l4 s true h2) (((0:Int)≤(IntKind.wrap .i64 (n29+1))∧(IntKind.wrap .i64 (n29+1)) < ((6:Nat):Int))∧∃ b12:Bool,h3.at b (0+((IntKind.wrap .i64 (n29+1)):Int).toNat)=some (.bool b12)∧parB b12 (((0:Int)≤n29∧n29 < ((6:Nat):Int))∧h3.canW b (0+(n29:Int).toNat) 1∧((0:Int)≤(IntKind.wrap .i64 (n29+1))∧(IntKind.wrap .i64 (n29+1)) < ((6:Nat):Int))∧(h3.wr b (0+(n29:Int).toNat) [.bool true]).canW b (0+((IntKind.wrap .i64 (n29+1)):Int).toNat) 1∧I (IntKind.wrap .i64 (n27+1)) n28 l3 l4 s true ((h3.wr b (0+(n29:Int).toNat) [.bool true]).wr b (0+((IntKind.wrap .i64 (n29+1)):Int).toNat) [.bool true])∧m (IntKind.wrap .i64 (n27+1)) n28 l3 l4 s true ((h3.wr b (0+(n29:Int).toNat) [.bool true]).wr b (0+((IntKind.wrap .i64 (n29+1)):Int).toNat) [.bool true]) < m n27 n28 l3 l4 s true h2) (∀ b13,h3 b13=none→T87 ⟨(some ⟨b13,0,none⟩),2,2⟩ (h3.new b13 (.cells ⟨[.slice l5.a l5.n l5.c,.slice l6.a l6.n l6.c]⟩ 77 (0,0))) fun r4 h7=>∃ l8:Sl,r4=.slice l8.a l8.n l8.c∧∃ (I2:Int→Hp→Prop) (m2:Int→Hp→Nat),I2 0 h7∧(∀ n36:Int,∀ h8:Hp,I2 n36 h8→par (n36 < (l8.n:Int)) (∃ b14 o2,(l8.a:Option Addr)=some ⟨b14,o2,none⟩∧((0:Int)≤n36∧n36 < (l8.n:Int))∧∃ n37:Int,h8.at b14 (o2+n36.toNat*6)=some (.int .u64 n37)∧∃ n38:Int,h8.at b14 ((o2+n36.toNat*6)+1)=some (.int .i64 n38)∧∃ n39:Int,h8.at b14 ((o2+n36.toNat*6)+2)=some (.int .i64 n39)∧∃ n40:Int,h8.at b14 ((o2+n36.toNat*6)+3)=some (.int .i64 n40)∧∃ s4:ByteArray,h8.at b14 ((o2+n36.toNat*6)+4)=some (.string s4)∧∃ s5:ByteArray,h8.at b14 ((o2+n36.toNat*6)+5)=some (.string s5)∧T88 l1 n37 h8 fun r5 h9=>∃ b15:Bool,r5=.bool b15∧parB b15 (((0:Int)≤n29∧n29 < ((6:Nat):Int))∧h9.canW b (0+(n29:Int).toNat) 1∧((0:Int)≤(IntKind.wrap .i64 (n29+1))∧(IntKind.wrap .i64 (n29+1)) < ((6:Nat):Int))∧(h9.wr b (0+(n29:Int).toNat) [.bool true]).canW b (0+((IntKind.wrap .i64 (n29+1)):Int).toNat) 1∧I (IntKind.wrap .i64 (n27+1)) n28 l3 l4 s true ((h9.wr b (0+(n29:Int).toNat) [.bool true]).wr b (0+((IntKind.wrap .i64 (n29+1)):Int).toNat) [.bool true])∧m (IntKind.wrap .i64 (n27+1)) n28 l3 l4 s true ((h9.wr b (0+(n29:Int).toNat) [.bool true]).wr b (0+((IntKind.wrap .i64 (n29+1)):Int).toNat) [.bool true]) < m n27 n28 l3 l4 s true h2) (I2 (IntKind.wrap .i64 (n36+1)) h9∧m2 (IntKind.wrap .i64 (n36+1)) h9 < m2 n36 h8)) (Q (.tuple ⟨[.agg ⟨[.int .i64 n30,.slice l5.a l5.n l5.c,.slice l6.a l6.n l6.c,.string s1,.bool false]⟩,.int .i64 2]⟩) h8))))) (r1=.tuple ⟨[.agg ⟨[.int .i64 n30,.slice l5.a l5.n l5.c,.slice l6.a l6.n l6.c,.string s1,.bool false]⟩,.bool false]⟩∧I (IntKind.wrap .i64 (n27+1)) n28 l3 l4 s true h3∧m (IntKind.wrap .i64 (n27+1)) n28 l3 l4 s true h3 < m n27 n28 l3 l4 s true h2))) (par ((0:Int) < (l2.n:Int)) (Q (.tuple ⟨[.agg ⟨[.int .i64 0,.slice none 0 0,.slice none 0 0,.string ⟨#[]⟩,.bool false]⟩,.int .i64 1]⟩) h2) (Q (.tuple ⟨[.agg ⟨[.int .i64 0,.slice none 0 0,.slice none 0 0,.string ⟨#[]⟩,.bool false]⟩,.int .i64 0]⟩) h2)))∧(∀ h2:Hp,I n27 n28 l3 l4 s false h2→par (n27 < (l2.n:Int)) (∃ b16 o3,(l2.a:Option Addr)=some ⟨b16,o3,none⟩∧((0:Int)≤n27∧n27 < (l2.n:Int))∧∃ n41:Int,h2.at b16 (o3+n27.toNat)=some (.int .i64 n41)∧T20 n n1 n2 n3 n4 n5 n6 n7 n8 n9 n10 n11 n12 n13 n14 n15 n16 n17 n18 n19 n20 n21 n22 n23 n24 n25 n26 p l n41 h2 fun r6 h10=>∃ n42:Int,∃ l9 l10:Sl,∃ s6:ByteArray,∃ b17:Bool,parB b17 (∃ b18:Bool,parB b18 (r6=.tuple ⟨[.agg ⟨[.int .i64 n42,.slice l9.a l9.n l9.c,.slice l10.a l10.n l10.c,.string s6,.bool true]⟩,.bool true]⟩∧((0:Int)≤n41∧n41 < ((6:Nat):Int))∧∃ b19:Bool,h10.at b (0+(n41:Int).toNat)=some (.bool b19)∧parB b19 (((0:Int)≤n41∧n41 < ((6:Nat):Int))∧h10.canW b (0+(n41:Int).toNat) 1∧((0:Int)≤(IntKind.wrap .i64 (n41+1))∧(IntKind.wrap .i64 (n41+1)) < ((6:Nat):Int))∧(h10.wr b (0+(n41:Int).toNat) [.bool true]).canW b (0+((IntKind.wrap .i64 (n41+1)):Int).toNat) 1∧I (IntKind.wrap .i64 (n27+1)) n28 l3 l4 s false ((h10.wr b (0+(n41:Int).toNat) [.bool true]).wr b (0+((IntKind.wrap .i64 (n41+1)):Int).toNat) [.bool true])∧m (IntKind.wrap .i64 (n27+1)) n28 l3 l4 s false ((h10.wr b (0+(n41:Int).toNat) [.bool true]).wr b (0+((IntKind.wrap .i64 (n41+1)):Int).toNat) [.bool true]) < m n27 n28 l3 l4 s false h2) (((0:Int)≤(IntKind.wrap .i64 (n41+1))∧(IntKind.wrap .i64 (n41+1)) < ((6:Nat):Int))∧∃ b20:Bool,h10.at b (0+((IntKind.wrap .i64 (n41+1)):Int).toNat)=some (.bool b20)∧parB b20 (((0:Int)≤n41∧n41 < ((6:Nat):Int))∧h10.canW b (0+(n41:Int).toNat) 1∧((0:Int)≤(IntKind.wrap .i64 (n41+1))∧(IntKind.wrap .i64 (n41+1)) < ((6:Nat):Int))∧(h10.wr b (0+(n41:Int).toNat) [.bool true]).canW b (0+((IntKind.wrap .i64 (n41+1)):Int).toNat) 1∧I (IntKind.wrap .i64 (n27+1)) n28 l3 l4 s false ((h10.wr b (0+(n41:Int).toNat) [.bool true]).wr b (0+((IntKind.wrap .i64 (n41+1)):Int).toNat) [.bool true])∧m (IntKind.wrap .i64 (n27+1)) n28 l3 l4 s false ((h10.wr b (0+(n41:Int).toNat) [.bool true]).wr b (0+((IntKind.wrap .i64 (n41+1)):Int).toNat) [.bool true]) < m n27 n28 l3 l4 s false h2) (∀ b21,h10 b21=none→T87 ⟨(some ⟨b21,0,none⟩),2,2⟩ (h10.new b21 (.cells ⟨[.slice l9.a l9.n l9.c,.slice l10.a l10.n l10.c]⟩ 77 (0,0))) fun r7 h11=>∃ l11:Sl,r7=.slice l11.a l11.n l11.c∧∃ (I3:Int→Hp→Prop) (m3:Int→Hp→Nat),I3 0 h11∧(∀ n43:Int,∀ h12:Hp,I3 n43 h12→par (n43 < (l11.n:Int)) (∃ b22 o4,(l11.a:Option Addr)=some ⟨b22,o4,none⟩∧((0:Int)≤n43∧n43 < (l11.n:Int))∧∃ n44:Int,h12.at b22 (o4+n43.toNat*6)=some (.int .u64 n44)∧∃ n45:Int,h12.at b22 ((o4+n43.toNat*6)+1)=some (.int .i64 n45)∧∃ n46:Int,h12.at b22 ((o4+n43.toNat*6)+2)=some (.int .i64 n46)∧∃ n47:Int,h12.at b22 ((o4+n43.toNat*6)+3)=some (.int .i64 n47)∧∃ s7:ByteArray,h12.at b22 ((o4+n43.toNat*6)+4)=some (.string s7)∧∃ s8:ByteArray,h12.at b22 ((o4+n43.toNat*6)+5)=some (.string s8)∧T88 l1 n44 h12 fun r8 h13=>∃ b23:Bool,r8=.bool b23∧parB b23 (((0:Int)≤n41∧n41 < ((6:Nat):Int))∧h13.canW b (0+(n41:Int).toNat) 1∧((0:Int)≤(IntKind.wrap .i64 (n41+1))∧(IntKind.wrap .i64 (n41+1)) < ((6:Nat):Int))∧(h13.wr b (0+(n41:Int).toNat) [.bool true]).canW b (0+((IntKind.wrap .i64 (n41+1)):Int).toNat) 1∧I (IntKind.wrap .i64 (n27+1)) n28 l3 l4 s false ((h13.wr b (0+(n41:Int).toNat) [.bool true]).wr b (0+((IntKind.wrap .i64 (n41+1)):Int).toNat) [.bool true])∧m (IntKind.wrap .i64 (n27+1)) n28 l3 l4 s false ((h13.wr b (0+(n41:Int).toNat) [.bool true]).wr b (0+((IntKind.wrap .i64 (n41+1)):Int).toNat) [.bool true]) < m n27 n28 l3 l4 s false h2) (I3 (IntKind.wrap .i64 (n43+1)) h13∧m3 (IntKind.wrap .i64 (n43+1)) h13 < m3 n43 h12)) (Q (.tuple ⟨[.agg ⟨[.int .i64 n42,.slice l9.a l9.n l9.c,.slice l10.a l10.n l10.c,.string s6,.bool true]⟩,.int .i64 2]⟩) h12))))) (r6=.tuple ⟨[.agg ⟨[.int .i64 n42,.slice l9.a l9.n l9.c,.slice l10.a l10.n l10.c,.string s6,.bool true]⟩,.bool false]⟩∧I (IntKind.wrap .i64 (n27+1)) n28 l3 l4 s false h10∧m (IntKind.wrap .i64 (n27+1)) n28 l3 l4 s false h10 < m n27 n28 l3 l4 s false h2)) (∃ b24:Bool,parB b24 (r6=.tuple ⟨[.agg ⟨[.int .i64 n42,.slice l9.a l9.n l9.c,.slice l10.a l10.n l10.c,.string s6,.bool false]⟩,.bool true]⟩∧((0:Int)≤n41∧n41 < ((6:Nat):Int))∧∃ b25:Bool,h10.at b (0+(n41:Int).toNat)=some (.bool b25)∧parB b25 (((0:Int)≤n41∧n41 < ((6:Nat):Int))∧h10.canW b (0+(n41:Int).toNat) 1∧((0:Int)≤(IntKind.wrap .i64 (n41+1))∧(IntKind.wrap .i64 (n41+1)) < ((6:Nat):Int))∧(h10.wr b (0+(n41:Int).toNat) [.bool true]).canW b (0+((IntKind.wrap .i64 (n41+1)):Int).toNat) 1∧I (IntKind.wrap .i64 (n27+1)) n28 l3 l4 s false ((h10.wr b (0+(n41:Int).toNat) [.bool true]).wr b (0+((IntKind.wrap .i64 (n41+1)):Int).toNat) [.bool true])∧m (IntKind.wrap .i64 (n27+1)) n28 l3 l4 s false ((h10.wr b (0+(n41:Int).toNat) [.bool true]).wr b (0+((IntKind.wrap .i64 (n41+1)):Int).toNat) [.bool true]) < m n27 n28 l3 l4 s false h2) (((0:Int)≤(IntKind.wrap .i64 (n41+1))∧(IntKind.wrap .i64 (n41+1)) < ((6:Nat):Int))∧∃ b26:Bool,h10.at b (0+((IntKind.wrap .i64 (n41+1)):Int).toNat)=some (.bool b26)∧parB b26 (((0:Int)≤n41∧n41 < ((6:Nat):Int))∧h10.canW b (0+(n41:Int).toNat) 1∧((0:Int)≤(IntKind.wrap .i64 (n41+1))∧(IntKind.wrap .i64 (n41+1)) < ((6:Nat):Int))∧(h10.wr b (0+(n41:Int).toNat) [.bool true]).canW b (0+((IntKind.wrap .i64 (n41+1)):Int).toNat) 1∧I (IntKind.wrap .i64 (n27+1)) n28 l3 l4 s false ((h10.wr b (0+(n41:Int).toNat) [.bool true]).wr b (0+((IntKind.wrap .i64 (n41+1)):Int).toNat) [.bool true])∧m (IntKind.wrap .i64 (n27+1)) n28 l3 l4 s false ((h10.wr b (0+(n41:Int).toNat) [.bool true]).wr b (0+((IntKind.wrap .i64 (n41+1)):Int).toNat) [.bool true]) < m n27 n28 l3 l4 s false h2) (∀ b27,h10 b27=none→T87 ⟨(some ⟨b27,0,none⟩),2,2⟩ (h10.new b27 (.cells ⟨[.slice l9.a l9.n l9.c,.slice l10.a l10.n l10.c]⟩ 77 (0,0))) fun r9 h14=>∃ l12:Sl,r9=.slice l12.a l12.n l12.c∧∃ (I4:Int→Hp→Prop) (m4:Int→Hp→Nat),I4 0 h14∧(∀ n48:Int,∀ h15:Hp,I4 n48 h15→par (n48 < (l12.n:Int)) (∃ b28 o5,(l12.a:Option Addr)=some ⟨b28,o5,none⟩∧((0:Int)≤n48∧n48 < (l12.n:Int))∧∃ n49:Int,h15.at b28 (o5+n48.toNat*6)=some (.int .u64 n49)∧∃ n50:Int,h15.at b28 ((o5+n48.toNat*6)+1)=some (.int .i64 n50)∧∃ n51:Int,h15.at b28 ((o5+n48.toNat*6)+2)=some (.int .i64 n51)∧∃ n52:Int,h15.at b28 ((o5+n48.toNat*6)+3)=some (.int .i64 n52)∧∃ s9:ByteArray,h15.at b28 ((o5+n48.toNat*6)+4)=some (.string s9)∧∃ s10:ByteArray,h15.at b28 ((o5+n48.toNat*6)+5)=some (.string s10)∧T88 l1 n49 h15 fun r10 h16=>∃ b29:Bool,r10=.bool b29∧parB b29 (((0:Int)≤n41∧n41 < ((6:Nat):Int))∧h16.canW b (0+(n41:Int).toNat) 1∧((0:Int)≤(IntKind.wrap .i64 (n41+1))∧(IntKind.wrap .i64 (n41+1)) < ((6:Nat):Int))∧(h16.wr b (0+(n41:Int).toNat) [.bool true]).canW b (0+((IntKind.wrap .i64 (n41+1)):Int).toNat) 1∧I (IntKind.wrap .i64 (n27+1)) n28 l3 l4 s false ((h16.wr b (0+(n41:Int).toNat) [.bool true]).wr b (0+((IntKind.wrap .i64 (n41+1)):Int).toNat) [.bool true])∧m (IntKind.wrap .i64 (n27+1)) n28 l3 l4 s false ((h16.wr b (0+(n41:Int).toNat) [.bool true]).wr b (0+((IntKind.wrap .i64 (n41+1)):Int).toNat) [.bool true]) < m n27 n28 l3 l4 s false h2) (I4 (IntKind.wrap .i64 (n48+1)) h16∧m4 (IntKind.wrap .i64 (n48+1)) h16 < m4 n48 h15)) (Q (.tuple ⟨[.agg ⟨[.int .i64 n42,.slice l9.a l9.n l9.c,.slice l10.a l10.n l10.c,.string s6,.bool false]⟩,.int .i64 2]⟩) h15))))) (r6=.tuple ⟨[.agg ⟨[.int .i64 n42,.slice l9.a l9.n l9.c,.slice l10.a l10.n l10.c,.string s6,.bool false]⟩,.bool false]⟩∧I (IntKind.wrap .i64 (n27+1)) n28 l3 l4 s false h10∧m (IntKind.wrap .i64 (n27+1)) n28 l3 l4 s false h10 < m n27 n28 l3 l4 s false h2))) (par ((0:Int) < (l2.n:Int)) (Q (.tuple ⟨[.agg ⟨[.int .i64 0,.slice none 0 0,.slice none 0 0,.string ⟨#[]⟩,.bool false]⟩,.int .i64 1]⟩) h2) (Q (.tuple ⟨[.agg ⟨[.int .i64 0,.slice none 0 0,.slice none 0 0,.string ⟨#[]⟩,.bool false]⟩,.int .i64 0]⟩) h2))))
def F21.T:=F21.G F17.T F20.T F87.T F88.T
theorem F21.gen (V T17 T20 T87 T88 n n1 n2 n3 n4 n5 n6 n7 n8 n9 n10 n11 n12 n13 n14 n15 n16 n17 n18 n19 n20 n21 n22 n23 n24 n25 n26 p l l1):denF Tryz.prog [4,8,14,17] [(17,F17.W T17),(20,F20.W T20),(87,F87.W T87),(88,F88.W T88)] V [(3,.jump 0),(442,.loop [(23,.int .i64)] [(8,[.int .i64,.sl,.sl,.str,.bool])]),(7248338,.loop [(55,.int .i64)] [])] Tryz.f21 [.v (.agg ⟨[.int .i64 n,.int .i64 n1,.int .i64 n2,.int .i64 n3,.int .i64 n4,.int .i64 n5,.int .i64 n6,.int .i64 n7,.int .i64 n8,.int .i64 n9,.int .i64 n10,.int .i64 n11,.int .i64 n12,.int .i64 n13,.int .i64 n14,.int .i64 n15,.int .i64 n16,.int .i64 n17,.int .i64 n18,.int .i64 n19,.int .i64 n20,.int .i64 n21,.int .i64 n22,.int .i64 n23,.int .i64 n24,.int .i64 n25,.int .i64 n26]⟩),.v (.pointer p),.v (.slice l.a l.n l.c),.v (.slice l1.a l1.n l1.c)]=F21.G T17 T20 T87 T88 n n1 n2 n3 n4 n5 n6 n7 n8 n9 n10 n11 n12 n13 n14 n15 n16 n17 n18 n19 n20 n21 n22 n23 n24 n25 n26 p l l1:=by kernel_rfl
def F21.W (T21:I9 <| I9 <| I9 <| Option Addr→Sl→Sl→PT) (args:List Value):PT:=match args with
 | [.agg ⟨[.int .i64 n,.int .i64 n1,.int .i64 n2,.int .i64 n3,.int .i64 n4,.int .i64 n5,.int .i64 n6,.int .i64 n7,.int .i64 n8,.int .i64 n9,.int .i64 n10,.int .i64 n11,.int .i64 n12,.int .i64 n13,.int .i64 n14,.int .i64 n15,.int .i64 n16,.int .i64 n17,.int .i64 n18,.int .i64 n19,.int .i64 n20,.int .i64 n21,.int .i64 n22,.int .i64 n23,.int .i64 n24,.int .i64 n25,.int .i64 n26]⟩,.pointer p,.slice l_a l_n l_c,.slice l1_a l1_n l1_c]=>T21 n n1 n2 n3 n4 n5 n6 n7 n8 n9 n10 n11 n12 n13 n14 n15 n16 n17 n18 n19 n20 n21 n22 n23 n24 n25 n26 p ⟨l_a,l_n,l_c⟩ ⟨l1_a,l1_n,l1_c⟩
 | _=>fun _ _=>False
def F21.V:List Value→PT:=F21.W F21.T
theorem F21.ok:FOk Tryz.prog 21 F21.V:=by
 refine ⟨⟨_,Tryz.func21,rfl,rfl⟩,fun args=>?_⟩
 unfold F21.V F21.W
 split
 ·exact denF_okE (GOk.cons F17.ok (GOk.cons F20.ok (GOk.cons F87.ok (GOk.cons F88.ok (GOk.nil))))) noV_ok Tryz.func21 (F21.gen noV F17.T F20.T F87.T F88.T _ _ _ _ _ _ _ _ _ _ _ _ _ _ _ _ _ _ _ _ _ _ _ _ _ _ _ _ ⟨_,_,_⟩ ⟨_,_,_⟩)
 ·exact fun _ _ h=>h.elim
def F89.T (l l1:Sl):PT:=fun h Q=>
 par ((l.n:Int)=(l1.n:Int)) (∃ (I:Int→Hp→Prop) (m:Int→Hp→Nat),I 0 h∧(∀ n:Int,∀ h1:Hp,I n h1→par (n < (l.n:Int)) (∃ b o,(l.a:Option Addr)=some ⟨b,o,none⟩∧((0:Int)≤n∧n < (l.n:Int))∧∃ n1:Int,h1.at b (o+n.toNat*6)=some (.int .u64 n1)∧∃ n2:Int,h1.at b ((o+n.toNat*6)+1)=some (.int .i64 n2)∧∃ n3:Int,h1.at b ((o+n.toNat*6)+2)=some (.int .i64 n3)∧∃ n4:Int,h1.at b ((o+n.toNat*6)+3)=some (.int .i64 n4)∧∃ s:ByteArray,h1.at b ((o+n.toNat*6)+4)=some (.string s)∧∃ s1:ByteArray,h1.at b ((o+n.toNat*6)+5)=some (.string s1)∧∃ b1 o1,(l1.a:Option Addr)=some ⟨b1,o1,none⟩∧((0:Int)≤n∧n < (l1.n:Int))∧∃ n5:Int,h1.at b1 (o1+n.toNat*6)=some (.int .u64 n5)∧∃ n6:Int,h1.at b1 ((o1+n.toNat*6)+1)=some (.int .i64 n6)∧∃ n7:Int,h1.at b1 ((o1+n.toNat*6)+2)=some (.int .i64 n7)∧∃ n8:Int,h1.at b1 ((o1+n.toNat*6)+3)=some (.int .i64 n8)∧∃ s2:ByteArray,h1.at b1 ((o1+n.toNat*6)+4)=some (.string s2)∧∃ s3:ByteArray,h1.at b1 ((o1+n.toNat*6)+5)=some (.string s3)∧par (([.int .u64 n1,.int .i64 n2,.int .i64 n3,.int .i64 n4,.string s,.string s1]:List Value)=[.int .u64 n5,.int .i64 n6,.int .i64 n7,.int .i64 n8,.string s2,.string s3]) (I (IntKind.wrap .i64 (n+1)) h1∧m (IntKind.wrap .i64 (n+1)) h1 < m n h1) (Q (.bool false) h1)) (Q (.bool true) h1))) (Q (.bool false) h)
theorem F89.den (V l l1):denF Tryz.prog [] [] V [(58,.loop [(5,.int .i64)] []),(1864,.order [0,1,2,3,4,5,6,7,8])] Tryz.f89 [.v (.slice l.a l.n l.c),.v (.slice l1.a l1.n l1.c)]=F89.T l l1:=by kernel_rfl
def F89.W (T89:Sl→Sl→PT) (args:List Value):PT:=match args with
 | [.slice l_a l_n l_c,.slice l1_a l1_n l1_c]=>T89 ⟨l_a,l_n,l_c⟩ ⟨l1_a,l1_n,l1_c⟩
 | _=>fun _ _=>False
def F89.V:List Value→PT:=F89.W F89.T
theorem F89.ok:FOk Tryz.prog 89 F89.V:=by
 refine ⟨⟨_,Tryz.func89,rfl,rfl⟩,fun args=>?_⟩
 unfold F89.V F89.W
 split
 ·exact denF_okE (GOk.nil) noV_ok Tryz.func89 (F89.den noV ⟨_,_,_⟩ ⟨_,_,_⟩)
 ·exact fun _ _ h=>h.elim
@[reducible] def F22.G (T89:Sl→Sl→PT) (n:Int) (l l1:Sl) (s:ByteArray) (b:Bool) (n1:Int) (l2 l3:Sl) (s1:ByteArray) (b1:Bool):PT:=fun h Q=>
 par (n=n1) (T89 l l2 h fun r h1=>∃ b2:Bool,r=.bool b2∧parB b2 (T89 l1 l3 h1 fun r1 h2=>∃ b3:Bool,r1=.bool b3∧parB b3 (par (s=s1) (par ((b:Bool)=b1) (Q (.bool true) h2) (Q (.bool false) h2)) (Q (.bool false) h2)) (Q (.bool false) h2)) (Q (.bool false) h1)) (Q (.bool false) h)
def F22.T:=F22.G F89.T
theorem F22.gen (V T89 n l l1 s b n1 l2 l3 s1 b1):denF Tryz.prog [2,3] [(89,F89.W T89)] V [] Tryz.f22 [.v (.agg ⟨[.int .i64 n,.slice l.a l.n l.c,.slice l1.a l1.n l1.c,.string s,.bool b]⟩),.v (.agg ⟨[.int .i64 n1,.slice l2.a l2.n l2.c,.slice l3.a l3.n l3.c,.string s1,.bool b1]⟩)]=F22.G T89 n l l1 s b n1 l2 l3 s1 b1:=by kernel_rfl
def F22.W (T22:Int→Sl→Sl→ByteArray→Bool→Int→Sl→Sl→ByteArray→Bool→PT) (args:List Value):PT:=match args with
 | [.agg ⟨[.int .i64 n,.slice l_a l_n l_c,.slice l1_a l1_n l1_c,.string s,.bool b]⟩,.agg ⟨[.int .i64 n1,.slice l2_a l2_n l2_c,.slice l3_a l3_n l3_c,.string s1,.bool b1]⟩]=>T22 n ⟨l_a,l_n,l_c⟩ ⟨l1_a,l1_n,l1_c⟩ s b n1 ⟨l2_a,l2_n,l2_c⟩ ⟨l3_a,l3_n,l3_c⟩ s1 b1
 | _=>fun _ _=>False
def F22.V:List Value→PT:=F22.W F22.T
theorem F22.ok:FOk Tryz.prog 22 F22.V:=by
 refine ⟨⟨_,Tryz.func22,rfl,rfl⟩,fun args=>?_⟩
 unfold F22.V F22.W
 split
 ·exact denF_okE (GOk.cons F89.ok (GOk.nil)) noV_ok Tryz.func22 (F22.gen noV F89.T _ ⟨_,_,_⟩ ⟨_,_,_⟩ _ _ _ ⟨_,_,_⟩ ⟨_,_,_⟩ _ _)
 ·exact fun _ _ h=>h.elim
end Go.Eng.YtbjnlacacapjiaaGreatDoor
end
section
set_option maxRecDepth 100000
open Go.Proofs
namespace Go.Eng.YtbjnlacacapjiaaGreatDoor
def F31.T (p:Option Addr):PT:=fun h Q=>
 dr p fun b o=>ldI .i64 h b o fun n=>par ((0:Int)≤n) (Q (.bool true) h) (Q (.bool false) h)
theorem F31.den (V p):denF Tryz.prog [] [] V [] Tryz.f31 [.v (.pointer p)]=F31.T p:=by kernel_rfl
def F31.W (T31:Option Addr→PT) (args:List Value):PT:=match args with
 | [.pointer p]=>T31 p
 | _=>fun _ _=>False
def F31.V:List Value→PT:=F31.W F31.T
theorem F31.ok:FOk Tryz.prog 31 F31.V:=by
 refine ⟨⟨_,Tryz.func31,rfl,rfl⟩,fun args=>?_⟩
 unfold F31.V F31.W
 split
 ·exact denF_okE (GOk.nil) noV_ok Tryz.func31 (F31.den noV _)
 ·exact fun _ _ h=>h.elim
def F70.T (p:Option Addr) (n:Int):PT:=fun h Q=>
 dr p fun b o=>ldI .i64 h b o fun n1=>par ((0:Int)≤n1) (dr p fun b1 o1=>ldI .i64 h b1 o1 fun n2=>dr p fun b2 o2=>st h b2 o2 1 [.int .i64 (IntKind.wrap .i64 (n2 - n))] fun h1=>dr p fun b3 o3=>ldI .i64 h1 b3 o3 fun n3=>par ((0:Int)≤n3) (Q (.bool true) h1) (Q (.bool false) h1)) (dr p fun b4 o4=>ldI .i64 h b4 o4 fun n4=>par ((0:Int)≤n4) (Q (.bool true) h) (Q (.bool false) h))
theorem F70.den (V p n):denF Tryz.prog [] [] V [] Tryz.f70 [.v (.pointer p),.v (.int .i64 n)]=F70.T p n:=by kernel_rfl
def F70.W (T70:Option Addr→Int→PT) (args:List Value):PT:=match args with
 | [.pointer p,.int .i64 n]=>T70 p n
 | _=>fun _ _=>False
def F70.V:List Value→PT:=F70.W F70.T
theorem F70.ok:FOk Tryz.prog 70 F70.V:=by
 refine ⟨⟨_,Tryz.func70,rfl,rfl⟩,fun args=>?_⟩
 unfold F70.V F70.W
 split
 ·exact denF_okE (GOk.nil) noV_ok Tryz.func70 (F70.den noV _ _)
 ·exact fun _ _ h=>h.elim
@[reducible] def F71.G (T70:Option Addr→Int→PT) (p:Option Addr) (s:ByteArray):PT:=fun h Q=>
 T70 p (IntKind.wrap .i64 (1+(s.size:Int))) h fun r h1=>retB r (Q (.tuple ⟨[]⟩) h1) (Q (.tuple ⟨[]⟩) h1)
def F71.T:=F71.G F70.T
theorem F71.gen (V T70 p s):denF Tryz.prog [] [(70,F70.W T70)] V [] Tryz.f71 [.v (.pointer p),.v (.string s)]=F71.G T70 p s:=by kernel_rfl
def F71.W (T71:Option Addr→ByteArray→PT) (args:List Value):PT:=match args with
 | [.pointer p,.string s]=>T71 p s
 | _=>fun _ _=>False
def F71.V:List Value→PT:=F71.W F71.T
theorem F71.ok:FOk Tryz.prog 71 F71.V:=by
 refine ⟨⟨_,Tryz.func71,rfl,rfl⟩,fun args=>?_⟩
 unfold F71.V F71.W
 split
 ·exact denF_okE (GOk.cons F70.ok (GOk.nil)) noV_ok Tryz.func71 (F71.gen noV F70.T _ _)
 ·exact fun _ _ h=>h.elim
def F29.T (n:Int):PT:=fun h Q=>
 nw h (.cells ⟨[.int .i64 n]⟩ 156 (0,0)) fun b h1=>Q (.pointer (some ⟨b,0,none⟩)) h1
theorem F29.den (V n):denF Tryz.prog [] [] V [] Tryz.f29 [.v (.int .i64 n)]=F29.T n:=by kernel_rfl
def F29.W (T29:Int→PT) (args:List Value):PT:=match args with
 | [.int .i64 n]=>T29 n
 | _=>fun _ _=>False
def F29.V:List Value→PT:=F29.W F29.T
theorem F29.ok:FOk Tryz.prog 29 F29.V:=by
 refine ⟨⟨_,Tryz.func29,rfl,rfl⟩,fun args=>?_⟩
 unfold F29.V F29.W
 split
 ·exact denF_okE (GOk.nil) noV_ok Tryz.func29 (F29.den noV _)
 ·exact fun _ _ h=>h.elim
end Go.Eng.YtbjnlacacapjiaaGreatDoor
end
