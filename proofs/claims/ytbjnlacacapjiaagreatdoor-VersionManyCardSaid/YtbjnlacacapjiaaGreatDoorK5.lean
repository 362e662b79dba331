/-
  JOINED.
-/
import Derived.Test.YtbjnlacacapjiaaGreatDoorK4
import Derived.Test.YtbjnlacacapjiaaGreatDoorK3
import Derived.Test.YtbjnlacacapjiaaGreatDoorK2
import Derived.Test.YtbjnlacacapjiaaGreatDoorProg
set_option linter.unusedSimpArgs false
set_option linter.unusedVariables false
set_option maxRecDepth 100000
open Go.IntKind (wrap)
open List (length_append length_map length_cons eq_nil_of_length_eq_zero mem_of_getElem? mem_cons_self getElem?_eq_getElem getElem?_map map_append mem_cons_of_mem length_singleton map_cons mem_map_of_mem mem_cons mem_append mem_singleton append_nil nodup_append)
section
namespace Go.Eng.YtbjnlacacapjiaaGreatDoor
section
open Go.Sort
theorem choose_le(d:Array Int){a b:Nat}(hab:a<b):a<=(choosePivot ltI d a b).1/\(choosePivot ltI d a b).1<b:=by
 unfold choosePivot
 dsimp only
 generalize hL:b-a=L
 split
 ·split
  ·have adj:∀ i s,(medianAdjacent ltI d i s).1=i-1\/(medianAdjacent ltI d i s).1=i\/(medianAdjacent ltI d i s).1=i+1:=λi s=>(median_le d (i-1) i (i+1) s).2
   have m1:=adj (a+L / 4*1) 0
   generalize medianAdjacent ltI d (a+L / 4*1) 0=r1 at m1 ⊢
   have m2:=adj (a+L / 4*2) r1.2
   generalize medianAdjacent ltI d (a+L / 4*2) r1.2=r2 at m2 ⊢
   have m3:=adj (a+L / 4*3) r2.2
   generalize medianAdjacent ltI d (a+L / 4*3) r2.2=r3 at m3 ⊢
   have m4:=(median_le d r1.1 r2.1 r3.1 r3.2).2
   generalize (median ltI d r1.1 r2.1 r3.1 r3.2).1=x at m4 ⊢
   omega
  ·have m4:=(median_le d (a+L / 4*1) (a+L / 4*2) (a+L / 4*3) 0).2
   generalize (median ltI d (a+L / 4*1) (a+L / 4*2) (a+L / 4*3) 0).1=x at m4 ⊢
   omega
 ·dsimp only;omega
variable{h:Hp}{l:Sl}{d D:Array Int}{a b lim p M0 nf:Nat}{Q:Value->Hp->Prop}{T:Sl->Int->Int->Int->PT}{I:Int->Int->Int->Bool->Bool->Hp->Prop}{m:Int->Int->Int->Bool->Bool->Hp->Nat}
def PdqOk(l:Sl)(T:Sl->Int->Int->Int->PT)(n:Nat):Prop:=∀ (h:Hp) (d:Array Int) (a b lim:Nat) (Q:Value->Hp->Prop),b-a<n->Buf h l 1 48 (uvs d.toList)->a<=b->b<=l.n->lim<=1000->(∀ h',Dx h h' l (pdq ltI d a b lim true true)->Q (.tuple ⟨[]⟩) h')->T l (a:Int) (b:Int) (lim:Int) h Q
def pdqTail(d:Array Int)(a b p lim:Nat)(wb wp:Bool):Array Int:=
 if a > 0 && !ltI d[a-1]! d[p]! then
  match partitionEqual ltI d a b p with
  |(mid,d4)=>if _h:a<mid/\mid<=b then pdq ltI d4 mid b lim wb wp else d4
 else
  match partition ltI d a b p with
  |(mid,alreadyPartitioned,d4)=>
   if _h:a<=mid/\mid<b then
    if mid-a<b-mid then
     pdq ltI (pdq ltI d4 a mid lim true true) (mid+1) b lim (decide (mid-a ≥ (b-a) / 8)) alreadyPartitioned
    else
     pdq ltI (pdq ltI d4 (mid+1) b lim true true) a mid lim (decide (b-mid ≥ (b-a) / 8)) alreadyPartitioned
   else d4
theorem mid_s{wb wp:Bool}{g:Hp}(hT:PdqOk l T nf)(hI:∀ a b lim wb wp g d',a<=b->b<=l.n->b-a<=nf->lim<=1000->Dx h g l d'->pdq ltI d' a b lim wb wp=D->I ((a:Nat):Int) ((b:Nat):Int) ((lim:Nat):Int) wb wp g)(hm:∀ (a' b' lim':Nat) wb' wp' g,b'-a'<b-a->m (a':Int) (b':Int) (lim':Int) wb' wp' g<M0)
  (S:Dx h g l d) (ha:a<=p) (hp:p<b) (hb:b<=l.n) (hn:l.n<=100000000000) (hnf:b-a<=nf) (hl:lim<=1000) (e:pdqTail d a b p lim wb wp=D) :
  ∃ J2:Int->Hp->Prop,(∀ n10:Int,∀ h7:Hp,J2 n10 h7->F228.T l n10 (b:Int) (p:Int) h7 λr3 h8=>∃ n11:Int,∃ b2:Bool,parB b2 (r3=.tuple ⟨[.int .i64 n11,.bool true]⟩/\(8:Int)≠0/\par ((wrap .i64 (n11-n10))<(wrap .i64 ((b:Int)-n11))) (par ((wrap .i64 (Int.tdiv (wrap .i64 ((b:Int)-(a:Int))) 8))<=(wrap .i64 (n11-n10))) (T l n10 n11 (lim:Int) h8 λr4 h9=>I (wrap .i64 (n11+1)) (b:Int) (lim:Int) true true h9/\m (wrap .i64 (n11+1)) (b:Int) (lim:Int) true true h9<M0) (T l n10 n11 (lim:Int) h8 λr5 h10=>I (wrap .i64 (n11+1)) (b:Int) (lim:Int) false true h10/\m (wrap .i64 (n11+1)) (b:Int) (lim:Int) false true h10<M0)) (par ((wrap .i64 (Int.tdiv (wrap .i64 ((b:Int)-(a:Int))) 8))<=(wrap .i64 ((b:Int)-n11))) (T l (wrap .i64 (n11+1)) (b:Int) (lim:Int) h8 λr6 h11=>I n10 n11 (lim:Int) true true h11/\m n10 n11 (lim:Int) true true h11<M0) (T l (wrap .i64 (n11+1)) (b:Int) (lim:Int) h8 λr7 h12=>I n10 n11 (lim:Int) false true h12/\m n10 n11 (lim:Int) false true h12<M0))) (r3=.tuple ⟨[.int .i64 n11,.bool false]⟩/\(8:Int)≠0/\par ((wrap .i64 (n11-n10))<(wrap .i64 ((b:Int)-n11))) (par ((wrap .i64 (Int.tdiv (wrap .i64 ((b:Int)-(a:Int))) 8))<=(wrap .i64 (n11-n10))) (T l n10 n11 (lim:Int) h8 λr8 h13=>I (wrap .i64 (n11+1)) (b:Int) (lim:Int) true false h13/\m (wrap .i64 (n11+1)) (b:Int) (lim:Int) true false h13<M0) (T l n10 n11 (lim:Int) h8 λr9 h14=>I (wrap .i64 (n11+1)) (b:Int) (lim:Int) false false h14/\m (wrap .i64 (n11+1)) (b:Int) (lim:Int) false false h14<M0)) (par ((wrap .i64 (Int.tdiv (wrap .i64 ((b:Int)-(a:Int))) 8))<=(wrap .i64 ((b:Int)-n11))) (T l (wrap .i64 (n11+1)) (b:Int) (lim:Int) h8 λr10 h15=>I n10 n11 (lim:Int) true false h15/\m n10 n11 (lim:Int) true false h15<M0) (T l (wrap .i64 (n11+1)) (b:Int) (lim:Int) h8 λr11 h16=>I n10 n11 (lim:Int) false false h16/\m n10 n11 (lim:Int) false false h16<M0)))) /\
  (par ((0:Int)<(a:Int)) (ix l.a (wrap .i64 ((a:Int)-1)) l.n λb3 o=>ldI .u64 g b3 (o+((wrap .i64 ((a:Int)-1))).toNat) λn12=>ix l.a (p:Int) l.n λb4 o1=>ldI .u64 g b4 (o1+((p:Nat):Int).toNat) λn13=>F226.T n12 n13 g λr12 h17=>retB r12 (J2 (a:Int) h17) (F227.T l (a:Int) (b:Int) (p:Int) h17 λr13 h18=>retI .i64 r13 λn14=>I n14 (b:Int) (lim:Int) wb wp h18/\m n14 (b:Int) (lim:Int) wb wp h18<M0)) (J2 (a:Int) g)):=by
 unfold pdqTail at e
 have hsz:=S.sz
 refine⟨λn h7=>n=(a:Int)/\h7=g/\(a > 0 && !ltI d[a-1]! d[p]!)=false,?_,λh0=>?_,λh0=>⟨rfl,rfl,by simp;omega⟩⟩
 ·rintro n h7 ⟨rfl,rfl,hc⟩
  rw[if_neg (by rw[hc];decide)] at e
  obtain⟨r1,r2,_⟩:=(partition_holds ltI) swo_ltInt d a b p ha hp (by omega)
  refine part_s S.u ha hp hb hn λh8 S8=>?_
  generalize partition ltI d a b p=r at r1 r2 e S8
  obtain⟨mid,al,d4⟩:=r
  dsimp only at r1 r2 e S8 ⊢
  rw[dif_pos ⟨r1,r2⟩] at e
  have SS:=S.from S8
  have w8:wrap .i64 (Int.tdiv ((b-a:Nat):Int) 8)=(((b-a) / 8:Nat):Int):=by
   rw[Int.tdiv_eq_ediv_of_nonneg (by omega),wr64 (by omega) (by omega)];omega
  refine⟨(mid:Int),al,?_⟩
  rw[wM (i:=mid) (j:=a) (by omega) (by omega),wM (i:=b) (j:=mid) (by omega) (by omega),wM (i:=b) (j:=a) (by omega) (by omega),w8,wA (by omega)]
  have left:∀ wb',(decide (mid-a ≥ (b-a) / 8))=wb'->mid-a<b-mid->T l (a:Int) (mid:Int) (lim:Int) h8 λr4 h9=>I ((mid+1:Nat):Int) (b:Int) (lim:Int) wb' al h9/\m ((mid+1:Nat):Int) (b:Int) (lim:Int) wb' al h9<M0:=λwb' hw hlt=>by
   rw[if_pos hlt,hw] at e
   exact hT _ _ _ _ _ _ (by omega) SS.u r1 (by omega) hl λh9 S9=>⟨hI _ _ _ _ _ _ _ (by omega) hb (by omega) hl (SS.from S9) e,hm _ _ _ _ _ _ (by omega)⟩
  have right:∀ wb',(decide (b-mid ≥ (b-a) / 8))=wb'->¬ mid-a<b-mid->T l ((mid+1:Nat):Int) (b:Int) (lim:Int) h8 λr4 h9=>I (a:Int) (mid:Int) (lim:Int) wb' al h9/\m (a:Int) (mid:Int) (lim:Int) wb' al h9<M0:=λwb' hw hge=>by
   rw[if_neg hge,hw] at e
   exact hT _ _ _ _ _ _ (by omega) SS.u (by omega) hb hl λh9 S9=>⟨hI _ _ _ _ _ _ _ r1 (by omega) (by omega) hl (SS.from S9) e,hm _ _ _ _ _ _ (by omega)⟩
  cases al
  all_goals
   first
    |refine⟨λhh=>(by cases hh),λ_=>⟨rfl,by decide,λhlt=>⟨λh8=>?_,λh8=>?_⟩,λhge=>⟨λh8=>?_,λh8=>?_⟩⟩⟩
    |refine⟨λ_=>⟨rfl,by decide,λhlt=>⟨λh8=>?_,λh8=>?_⟩,λhge=>⟨λh8=>?_,λh8=>?_⟩⟩,λhh=>(by cases hh)⟩
   ·exact left true (decide_eq_true (by omega)) (by omega)
   ·exact left false (decide_eq_false (by omega)) (by omega)
   ·exact right true (decide_eq_true (by omega)) (by omega)
   ·exact right false (decide_eq_false (by omega)) (by omega)
 ·rw[wS (by omega) (by omega)]
  refine S.less (i:=a-1) (j:=p) (by omega) (by omega) (λhl=>⟨rfl,rfl,by rw[hl];simp⟩) (λhl'=>?_)
  rw[if_pos (by rw[hl'];simp;omega)] at e
  have hr:a<(partitionEqual ltI d a b p).1/\(partitionEqual ltI d a b p).1<=b:=by
   have:=partEqLoop_spec ltI a b _ (a+1) (b-1) (Go.Sort.swp d a p) (Nat.le_refl _) (Nat.lt_succ_self a) (by omega) (by omega) (by rw[size_swp];omega) (λt h1 h2=>by omega) (λt h1 h2=>by omega)
   exact⟨this.1,this.2.1⟩
  refine partEq_s S.u ha hp hb hn λh8 S8=>?_
  generalize partitionEqual ltI d a b p=r at hr e S8
  obtain⟨mid,d4⟩:=r
  dsimp only at hr e S8 ⊢
  rw[dif_pos hr] at e
  exact⟨_,rfl,hI _ _ _ _ _ _ _ hr.2 hb (by omega) hl (S.from S8) e,hm _ _ _ _ _ _ (by omega)⟩
def hc:Hint->Int
 |.increasing=>1
 |.decreasing=>2
 |.unknown=>0
def pdqC(d:Array Int)(a b p lim:Nat)(hint:Hint)(wb wp:Bool):Array Int:=
 let pi:=if wb && wp && hint=.increasing then partialInsertionSort ltI d a b else(d,false)
 if pi.2 then pi.1 else pdqTail pi.1 a b p lim wb wp
def pdqB(d1:Array Int)(a b lim:Nat)(wb wp:Bool):Array Int:=
 let c:=choosePivot ltI d1 a b
 pdqC (if c.2=.decreasing then reverseRange d1 a b else d1) a b (if c.2=.decreasing then(b-1)-(c.1-a) else c.1) lim (if c.2=.decreasing then Hint.increasing else c.2) wb wp
theorem pdq_step{wb wp:Bool}(h12:¬ b-a<=12)(h0:¬ lim=0):pdq ltI d a b lim wb wp=pdqB (if !wb then breakPatterns d a b else d) a b (if !wb then lim-1 else lim) wb wp:=by
 rw[pdq,if_neg h12,if_neg h0];rfl
theorem round_s{wb wp:Bool}{g:Hp}{MID:Int->Hp->Prop}{CK:Int->Hp->(Hp->Prop)->Prop}
  (S:Dx h g l d) (hab:a<b) (hb:b<=l.n) (hn:l.n<=100000000000) (e:pdqB d a b lim wb wp=D)
  (hmid:∀ (p:Nat) g d3,a<=p->p<b->Dx h g l d3->pdqTail d3 a b p lim wb wp=D->MID (p:Int) g)
  (hck:∀ (p:Nat) (hint:Hint) g d2 (J1:Hp->Prop),Dx h g l d2->pdqC d2 a b p lim hint wb wp=D->(∀ g' d3,Dx h g' l d3->pdqTail d3 a b p lim wb wp=D->J1 g')->CK (hc hint) g J1) :
  F223.T l (a:Int) (b:Int) g λr2 h4=>∃ n6 n7:Int,r2=.tuple ⟨[.int .i64 n6,.int .i64 n7]⟩/\∃ J:Int->Int->Hp->Prop,(∀ n8 n9:Int,∀ h5:Hp,J n8 n9 h5->∃ J1:Hp->Prop,(∀ h6:Hp,J1 h6->MID n8 h6)/\(CK n9 h5 J1))/\(par (n7=2) (F224.T l (a:Int) (b:Int) h4 λr15 h20=>J (wrap .i64 ((wrap .i64 ((b:Int)-1))-(wrap .i64 (n6-(a:Int))))) 1 h20) (J n6 n7 h4)):=by
 unfold pdqB at e
 dsimp only at e
 obtain⟨c1,c2⟩:=choose_le d hab
 refine choose_s S.u hab hb hn λg1 K1=>⟨_,_,rfl,?_⟩
 have S1:Dx h g1 l d:=⟨S.u.keep K1,S.up.trans (Upd.of_keep K1 l)⟩
 generalize choosePivot ltI d a b=c at e c1 c2 ⊢
 obtain⟨pv,hint⟩:=c
 dsimp only at e c1 c2 ⊢
 refine⟨λn n' g=>∃ (p:Nat) (hint:Hint) (d2:Array Int),n=(p:Int)/\n'=hc hint/\a<=p/\p<b/\Dx h g l d2/\pdqC d2 a b p lim hint wb wp=D,?_,λh2=>?_,λh2=>?_⟩
 ·rintro n n' g2 ⟨p,hint,d2,rfl,rfl,p0,p1,S2,e2⟩
  exact⟨λg'=>∃ d3,Dx h g' l d3/\pdqTail d3 a b p lim wb wp=D,λg' ⟨d3,S3,e3⟩=>hmid p g' d3 p0 p1 S3 e3,hck p hint g2 d2 _ S2 e2 λg' d3 S3 e3=>⟨d3,S3,e3⟩⟩
 ·have hd:hint=.decreasing:=by cases hint<;>first|rfl|exact absurd h2 (by decide)
  subst hd
  rw[if_pos rfl,if_pos rfl,if_pos rfl] at e
  refine reverse_s S1.u hb (by omega) (by omega) hn λg2 S2=>?_
  rw[wS (by omega) (by omega),wM c1 (by omega),wM (by omega) (by omega)]
  exact⟨_,.increasing,_,rfl,rfl,by omega,by omega,S1.from S2,e⟩
 ·have hd:¬ hint=.decreasing:=by rintro rfl;exact h2 rfl
  rw[if_neg hd,if_neg hd,if_neg hd] at e
  exact⟨_,hint,_,rfl,by cases hint<;>rfl,c1,c2,S1,e⟩
def PI(h:Hp)(l:Sl)(D:Array Int)(nf:Nat):Int->Int->Int->Bool->Bool->Hp->Prop:=λn n1 n2 wb wp g=>∃ (a b lim:Nat) (d':Array Int),n=(a:Int)/\n1=(b:Int)/\n2=(lim:Int)/\a<=b/\b<=l.n/\b-a<=nf/\lim<=1000/\Dx h g l d'/\pdq ltI d' a b lim wb wp=D
def PM:Int->Int->Int->Bool->Bool->Hp->Nat:=λn n1 _ _ _ _=>(n1-n).toNat
theorem no_check{wb wp:Bool}{hint:Hint}(hw:(wb && wp && decide (hint=.increasing))=false)(e:pdqC d a b p lim hint wb wp=D):pdqTail d a b p lim wb wp=D:=by
 unfold pdqC at e
 have h:(if (wb && wp && decide (hint=.increasing))=true then partialInsertionSort ltI d a b else(d,false))=(d,false):=if_neg (by rw[hw];decide)
 rw[h] at e
 exact e
theorem yes_check(e:pdqC d a b p lim .increasing true true=D):(if (partialInsertionSort ltI d a b).2=true then(partialInsertionSort ltI d a b).1 else pdqTail (partialInsertionSort ltI d a b).1 a b p lim true true)=D:=e
theorem pdq_ok(hn:l.n<=100000000000):∀ nf,PdqOk l (F212.TN nf) nf
 |0=>λh d a b lim Q hlt=>absurd hlt (by omega)
 |nf+1=>by
  have hT:=pdq_ok hn nf
  intro h d a b lim Q hlt B hab hb hl hQ
  show F212.G (F212.TN nf) l (a:Int) (b:Int) (lim:Int) h Q
  generalize F212.TN nf=T at hT
  unfold F212.G F212.B
  generalize hD:pdq ltI d a b lim true true=D at hQ
  refine⟨PI h l D nf,PM,⟨a,b,lim,d,rfl,rfl,rfl,hab,hb,by omega,hl,Dx.refl B,hD⟩,?_⟩
  have hI:∀ (a b lim:Nat) wb wp g d',a<=b->b<=l.n->b-a<=nf->lim<=1000->Dx h g l d'->pdq ltI d' a b lim wb wp=D->PI h l D nf (a:Int) (b:Int) (lim:Int) wb wp g:=λa b lim wb wp g d' h1 h2 h3 h4 S e=>⟨a,b,lim,d',rfl,rfl,rfl,h1,h2,h3,h4,S,e⟩
  clear hab hb hl hlt hD B
  intro n3 n4 n5
  refine⟨⟨?_,?_⟩,⟨?_,?_⟩⟩
  all_goals
   rintro g ⟨a,b,lim,d1,rfl,rfl,rfl,hab,hb,hnf,hl,S,e⟩
   rw[wM hab (by omega)]
   refine⟨λh12=>?_,λh12=>⟨λh0=>?_,λh0=>?_⟩⟩
   ·rw[pdq,if_pos (by omega)] at e
    subst e
    exact insertion_s S.u hb (by omega) hn λh' S'=>hQ h' (S.from S')
   ·rw[pdq,if_neg (by omega),if_pos (by omega)] at e
    subst e
    exact heap_s S.u hab hb hn λh' S'=>hQ h' (S.from S')
   rw[pdq_step (by omega) (by omega)] at e
   have hm:∀ (M0:Nat),M0=b-a->∀ (a' b' lim':Nat) wb' wp' g,b'-a'<b-a->PM (a':Int) (b':Int) (lim':Int) wb' wp' g<M0:=λM0 h0 a' b' lim' wb' wp' g h1=>by unfold PM;omega
   have pm:∀ (lim:Int) wb wp g,PM (a:Int) (b:Int) lim wb wp g=b-a:=λ_ _ _ _=>by unfold PM;omega
  ·rw[if_neg (by decide),if_neg (by decide)] at e
   rw[pm]
   refine round_s S (by omega) hb hn e (λp g d3 p0 p1 S3 e3=>?_) (λp hint g d2 J1 S2 e2 hJ=>?_)
   ·have:=mid_s hT hI (hm _ rfl) S3 p0 p1 hb hn hnf hl e3
    rw[wM hab (by omega)] at this
    exact this
   ·refine⟨λh1=>?_,λh1=>?_⟩
    ·have hh:hint=.increasing:=by cases hint<;>first|rfl|exact absurd h1 (by decide)
     subst hh
     have e2:=yes_check e2
     refine partial_s S2.u (by omega) hb hn λg3 S3=>⟨_,rfl,λht=>?_,λhf=>?_⟩
     ·rw[if_pos ht] at e2
      subst e2
      exact hQ g3 (S2.from S3)
     ·rw[if_neg (by rw[hf];decide)] at e2
      exact hJ g3 _ (S2.from S3) e2
    ·have hh:¬ hint=.increasing:=by rintro rfl;exact h1 rfl
     exact hJ g _ S2 (no_check (by simp[hh]) e2)
  ·rw[if_neg (by decide),if_neg (by decide)] at e
   rw[pm]
   refine round_s S (by omega) hb hn e (λp g d3 p0 p1 S3 e3=>?_) (λp hint g d2 J1 S2 e2 hJ=>hJ g _ S2 (no_check rfl e2))
   have:=mid_s hT hI (hm _ rfl) S3 p0 p1 hb hn hnf hl e3
   rw[wM hab (by omega)] at this
   exact this
  ·rw[if_pos (by decide),if_pos (by decide)] at e
   rw[pm,wS (j:=lim) (by omega) (by omega)]
   refine break_s S.u hab hb hn λg2 S2=>?_
   refine round_s (S.from S2) (by omega) hb hn e (λp g d3 p0 p1 S3 e3=>?_) (λp hint g d2 J1 S2 e2 hJ=>hJ g _ S2 (no_check rfl e2))
   have:=mid_s hT hI (hm _ rfl) S3 p0 p1 hb hn hnf (by omega) e3
   rw[wM hab (by omega)] at this
   exact this
  ·rw[if_pos (by decide),if_pos (by decide)] at e
   rw[pm,wS (j:=lim) (by omega) (by omega)]
   refine break_s S.u hab hb hn λg2 S2=>?_
   refine round_s (S.from S2) (by omega) hb hn e (λp g d3 p0 p1 S3 e3=>?_) (λp hint g d2 J1 S2 e2 hJ=>hJ g _ S2 (no_check rfl e2))
   have:=mid_s hT hI (hm _ rfl) S3 p0 p1 hb hn hnf (by omega) e3
   rw[wM hab (by omega)] at this
   exact this
theorem sort_s{vs:List Int}(B:Buf h l 1 48 (uvs vs))(hn:l.n<=100000000000)(hQ:∀ h',Buf h' l 1 48 (uvs (vs.mergeSort λx y=>decide (x<=y)))->Upd h h' l l->Q (.tuple ⟨[]⟩) h'):F160.T l h Q:=by
 unfold F160.T F160.G
 have hl:vs.length=l.n:=by have:=B.len;rw[uvs_len] at this;omega
 rw[wrap_u64 (by omega) (by omega)]
 refine len_s (by omega) ⟨_,rfl,?_⟩
 have hb:=bitsLen_le (n:=l.n) (k:=37) (by show l.n<137438953472;omega)
 refine⟨l.n+1,pdq_ok hn (l.n+1) h vs.toArray 0 l.n (bitsLen l.n) _ (by omega) (by rw[List.toList_toArray];exact B) (Nat.zero_le _) (Nat.le_refl _) (by omega) λh' S=>?_⟩
 have e:pdq ltI vs.toArray 0 l.n (bitsLen l.n) true true=Go.Sort.sort ltI vs.toArray:=by unfold Go.Sort.sort;rw[List.size_toArray,hl]
 rw[e] at S
 have u:=S.u
 rw[sortInt vs] at u
 exact hQ h' u S.up
end
end Go.Eng.YtbjnlacacapjiaaGreatDoor
end
section
namespace Go.Eng.YtbjnlacacapjiaaGreatDoor
theorem VerR.one{h h':Hp}{b vb:Nat}{es:Array MapEntry}{c:Nat}{lv:Lv}(V:VerR h vb lv)(O:One b h h')(hb:h b=some (.map es c)):VerR h' vb lv:=by
 obtain⟨ls,xs,h1,h2,h3,h4⟩:=V
 exact⟨ls,xs,O.keep _ _ (by rintro rfl;rw[hb] at h1;cases h1) h1,O.row hb h2,λx hx=>O.row hb (h3 x hx),h4⟩
theorem Ver.base{g h h':Hp}{vb:Nat}{ls:Sl}{xs:List (Sl×List Tab)}(K:Keep g h)(V:Ver h h' vb ls xs):Ver g h' vb ls xs:=
 ⟨⟨K.trans V.L.k,V.L.nl.mono K.dom,V.L.l,V.L.t,λx hx=>(V.L.n x hx).mono K.dom,V.L.d⟩,K.dom _ V.nv,V.v⟩
structure SetA(g h:Hp)(sb vb pm cm:Nat)(ps ls:Sl)(xs:List (Sl×List Tab))(ptrs:List ByteArray):Prop where
 V:Ver g h vb ls xs
 ns:g sb=none
 s:h sb=some (.cells ⟨[.pointer (some ⟨vb,0,none⟩),.map (some pm),.slice ps.a ps.n ps.c,.map (some cm)]⟩ 150 (0,0))
 np:NewN g ps
 p:Buf h ps 1 9 (ptrV ptrs)
 m:∃ c,h pm=some (.map #[] c)
 nc:g cm=none
 c:∃ es c,h cm=some (.map es c)/\U64s es
 ne:pm≠cm
def DA(sb cm:Nat)(ps:Sl)(k:Nat):Prop:=k=sb\/k=cm\/ps.a=some ⟨k,0,none⟩
structure Chg(D:Nat->Prop)(h h':Hp):Prop where
 keep:∀ k x,¬ D k->h k=some x->h' k=some x
 dom:∀ k,h' k=none->h k=none
theorem Chg.trans{D:Nat->Prop}{a b c:Hp}(x:Chg D a b)(y:Chg D b c):Chg D a c:=⟨λk o n e=>y.keep k o n (x.keep k o n e),λk e=>x.dom k (y.dom k e)⟩
theorem Chg.of_keep{D:Nat->Prop}{a b:Hp}(k:Keep a b):Chg D a b:=⟨λi x _ e=>k i x e,k.dom⟩
theorem Chg.one{D:Nat->Prop}{b:Nat}{h h':Hp}(O:One b h h')(hb:D b):Chg D h h':=⟨λk x n e=>O.keep k x (by rintro rfl;exact n hb) e,O.dom⟩
theorem Chg.upd{D:Nat->Prop}{h h':Hp}{s s':Sl}(U:Upd h h' s s')(hb:∀ k o,s.a=some ⟨k,o,none⟩->D k):Chg D h h':=⟨λk x n e=>U.keep k x (λo hs=>n (hb k o hs)) e,U.dom⟩
theorem Chg.ck{D:Nat->Prop}{κ:List Nat}{h h':Hp}(C:Chg D h h')(hD:∀ k x,D k->h k=some x->kd x∈κ):Ck κ h h':=⟨λk x e n=>C.keep k x (λd=>n (hD k x d e)) e,C.dom⟩
theorem buf_kd{h:Hp}{s:Sl}{sz t k o:Nat}{x:Obj}{vs:List Value}(B:Buf h s sz t vs)(hs:s.a=some ⟨k,o,none⟩)(hk:h k=some x):o=0/\kd x=t+2:=by
 rcases B.own with⟨ha,_⟩|⟨b,c,f,ha,hb,_⟩
 ·rw[ha] at hs;cases hs
 ·rw[ha] at hs
  simp only[Option.some.injEq,Addr.mk.injEq,and_true] at hs
  rw[hs.1,hk] at hb
  cases hb
  exact⟨hs.2.symm,rfl⟩
section
variable{g h h':Hp}{sb vb pm cm:Nat}{ps ls:Sl}{xs:List (Sl×List Tab)}{ptrs:List ByteArray}
end
end Go.Eng.YtbjnlacacapjiaaGreatDoor
end
section
namespace Go.Eng.YtbjnlacacapjiaaGreatDoor
theorem ptrV_length(l:List ByteArray):(ptrV l).length=l.length:=length_map _
theorem ptr_one(l:List ByteArray):∀ v∈ptrV l,Value.oneCell' v=true:=λv hv=>by
 unfold ptrV at hv
 obtain⟨s,_,rfl⟩:=List.mem_map.1 hv
 rfl
theorem new_spec0{h:Hp}{n:Int}{k:Nat}{Q:Value->Hp->Prop}(hk:n=(k:Int))(k1:1<=k)(k5:k<=5)
  (hQ:∀ h' sb vb pm cm ps ls xs,SetA h h' sb vb pm cm ps ls xs (List.replicate k ⟨#[]⟩)->h pm=none->xs.map (·.2)=List.replicate k []->Q (.pointer (some ⟨sb,0,none⟩)) h'):F25.T n h Q:=by
 subst hk
 have hm:iMin (iMax (k:Int) 1) 5=(k:Int):=by
  unfold iMin iMax
  by_cases h1:(k:Int)<1
  ·omega
  ·rw[if_neg h1]
   by_cases h5:5<(k:Int)
   ·omega
   ·rw[if_neg h5]
 unfold F25.T
 rw[hm]
 simp only[Int.toNat_natCast]
 refine⟨⟨by omega,by omega,by omega⟩,⟨by omega,by omega,by omega⟩,⟨by omega,by omega,by omega⟩,λb hb=>⟨⟨by omega,by omega,by omega⟩,λb1 hb1=>⟨⟨by omega,by omega,by omega⟩,λb2 hb2=>⟨⟨by omega,by omega,by omega⟩,⟨by omega,by omega,by omega⟩,λb3 hb3 b4 hb4 b5 hb5=>?_⟩⟩⟩⟩
 have K0:=Keep.new hb (.cells (Builtin.zeroCells (List.toArray [.slice none 0 0]) k) 77 (0,0))
 have B0:=buf_make h b k 77 [.slice none 0 0] (by decide)
 rw[zerosV_one] at B0
 generalize h.new b (.cells (Builtin.zeroCells (List.toArray [.slice none 0 0]) k) 77 (0,0))=g0 at *
 have K1:=Keep.new hb1 (.cells ⟨[.slice (some ⟨b,0,none⟩) k k]⟩ 146 (0,0))
 have x1:=new_at g0 b1 (.cells ⟨[.slice (some ⟨b,0,none⟩) k k]⟩ 146 (0,0))
 generalize g0.new b1 (.cells ⟨[.slice (some ⟨b,0,none⟩) k k]⟩ 146 (0,0))=g1 at *
 have K2:=Keep.new hb2 (.map #[] 0)
 have x2:=new_at g1 b2 (.map #[] 0)
 generalize g1.new b2 (.map #[] 0)=g2 at *
 have K3:=Keep.new hb3 (.cells (Builtin.zeroCells (List.toArray [.string ⟨#[]⟩]) k) 9 (0,0))
 have B3:=buf_make g2 b3 k 9 [.string ⟨#[]⟩] (by decide)
 rw[zerosV_one] at B3
 generalize g2.new b3 (.cells (Builtin.zeroCells (List.toArray [.string ⟨#[]⟩]) k) 9 (0,0))=g3 at *
 have K4:=Keep.new hb4 (.map #[] 0)
 have x4:=new_at g3 b4 (.map #[] 0)
 generalize g3.new b4 (.map #[] 0)=g4 at *
 have K5:=Keep.new hb5 (.cells ⟨[.pointer (some ⟨b1,0,none⟩),.map (some b2),.slice (some ⟨b3,0,none⟩) k k,.map (some b4)]⟩ 150 (0,0))
 have x5:=new_at g4 b5 (.cells ⟨[.pointer (some ⟨b1,0,none⟩),.map (some b2),.slice (some ⟨b3,0,none⟩) k k,.map (some b4)]⟩ 150 (0,0))
 generalize g4.new b5 (.cells ⟨[.pointer (some ⟨b1,0,none⟩),.map (some b2),.slice (some ⟨b3,0,none⟩) k k,.map (some b4)]⟩ 150 (0,0))=g5 at *
 have K15:=((K2.trans K3).trans K4).trans K5
 have Kall:=(K0.trans K1).trans K15
 have d1:=K0.dom
 have d2:=(K0.trans K1).dom
 have d3:=((K0.trans K1).trans K2).dom
 have d4:=(((K0.trans K1).trans K2).trans K3).dom
 have d5:=((((K0.trans K1).trans K2).trans K3).trans K4).dom
 have hmem:∀ x∈List.replicate k ((⟨none,0,0⟩:Sl),([]:List Tab)),x=((⟨none,0,0⟩:Sl),([]:List Tab)):=λx hx=>(List.mem_replicate.1 hx).2
 refine hQ g5 b5 b1 b2 b4 ⟨some ⟨b3,0,none⟩,k,k⟩ ⟨some ⟨b,0,none⟩,k,k⟩ (List.replicate k (⟨none,0,0⟩,[])) ⟨⟨⟨Kall,.inr ⟨b,rfl,hb⟩,?_,λx hx=>by rw[hmem x hx];exact Buf.nil _ _ _,λx hx=>by rw[hmem x hx];exact .inl rfl,λi j x y hx _ _=>by rw[hmem x (mem_of_getElem? hx)];exact off_nil (.inl rfl)⟩,d1 _ hb1,K15 _ _ x1⟩,d5 _ hb5,x5,.inr ⟨b3,rfl,d3 _ hb3⟩,?_,⟨0,((K3.trans K4).trans K5) _ _ x2⟩,d4 _ hb4,⟨#[],0,K5 _ _ x4,λe he=>by simp at he⟩,?_⟩ (d2 _ hb2) (by simp)
 ·have:slV ((List.replicate k ((⟨none,0,0⟩:Sl),([]:List Tab))).map (·.1))=List.replicate k (.slice none 0 0):=by simp[slV]
  rw[this]
  exact(B0.keep K1).keep K15
 ·have:ptrV (List.replicate k (⟨#[]⟩:ByteArray))=List.replicate k (.string ⟨#[]⟩):=by simp[ptrV]
  rw[this]
  exact B3.keep (K4.trans K5)
 ·exact ne_of (K3 _ _ x2) hb4
end Go.Eng.YtbjnlacacapjiaaGreatDoor
end
section
namespace Go.Eng.YtbjnlacacapjiaaGreatDoor
section
variable{g h:Hp}{sb vb pm cm:Nat}{ps ls:Sl}{xs:List (Sl×List Tab)}{ptrs:List ByteArray}{Q:Value->Hp->Prop}
theorem levels_spec(V:Ver g h vb ls xs)(hQ:Q (.int .i64 (xs.length:Int)) h):F91.T (some ⟨vb,0,none⟩) h Q:=⟨vb,0,rfl,ls,at_of V.v 0,by rw[V.L.len];exact hQ⟩
end
def plc(i:Int)(t:Tab):Placed:=⟨i,t.num,t.weight,t.bytes,t.entries,t.least,t.greatest⟩
def wholeM:Nat->Lv->List Placed
 |_,[]=>[]
 |i,l::lv=>l.map (plc i)++wholeM (i+1) lv
end Go.Eng.YtbjnlacacapjiaaGreatDoor
end
section
open Go.Proofs
namespace Go.Eng.YtbjnlacacapjiaaGreatDoor
def F31.T(p:Option Addr):PT:=λh Q=>
 dr p λb o=>ldI .i64 h b o λn=>par ((0:Int)<=n) (Q (.bool true) h) (Q (.bool false) h)
theorem F31.den(V p):denF Tryz.prog [] [] V [] Tryz.f31 [.v (.pointer p)]=F31.T p:=by kernel_rfl
def F31.W(T31:Option Addr->PT)(args:List Value):PT:=match args with
 |[.pointer p]=>T31 p
 |_=>λ_ _=>False
def F31.V:List Value->PT:=F31.W F31.T
theorem F31.ok:FOk Tryz.prog 31 F31.V:=by
 refine⟨⟨_,Tryz.func31,rfl,rfl⟩,λ_=>?_⟩;unfold F31.V F31.W;split;exact denF_okE (GOk.nil) noV_ok Tryz.func31 (F31.den noV _);exact λ_ _ h=>h.elim
def F70.T(p:Option Addr)(n:Int):PT:=λh Q=>
 dr p λb o=>ldI .i64 h b o λn1=>par ((0:Int)<=n1) (dr p λb1 o1=>ldI .i64 h b1 o1 λn2=>dr p λb2 o2=>st h b2 o2 1 [.int .i64 (wrap .i64 (n2-n))] λh1=>dr p λb3 o3=>ldI .i64 h1 b3 o3 λn3=>par ((0:Int)<=n3) (Q (.bool true) h1) (Q (.bool false) h1)) (dr p λb4 o4=>ldI .i64 h b4 o4 λn4=>par ((0:Int)<=n4) (Q (.bool true) h) (Q (.bool false) h))
theorem F70.den(V p n):denF Tryz.prog [] [] V [] Tryz.f70 [.v (.pointer p),.v (.int .i64 n)]=F70.T p n:=by kernel_rfl
def F70.W(T70:Option Addr->Int->PT)(args:List Value):PT:=match args with
 |[.pointer p,.int .i64 n]=>T70 p n
 |_=>λ_ _=>False
def F70.V:List Value->PT:=F70.W F70.T
theorem F70.ok:FOk Tryz.prog 70 F70.V:=by
 refine⟨⟨_,Tryz.func70,rfl,rfl⟩,λ_=>?_⟩;unfold F70.V F70.W;split;exact denF_okE (GOk.nil) noV_ok Tryz.func70 (F70.den noV _ _);exact λ_ _ h=>h.elim
@[reducible] def F71.G(T70:Option Addr->Int->PT)(p:Option Addr)(s:ByteArray):PT:=λh Q=>
 T70 p (wrap .i64 (1+(s.size:Int))) h λr h1=>retB r (Q (.tuple ⟨[]⟩) h1) (Q (.tuple ⟨[]⟩) h1)
def F71.T:=F71.G F70.T
theorem F71.gen(V T70 p s):denF Tryz.prog [] [(70,F70.W T70)] V [] Tryz.f71 [.v (.pointer p),.v (.string s)]=F71.G T70 p s:=by kernel_rfl
def F71.W(T71:Option Addr->ByteArray->PT)(args:List Value):PT:=match args with
 |[.pointer p,.string s]=>T71 p s
 |_=>λ_ _=>False
def F71.V:List Value->PT:=F71.W F71.T
theorem F71.ok:FOk Tryz.prog 71 F71.V:=by
 refine⟨⟨_,Tryz.func71,rfl,rfl⟩,λ_=>?_⟩;unfold F71.V F71.W;split;exact denF_okE (GOk.cons F70.ok (GOk.nil)) noV_ok Tryz.func71 (F71.gen noV F70.T _ _);exact λ_ _ h=>h.elim
def F29.T(n:Int):PT:=λh Q=>
 nw h (.cells ⟨[.int .i64 n]⟩ 156 (0,0)) λb h1=>Q (.pointer (some ⟨b,0,none⟩)) h1
theorem F29.den(V n):denF Tryz.prog [] [] V [] Tryz.f29 [.v (.int .i64 n)]=F29.T n:=by kernel_rfl
def F29.W(T29:Int->PT)(args:List Value):PT:=match args with
 |[.int .i64 n]=>T29 n
 |_=>λ_ _=>False
def F29.V:List Value->PT:=F29.W F29.T
theorem F29.ok:FOk Tryz.prog 29 F29.V:=by
 refine⟨⟨_,Tryz.func29,rfl,rfl⟩,λ_=>?_⟩;unfold F29.V F29.W;split;exact denF_okE (GOk.nil) noV_ok Tryz.func29 (F29.den noV _);exact λ_ _ h=>h.elim
@[reducible] def F30.G(T31:Option Addr->PT)(T70:Option Addr->Int->PT)(T71:Option Addr->ByteArray->PT)(p:Option Addr)(n n1 n2:Int)(l l1 l2:Sl):PT:=λh Q=>
 T70 p (wrap .i64 (1+(l.n:Int))) h λr h1=>retB r (∃ J:Hp->Prop,(∀ h2:Hp,J h2->∃ (I:Int->Hp->Prop) (m:Int->Hp->Nat),I 0 h2/\(∀ n3:Int,∀ h3:Hp,I n3 h3->par (n3<(l2.n:Int)) (T31 p h3 λr1 h4=>retB r1 (ix l2.a n3 l2.n λb o=>ldT h4 b (o+n3.toNat) λs=>T71 p s h4 λr2 h5=>I (wrap .i64 (n3+1)) h5/\m (wrap .i64 (n3+1)) h5<m n3 h3) (Q (.tuple ⟨[]⟩) h4)) (Q (.tuple ⟨[]⟩) h3)))/\(∃ (I1:Int->Hp->Prop) (m1:Int->Hp->Nat),I1 0 h1/\(∀ n4:Int,∀ h6:Hp,I1 n4 h6->par (n4<(l1.n:Int)) (T31 p h6 λr3 h7=>retB r3 (ix l1.a n4 l1.n λb1 o1=>ldT h7 b1 (((o1+n4.toNat*7)+1)+4) λs1=>T71 p s1 h7 λr4 h8=>ix l1.a n4 l1.n λb2 o2=>ldT h8 b2 (((o2+n4.toNat*7)+1)+5) λs2=>T70 p (s2.size:Int) h8 λr5 h9=>retB r5 (I1 (wrap .i64 (n4+1)) h9/\m1 (wrap .i64 (n4+1)) h9<m1 n4 h6) (I1 (wrap .i64 (n4+1)) h9/\m1 (wrap .i64 (n4+1)) h9<m1 n4 h6)) (J h7)) (J h6)))) (∃ J1:Hp->Prop,(∀ h10:Hp,J1 h10->∃ (I2:Int->Hp->Prop) (m2:Int->Hp->Nat),I2 0 h10/\(∀ n5:Int,∀ h11:Hp,I2 n5 h11->par (n5<(l2.n:Int)) (T31 p h11 λr6 h12=>retB r6 (ix l2.a n5 l2.n λb3 o3=>ldT h12 b3 (o3+n5.toNat) λs3=>T71 p s3 h12 λr7 h13=>I2 (wrap .i64 (n5+1)) h13/\m2 (wrap .i64 (n5+1)) h13<m2 n5 h11) (Q (.tuple ⟨[]⟩) h12)) (Q (.tuple ⟨[]⟩) h11)))/\(∃ (I3:Int->Hp->Prop) (m3:Int->Hp->Nat),I3 0 h1/\(∀ n6:Int,∀ h14:Hp,I3 n6 h14->par (n6<(l1.n:Int)) (T31 p h14 λr8 h15=>retB r8 (ix l1.a n6 l1.n λb4 o4=>ldT h15 b4 (((o4+n6.toNat*7)+1)+4) λs4=>T71 p s4 h15 λr9 h16=>ix l1.a n6 l1.n λb5 o5=>ldT h16 b5 (((o5+n6.toNat*7)+1)+5) λs5=>T70 p (s5.size:Int) h16 λr10 h17=>retB r10 (I3 (wrap .i64 (n6+1)) h17/\m3 (wrap .i64 (n6+1)) h17<m3 n6 h14) (I3 (wrap .i64 (n6+1)) h17/\m3 (wrap .i64 (n6+1)) h17<m3 n6 h14)) (J1 h15)) (J1 h14))))
def F30.T:=F30.G F31.T F70.T F71.T
theorem F30.gen(V T31 T70 T71 p n n1 n2 l l1 l2):denF Tryz.prog [3] [(31,F31.W T31),(70,F70.W T70),(71,F71.W T71)] V [(7,.join [] []),(58,.loop [(4,.int .i64)] []),(62,.loop [(5,.int .i64)] [])] Tryz.f30 [.v (.pointer p),.v (.agg ⟨[.int .u64 n,.int .u64 n1,.int .u64 n2,.slice l.a l.n l.c,.slice l1.a l1.n l1.c,.slice l2.a l2.n l2.c]⟩)]=F30.G T31 T70 T71 p n n1 n2 l l1 l2:=by kernel_rfl
def F30.W(T30:Option Addr->Int->Int->Int->Sl->Sl->Sl->PT)(args:List Value):PT:=match args with
 |[.pointer p,.agg ⟨[.int .u64 n,.int .u64 n1,.int .u64 n2,.slice l_a l_n l_c,.slice l1_a l1_n l1_c,.slice l2_a l2_n l2_c]⟩]=>T30 p n n1 n2 ⟨l_a,l_n,l_c⟩ ⟨l1_a,l1_n,l1_c⟩ ⟨l2_a,l2_n,l2_c⟩
 |_=>λ_ _=>False
def F30.V:List Value->PT:=F30.W F30.T
theorem F30.ok:FOk Tryz.prog 30 F30.V:=by
 refine⟨⟨_,Tryz.func30,rfl,rfl⟩,λ_=>?_⟩;unfold F30.V F30.W;split;exact denF_okE (GOk.cons F31.ok (GOk.cons F70.ok (GOk.cons F71.ok (GOk.nil)))) noV_ok Tryz.func30 (F30.gen noV F31.T F70.T F71.T _ _ _ _ ⟨_,_,_⟩ ⟨_,_,_⟩ ⟨_,_,_⟩);exact λ_ _ h=>h.elim
@[reducible] def F7.G(T29:Int->PT)(T30:Option Addr->Int->Int->Int->Sl->Sl->Sl->PT)(T31:Option Addr->PT)(n n1 n2:Int)(l l1 l2:Sl):PT:=λh Q=>
 T29 8192 h λr h1=>retP r λp=>T30 p n n1 n2 l l1 l2 h1 λr1 h2=>T31 p h2 λr2 h3=>retB r2 (Q (.bool true) h3) (Q (.bool false) h3)
def F7.T:=F7.G F29.T F30.T F31.T
theorem F7.gen(V T29 T30 T31 n n1 n2 l l1 l2):denF Tryz.prog [1] [(29,F29.W T29),(30,F30.W T30),(31,F31.W T31)] V [] Tryz.f7 [.v (.agg ⟨[.int .u64 n,.int .u64 n1,.int .u64 n2,.slice l.a l.n l.c,.slice l1.a l1.n l1.c,.slice l2.a l2.n l2.c]⟩)]=F7.G T29 T30 T31 n n1 n2 l l1 l2:=by kernel_rfl
def F7.W(T7:Int->Int->Int->Sl->Sl->Sl->PT)(args:List Value):PT:=match args with
 |[.agg ⟨[.int .u64 n,.int .u64 n1,.int .u64 n2,.slice l_a l_n l_c,.slice l1_a l1_n l1_c,.slice l2_a l2_n l2_c]⟩]=>T7 n n1 n2 ⟨l_a,l_n,l_c⟩ ⟨l1_a,l1_n,l1_c⟩ ⟨l2_a,l2_n,l2_c⟩
 |_=>λ_ _=>False
def F7.V:List Value->PT:=F7.W F7.T
theorem F7.ok:FOk Tryz.prog 7 F7.V:=by
 refine⟨⟨_,Tryz.func7,rfl,rfl⟩,λ_=>?_⟩;unfold F7.V F7.W;split;exact denF_okE (GOk.cons F29.ok (GOk.cons F30.ok (GOk.cons F31.ok (GOk.nil)))) noV_ok Tryz.func7 (F7.gen noV F29.T F30.T F31.T _ _ _ ⟨_,_,_⟩ ⟨_,_,_⟩ ⟨_,_,_⟩);exact λ_ _ h=>h.elim
end Go.Eng.YtbjnlacacapjiaaGreatDoor
end
section
open Go.Proofs
namespace Go.Eng.YtbjnlacacapjiaaGreatDoor
def F231.T(s s1:ByteArray):PT:=λh Q=>
 ∃ (I:Int->Hp->Prop) (m:Int->Hp->Nat),I 0 h/\(∀ n:Int,∀ h1:Hp,I n h1->par (n<(s.size:Int)) (par (n<(s1.size:Int)) (((0:Int)<=n/\n<(s.size:Int))/\((0:Int)<=n/\n<(s1.size:Int))/\par ((bt s n)=(bt s1 n)) (I (wrap .i64 (n+1)) h1/\m (wrap .i64 (n+1)) h1<m n h1) (((0:Int)<=n/\n<(s.size:Int))/\((0:Int)<=n/\n<(s1.size:Int))/\par ((bt s n)<(bt s1 n)) (Q (.bool true) h1) (Q (.bool false) h1))) (par ((s.size:Int)<(s1.size:Int)) (Q (.bool true) h1) (Q (.bool false) h1))) (par ((s.size:Int)<(s1.size:Int)) (Q (.bool true) h1) (Q (.bool false) h1)))
theorem F231.den(V s s1):denF Tryz.prog [] [] V [(26,.loop [(5,.int .i64)] []),(840,.order [0,1,2,3,4,5,6]),(3364,.order [0,1,2,3,4,5,6,7])] Tryz.f231 [.v (.string s),.v (.string s1)]=F231.T s s1:=by kernel_rfl
def F231.W(T231:ByteArray->ByteArray->PT)(args:List Value):PT:=match args with
 |[.string s,.string s1]=>T231 s s1
 |_=>λ_ _=>False
def F231.V:List Value->PT:=F231.W F231.T
theorem F231.ok:FOk Tryz.prog 231 F231.V:=by
 refine⟨⟨_,Tryz.func231,rfl,rfl⟩,λ_=>?_⟩;unfold F231.V F231.W;split;exact denF_okE (GOk.nil) noV_ok Tryz.func231 (F231.den noV _ _);exact λ_ _ h=>h.elim
@[reducible] def F214.G(T231:ByteArray->ByteArray->PT)(s:ByteArray)(n:Int)(b:Bool)(s1 s2:ByteArray)(n1:Int)(b1:Bool)(s3:ByteArray):PT:=λh Q=>
 T231 s s2 h λr h1=>retB r (Q (.int .i64 (-1)) h1) (T231 s2 s h1 λr1 h2=>retB r1 (Q (.int .i64 1) h2) (par (n1<n) (Q (.int .i64 (-1)) h2) (par (n<n1) (Q (.int .i64 1) h2) (Q (.int .i64 0) h2))))
def F214.T:=F214.G F231.T
theorem F214.gen(V T231 s n b s1 s2 n1 b1 s3):denF Tryz.prog [2,3] [(231,F231.W T231)] V [] Tryz.f214 [.v (.agg ⟨[.string s,.int .u64 n,.bool b,.string s1]⟩),.v (.agg ⟨[.string s2,.int .u64 n1,.bool b1,.string s3]⟩)]=F214.G T231 s n b s1 s2 n1 b1 s3:=by kernel_rfl
def F214.W(T214:ByteArray->Int->Bool->ByteArray->ByteArray->Int->Bool->ByteArray->PT)(args:List Value):PT:=match args with
 |[.agg ⟨[.string s,.int .u64 n,.bool b,.string s1]⟩,.agg ⟨[.string s2,.int .u64 n1,.bool b1,.string s3]⟩]=>T214 s n b s1 s2 n1 b1 s3
 |_=>λ_ _=>False
def F214.V:List Value->PT:=F214.W F214.T
theorem F214.ok:FOk Tryz.prog 214 F214.V:=by
 refine⟨⟨_,Tryz.func214,rfl,rfl⟩,λ_=>?_⟩;unfold F214.V F214.W;split;exact denF_okE (GOk.cons F231.ok (GOk.nil)) noV_ok Tryz.func214 (F214.gen noV F231.T _ _ _ _ _ _ _ _);exact λ_ _ h=>h.elim
@[reducible] def F163.G(T214:ByteArray->Int->Bool->ByteArray->ByteArray->Int->Bool->ByteArray->PT)(s s1:ByteArray):PT:=λh Q=>
 T214 s 0 false (ByteArray.mk #[]) s1 0 false (ByteArray.mk #[]) h λr h1=>retI .i64 r λn=>par ((0:Int)<n) (Q (.bool true) h1) (Q (.bool false) h1)
def F163.T:=F163.G F214.T
theorem F163.gen(V T214 s s1):denF Tryz.prog [] [(214,F214.W T214)] V [] Tryz.f163 [.v (.string s),.v (.string s1)]=F163.G T214 s s1:=by kernel_rfl
def F163.W(T163:ByteArray->ByteArray->PT)(args:List Value):PT:=match args with
 |[.string s,.string s1]=>T163 s s1
 |_=>λ_ _=>False
def F163.V:List Value->PT:=F163.W F163.T
theorem F163.ok:FOk Tryz.prog 163 F163.V:=by
 refine⟨⟨_,Tryz.func163,rfl,rfl⟩,λ_=>?_⟩;unfold F163.V F163.W;split;exact denF_okE (GOk.cons F214.ok (GOk.nil)) noV_ok Tryz.func163 (F163.gen noV F214.T _ _);exact λ_ _ h=>h.elim
def F161.T(l:Sl)(n:Int):PT:=λh Q=>
 ∃ (I:Int->Hp->Prop) (m:Int->Hp->Nat),I 0 h/\(∀ n1:Int,∀ h1:Hp,I n1 h1->par (n1<(l.n:Int)) (ix l.a n1 l.n λb o=>ldI .u64 h1 b (o+n1.toNat*6) λn2=>par (n2=n) (Q (.int .i64 n1) h1) (I (wrap .i64 (n1+1)) h1/\m (wrap .i64 (n1+1)) h1<m n1 h1)) (Q (.int .i64 (-1)) h1))
theorem F161.den(V l n):denF Tryz.prog [] [] V [(26,.loop [(5,.int .i64)] [])] Tryz.f161 [.v (.slice l.a l.n l.c),.v (.int .u64 n)]=F161.T l n:=by kernel_rfl
def F161.W(T161:Sl->Int->PT)(args:List Value):PT:=match args with
 |[.slice l_a l_n l_c,.int .u64 n]=>T161 ⟨l_a,l_n,l_c⟩ n
 |_=>λ_ _=>False
def F161.V:List Value->PT:=F161.W F161.T
theorem F161.ok:FOk Tryz.prog 161 F161.V:=by
 refine⟨⟨_,Tryz.func161,rfl,rfl⟩,λ_=>?_⟩;unfold F161.V F161.W;split;exact denF_okE (GOk.nil) noV_ok Tryz.func161 (F161.den noV ⟨_,_,_⟩ _);exact λ_ _ h=>h.elim
@[reducible] def F162.G(T161:Sl->Int->PT)(l:Sl)(n:Int):PT:=λh Q=>
 ∃ (I:Int->Hp->Prop) (m:Int->Hp->Nat),I 0 h/\(∀ n1:Int,∀ h1:Hp,I n1 h1->par (n1<(l.n:Int)) (ix l.a n1 l.n λb o=>ldS h1 b (o+n1.toNat) λl1=>T161 l1 n h1 λr h2=>retI .i64 r λn2=>par ((0:Int)<=n2) (Q (.bool true) h2) (I (wrap .i64 (n1+1)) h2/\m (wrap .i64 (n1+1)) h2<m n1 h1)) (Q (.bool false) h1))
def F162.T:=F162.G F161.T
theorem F162.gen(V T161 l n):denF Tryz.prog [] [(161,F161.W T161)] V [(26,.loop [(5,.int .i64)] [])] Tryz.f162 [.v (.slice l.a l.n l.c),.v (.int .u64 n)]=F162.G T161 l n:=by kernel_rfl
def F162.W(T162:Sl->Int->PT)(args:List Value):PT:=match args with
 |[.slice l_a l_n l_c,.int .u64 n]=>T162 ⟨l_a,l_n,l_c⟩ n
 |_=>λ_ _=>False
def F162.V:List Value->PT:=F162.W F162.T
theorem F162.ok:FOk Tryz.prog 162 F162.V:=by
 refine⟨⟨_,Tryz.func162,rfl,rfl⟩,λ_=>?_⟩;unfold F162.V F162.W;split;exact denF_okE (GOk.cons F161.ok (GOk.nil)) noV_ok Tryz.func162 (F162.gen noV F161.T ⟨_,_,_⟩ _);exact λ_ _ h=>h.elim
@[reducible] def F164.G(T163:ByteArray->ByteArray->PT)(l:Sl):PT:=λh Q=>
 ∃ (I:Sl->Int->Hp->Prop) (m:Sl->Int->Hp->Nat),I ⟨none,0,0⟩ 0 h/\(∀ l1:Sl,∀ n:Int,∀ h1:Hp,I l1 n h1->par (n<(l.n:Int)) (∃ (I1:Int->Hp->Prop) (m1:Int->Hp->Nat),I1 (l1.n:Int) h1/\(∀ n1:Int,∀ h2:Hp,I1 n1 h2->par ((0:Int)<n1) (ix l1.a (wrap .i64 (n1-1)) l1.n λb o=>ldT h2 b ((o+((wrap .i64 (n1-1))).toNat*6)+4) λs=>ix l.a n l.n λb1 o1=>ldT h2 b1 ((o1+n.toNat*6)+4) λs1=>T163 s s1 h2 λr h3=>retB r (I1 (wrap .i64 (n1-1)) h3/\m1 (wrap .i64 (n1-1)) h3<m1 n1 h2) (Sl.okCut l1 0 n1 (l1.c:Int)/\∃ vs,h3.row ((Sl.cut l1 6 0 n1 (l1.c:Int)).a) (((Sl.cut l1 6 0 n1 (l1.c:Int)).n)*6) vs/\(∀ v∈vs,Value.oneCell' v=true)/\appendD ⟨none,0,0⟩ 63 6 64 [.int .u64 0,.int .i64 0,.int .i64 0,.int .i64 0,.string ⟨#[]⟩,.string ⟨#[]⟩] ((Sl.cut l1 6 0 n1 (l1.c:Int)).n) vs h3 λl2 h4=>ix l.a n l.n λb2 o2=>ldI .u64 h4 b2 (o2+n.toNat*6) λn2=>ldI .i64 h4 b2 ((o2+n.toNat*6)+1) λn3=>ldI .i64 h4 b2 ((o2+n.toNat*6)+2) λn4=>ldI .i64 h4 b2 ((o2+n.toNat*6)+3) λn5=>ldT h4 b2 ((o2+n.toNat*6)+4) λs2=>ldT h4 b2 ((o2+n.toNat*6)+5) λs3=>appendD l2 63 6 64 [.int .u64 0,.int .i64 0,.int .i64 0,.int .i64 0,.string ⟨#[]⟩,.string ⟨#[]⟩] 1 [.int .u64 n2,.int .i64 n3,.int .i64 n4,.int .i64 n5,.string s2,.string s3] h4 λl3 h5=>Sl.okCut l1 n1 (l1.n:Int) (l1.c:Int)/\∃ vs1,h5.row ((Sl.cut l1 6 n1 (l1.n:Int) (l1.c:Int)).a) (((Sl.cut l1 6 n1 (l1.n:Int) (l1.c:Int)).n)*6) vs1/\(∀ v∈vs1,Value.oneCell' v=true)/\appendD l3 63 6 64 [.int .u64 0,.int .i64 0,.int .i64 0,.int .i64 0,.string ⟨#[]⟩,.string ⟨#[]⟩] ((Sl.cut l1 6 n1 (l1.n:Int) (l1.c:Int)).n) vs1 h5 λl4 h6=>I l4 (wrap .i64 (n+1)) h6/\m l4 (wrap .i64 (n+1)) h6<m l1 n h1)) (Sl.okCut l1 0 n1 (l1.c:Int)/\∃ vs2,h2.row ((Sl.cut l1 6 0 n1 (l1.c:Int)).a) (((Sl.cut l1 6 0 n1 (l1.c:Int)).n)*6) vs2/\(∀ v∈vs2,Value.oneCell' v=true)/\appendD ⟨none,0,0⟩ 63 6 64 [.int .u64 0,.int .i64 0,.int .i64 0,.int .i64 0,.string ⟨#[]⟩,.string ⟨#[]⟩] ((Sl.cut l1 6 0 n1 (l1.c:Int)).n) vs2 h2 λl5 h7=>ix l.a n l.n λb3 o3=>ldI .u64 h7 b3 (o3+n.toNat*6) λn6=>ldI .i64 h7 b3 ((o3+n.toNat*6)+1) λn7=>ldI .i64 h7 b3 ((o3+n.toNat*6)+2) λn8=>ldI .i64 h7 b3 ((o3+n.toNat*6)+3) λn9=>ldT h7 b3 ((o3+n.toNat*6)+4) λs4=>ldT h7 b3 ((o3+n.toNat*6)+5) λs5=>appendD l5 63 6 64 [.int .u64 0,.int .i64 0,.int .i64 0,.int .i64 0,.string ⟨#[]⟩,.string ⟨#[]⟩] 1 [.int .u64 n6,.int .i64 n7,.int .i64 n8,.int .i64 n9,.string s4,.string s5] h7 λl6 h8=>Sl.okCut l1 n1 (l1.n:Int) (l1.c:Int)/\∃ vs3,h8.row ((Sl.cut l1 6 n1 (l1.n:Int) (l1.c:Int)).a) (((Sl.cut l1 6 n1 (l1.n:Int) (l1.c:Int)).n)*6) vs3/\(∀ v∈vs3,Value.oneCell' v=true)/\appendD l6 63 6 64 [.int .u64 0,.int .i64 0,.int .i64 0,.int .i64 0,.string ⟨#[]⟩,.string ⟨#[]⟩] ((Sl.cut l1 6 n1 (l1.n:Int) (l1.c:Int)).n) vs3 h8 λl7 h9=>I l7 (wrap .i64 (n+1)) h9/\m l7 (wrap .i64 (n+1)) h9<m l1 n h1))) (Q (.slice l1.a l1.n l1.c) h1))
def F164.T:=F164.G F163.T
theorem F164.gen(V T163 l):denF Tryz.prog [43] [(163,F163.W T163)] V [(58,.loop [(3,.sl),(4,.int .i64)] []),(7460,.loop [(5,.int .i64)] []),(59680,.order [0,1,2,3,4,5,6,7,8,9,10,11,12,13,14,15])] Tryz.f164 [.v (.slice l.a l.n l.c)]=F164.G T163 l:=by kernel_rfl
def F164.W(T164:Sl->PT)(args:List Value):PT:=match args with
 |[.slice l_a l_n l_c]=>T164 ⟨l_a,l_n,l_c⟩
 |_=>λ_ _=>False
def F164.V:List Value->PT:=F164.W F164.T
theorem F164.ok:FOk Tryz.prog 164 F164.V:=by
 refine⟨⟨_,Tryz.func164,rfl,rfl⟩,λ_=>?_⟩;unfold F164.V F164.W;split;exact denF_okE (GOk.cons F163.ok (GOk.nil)) noV_ok Tryz.func164 (F164.gen noV F163.T ⟨_,_,_⟩);exact λ_ _ h=>h.elim
@[reducible] def F165.G(T162:Sl->Int->PT)(p:Option Addr)(n:Int):PT:=λh Q=>
 dr p λb o=>ldS h b (o+1) λl=>T162 l n h λr h1=>retB r (Q (.bool true) h1) (Q (.bool false) h1)
def F165.T:=F165.G F162.T
theorem F165.gen(V T162 p n):denF Tryz.prog [] [(162,F162.W T162)] V [] Tryz.f165 [.v (.pointer p),.v (.int .u64 n)]=F165.G T162 p n:=by kernel_rfl
def F165.W(T165:Option Addr->Int->PT)(args:List Value):PT:=match args with
 |[.pointer p,.int .u64 n]=>T165 p n
 |_=>λ_ _=>False
def F165.V:List Value->PT:=F165.W F165.T
theorem F165.ok:FOk Tryz.prog 165 F165.V:=by
 refine⟨⟨_,Tryz.func165,rfl,rfl⟩,λ_=>?_⟩;unfold F165.V F165.W;split;exact denF_okE (GOk.cons F162.ok (GOk.nil)) noV_ok Tryz.func165 (F165.gen noV F162.T _ _);exact λ_ _ h=>h.elim
def F166.T(l:Sl)(n:Int):PT:=λh Q=>
 ∃ (I:Sl->Int->Hp->Prop) (m:Sl->Int->Hp->Nat),I ⟨none,0,0⟩ 0 h/\(∀ l1:Sl,∀ n1:Int,∀ h1:Hp,I l1 n1 h1->par (n1<(l.n:Int)) (ix l.a n1 l.n λb o=>ldI .u64 h1 b (o+n1.toNat) λn2=>par (n2<n) (ix l.a n1 l.n λb1 o1=>ldI .u64 h1 b1 (o1+n1.toNat) λn3=>appendD l1 48 1 8 [.int .u64 0] 1 [.int .u64 n3] h1 λl2 h2=>I l2 (wrap .i64 (n1+1)) h2/\m l2 (wrap .i64 (n1+1)) h2<m l1 n1 h1) (appendD l1 48 1 8 [.int .u64 0] 1 [.int .u64 n] h1 λl3 h3=>Sl.okCut l n1 (l.n:Int) (l.c:Int)/\∃ vs,h3.row ((Sl.cut l 1 n1 (l.n:Int) (l.c:Int)).a) (((Sl.cut l 1 n1 (l.n:Int) (l.c:Int)).n)*1) vs/\(∀ v∈vs,Value.oneCell' v=true)/\appendD l3 48 1 8 [.int .u64 0] ((Sl.cut l 1 n1 (l.n:Int) (l.c:Int)).n) vs h3 λl4 h4=>Q (.slice l4.a l4.n l4.c) h4)) (appendD l1 48 1 8 [.int .u64 0] 1 [.int .u64 n] h1 λl5 h5=>Sl.okCut l n1 (l.n:Int) (l.c:Int)/\∃ vs1,h5.row ((Sl.cut l 1 n1 (l.n:Int) (l.c:Int)).a) (((Sl.cut l 1 n1 (l.n:Int) (l.c:Int)).n)*1) vs1/\(∀ v∈vs1,Value.oneCell' v=true)/\appendD l5 48 1 8 [.int .u64 0] ((Sl.cut l 1 n1 (l.n:Int) (l.c:Int)).n) vs1 h5 λl6 h6=>Q (.slice l6.a l6.n l6.c) h6))
theorem F166.den(V l n):denF Tryz.prog [24,30] [] V [(60,.loop [(5,.sl),(6,.int .i64)] [])] Tryz.f166 [.v (.slice l.a l.n l.c),.v (.int .u64 n)]=F166.T l n:=by kernel_rfl
def F166.W(T166:Sl->Int->PT)(args:List Value):PT:=match args with
 |[.slice l_a l_n l_c,.int .u64 n]=>T166 ⟨l_a,l_n,l_c⟩ n
 |_=>λ_ _=>False
def F166.V:List Value->PT:=F166.W F166.T
theorem F166.ok:FOk Tryz.prog 166 F166.V:=by
 refine⟨⟨_,Tryz.func166,rfl,rfl⟩,λ_=>?_⟩;unfold F166.V F166.W;split;exact denF_okE (GOk.nil) noV_ok Tryz.func166 (F166.den noV ⟨_,_,_⟩ _);exact λ_ _ h=>h.elim
def F120.T(p:Option Addr)(n:Int):PT:=λh Q=>
 par (n<0) (Q (.slice none 0 0) h) (dr p λb o=>ldS h b (o+1) λl=>par ((l.n:Int)<=n) (Q (.slice none 0 0) h) (dr p λb1 o1=>ldS h b1 (o1+1) λl1=>ix l1.a n l1.n λb2 o2=>ldS h b2 (o2+n.toNat) λl2=>∃ vs,h.row l2.a (l2.n*6) vs/\(∀ v∈vs,Value.oneCell' v=true)/\appendD ⟨none,0,0⟩ 63 6 64 [.int .u64 0,.int .i64 0,.int .i64 0,.int .i64 0,.string ⟨#[]⟩,.string ⟨#[]⟩] l2.n vs h λl3 h1=>Q (.slice l3.a l3.n l3.c) h1))
theorem F120.den(V p n):denF Tryz.prog [] [] V [] Tryz.f120 [.v (.pointer p),.v (.int .i64 n)]=F120.T p n:=by kernel_rfl
def F120.W(T120:Option Addr->Int->PT)(args:List Value):PT:=match args with
 |[.pointer p,.int .i64 n]=>T120 p n
 |_=>λ_ _=>False
def F120.V:List Value->PT:=F120.W F120.T
theorem F120.ok:FOk Tryz.prog 120 F120.V:=by
 refine⟨⟨_,Tryz.func120,rfl,rfl⟩,λ_=>?_⟩;unfold F120.V F120.W;split;exact denF_okE (GOk.nil) noV_ok Tryz.func120 (F120.den noV _ _);exact λ_ _ h=>h.elim
def F117.T(p:Option Addr):PT:=λh Q=>
 dr p λb o=>ldS h b (o+1) λl=>Q (.int .i64 (l.n:Int)) h
theorem F117.den(V p):denF Tryz.prog [] [] V [] Tryz.f117 [.v (.pointer p)]=F117.T p:=by kernel_rfl
def F117.W(T117:Option Addr->PT)(args:List Value):PT:=match args with
 |[.pointer p]=>T117 p
 |_=>λ_ _=>False
def F117.V:List Value->PT:=F117.W F117.T
theorem F117.ok:FOk Tryz.prog 117 F117.V:=by
 refine⟨⟨_,Tryz.func117,rfl,rfl⟩,λ_=>?_⟩;unfold F117.V F117.W;split;exact denF_okE (GOk.nil) noV_ok Tryz.func117 (F117.den noV _);exact λ_ _ h=>h.elim
@[reducible] def F118.G(T120:Option Addr->Int->PT)(p:Option Addr)(n:Int):PT:=λh Q=>
 T120 p n h λr h1=>retS r λl=>∃ (I:Int->Int->Hp->Prop) (m:Int->Int->Hp->Nat),I 0 0 h1/\(∀ n1 n2:Int,∀ h2:Hp,I n1 n2 h2->par (n2<(l.n:Int)) (ix l.a n2 l.n λb o=>ldI .i64 h2 b ((o+n2.toNat*6)+1) λn3=>I (wrap .i64 (n1+n3)) (wrap .i64 (n2+1)) h2/\m (wrap .i64 (n1+n3)) (wrap .i64 (n2+1)) h2<m n1 n2 h2) (Q (.int .i64 n1) h2))
def F118.T:=F118.G F120.T
theorem F118.gen(V T120 p n):denF Tryz.prog [] [(120,F120.W T120)] V [(122,.loop [(6,.int .i64),(7,.int .i64)] [])] Tryz.f118 [.v (.pointer p),.v (.int .i64 n)]=F118.G T120 p n:=by kernel_rfl
def F118.W(T118:Option Addr->Int->PT)(args:List Value):PT:=match args with
 |[.pointer p,.int .i64 n]=>T118 p n
 |_=>λ_ _=>False
def F118.V:List Value->PT:=F118.W F118.T
theorem F118.ok:FOk Tryz.prog 118 F118.V:=by
 refine⟨⟨_,Tryz.func118,rfl,rfl⟩,λ_=>?_⟩;unfold F118.V F118.W;split;exact denF_okE (GOk.cons F120.ok (GOk.nil)) noV_ok Tryz.func118 (F118.gen noV F120.T _ _);exact λ_ _ h=>h.elim
@[reducible] def F121.G(T120:Option Addr->Int->PT)(T163:ByteArray->ByteArray->PT)(p:Option Addr)(n:Int)(s s1:ByteArray):PT:=λh Q=>
 T120 p n h λr h1=>retS r λl=>∃ (I:Sl->Int->Hp->Prop) (m:Sl->Int->Hp->Nat),I ⟨none,0,0⟩ 0 h1/\(∀ l1:Sl,∀ n1:Int,∀ h2:Hp,I l1 n1 h2->par (n1<(l.n:Int)) (ix l.a n1 l.n λb o=>ldT h2 b ((o+n1.toNat*6)+5) λs2=>T163 s s2 h2 λr1 h3=>retB r1 (I l1 (wrap .i64 (n1+1)) h3/\m l1 (wrap .i64 (n1+1)) h3<m l1 n1 h2) (ix l.a n1 l.n λb1 o1=>ldT h3 b1 ((o1+n1.toNat*6)+4) λs3=>T163 s3 s1 h3 λr2 h4=>retB r2 (I l1 (wrap .i64 (n1+1)) h4/\m l1 (wrap .i64 (n1+1)) h4<m l1 n1 h2) (ix l.a n1 l.n λb2 o2=>ldI .u64 h4 b2 (o2+n1.toNat*6) λn2=>ldI .i64 h4 b2 ((o2+n1.toNat*6)+1) λn3=>ldI .i64 h4 b2 ((o2+n1.toNat*6)+2) λn4=>ldI .i64 h4 b2 ((o2+n1.toNat*6)+3) λn5=>ldT h4 b2 ((o2+n1.toNat*6)+4) λs4=>ldT h4 b2 ((o2+n1.toNat*6)+5) λs5=>appendD l1 63 6 64 [.int .u64 0,.int .i64 0,.int .i64 0,.int .i64 0,.string ⟨#[]⟩,.string ⟨#[]⟩] 1 [.int .u64 n2,.int .i64 n3,.int .i64 n4,.int .i64 n5,.string s4,.string s5] h4 λl2 h5=>I l2 (wrap .i64 (n1+1)) h5/\m l2 (wrap .i64 (n1+1)) h5<m l1 n1 h2))) (Q (.slice l1.a l1.n l1.c) h2))
def F121.T:=F121.G F120.T F163.T
theorem F121.gen(V T120 T163 p n s s1):denF Tryz.prog [44] [(120,F120.W T120),(163,F163.W T163)] V [(122,.loop [(10,.sl),(11,.int .i64)] [])] Tryz.f121 [.v (.pointer p),.v (.int .i64 n),.v (.string s),.v (.string s1)]=F121.G T120 T163 p n s s1:=by kernel_rfl
def F121.W(T121:Option Addr->Int->ByteArray->ByteArray->PT)(args:List Value):PT:=match args with
 |[.pointer p,.int .i64 n,.string s,.string s1]=>T121 p n s s1
 |_=>λ_ _=>False
def F121.V:List Value->PT:=F121.W F121.T
theorem F121.ok:FOk Tryz.prog 121 F121.V:=by
 refine⟨⟨_,Tryz.func121,rfl,rfl⟩,λ_=>?_⟩;unfold F121.V F121.W;split;exact denF_okE (GOk.cons F120.ok (GOk.cons F163.ok (GOk.nil))) noV_ok Tryz.func121 (F121.gen noV F120.T F163.T _ _ _ _);exact λ_ _ h=>h.elim
@[reducible] def F122.G(T121:Option Addr->Int->ByteArray->ByteArray->PT)(p:Option Addr)(n:Int)(s:ByteArray):PT:=λh Q=>
 T121 p n s s h λr h1=>retS r λl=>par (n=0) (∃ (I:Sl->Int->Hp->Prop) (m:Sl->Int->Hp->Nat),I ⟨none,0,0⟩ (wrap .i64 ((l.n:Int)-1)) h1/\(∀ l1:Sl,∀ n1:Int,∀ h2:Hp,I l1 n1 h2->par ((0:Int)<=n1) (ix l.a n1 l.n λb o=>ldI .u64 h2 b (o+n1.toNat*6) λn2=>ldI .i64 h2 b ((o+n1.toNat*6)+1) λn3=>ldI .i64 h2 b ((o+n1.toNat*6)+2) λn4=>ldI .i64 h2 b ((o+n1.toNat*6)+3) λn5=>ldT h2 b ((o+n1.toNat*6)+4) λs1=>ldT h2 b ((o+n1.toNat*6)+5) λs2=>appendD l1 63 6 64 [.int .u64 0,.int .i64 0,.int .i64 0,.int .i64 0,.string ⟨#[]⟩,.string ⟨#[]⟩] 1 [.int .u64 n2,.int .i64 n3,.int .i64 n4,.int .i64 n5,.string s1,.string s2] h2 λl2 h3=>I l2 (wrap .i64 (n1-1)) h3/\m l2 (wrap .i64 (n1-1)) h3<m l1 n1 h2) (Q (.slice l1.a l1.n l1.c) h2))) (Q (.slice l.a l.n l.c) h1)
def F122.T:=F122.G F121.T
theorem F122.gen(V T121 p n s):denF Tryz.prog [30] [(121,F121.W T121)] V [(250,.loop [(8,.sl),(9,.int .i64)] [])] Tryz.f122 [.v (.pointer p),.v (.int .i64 n),.v (.string s)]=F122.G T121 p n s:=by kernel_rfl
def F122.W(T122:Option Addr->Int->ByteArray->PT)(args:List Value):PT:=match args with
 |[.pointer p,.int .i64 n,.string s]=>T122 p n s
 |_=>λ_ _=>False
def F122.V:List Value->PT:=F122.W F122.T
theorem F122.ok:FOk Tryz.prog 122 F122.V:=by
 refine⟨⟨_,Tryz.func122,rfl,rfl⟩,λ_=>?_⟩;unfold F122.V F122.W;split;exact denF_okE (GOk.cons F121.ok (GOk.nil)) noV_ok Tryz.func122 (F122.gen noV F121.T _ _ _);exact λ_ _ h=>h.elim
def F26.T(n:Int):PT:=λh Q=>
 ∃ J:Int->Hp->Prop,(∀ n1:Int,∀ h1:Hp,J n1 h1->∃ J1:Int->Hp->Prop,(∀ n2:Int,∀ h2:Hp,J1 n2 h2->nw h2 (.cells ⟨[.int .i64 0,.slice none 0 0]⟩ 152 (0,0)) λb h3=>nw h3 (.cells ⟨[.pointer (some ⟨b,0,none⟩),.slice none 0 0,.slice none 0 0,.slice none 0 0]⟩ 154 (0,0)) λb1 h4=>∃ (I:Int->Hp->Prop) (m:Int->Hp->Nat),I 0 h4/\(∀ n3:Int,∀ h5:Hp,I n3 h5->par (n3<n2) (ldP h5 b1 0 λp=>ldP h5 b1 0 λp1=>dr p1 λb2 o=>ldS h5 b2 (o+1) λl=>h5.at b1 0=some (.pointer p)/\h5.at b1 0=some (.pointer p1)/\h5.at b2 (o+1)=some (.slice l.a l.n l.c)/\appendD l 77 1 24 [.slice none 0 0] 1 [.slice none 0 0] h5 λl1 h6=>h6.at b1 0=some (.pointer p)/\dr p λb3 o1=>st h6 b3 (o1+1) 1 [.slice l1.a l1.n l1.c] λh7=>ldS h7 b1 3 λl2=>appendD l2 9 1 16 [.string ⟨#[]⟩] 1 [.string ⟨#[]⟩] h7 λl3 h8=>st h8 b1 3 1 [.slice l3.a l3.n l3.c] λh9=>I (wrap .i64 (n3+1)) h9/\m (wrap .i64 (n3+1)) h9<m n3 h5) (ldS h5 b1 1 λl4=>ldP h5 b1 0 λp2=>h5.at b1 1=some (.slice l4.a l4.n l4.c)/\appendD l4 97 1 8 [.pointer none] 1 [.pointer p2] h5 λl5 h10=>st h10 b1 1 1 [.slice l5.a l5.n l5.c] λh11=>ldS h11 b1 2 λl6=>appendD l6 3 1 8 [.int .i64 0] 1 [.int .i64 0] h11 λl7 h12=>st h12 b1 2 1 [.slice l7.a l7.n l7.c] λh13=>Q (.pointer (some ⟨b1,0,none⟩)) h13)))/\(par ((5:Int)<n1) (J1 5 h1) (J1 n1 h1)))/\(par (n<1) (J 1 h) (J n h))
theorem F26.den(V n):denF Tryz.prog [29,38,51,60] [] V [(3,.join [(0,.int .i64)] []),(7,.join [(0,.int .i64)] []),(126,.order [0,1,2,3,4,5,6,7,8,9,10,11,12,13]),(250,.loop [(4,.int .i64)] []),(8008,.order [0,1,2,3,4,5,6,7,8,9,10,11,12,13,14,15])] Tryz.f26 [.v (.int .i64 n)]=F26.T n:=by kernel_rfl
def F26.W(T26:Int->PT)(args:List Value):PT:=match args with
 |[.int .i64 n]=>T26 n
 |_=>λ_ _=>False
def F26.V:List Value->PT:=F26.W F26.T
theorem F26.ok:FOk Tryz.prog 26 F26.V:=by
 refine⟨⟨_,Tryz.func26,rfl,rfl⟩,λ_=>?_⟩;unfold F26.V F26.W;split;exact denF_okE (GOk.nil) noV_ok Tryz.func26 (F26.den noV _);exact λ_ _ h=>h.elim
def F28.T(p:Option Addr):PT:=λh Q=>
 dr p λb o=>ldP h b o λp1=>Q (.pointer p1) h
theorem F28.den(V p):denF Tryz.prog [] [] V [] Tryz.f28 [.v (.pointer p)]=F28.T p:=by kernel_rfl
def F28.W(T28:Option Addr->PT)(args:List Value):PT:=match args with
 |[.pointer p]=>T28 p
 |_=>λ_ _=>False
def F28.V:List Value->PT:=F28.W F28.T
theorem F28.ok:FOk Tryz.prog 28 F28.V:=by
 refine⟨⟨_,Tryz.func28,rfl,rfl⟩,λ_=>?_⟩;unfold F28.V F28.W;split;exact denF_okE (GOk.nil) noV_ok Tryz.func28 (F28.den noV _);exact λ_ _ h=>h.elim
def F41.T(p:Option Addr):PT:=λh Q=>
 dr p λb o=>ldS h b (o+2) λl=>dr p λb1 o1=>ldP h b1 o1 λp1=>dr p1 λb2 o2=>ldI .i64 h b2 o2 λn=>ix l.a n l.n λb3 o3=>ldI .i64 h b3 (o3+n.toNat) λn1=>ix l.a n l.n λb4 o4=>st h b4 (o4+n.toNat) 1 [.int .i64 (wrap .i64 (n1+1))] λh1=>dr p λb5 o5=>ldP h1 b5 o5 λp2=>Q (.pointer p2) h1
theorem F41.den(V p):denF Tryz.prog [] [] V [(6,.order [0,1,2,3,4,5,6,7,8,9,10,11,12,13,14,15])] Tryz.f41 [.v (.pointer p)]=F41.T p:=by kernel_rfl
def F41.W(T41:Option Addr->PT)(args:List Value):PT:=match args with
 |[.pointer p]=>T41 p
 |_=>λ_ _=>False
def F41.V:List Value->PT:=F41.W F41.T
theorem F41.ok:FOk Tryz.prog 41 F41.V:=by
 refine⟨⟨_,Tryz.func41,rfl,rfl⟩,λ_=>?_⟩;unfold F41.V F41.W;split;exact denF_okE (GOk.nil) noV_ok Tryz.func41 (F41.den noV _);exact λ_ _ h=>h.elim
def F47.T(p:Option Addr):PT:=λh Q=>
 dr p λb o=>ldS h b (o+3) λl=>∃ vs,h.row l.a (l.n*1) vs/\(∀ v∈vs,Value.oneCell' v=true)/\appendD ⟨none,0,0⟩ 9 1 16 [.string ⟨#[]⟩] l.n vs h λl1 h1=>Q (.slice l1.a l1.n l1.c) h1
theorem F47.den(V p):denF Tryz.prog [] [] V [] Tryz.f47 [.v (.pointer p)]=F47.T p:=by kernel_rfl
def F47.W(T47:Option Addr->PT)(args:List Value):PT:=match args with
 |[.pointer p]=>T47 p
 |_=>λ_ _=>False
def F47.V:List Value->PT:=F47.W F47.T
theorem F47.ok:FOk Tryz.prog 47 F47.V:=by
 refine⟨⟨_,Tryz.func47,rfl,rfl⟩,λ_=>?_⟩;unfold F47.V F47.W;split;exact denF_okE (GOk.nil) noV_ok Tryz.func47 (F47.den noV _);exact λ_ _ h=>h.elim
@[reducible] def F99.G(T161 T162:Sl->Int->PT)(T163:ByteArray->ByteArray->PT)(T164:Sl->PT)(l:Sl)(n n1 n2:Int)(l1 l2 l3:Sl):PT:=λh Q=>
 ∃ (I:Sl->Int->Hp->Prop) (m:Sl->Int->Hp->Nat),I ⟨none,0,0⟩ 0 h/\(∀ l4:Sl,∀ n3:Int,∀ h1:Hp,I l4 n3 h1->par (n3<(l.n:Int)) (ix l.a n3 l.n λb o=>ldS h1 b (o+n3.toNat) λl5=>∃ vs,h1.row l5.a (l5.n*6) vs/\(∀ v∈vs,Value.oneCell' v=true)/\appendD ⟨none,0,0⟩ 63 6 64 [.int .u64 0,.int .i64 0,.int .i64 0,.int .i64 0,.string ⟨#[]⟩,.string ⟨#[]⟩] l5.n vs h1 λl6 h2=>appendD l4 77 1 24 [.slice none 0 0] 1 [.slice l6.a l6.n l6.c] h2 λl7 h3=>I l7 (wrap .i64 (n3+1)) h3/\m l7 (wrap .i64 (n3+1)) h3<m l4 n3 h1) (par ((l3.n:Int)=(l4.n:Int)) (∃ (I1:Int->Hp->Prop) (m1:Int->Hp->Nat),I1 0 h1/\(∀ n4:Int,∀ h4:Hp,I1 n4 h4->par (n4<(l1.n:Int)) (ix l1.a n4 l1.n λb1 o1=>ldI .i64 h4 b1 (o1+n4.toNat*2) λn5=>par (n5<0) (Q (.tuple ⟨[.slice none 0 0,.int .i64 133]⟩) h4) (par ((l4.n:Int)<=n5) (Q (.tuple ⟨[.slice none 0 0,.int .i64 133]⟩) h4) (ix l4.a n5 l4.n λb2 o2=>ldS h4 b2 (o2+n5.toNat) λl8=>ix l1.a n4 l1.n λb3 o3=>ldI .u64 h4 b3 ((o3+n4.toNat*2)+1) λn6=>T161 l8 n6 h4 λr h5=>retI .i64 r λn7=>par (n7<0) (Q (.tuple ⟨[.slice none 0 0,.int .i64 130]⟩) h5) (ix l4.a n5 l4.n λb4 o4=>ldS h5 b4 (o4+n5.toNat) λl9=>Sl.okCut l9 0 n7 (l9.c:Int)/\∃ vs1,h5.row ((Sl.cut l9 6 0 n7 (l9.c:Int)).a) (((Sl.cut l9 6 0 n7 (l9.c:Int)).n)*6) vs1/\(∀ v∈vs1,Value.oneCell' v=true)/\appendD ⟨none,0,0⟩ 63 6 64 [.int .u64 0,.int .i64 0,.int .i64 0,.int .i64 0,.string ⟨#[]⟩,.string ⟨#[]⟩] ((Sl.cut l9 6 0 n7 (l9.c:Int)).n) vs1 h5 λl10 h6=>ix l4.a n5 l4.n λb5 o5=>ldS h6 b5 (o5+n5.toNat) λl11=>Sl.okCut l11 (wrap .i64 (n7+1)) (l11.n:Int) (l11.c:Int)/\∃ vs2,h6.row ((Sl.cut l11 6 (wrap .i64 (n7+1)) (l11.n:Int) (l11.c:Int)).a) (((Sl.cut l11 6 (wrap .i64 (n7+1)) (l11.n:Int) (l11.c:Int)).n)*6) vs2/\(∀ v∈vs2,Value.oneCell' v=true)/\appendD l10 63 6 64 [.int .u64 0,.int .i64 0,.int .i64 0,.int .i64 0,.string ⟨#[]⟩,.string ⟨#[]⟩] ((Sl.cut l11 6 (wrap .i64 (n7+1)) (l11.n:Int) (l11.c:Int)).n) vs2 h6 λl12 h7=>ix l4.a n5 l4.n λb6 o6=>st h7 b6 (o6+n5.toNat) 1 [.slice l12.a l12.n l12.c] λh8=>I1 (wrap .i64 (n4+1)) h8/\m1 (wrap .i64 (n4+1)) h8<m1 n4 h4)))) (∃ (I2:Int->Hp->Prop) (m2:Int->Hp->Nat),I2 0 h4/\(∀ n8:Int,∀ h9:Hp,I2 n8 h9->par (n8<(l2.n:Int)) (ix l2.a n8 l2.n λb7 o7=>ldI .i64 h9 b7 (o7+n8.toNat*7) λn9=>par (n9<0) (Q (.tuple ⟨[.slice none 0 0,.int .i64 133]⟩) h9) (par ((l4.n:Int)<=n9) (Q (.tuple ⟨[.slice none 0 0,.int .i64 133]⟩) h9) (ix l2.a n8 l2.n λb8 o8=>ldI .u64 h9 b8 ((o8+n8.toNat*7)+1) λn10=>T162 l4 n10 h9 λr1 h10=>retB r1 (Q (.tuple ⟨[.slice none 0 0,.int .i64 131]⟩) h10) (ix l2.a n8 l2.n λb9 o9=>ldT h10 b9 (((o9+n8.toNat*7)+1)+4) λs=>ix l2.a n8 l2.n λb10 o10=>ldT h10 b10 (((o10+n8.toNat*7)+1)+5) λs1=>T163 s s1 h10 λr2 h11=>retB r2 (Q (.tuple ⟨[.slice none 0 0,.int .i64 132]⟩) h11) (ix l4.a n9 l4.n λb11 o11=>ldS h11 b11 (o11+n9.toNat) λl13=>ix l2.a n8 l2.n λb12 o12=>ldI .u64 h11 b12 ((o12+n8.toNat*7)+1) λn11=>ldI .i64 h11 b12 (((o12+n8.toNat*7)+1)+1) λn12=>ldI .i64 h11 b12 (((o12+n8.toNat*7)+1)+2) λn13=>ldI .i64 h11 b12 (((o12+n8.toNat*7)+1)+3) λn14=>ldT h11 b12 (((o12+n8.toNat*7)+1)+4) λs2=>ldT h11 b12 (((o12+n8.toNat*7)+1)+5) λs3=>h11.at b11 (o11+n9.toNat)=some (.slice l13.a l13.n l13.c)/\appendD l13 63 6 64 [.int .u64 0,.int .i64 0,.int .i64 0,.int .i64 0,.string ⟨#[]⟩,.string ⟨#[]⟩] 1 [.int .u64 n11,.int .i64 n12,.int .i64 n13,.int .i64 n14,.string s2,.string s3] h11 λl14 h12=>ix l4.a n9 l4.n λb13 o13=>st h12 b13 (o13+n9.toNat) 1 [.slice l14.a l14.n l14.c] λh13=>I2 (wrap .i64 (n8+1)) h13/\m2 (wrap .i64 (n8+1)) h13<m2 n8 h9))))) (∃ (I3:Int->Hp->Prop) (m3:Int->Hp->Nat),I3 1 h9/\(∀ n15:Int,∀ h14:Hp,I3 n15 h14->par (n15<(l4.n:Int)) (ix l4.a n15 l4.n λb14 o14=>ldS h14 b14 (o14+n15.toNat) λl15=>T164 l15 h14 λr3 h15=>retS r3 λl16=>ix l4.a n15 l4.n λb15 o15=>st h15 b15 (o15+n15.toNat) 1 [.slice l16.a l16.n l16.c] λh16=>∃ (I4:Int->Hp->Prop) (m4:Int->Hp->Nat),I4 1 h16/\(∀ n16:Int,∀ h17:Hp,I4 n16 h17->ix l4.a n15 l4.n λb16 o16=>ldS h17 b16 (o16+n15.toNat) λl17=>par (n16<(l17.n:Int)) (ix l4.a n15 l4.n λb17 o17=>ldS h17 b17 (o17+n15.toNat) λl18=>ix l18.a n16 l18.n λb18 o18=>ldT h17 b18 ((o18+n16.toNat*6)+4) λs4=>ix l4.a n15 l4.n λb19 o19=>ldS h17 b19 (o19+n15.toNat) λl19=>ix l19.a (wrap .i64 (n16-1)) l19.n λb20 o20=>ldT h17 b20 ((o20+((wrap .i64 (n16-1))).toNat*6)+5) λs5=>T163 s4 s5 h17 λr4 h18=>retB r4 (I4 (wrap .i64 (n16+1)) h18/\m4 (wrap .i64 (n16+1)) h18<m4 n16 h17) (Q (.tuple ⟨[.slice none 0 0,.int .i64 132]⟩) h18)) (I3 (wrap .i64 (n15+1)) h17/\m3 (wrap .i64 (n15+1)) h17<m3 n15 h14))) (Q (.tuple ⟨[.slice l4.a l4.n l4.c,.int .i64 0]⟩) h14))))))) (Q (.tuple ⟨[.slice none 0 0,.int .i64 133]⟩) h1)))
def F99.T:=F99.G F161.T F162.T F163.T F164.T
theorem F99.gen(V T161 T162 T163 T164 l n n1 n2 l1 l2 l3):denF Tryz.prog [3,30,149] [(161,F161.W T161),(162,F162.W T162),(163,F163.W T163),(164,F164.W T164)] V [(58,.loop [(6,.sl),(7,.int .i64)] []),(250,.loop [(9,.int .i64)] []),(506,.loop [(13,.int .i64)] []),(1018,.loop [(15,.int .i64)] []),(32038,.order [0,1,2,3,4,5,6,7,8,9,10,11]),(129615,.order [0,1,2,3,4,5,6,7,8,9,10,11,12,13,14,15]),(130342,.loop [(16,.int .i64)] []),(259228,.order [0,1,2,3,4,5,6,7,8,9,10,11,12,13,14]),(4170952,.order [0,1,2,3,4,5,6,7,8,9,10,11,12,13,14,15,16,17,18])] Tryz.f99 [.v (.slice l.a l.n l.c),.v (.agg ⟨[.int .u64 n,.int .u64 n1,.int .u64 n2,.slice l1.a l1.n l1.c,.slice l2.a l2.n l2.c,.slice l3.a l3.n l3.c]⟩)]=F99.G T161 T162 T163 T164 l n n1 n2 l1 l2 l3:=by kernel_rfl
def F99.W(T99:Sl->Int->Int->Int->Sl->Sl->Sl->PT)(args:List Value):PT:=match args with
 |[.slice l_a l_n l_c,.agg ⟨[.int .u64 n,.int .u64 n1,.int .u64 n2,.slice l1_a l1_n l1_c,.slice l2_a l2_n l2_c,.slice l3_a l3_n l3_c]⟩]=>T99 ⟨l_a,l_n,l_c⟩ n n1 n2 ⟨l1_a,l1_n,l1_c⟩ ⟨l2_a,l2_n,l2_c⟩ ⟨l3_a,l3_n,l3_c⟩
 |_=>λ_ _=>False
def F99.V:List Value->PT:=F99.W F99.T
theorem F99.ok:FOk Tryz.prog 99 F99.V:=by
 refine⟨⟨_,Tryz.func99,rfl,rfl⟩,λ_=>?_⟩;unfold F99.V F99.W;split;exact denF_okE (GOk.cons F161.ok (GOk.cons F162.ok (GOk.cons F163.ok (GOk.cons F164.ok (GOk.nil))))) noV_ok Tryz.func99 (F99.gen noV F161.T F162.T F163.T F164.T ⟨_,_,_⟩ _ _ _ ⟨_,_,_⟩ ⟨_,_,_⟩ ⟨_,_,_⟩);exact λ_ _ h=>h.elim
@[reducible] def F100.G(T165:Option Addr->Int->PT)(T166:Sl->Int->PT)(p p1:Option Addr):PT:=λh Q=>
 ∃ (I:Sl->Int->Hp->Prop) (m:Sl->Int->Hp->Nat),I ⟨none,0,0⟩ 0 h/\(∀ l:Sl,∀ n:Int,∀ h1:Hp,I l n h1->dr p1 λb o=>ldS h1 b (o+1) λl1=>par (n<(l1.n:Int)) (∃ (I1:Sl->Int->Hp->Prop) (m1:Sl->Int->Hp->Nat),I1 l 0 h1/\(∀ l2:Sl,∀ n1:Int,∀ h2:Hp,I1 l2 n1 h2->dr p1 λb1 o1=>ldS h2 b1 (o1+1) λl3=>ix l3.a n l3.n λb2 o2=>ldS h2 b2 (o2+n.toNat) λl4=>par (n1<(l4.n:Int)) (dr p1 λb3 o3=>ldS h2 b3 (o3+1) λl5=>ix l5.a n l5.n λb4 o4=>ldS h2 b4 (o4+n.toNat) λl6=>ix l6.a n1 l6.n λb5 o5=>ldI .u64 h2 b5 (o5+n1.toNat*6) λn2=>dr p λb6 o6=>ldP h2 b6 o6 λp2=>T165 p2 n2 h2 λr h3=>retB r (∃ (I2:Bool->Int->Hp->Prop) (m2:Bool->Int->Hp->Nat),I2 true 0 h3/\((∀ n3:Int,∀ h4:Hp,I2 true n3 h4->dr p λb8 o7=>ldS h4 b8 (o7+1) λl7=>par (n3<(l7.n:Int)) (I1 l2 (wrap .i64 (n1+1)) h4/\m1 l2 (wrap .i64 (n1+1)) h4<m1 l2 n1 h2) (I1 l2 (wrap .i64 (n1+1)) h4/\m1 l2 (wrap .i64 (n1+1)) h4<m1 l2 n1 h2))/\(∀ n3:Int,∀ h4:Hp,I2 false n3 h4->dr p λb9 o8=>ldS h4 b9 (o8+1) λl8=>par (n3<(l8.n:Int)) (dr p λb10 o9=>ldS h4 b10 (o9+2) λl9=>ix l9.a n3 l9.n λb11 o10=>ldI .i64 h4 b11 (o10+n3.toNat) λn4=>par ((0:Int)<n4) (dr p λb12 o11=>ldS h4 b12 (o11+1) λl10=>ix l10.a n3 l10.n λb13 o12=>ldP h4 b13 (o12+n3.toNat) λp3=>T165 p3 n2 h4 λr1 h5=>retB r1 (I2 true (wrap .i64 (n3+1)) h5/\m2 true (wrap .i64 (n3+1)) h5<m2 false n3 h4) (I2 false (wrap .i64 (n3+1)) h5/\m2 false (wrap .i64 (n3+1)) h5<m2 false n3 h4)) (I2 false (wrap .i64 (n3+1)) h4/\m2 false (wrap .i64 (n3+1)) h4<m2 false n3 h4)) (T166 l2 n2 h4 λr2 h6=>retS r2 λl11=>I1 l11 (wrap .i64 (n1+1)) h6/\m1 l11 (wrap .i64 (n1+1)) h6<m1 l2 n1 h2)))) (∃ (I3:Bool->Int->Hp->Prop) (m3:Bool->Int->Hp->Nat),I3 false 0 h3/\((∀ n5:Int,∀ h7:Hp,I3 true n5 h7->dr p λb15 o13=>ldS h7 b15 (o13+1) λl12=>par (n5<(l12.n:Int)) (I1 l2 (wrap .i64 (n1+1)) h7/\m1 l2 (wrap .i64 (n1+1)) h7<m1 l2 n1 h2) (I1 l2 (wrap .i64 (n1+1)) h7/\m1 l2 (wrap .i64 (n1+1)) h7<m1 l2 n1 h2))/\(∀ n5:Int,∀ h7:Hp,I3 false n5 h7->dr p λb16 o14=>ldS h7 b16 (o14+1) λl13=>par (n5<(l13.n:Int)) (dr p λb17 o15=>ldS h7 b17 (o15+2) λl14=>ix l14.a n5 l14.n λb18 o16=>ldI .i64 h7 b18 (o16+n5.toNat) λn6=>par ((0:Int)<n6) (dr p λb19 o17=>ldS h7 b19 (o17+1) λl15=>ix l15.a n5 l15.n λb20 o18=>ldP h7 b20 (o18+n5.toNat) λp4=>T165 p4 n2 h7 λr3 h8=>retB r3 (I3 true (wrap .i64 (n5+1)) h8/\m3 true (wrap .i64 (n5+1)) h8<m3 false n5 h7) (I3 false (wrap .i64 (n5+1)) h8/\m3 false (wrap .i64 (n5+1)) h8<m3 false n5 h7)) (I3 false (wrap .i64 (n5+1)) h7/\m3 false (wrap .i64 (n5+1)) h7<m3 false n5 h7)) (T166 l2 n2 h7 λr4 h9=>retS r4 λl16=>I1 l16 (wrap .i64 (n1+1)) h9/\m1 l16 (wrap .i64 (n1+1)) h9<m1 l2 n1 h2))))) (I l2 (wrap .i64 (n+1)) h2/\m l2 (wrap .i64 (n+1)) h2<m l n h1))) (Q (.slice l.a l.n l.c) h1))
def F100.T:=F100.G F165.T F166.T
theorem F100.gen(V T165 T166 p p1):denF Tryz.prog [] [(165,F165.W T165),(166,F166.W T166)] V [(58,.loop [(5,.sl),(6,.int .i64)] []),(3730,.loop [(5,.sl),(7,.int .i64)] []),(1909914,.loop [(9,.bool),(10,.int .i64)] [])] Tryz.f100 [.v (.pointer p),.v (.pointer p1)]=F100.G T165 T166 p p1:=by kernel_rfl
def F100.W(T100:Option Addr->Option Addr->PT)(args:List Value):PT:=match args with
 |[.pointer p,.pointer p1]=>T100 p p1
 |_=>λ_ _=>False
def F100.V:List Value->PT:=F100.W F100.T
theorem F100.ok:FOk Tryz.prog 100 F100.V:=by
 refine⟨⟨_,Tryz.func100,rfl,rfl⟩,λ_=>?_⟩;unfold F100.V F100.W;split;exact denF_okE (GOk.cons F165.ok (GOk.cons F166.ok (GOk.nil))) noV_ok Tryz.func100 (F100.gen noV F165.T F166.T _ _);exact λ_ _ h=>h.elim
@[reducible] def F34.G(T99:Sl->Int->Int->Int->Sl->Sl->Sl->PT)(T100:Option Addr->Option Addr->PT)(p:Option Addr)(n n1 n2:Int)(l l1 l2:Sl):PT:=λh Q=>
 dr p λb o=>ldP h b o λp1=>dr p1 λb1 o1=>ldS h b1 (o1+1) λl3=>T99 l3 n n1 n2 l l1 l2 h λr h1=>∃ l4:Sl,∃ n3:Int,r=.tuple ⟨[.slice l4.a l4.n l4.c,.int .i64 n3]⟩/\par (n3=0) (dr p λb2 o2=>ldP h1 b2 o2 λp2=>dr p λb3 o3=>ldS h1 b3 (o3+1) λl5=>nw h1 (.cells ⟨[.int .i64 (l5.n:Int),.slice l4.a l4.n l4.c]⟩ 152 (0,0)) λb4 h2=>dr p λb5 o4=>st h2 b5 o4 1 [.pointer (some ⟨b4,0,none⟩)] λh3=>dr p λb6 o5=>ldS h3 b6 (o5+1) λl6=>dr p λb7 o6=>ldP h3 b7 o6 λp3=>h3.at b6 (o5+1)=some (.slice l6.a l6.n l6.c)/\appendD l6 97 1 8 [.pointer none] 1 [.pointer p3] h3 λl7 h4=>dr p λb8 o7=>st h4 b8 (o7+1) 1 [.slice l7.a l7.n l7.c] λh5=>dr p λb9 o8=>ldS h5 b9 (o8+2) λl8=>appendD l8 3 1 8 [.int .i64 0] 1 [.int .i64 0] h5 λl9 h6=>dr p λb10 o9=>st h6 b10 (o9+2) 1 [.slice l9.a l9.n l9.c] λh7=>∃ vs,h7.row l2.a (l2.n*1) vs/\(∀ v∈vs,Value.oneCell' v=true)/\appendD ⟨none,0,0⟩ 9 1 16 [.string ⟨#[]⟩] l2.n vs h7 λl10 h8=>dr p λb11 o10=>st h8 b11 (o10+3) 1 [.slice l10.a l10.n l10.c] λh9=>T100 p p2 h9 λr1 h10=>retS r1 λl11=>Q (.tuple ⟨[.slice l11.a l11.n l11.c,.int .i64 0]⟩) h10) (Q (.tuple ⟨[.slice none 0 0,.int .i64 n3]⟩) h1)
def F34.T:=F34.G F99.T F100.T
theorem F34.gen(V T99 T100 p n n1 n2 l l1 l2):denF Tryz.prog [3,49,58] [(99,F99.W T99),(100,F100.W T100)] V [(6,.order [0,1,2,3,4,5,6,7,8,9,10,11,12,13]),(126,.order [0,1,2,3,4,5,6,7,8,9,10,11,12,13])] Tryz.f34 [.v (.pointer p),.v (.agg ⟨[.int .u64 n,.int .u64 n1,.int .u64 n2,.slice l.a l.n l.c,.slice l1.a l1.n l1.c,.slice l2.a l2.n l2.c]⟩)]=F34.G T99 T100 p n n1 n2 l l1 l2:=by kernel_rfl
def F34.W(T34:Option Addr->Int->Int->Int->Sl->Sl->Sl->PT)(args:List Value):PT:=match args with
 |[.pointer p,.agg ⟨[.int .u64 n,.int .u64 n1,.int .u64 n2,.slice l_a l_n l_c,.slice l1_a l1_n l1_c,.slice l2_a l2_n l2_c]⟩]=>T34 p n n1 n2 ⟨l_a,l_n,l_c⟩ ⟨l1_a,l1_n,l1_c⟩ ⟨l2_a,l2_n,l2_c⟩
 |_=>λ_ _=>False
def F34.V:List Value->PT:=F34.W F34.T
theorem F34.ok:FOk Tryz.prog 34 F34.V:=by
 refine⟨⟨_,Tryz.func34,rfl,rfl⟩,λ_=>?_⟩;unfold F34.V F34.W;split;exact denF_okE (GOk.cons F99.ok (GOk.cons F100.ok (GOk.nil))) noV_ok Tryz.func34 (F34.gen noV F99.T F100.T _ _ _ _ ⟨_,_,_⟩ ⟨_,_,_⟩ ⟨_,_,_⟩);exact λ_ _ h=>h.elim
@[reducible] def F44.G(T100:Option Addr->Option Addr->PT)(p p1:Option Addr):PT:=λh Q=>
 okPtr h p1 none/\par ((p1:Option Addr)=none) (Q (.slice none 0 0) h) (dr p1 λb o=>ldI .i64 h b o λn=>dr p λb1 o1=>ldS h b1 (o1+1) λl=>par ((l.n:Int)<=n) (Q (.slice none 0 0) h) (dr p λb2 o2=>ldS h b2 (o2+1) λl1=>dr p1 λb3 o3=>ldI .i64 h b3 o3 λn1=>ix l1.a n1 l1.n λb4 o4=>ldP h b4 (o4+n1.toNat) λp2=>okPtr h p2 p1/\par ((p2:Option Addr)=p1) (dr p λb5 o5=>ldS h b5 (o5+2) λl2=>dr p1 λb6 o6=>ldI .i64 h b6 o6 λn2=>ix l2.a n2 l2.n λb7 o7=>ldI .i64 h b7 (o7+n2.toNat) λn3=>par (n3=0) (Q (.slice none 0 0) h) (dr p λb8 o8=>ldS h b8 (o8+2) λl3=>dr p1 λb9 o9=>ldI .i64 h b9 o9 λn4=>ix l3.a n4 l3.n λb10 o10=>ldI .i64 h b10 (o10+n4.toNat) λn5=>ix l3.a n4 l3.n λb11 o11=>st h b11 (o11+n4.toNat) 1 [.int .i64 (wrap .i64 (n5-1))] λh1=>T100 p p1 h1 λr h2=>retS r λl4=>Q (.slice l4.a l4.n l4.c) h2)) (Q (.slice none 0 0) h)))
def F44.T:=F44.G F100.T
theorem F44.gen(V T100 p p1):denF Tryz.prog [] [(100,F100.W T100)] V [(12,.order [0,1,2,3,4,5,6,7,8,9,10,11,12,13,14,15,16,17,18,19,20,21,22,23,24,25,26,27,28,29,30,31,32,33,34,35,36,37,38,39,40]),(14,.order [0,1,2,3,4,5,6,7,8,9,10,11,12])] Tryz.f44 [.v (.pointer p),.v (.pointer p1)]=F44.G T100 p p1:=by kernel_rfl
def F44.W(T44:Option Addr->Option Addr->PT)(args:List Value):PT:=match args with
 |[.pointer p,.pointer p1]=>T44 p p1
 |_=>λ_ _=>False
def F44.V:List Value->PT:=F44.W F44.T
theorem F44.ok:FOk Tryz.prog 44 F44.V:=by
 refine⟨⟨_,Tryz.func44,rfl,rfl⟩,λ_=>?_⟩;unfold F44.V F44.W;split;exact denF_okE (GOk.cons F100.ok (GOk.nil)) noV_ok Tryz.func44 (F44.gen noV F100.T _ _);exact λ_ _ h=>h.elim
end Go.Eng.YtbjnlacacapjiaaGreatDoor
end
section
namespace Go.Eng.YtbjnlacacapjiaaGreatDoor
theorem lcmp_app:∀ (P A B:List UInt8),lcmp (P++A) (P++B)=lcmp A B
 |[],A,B=>rfl
 |p::P,A,B=>by rw[List.cons_append,List.cons_append,lcmp_cons,if_neg u8_irr,if_neg u8_irr,lcmp_app P A B]
theorem bt_get{s:ByteArray}{i:Nat}(hi:i<s.size):bt s (i:Int)=((s.data.toList[i]'hi).toNat:Int):=by
 unfold bt
 rw[dif_pos (show(i:Int).toNat<s.size from hi)]
 rfl
theorem less_spec{h:Hp}{s t:ByteArray}{Q:Value->Hp->Prop}(hs:s.size<=9223372036854775807)(hT:Bl s t->Q (.bool true) h)(hF:¬ Bl s t->Q (.bool false) h):F231.T s t h Q:=by
 refine⟨λn g=>g=h/\∃ (P A B:List UInt8),s.data.toList=P++A/\t.data.toList=P++B/\n=(P.length:Int),λn _=>s.size-n.toNat,⟨rfl,[],s.data.toList,t.data.toList,rfl,rfl,rfl⟩,?_⟩
 rintro n g ⟨rfl,P,A,B,eA,eB,rfl⟩
 have lA:=congrArg List.length eA
 have lB:=congrArg List.length eB
 rw[length_append,Array.length_toList] at lA lB
 have sA:s.size=P.length+A.length:=lA
 have sB:t.size=P.length+B.length:=lB
 have hcmp:cmpI s t=lcmp A B:=by rw[cmpI_eq,eA,eB,lcmp_app]
 have fin:(A=[]\/B=[])->par ((s.size:Int)<(t.size:Int)) (Q (.bool true) g) (Q (.bool false) g):=λhab=>by
  refine⟨λhlt=>hT ?_,λhge=>hF ?_⟩
  ·unfold Bl;rw[hcmp]
   rcases A with _|⟨a,A⟩
   ·rcases B with _|⟨b,B⟩
    ·simp at sA sB;omega
    ·show(-1:Int)<0;decide
   ·rcases hab with hab|hab
    ·cases hab
    ·subst hab;simp at sA sB;omega
  ·unfold Bl;rw[hcmp]
   rcases A with _|⟨a,A⟩
   ·rcases B with _|⟨b,B⟩
    ·decide
    ·simp at sA sB;omega
   ·rcases hab with hab|hab
    ·cases hab
    ·subst hab;show ¬ (1:Int)<0;decide
 refine⟨λh1=>⟨λh2=>?_,λh2=>fin (.inr (eq_nil_of_length_eq_zero (by omega)))⟩,λh1=>fin (.inl (eq_nil_of_length_eq_zero (by omega)))⟩
 rcases A with _|⟨a,A⟩
 ·simp at sA;omega
 rcases B with _|⟨b,B⟩
 ·simp at sB;omega
 have ga:bt s (P.length:Int)=(a.toNat:Int):=by
  rw[bt_get (by omega)]
  have:s.data.toList[P.length]?=some a:=by rw[eA];simp
  rw[getElem?_eq_getElem (by rw[Array.length_toList];exact(by omega:P.length<s.size))] at this
  rw[Option.some.inj this]
 have gb:bt t (P.length:Int)=(b.toNat:Int):=by
  rw[bt_get (by omega)]
  have:t.data.toList[P.length]?=some b:=by rw[eB];simp
  rw[getElem?_eq_getElem (by rw[Array.length_toList];exact(by omega:P.length<t.size))] at this
  rw[Option.some.inj this]
 rw[lcmp_cons] at hcmp
 rw[ga,gb]
 refine⟨⟨by omega,h1⟩,⟨by omega,h2⟩,λhe=>?_,λhne=>⟨⟨by omega,h1⟩,⟨by omega,h2⟩,λhlt=>hT ?_,λhge=>hF ?_⟩⟩
 ·have hab:a=b:=UInt8.toNat_inj.1 (by omega)
  subst hab
  rw[wrap_i64 (by omega) (by omega)]
  refine⟨⟨rfl,P++[a],A,B,by rw[eA];simp,by rw[eB];simp,by simp⟩,by(try dsimp only);(try simp only[length_append,length_singleton,length_cons] at *);omega⟩
 ·unfold Bl
  rw[hcmp,if_pos (show a<b from by show a.toNat<b.toNat;omega)];decide
 ·have hba:b<a:=by
   rcases u8_tri a b with h|h|h
   ·exact absurd (show a.toNat<b.toNat from h) (by omega)
   ·exact h
   ·exact absurd (by rw[h]) hne
  unfold Bl
  rw[hcmp,if_neg (u8_asym hba),if_pos hba];decide
theorem above_spec{h:Hp}{s t:ByteArray}{Q:Value->Hp->Prop}(hs:s.size<=9223372036854775807)(ht:t.size<=9223372036854775807)(hT:Bl t s->Q (.bool true) h)(hF:¬ Bl t s->Q (.bool false) h):F163.T s t h Q:=by
 unfold F163.T F214.T
 refine less_spec hs (λh1=>⟨true,rfl,λ_=>⟨_,rfl,λh0=>absurd h0 (by decide),λ_=>hF h1.asym⟩,λh0=>(by cases h0)⟩) (λh1=>⟨false,rfl,λh0=>(by cases h0),λ_=>?_⟩)
 refine less_spec ht (λh2=>⟨true,rfl,λ_=>⟨_,rfl,λ_=>hT h2,λh0=>absurd (by decide) h0⟩,λh0=>(by cases h0)⟩) (λh2=>⟨false,rfl,λh0=>(by cases h0),λ_=>⟨λh0=>absurd h0 (by decide),λ_=>⟨λh0=>absurd h0 (by decide),λ_=>⟨_,rfl,λh0=>absurd h0 (by decide),λ_=>hF h2⟩⟩⟩⟩)
theorem where_spec{h:Hp}{l:Sl}{ts:List Tab}{num:Int}{Q:Value->Hp->Prop}(hr:h.row l.a (l.n*6) (tabV ts))(hn:l.n<=4100000)
  (h1:∀ P x R,ts=P++x::R->(∀ y∈P,y.num≠num)->x.num=num->Q (.int .i64 (P.length:Int)) h) (h2:(∀ y∈ts,y.num≠num)->Q (.int .i64 (-1)) h):F161.T l num h Q:=by
 have hl:l.n=ts.length:=by have:=hr.1;rw[tabV_len] at this;omega
 refine⟨λn g=>g=h/\∃ P R,ts=P++R/\n=(P.length:Int)/\∀ y∈P,y.num≠num,λn _=>ts.length-n.toNat,⟨rfl,[],ts,rfl,rfl,λy hy=>by cases hy⟩,?_⟩
 rintro n g ⟨rfl,P,R,rfl,rfl,hP⟩
 rw[length_append] at hl
 refine⟨λhlt=>?_,λhge=>?_⟩
 ·rcases R with _|⟨x,R⟩
  ·exact absurd hlt (by simp at hl;omega)
  obtain⟨b,o,ha,hbd,n4,h4,_⟩:=tab_rd (K:=λb o n _ _ _ _ _=>n=x.num) hr rfl λb o=>rfl
  obtain⟨b',o',ha',hbd',m4,k4,m5,k5,m6,k6,m7,k7,s,ks,s1,ks1,e⟩:=tab_rd (K:=λb o n _ _ _ _ _=>n=x.num) hr rfl λb o=>rfl
  subst e
  refine⟨b',o',ha',hbd',x.num,k4,λhe=>h1 P x R rfl hP he,λhne=>?_⟩
  rw[length_cons] at hl
  rw[next_i (n:=5000000) (by omega) (by omega)]
  refine⟨⟨rfl,P++[x],R,by simp,by simp,λy hy=>?_⟩,by dsimp only;rw[length_append,length_cons];omega⟩
  rcases mem_append.1 hy with hy|hy
  ·exact hP y hy
  ·rw[mem_singleton] at hy;subst hy;exact hne
 ·have:R=[]:=eq_nil_of_length_eq_zero (by omega)
  subst this
  exact h2 (by simpa using hP)
theorem anywhere_spec{h:Hp}{ls:Sl}{xs:List (Sl×List Tab)}{num:Int}{Q:Value->Hp->Prop}(hr:h.row ls.a (ls.n*1) (slV (xs.map (·.1))))(ht:∀ x∈xs,h.row x.1.a (x.1.n*6) (tabV x.2))(hs:totL (xs.map (·.2))<=4100000)(h5:xs.length<=5)
  (hT:num∈nums (xs.map (·.2))->Q (.bool true) h) (hF:num∉nums (xs.map (·.2))->Q (.bool false) h):F162.T ls num h Q:=by
 have hn:ls.n=xs.length:=by have:=hr.1;rw[slV_length,length_map] at this;omega
 refine⟨λn g=>g=h/\∃ P R,xs=P++R/\n=(P.length:Int)/\num∉nums (P.map (·.2)),λn _=>xs.length-n.toNat,⟨rfl,[],xs,rfl,rfl,by simp[nums]⟩,?_⟩
 rintro n g ⟨rfl,P,R,rfl,rfl,hP⟩
 rw[length_append] at hn h5
 refine⟨λhlt=>?_,λhge=>?_⟩
 ·rcases R with _|⟨x,R⟩
  ·exact absurd hlt (by simp at hn;omega)
  rw[length_cons] at hn h5
  obtain⟨_,b,o,ha,hat⟩:=rows_rd hr (i:=P.length) (x:=x) (by simp)
  have htx:=ht x (by simp)
  have hxn:x.1.n=x.2.length:=by have:=htx.1;rw[tabV_len] at this;omega
  have hx6:x.2.length<=4100000:=Nat.le_trans (totL_mem (lv:=(P++x::R).map (·.2)) (by simp)) hs
  refine⟨b,o,ha,⟨by omega,hlt⟩,x.1,by rw[Int.toNat_natCast];exact hat,?_⟩
  refine where_spec htx (by omega) (λA y B e hA hy=>⟨_,rfl,λ_=>hT ?_,λh0=>absurd (by omega) h0⟩) (λhno=>⟨-1,rfl,λh0=>absurd h0 (by decide),λ_=>?_⟩)
  ·rw[map_append,nums_app,map_cons,show x.2::R.map (·.2)=[x.2]++R.map (·.2) from rfl,nums_app,nums_one,e]
   simp[hy]
  ·rw[next_i (n:=100) (by omega) (by omega)]
   refine⟨⟨rfl,P++[x],R,by simp,by simp,?_⟩,by(try dsimp only);(try simp only[length_append,length_singleton,length_cons]);omega⟩
   rw[map_append,nums_app,map_cons,List.map_nil,nums_one,mem_append]
   rintro(h0|h0)
   ·exact hP h0
   ·obtain⟨y,hy,e⟩:=List.mem_map.1 h0
    exact hno y hy e
 ·have hR:R=[]:=eq_nil_of_length_eq_zero (by omega)
  subst hR
  rw[append_nil] at hF
  exact hF hP
theorem cutF_row{h:Hp}{s:Sl}{sz k:Nat}{vs:List Value}(hr:h.row s.a (s.n*sz) vs)(hk:k<=s.n):h.row (Sl.cut s sz 0 (k:Int) (s.c:Int)).a ((Sl.cut s sz 0 (k:Int) (s.c:Int)).n*sz) (vs.take (k*sz)):=by
 have h1:=row_take hr (Nat.mul_le_mul_right sz hk)
 have hn:(Sl.cut s sz 0 (k:Int) (s.c:Int)).n=k:=by simp[Sl.cut]
 rw[hn,cut_a]
 exact h1
theorem rise_step{h:Hp}{l1 l:Sl}{A B P R:List Tab}{x:Tab}{n n1:Int}{K:Sl->Hp->Prop}(B1:TB h l1 (A++B))(hr:h.row l.a (l.n*6) (tabV (P++x::R)))(h6:A.length+B.length+1<=4100000)(e:n=(P.length:Int))(e1:n1=(A.length:Int))
  (hK:∀ h' r,Keep h h'->TB h' r (A++x::B)->NewN h r->K r h') :
  Sl.okCut l1 0 n1 (l1.c:Int)/\∃ vs,h.row ((Sl.cut l1 6 0 n1 (l1.c:Int)).a) (((Sl.cut l1 6 0 n1 (l1.c:Int)).n)*6) vs/\(∀ v∈vs,Value.oneCell' v=true)/\appendD ⟨none,0,0⟩ 63 6 64 [.int .u64 0,.int .i64 0,.int .i64 0,.int .i64 0,.string ⟨#[]⟩,.string ⟨#[]⟩] ((Sl.cut l1 6 0 n1 (l1.c:Int)).n) vs h λl2 h4=>∃ b3 o2,(l.a:Option Addr)=some ⟨b3,o2,none⟩/\((0:Int)<=n/\n<(l.n:Int))/\∃ n2:Int,h4.at b3 (o2+n.toNat*6)=some (.int .u64 n2)/\∃ n3:Int,h4.at b3 ((o2+n.toNat*6)+1)=some (.int .i64 n3)/\∃ n4:Int,h4.at b3 ((o2+n.toNat*6)+2)=some (.int .i64 n4)/\∃ n5:Int,h4.at b3 ((o2+n.toNat*6)+3)=some (.int .i64 n5)/\∃ s2:ByteArray,h4.at b3 ((o2+n.toNat*6)+4)=some (.string s2)/\∃ s3:ByteArray,h4.at b3 ((o2+n.toNat*6)+5)=some (.string s3)/\appendD l2 63 6 64 [.int .u64 0,.int .i64 0,.int .i64 0,.int .i64 0,.string ⟨#[]⟩,.string ⟨#[]⟩] 1 [.int .u64 n2,.int .i64 n3,.int .i64 n4,.int .i64 n5,.string s2,.string s3] h4 λl3 h5=>Sl.okCut l1 n1 (l1.n:Int) (l1.c:Int)/\∃ vs1,h5.row ((Sl.cut l1 6 n1 (l1.n:Int) (l1.c:Int)).a) (((Sl.cut l1 6 n1 (l1.n:Int) (l1.c:Int)).n)*6) vs1/\(∀ v∈vs1,Value.oneCell' v=true)/\appendD l3 63 6 64 [.int .u64 0,.int .i64 0,.int .i64 0,.int .i64 0,.string ⟨#[]⟩,.string ⟨#[]⟩] ((Sl.cut l1 6 n1 (l1.n:Int) (l1.c:Int)).n) vs1 h5 K:=by
 subst e e1
 have hn:=B1.n
 have hc:=Buf.cap B1
 rw[length_append] at hn
 have r1:=cutF_row (k:=A.length) (Buf.row B1) (by omega)
 have e1:(tabV (A++B)).take (A.length*6)=tabV A:=by rw[tabV_app];exact List.take_left' (tabV_len A)
 rw[e1] at r1
 have n1:(Sl.cut l1 6 0 (A.length:Int) (l1.c:Int)).n=A.length:=by unfold Sl.cut;dsimp only;omega
 have n2:(Sl.cut l1 6 (A.length:Int) (l1.n:Int) (l1.c:Int)).n=B.length:=by unfold Sl.cut;dsimp only;omega
 refine⟨⟨by omega,by omega,by omega,by omega⟩,tabV A,r1,tab_one _,?_⟩
 refine append_buf (Buf.nil h 6 63) rfl (by rw[tabV_len,n1]) (by rw[n1];dsimp only;omega) λl2 h4 B4 hl2 U4=>?_
 have K4:=U4.keepNil rfl
 have N4:NewN h l2:=(NewN.upd (Keep.refl h) (NewN.nil h) U4).2
 rw[List.nil_append] at B4
 rw[n1,Nat.zero_add] at hl2
 refine tab_rd (K4.row hr) rfl λb3 o3=>?_
 refine append_buf B4 rfl rfl (by omega) λl3 h5 B5 hl3 U5=>?_
 obtain⟨K5,N5⟩:=N4.upd K4 U5
 have r2:=cut_back (k:=A.length) (K5.row (Buf.row B1)) (by omega) hc
 have e2:(tabV (A++B)).drop (A.length*6)=tabV B:=by rw[tabV_app];exact List.drop_left' (tabV_len A)
 rw[e2] at r2
 refine⟨⟨by omega,by omega,by omega,by omega⟩,tabV B,r2,tab_one _,?_⟩
 refine append_buf B5 rfl (by rw[tabV_len,n2]) (by rw[n2];omega) λl4 h6 B6 hl4 U6=>?_
 obtain⟨K6,N6⟩:=N5.upd K5 U6
 refine hK h6 l4 K6 ?_ N6
 show Buf _ _ 6 63 _
 rw[tabV_app,tabV_cons,<- List.append_assoc]
 exact B6
theorem rise_spec{h:Hp}{l:Sl}{ts:List Tab}{Q:Value->Hp->Prop}(hr:h.row l.a (l.n*6) (tabV ts))(h6:ts.length<=4000000)(hk:∀ t∈ts,t.least.size<=9223372036854775807)
  (hQ:∀ h' (r:Sl) us,Keep h h'->TB h' r us->NewN h r->us.Perm ts->Srt us->Q (.slice r.a r.n r.c) h'):F164.T l h Q:=by
 have hn:l.n=ts.length:=by have:=hr.1;rw[tabV_len] at this;omega
 refine⟨λl1 n g=>∃ P R us,ts=P++R/\n=(P.length:Int)/\TB g l1 us/\NewN h l1/\Keep h g/\us.Perm P/\Srt us,λ_ n _=>ts.length-n.toNat,⟨[],ts,[],rfl,rfl,Buf.nil _ _ _,.inl rfl,Keep.refl h,List.Perm.refl _,List.Pairwise.nil⟩,?_⟩
 rintro l1 n g ⟨P,R,us,rfl,rfl,B1,N1,K1,hp,hs⟩
 rw[length_append] at hn h6
 have hul:=hp.length_eq
 refine⟨λhlt=>?_,λhge=>?_⟩
 ·rcases R with _|⟨x,R⟩
  ·exact absurd hlt (by simp at hn;omega)
  rw[length_cons] at hn h6
  have hl1:=B1.n
  have fin:∀ {A B:List Tab} {g2:Hp} {r:Sl},us=A++B->(∀ b∈B,Bl x.least b.least)->(A=[]\/∃ A' y,A=A'++[y]/\Le y.least x.least)->Keep h g2->TB g2 r (A++x::B)->NewN h r ->
    ((∃ P' R' us,P++x::R=P'++R'/\((P.length+1:Nat):Int)=(P'.length:Int)/\TB g2 r us/\NewN h r/\Keep h g2/\us.Perm P'/\Srt us)):=λ{A B g2 r} eu hB hA Kg Tg Ng=>by
   refine⟨P++[x],R,A++x::B,by simp,by simp,Tg,Ng,Kg,?_,srt_ins (by rw[<- eu];exact hs) hA hB⟩
   refine List.Perm.trans ?_ (List.Perm.append_right [x] hp)
   rw[eu,List.append_assoc]
   exact List.Perm.append_left A (List.perm_append_comm (l₁:=[x]) (l₂:=B))
  refine⟨λn1 g1=>g1=g/\∃ A B,us=A++B/\n1=(A.length:Int)/\∀ b∈B,Bl x.least b.least,λn1 _=>n1.toNat,⟨rfl,us,[],by simp,by rw[hl1],λb hb=>by cases hb⟩,?_⟩
  rintro n1 g1 ⟨rfl,A,B,eu,rfl,hB⟩
  have hAB:us.length=A.length+B.length:=by rw[eu,length_append]
  have B1':=B1
  rw[eu] at B1'
  have step:∀ {K:Sl->Hp->Prop},(∀ g2 r,Keep g1 g2->TB g2 r (A++x::B)->NewN g1 r->K r g2)->_:=λ{K} hK=>rise_step (K:=K) B1' (K1.row hr) (by omega) (rfl:(P.length:Int)=_) (rfl:(A.length:Int)=_) hK
  refine⟨λhpos=>?_,λhz=>?_⟩
  ·obtain⟨A',y,rfl⟩:=snoc_of (P:=A) (by rintro rfl;exact absurd hpos (by decide))
   have hlA:(A'++[y]).length=A'.length+1:=by simp
   have ew:wrap .i64 ((((A'++[y]).length:Nat):Int)-1)=((A'.length:Nat):Int):=by rw[wrap_i64 (by omega) (by omega)];omega
   have hy:us[A'.length]?=some y:=by rw[eu,List.append_assoc];simp
   have hx:(P++x::R)[P.length]?=some x:=by simp
   obtain⟨b,o,ha,hi,hat⟩:=tab_at (Buf.row B1) hy
   obtain⟨b2,o2,ha2,hi2,hat2⟩:=tab_at (K1.row hr) hx
   rw[ew]
   have hym:y∈P:=hp.mem_iff.1 (mem_of_getElem? hy)
   refine⟨b,o,ha,⟨by omega,by omega⟩,y.least,hat 4 (by decide),b2,o2,ha2,⟨by omega,by omega⟩,x.least,hat2 4 (by decide),?_⟩
   refine above_spec (hk y (by simp[hym])) (hk x (by simp)) (λhb=>⟨true,rfl,λ_=>?_,λh0=>(by cases h0)⟩) (λhb=>⟨false,rfl,λh0=>(by cases h0),λ_=>?_⟩)
   ·exact⟨⟨rfl,A',y::B,by rw[eu];simp,rfl,λb hb'=>by
     rcases mem_cons.1 hb' with rfl|hb'
     ·exact hb
     ·exact hB b hb'⟩,by(try dsimp only);omega⟩
   ·refine step λg2 r Kg Tg Ng=>?_
    rw[next_i (n:=5000000) (by omega) (by omega)]
    exact⟨fin eu hB (.inr ⟨A',y,rfl,hb⟩) (K1.trans Kg) Tg (Ng.mono K1.dom),by(try dsimp only);(try simp only[length_append,length_singleton,length_cons]);omega⟩
  ·have hA:A=[]:=eq_nil_of_length_eq_zero (by omega)
   refine step λg2 r Kg Tg Ng=>?_
   rw[next_i (n:=5000000) (by omega) (by omega)]
   exact⟨fin eu hB (.inl hA) (K1.trans Kg) Tg (Ng.mono K1.dom),by(try dsimp only);(try simp only[length_append,length_singleton,length_cons]);omega⟩
 ·have hR:R=[]:=eq_nil_of_length_eq_zero (by omega)
  subst hR
  rw[append_nil] at hQ
  exact hQ g l1 us K1 B1 N1 hp hs
end Go.Eng.YtbjnlacacapjiaaGreatDoor
end
section
namespace Go.Eng.YtbjnlacacapjiaaGreatDoor
def AllT(p:Tab->Prop)(lv:Lv):Prop:=∀ l∈lv,∀ t∈l,p t
theorem AllT.set{p:Tab->Prop}{lv:Lv}(H:AllT p lv){k:Nat}{us:List Tab}(hu:∀ t∈us,p t):AllT p (lv.set k us):=λl hl=>by
 rcases List.mem_or_eq_of_mem_set hl with h|rfl
 ·exact H l h
 ·exact hu
theorem outM_all{p:Tab->Prop}:∀ (ps:List Place) (lv:Lv),AllT p lv->AllT p (outM ps lv).2
 |[],lv,H=>H
 |q::ps,lv,H=>by
  unfold outM
  split
  ·exact H
  ·split
   ·exact H
   ·next ts h=>
    split
    ·exact H
    ·next us hc=>exact outM_all ps _ (H.set λt ht=>H ts (mem_of_getElem? h) t ((cutN_sub hc).2 t ht))
theorem inM_all{p:Tab->Prop}:∀ (ps:List Placed) (lv:Lv),(∀ q∈ps,p q.tab)->AllT p lv->AllT p (inM ps lv).2
 |[],lv,_,H=>H
 |q::ps,lv,hp,H=>by
  unfold inM
  split
  ·exact H
  ·split
   ·exact H
   ·next ts h=>
    split
    ·exact H
    ·split
     ·exact H
     ·refine inM_all ps _ (λr hr=>hp r (mem_cons_of_mem _ hr)) (H.set λt ht=>?_)
      rcases mem_append.1 ht with ht|ht
      ·exact H ts (mem_of_getElem? h) t ht
      ·rw[mem_singleton] at ht;subst ht;exact hp q mem_cons_self
theorem Sorted.all{p:Tab->Prop}{lv lw:Lv}(h:Sorted lv lw)(H:AllT p lv):AllT p lw:=λl hl t ht=>by
 obtain⟨i,hi,rfl⟩:=List.mem_iff_getElem.1 hl
 have hi':i<lv.length:=by rw[<- h.1];exact hi
 have a1:=getElem?_eq_getElem hi
 have b1:=getElem?_eq_getElem hi'
 rcases Nat.eq_zero_or_pos i with rfl|h0
 ·have:=h.2.1
  rw[a1,b1] at this
  simp only[Option.some.injEq] at this
  exact H _ (List.getElem_mem hi') t (by rw[<- this];exact ht)
 ·exact H _ (List.getElem_mem hi') t ((h.2.2 i _ _ h0 b1 a1).1.mem_iff.1 ht)
def kOk(t:Tab):Prop:=t.least.size<=9223372036854775807/\t.greatest.size<=9223372036854775807
section
variable{g h h1:Hp}{ls:Sl}{xs:List (Sl×List Tab)}
theorem Lvs.putN(L:Lvs g h ls xs){i:Nat}{x:Sl×List Tab}(hx:xs[i]?=some x){s':Sl}{us:List Tab}(K:Keep h h1)(N:NewN h s')(T:TB h1 s' us) :
  ∃ b,ls.a=some ⟨b,0,none⟩/\h1.canW b i 1/\Lvs g (h1.wr b i [.slice s'.a s'.n s'.c]) ls (xs.set i (s',us)):=by
 have hi:i<xs.length:=(List.getElem?_eq_some_iff.1 hx).1
 have B1:=L.l.keep K
 have K1:=L.k.trans K
 have N1:=N.mono L.k.dom
 obtain⟨b,ha,hat,hc,hw⟩:=buf_set B1 (k:=i) (by rw[slV_length,length_map];exact hi)
 obtain⟨U2,B2⟩:=hw (.slice s'.a s'.n s'.c)
 have C2:Ck [79] h1 _:=Ck.of_upd B1 U2
 refine⟨b,ha,hc,⟨(L.nl.upd K1 U2).1,L.nl,?_,?_,?_,?_⟩⟩
 ·have e:(slV (xs.map (·.1))).set i (.slice s'.a s'.n s'.c)=slV ((xs.set i (s',us)).map (·.1)):=by
   unfold slV;rw[List.map_set,List.map_set]
  rw[<- e];exact B2
 ·intro y hy
  obtain⟨j,hj⟩:=List.mem_iff_getElem?.1 hy
  rcases set_get hj with⟨_,rfl,_⟩|⟨hne,hj⟩
  ·exact C2.buf (by decide) T
  ·exact C2.buf (by decide) (Buf.keep K (L.t y (mem_of_getElem? hj)))
 ·intro y hy
  obtain⟨j,hj⟩:=List.mem_iff_getElem?.1 hy
  rcases set_get hj with⟨_,rfl,_⟩|⟨hne,hj⟩
  ·exact N1
  ·exact L.n y (mem_of_getElem? hj)
 ·intro p q y z hp hq hpq
  rcases set_get hp with⟨rfl,rfl,_⟩|⟨hne,hp'⟩<;>rcases set_get hq with⟨rfl,rfl,_⟩|⟨hne2,hq'⟩
  ·exact absurd rfl hpq
  ·exact(N.off (L.t z (mem_of_getElem? hq'))).2
  ·exact(N.off (L.t y (mem_of_getElem? hp'))).1
  ·exact L.d p q y z hp' hq' hpq
theorem Lvs.snoc(L:Lvs g h ls xs){s:Sl}{us:List Tab}(K:Keep h h1)(N:NewN h s)(T:TB h1 s us){K':Sl->Hp->Prop}(hn:ls.n<=1000000)
  (hK:∀ ls' h',Lvs g h' ls' (xs++[(s,us)])->Ck [79] h1 h'->K' ls' h'):appendD ls 77 1 24 [.slice none 0 0] 1 [.slice s.a s.n s.c] h1 K':=by
 refine append_buf (L.l.keep K) rfl rfl (by omega) λls' h' B' _ U'=>?_
 obtain⟨K2,N2⟩:=L.nl.upd (L.k.trans K) U'
 have C2:Ck [79] h1 h':=Ck.of_upd (L.l.keep K) U'
 refine hK ls' h' ⟨K2,N2,?_,?_,?_,?_⟩ C2
 ·unfold slV at B' ⊢;rw[map_append,map_append];exact B'
 ·intro y hy
  rcases mem_append.1 hy with hy|hy
  ·exact C2.buf (by decide) (Buf.keep K (L.t y hy))
  ·rw[mem_singleton] at hy;subst hy;exact C2.buf (by decide) T
 ·intro y hy
  rcases mem_append.1 hy with hy|hy
  ·exact L.n y hy
  ·rw[mem_singleton] at hy;subst hy;exact N.mono L.k.dom
 ·have get:∀ {p:Nat} {y:Sl×List Tab},(xs++[(s,us)])[p]?=some y->(p<xs.length/\xs[p]?=some y)\/(p=xs.length/\y=(s,us)):=λ{p y} hp=>by
   by_cases hl:p<xs.length
   ·rw[List.getElem?_append_left hl] at hp;exact .inl ⟨hl,hp⟩
   ·rw[List.getElem?_append_right (by omega)] at hp
    have:p-xs.length=0:=by have:=(List.getElem?_eq_some_iff.1 hp).1;simp at this;omega
    rw[this] at hp
    exact .inr ⟨by omega,(Option.some.inj hp).symm⟩
  intro p q y z hp hq hpq
  rcases get hp with⟨l1,hp'⟩|⟨l1,rfl⟩<;>rcases get hq with⟨l2,hq'⟩|⟨l2,rfl⟩
  ·exact L.d p q y z hp' hq' hpq
  ·exact(N.off (L.t y (mem_of_getElem? hp'))).1
  ·exact(N.off (L.t z (mem_of_getElem? hq'))).2
  ·omega
end
theorem next_spec{h:Hp}{l l1 l2 l3:Sl}{xs:List (Sl×List Tab)}{e:Edit}{a b c:Int}{Q:Value->Hp->Prop}(hr:h.row l.a (l.n*1) (slV (xs.map (·.1))))(ht:∀ x∈xs,h.row x.1.a (x.1.n*6) (tabV x.2))(E:EdAt h e l1 l2 l3)
  (h1:1<=xs.length) (h5:xs.length<=5) (hs:totL (xs.map (·.2))+e.inn.length<=4000000) (ho:e.out.length<=4000000) (hk:AllT kOk (xs.map (·.2))) (hki:∀ q∈e.inn,kOk q.tab)
  (hE:∀ h' c,Keep h h'->c≠0->Res (xs.map (·.2)) e c (xs.map (·.2))->Q (.tuple ⟨[.slice none 0 0,.int .i64 c]⟩) h')
  (hO:∀ h' (r:Sl) xs',Lvs h h' r xs'->Res (xs.map (·.2)) e 0 (xs'.map (·.2))->Q (.tuple ⟨[.slice r.a r.n r.c,.int .i64 0]⟩) h'):F99.T l a b c l1 l2 l3 h Q:=by
 have hn:l.n=xs.length:=by have:=hr.1;rw[slV_length,length_map] at this;omega
 have hl3:l3.n=e.ptr.length:=by have:=E.ptr.1;rw[ptrV_length] at this;omega
 have hl1:l1.n=e.out.length:=by have:=E.out.1;rw[outV_len] at this;omega
 have hl2:l2.n=e.inn.length:=by have:=E.inn.1;rw[inV_len] at this;omega
 refine⟨λl4 n3 g=>∃ P R ys,xs=P++R/\n3=(P.length:Int)/\ys.map (·.2)=P.map (·.2)/\Lvs h g l4 ys,λ_ n3 _=>xs.length-n3.toNat,⟨[],xs,[],rfl,rfl,rfl,Keep.refl h,.inl rfl,Buf.nil _ _ _,λx hx=>(by cases hx),λx hx=>(by cases hx),λi j x y hx=>(by cases hx)⟩,?_⟩
 rintro l4 n3 g ⟨P,R,ys,eP,rfl,eys,L⟩
 have hlP:=congrArg List.length eP
 rw[length_append] at hlP
 have hyl:ys.length=P.length:=by have:=congrArg List.length eys;simpa using this
 have hl4:=L.len
 refine⟨λhlt=>?_,λhge=>?_⟩
 ·rcases R with _|⟨x,R⟩
  ·exact absurd hlt (by simp at hlP;omega)
  rw[length_cons] at hlP
  have hx:xs[P.length]?=some x:=by rw[eP];simp
  obtain⟨_,b0,o0,ha0,hat0⟩:=rows_rd (L.k.row hr) hx
  have htx:=ht x (mem_of_getElem? hx)
  have hxn:x.1.n=x.2.length:=by have:=htx.1;rw[tabV_len] at this;omega
  have hx6:x.2.length<=4000000:=by have:=totL_mem (mem_map_of_mem (f:=λy:Sl×List Tab=>y.2) (mem_of_getElem? hx));omega
  refine⟨b0,o0,ha0,⟨by omega,by omega⟩,x.1,by rw[Int.toNat_natCast];exact hat0,tabV x.2,L.k.row htx,tab_one _,?_⟩
  refine append_buf (Buf.nil g 6 63) rfl (by rw[tabV_len,hxn]) (by dsimp only;omega) λl6 g2 B2 _ U2=>?_
  refine L.snoc (us:=x.2) (U2.keepNil rfl) (NewN.upd (Keep.refl g) (NewN.nil g) U2).2 (by rw[List.nil_append] at B2;exact B2) (by omega) λl7 g3 L3 _=>?_
  rw[next_i (n:=100) (by omega) (by omega)]
  exact⟨⟨P++[x],R,_,by rw[eP];simp,by simp,by rw[map_append,map_append,eys];rfl,L3⟩,by(try dsimp only);(try simp only[length_append,length_singleton]);omega⟩
 have hR:R=[]:=eq_nil_of_length_eq_zero (by omega)
 subst hR
 rw[append_nil] at eP
 subst eP
 clear hge hlP
 have K0:=L.k
 refine⟨λhlen=>?_,λhlen=>hE g 133 L.k (by decide) (by unfold Res;rw[if_neg (by rw[length_map];omega)])⟩
 have hpl:e.ptr.length=(xs.map (·.2)).length:=by rw[length_map];omega
 -- out
 refine⟨λn4 g=>∃ P R zs,e.out=P++R/\n4=(P.length:Int)/\Lvs h g l4 zs/\outM e.out (xs.map (·.2))=outM R (zs.map (·.2))/\totL (zs.map (·.2))+e.inn.length<=4000000,λn4 _=>e.out.length-n4.toNat,⟨[],e.out,ys,rfl,rfl,L,by rw[eys],by rw[eys];exact hs⟩,?_⟩
 rintro n4 g4 ⟨P,R,zs,eP,rfl,L4,he,hs4⟩
 have hlP:=congrArg List.length eP
 rw[length_append] at hlP
 have hz4:=L4.len
 refine⟨λhlt=>?_,λhge=>?_⟩
 ·rcases R with _|⟨p,R⟩
  ·exact absurd hlt (by simp at hlP;omega)
  rw[length_cons] at hlP
  have E4:=E.keep L4.k
  have ro:=E4.out
  rw[eP] at ro
  obtain⟨b1,o1,ha1,hb1,c0,c1⟩:=out_rd ro
  have err:∀ {k:Int},k≠0->outM (p::R) (zs.map (·.2))=(k,zs.map (·.2))->Q (.tuple ⟨[.slice none 0 0,.int .i64 k]⟩) g4:=λ{k} hk0 ek=>hE g4 k L4.k hk0 (by unfold Res;rw[if_pos hpl,he,ek,if_neg hk0])
  refine⟨b1,o1,ha1,⟨by omega,hb1⟩,p.lv,c0,λhneg=>err (by decide) (by rw[outM,if_pos hneg]),λhpos=>⟨λhbig=>err (by decide) (by rw[outM,if_neg hpos,List.getElem?_eq_none (by rw[length_map];omega)]),λhsm=>?_⟩⟩
  obtain⟨x,hx⟩:∃ x,zs[p.lv.toNat]?=some x:=⟨_,getElem?_eq_getElem (by omega)⟩
  have hlv:(zs.map (·.2))[p.lv.toNat]?=some x.2:=by rw[getElem?_map,hx];rfl
  have hx6:x.2.length<=4000000:=by have:=totL_mem (mem_of_getElem? hlv);omega
  obtain⟨b2,ha2,hat2⟩:=L4.rd hx
  have T4:=L4.t x (mem_of_getElem? hx)
  have hxn:=T4.n
  refine⟨b2,0,ha2,⟨by omega,by omega⟩,x.1,by rw[Nat.zero_add];exact hat2,b1,o1,ha1,⟨by omega,hb1⟩,p.num,c1,?_⟩
  refine where_spec (Buf.row T4) (by omega) (λA y B exy hA hy=>⟨_,rfl,λh0=>absurd h0 (by omega),λ_=>?_⟩) (λhno=>⟨-1,rfl,λ_=>err (by decide) ?_,λh0=>absurd (by decide) h0⟩)
  ·have exl:x.2.length=A.length+(B.length+1):=by rw[exy,length_append,length_cons]
   have hcap:=Buf.cap T4
   refine⟨b2,0,ha2,⟨by omega,by omega⟩,x.1,by rw[Nat.zero_add];exact hat2,⟨by omega,by omega,by omega,by omega⟩,tabV A,?_⟩
   have r1:=cutF_row (k:=A.length) (Buf.row T4) (by omega)
   have e1:(tabV x.2).take (A.length*6)=tabV A:=by rw[exy,tabV_app];exact List.take_left' (tabV_len A)
   rw[e1] at r1
   have n1:(Sl.cut x.1 6 0 (A.length:Int) (x.1.c:Int)).n=A.length:=by unfold Sl.cut;dsimp only;omega
   refine⟨r1,tab_one _,?_⟩
   refine append_buf (Buf.nil g4 6 63) rfl (by rw[tabV_len,n1]) (by rw[n1];dsimp only;omega) λs5 g5 B5 hn5 U5=>?_
   have K5:=U5.keepNil rfl
   have N5:NewN g4 s5:=(NewN.upd (Keep.refl g4) (NewN.nil g4) U5).2
   rw[n1] at hn5
   dsimp only at hn5
   rw[next_i (n:=5000000) (by omega) (by omega)]
   have r2:=cut_back (k:=A.length+1) (K5.row (Buf.row T4)) (by omega) hcap
   have e2:(tabV x.2).drop ((A.length+1)*6)=tabV B:=by
    rw[exy,tabV_app,tabV_cons,<- List.append_assoc]
    exact List.drop_left' (by rw[length_append,tabV_len];show A.length*6+6=_;omega)
   rw[e2] at r2
   have n2:(Sl.cut x.1 6 ((A.length+1:Nat):Int) (x.1.n:Int) (x.1.c:Int)).n=B.length:=by unfold Sl.cut;dsimp only;omega
   refine⟨b2,0,ha2,⟨by omega,by omega⟩,x.1,by rw[Nat.zero_add];exact K5.at hat2,⟨by omega,by omega,by omega,by omega⟩,tabV B,r2,tab_one _,?_⟩
   refine append_buf B5 rfl (by rw[tabV_len,n2]) (by rw[n2];omega) λs6 g6 B6 hn6 U6=>?_
   obtain⟨K6,N6⟩:=N5.upd K5 U6
   have T6:TB g6 s6 (A++B):=by
    show Buf _ _ 6 63 _
    rw[tabV_app];simpa using B6
   obtain⟨b7,ha7,hc7,L7⟩:=L4.putN hx K6 N6 T6
   refine⟨b7,0,ha7,⟨by omega,by omega⟩,by rw[Nat.zero_add];exact hc7,?_⟩
   rw[Nat.zero_add,next_i (n:=5000000) (by omega) (by omega)]
   refine⟨⟨P++[p],R,_,by rw[eP];simp,by simp,L7,?_,?_⟩,by(try dsimp only);(try simp only[length_append,length_singleton]);omega⟩
   ·rw[he,outM,if_neg hpos,hlv]
    dsimp only
    rw[exy,cutN_some hA hy]
    dsimp only
    rw[List.map_set]
   ·rw[List.map_set]
    have:=totL_set (us:=A++B) hlv
    rw[length_append] at this
    dsimp only
    omega
  ·rw[outM,if_neg hpos,hlv]
   dsimp only
   rw[cutN_none hno]
 have hR:R=[]:=eq_nil_of_length_eq_zero (by omega)
 subst hR
 have he0:outM e.out (xs.map (·.2))=(0,zs.map (·.2)):=he
 have hk4:AllT kOk (zs.map (·.2)):=by have:=outM_all e.out _ hk;rw[he0] at this;exact this
 clear hge hlP he eP P
 -- in
 refine⟨λn8 g=>∃ P R ws,e.inn=P++R/\n8=(P.length:Int)/\Lvs h g l4 ws/\inM e.inn (zs.map (·.2))=inM R (ws.map (·.2))/\totL (ws.map (·.2))+R.length<=4000000,λn8 _=>e.inn.length-n8.toNat,⟨[],e.inn,zs,rfl,rfl,L4,rfl,hs4⟩,?_⟩
 rintro n8 g8 ⟨P,R,ws,eP,rfl,L8,he8,hs8⟩
 have hlP:=congrArg List.length eP
 rw[length_append] at hlP
 have hz8:=L8.len
 refine⟨λhlt=>?_,λhge=>?_⟩
 ·rcases R with _|⟨p,R⟩
  ·exact absurd hlt (by simp at hlP;omega)
  rw[length_cons] at hlP hs8
  have E8:=E.keep L8.k
  have ri:=E8.inn
  rw[eP] at ri
  have hkp:=hki p (by rw[eP];simp)
  have err:∀ {k:Int},k≠0->inM (p::R) (ws.map (·.2))=(k,ws.map (·.2))->Q (.tuple ⟨[.slice none 0 0,.int .i64 k]⟩) g8:=λ{k} hk0 ek=>hE g8 k L8.k hk0 (by unfold Res;rw[if_pos hpl,he0,if_pos rfl,he8,ek,if_neg hk0])
  obtain⟨b1,o1,ha1,hb1,q1,d1,q2,d2,q3,d3,q4,d4,q5,d5,q6,d6,q7,d7,eqs⟩:=in_rd (K:=λ_ _ n1 n2 n3 n4 n5 s s1=>n1=p.lv/\n2=p.num/\n3=p.weight/\n4=p.bytes/\n5=p.entries/\s=p.least/\s1=p.greatest) ri rfl λ_ _=>⟨rfl,rfl,rfl,rfl,rfl,rfl,rfl⟩
  obtain⟨rfl,rfl,rfl,rfl,rfl,rfl,rfl⟩:=eqs
  refine⟨b1,o1,ha1,hb1,p.lv,d1,λhneg=>err (by decide) (by rw[inM,if_pos hneg]),λhpos=>⟨λhbig=>err (by decide) (by rw[inM,if_neg hpos,List.getElem?_eq_none (by rw[length_map];omega)]),λhsm=>?_⟩⟩
  obtain⟨x,hx⟩:∃ x,ws[p.lv.toNat]?=some x:=⟨_,getElem?_eq_getElem (by omega)⟩
  have hlv:(ws.map (·.2))[p.lv.toNat]?=some x.2:=by rw[getElem?_map,hx];rfl
  have hx6:x.2.length+1<=4000000:=by have:=totL_mem (mem_of_getElem? hlv);omega
  refine⟨b1,o1,ha1,hb1,p.num,d2,?_⟩
  refine anywhere_spec L8.l.row (λy hy=>Buf.row (L8.t y hy)) (by omega) (by omega) (λhmem=>⟨true,rfl,λ_=>err (by decide) ?_,λh0=>(by cases h0)⟩) (λhmem=>⟨false,rfl,λh0=>(by cases h0),λ_=>?_⟩)
  ·rw[inM,if_neg hpos,hlv]
   dsimp only
   rw[if_pos hmem]
  refine⟨b1,o1,ha1,hb1,p.least,by rw[Nat.add_assoc];exact d6,b1,o1,ha1,hb1,p.greatest,by rw[Nat.add_assoc];exact d7,?_⟩
  refine above_spec hkp.1 hkp.2 (λhbl=>⟨true,rfl,λ_=>err (by decide) ?_,λh0=>(by cases h0)⟩) (λhbl=>⟨false,rfl,λh0=>(by cases h0),λ_=>?_⟩)
  ·rw[inM,if_neg hpos,hlv]
   dsimp only
   rw[if_neg hmem,if_pos (blB_t.2 hbl)]
  obtain⟨b2,ha2,hat2⟩:=L8.rd hx
  have T8:=L8.t x (mem_of_getElem? hx)
  have hxn:=T8.n
  refine⟨b2,0,ha2,⟨by omega,by omega⟩,x.1,by rw[Nat.zero_add];exact hat2,b1,o1,ha1,hb1,p.num,d2,p.weight,by rw[Nat.add_assoc];exact d3,p.bytes,by rw[Nat.add_assoc];exact d4,p.entries,by rw[Nat.add_assoc];exact d5,p.least,by rw[Nat.add_assoc];exact d6,p.greatest,by rw[Nat.add_assoc];exact d7,by rw[Nat.zero_add];exact hat2,?_⟩
  refine append_buf T8 rfl rfl (by omega) λl' g9 B9 hl9 U9=>?_
  have T9:TB g9 l' (x.2++[p.tab]):=by
   show Buf _ _ 6 63 (tabV _)
   rw[tabV_app];exact B9
  obtain⟨b8,ha8,_,hc8,L9,_⟩:=L8.put hx U9 T9
  refine⟨b8,0,ha8,⟨by omega,by omega⟩,by rw[Nat.zero_add];exact hc8,?_⟩
  rw[Nat.zero_add,next_i (n:=5000000) (by omega) (by omega)]
  refine⟨⟨P++[p],R,_,by rw[eP];simp,by simp,L9,?_,?_⟩,by(try dsimp only);(try simp only[length_append,length_singleton]);omega⟩
  ·rw[he8,inM,if_neg hpos,hlv]
   dsimp only
   rw[if_neg hmem,if_neg (λhb=>hbl (blB_t.1 hb)),List.map_set]
  ·rw[List.map_set]
   have:=totL_set (us:=x.2++[p.tab]) hlv
   rw[length_append,length_singleton] at this
   dsimp only
   omega
 have hR:R=[]:=eq_nil_of_length_eq_zero (by omega)
 subst hR
 have he1:inM e.inn (zs.map (·.2))=(0,ws.map (·.2)):=he8
 have hk8:AllT kOk (ws.map (·.2)):=by have:=inM_all e.inn _ hki hk4;rw[he1] at this;exact this
 have hresB:(∃ i ts,1<=i/\(ws.map (·.2))[i]?=some ts/\Bad ts)->Res (xs.map (·.2)) e 132 (xs.map (·.2)):=λhb=>by
  unfold Res;rw[if_pos hpl,he0,if_pos rfl,he1,if_pos rfl];exact .inl ⟨rfl,hb⟩
 have hresG:∀ {lw:Lv},Sorted (ws.map (·.2)) lw->Res (xs.map (·.2)) e 0 lw:=λ{lw} hb=>by
  unfold Res;rw[if_pos hpl,he0,if_pos rfl,he1,if_pos rfl];exact .inr ⟨rfl,hb⟩
 rw[List.length_nil,Nat.add_zero] at hs8
 clear hge hlP he8 eP P he1 he0
 -- the levels sorted
 refine⟨λn15 g=>∃ (j:Nat) (vs:List (Sl×List Tab)),n15=(j:Int)/\1<=j/\j<=ws.length/\Lvs h g l4 vs/\SortTo j (ws.map (·.2)) (vs.map (·.2)),λn15 _=>ws.length-n15.toNat,⟨1,ws,rfl,Nat.le_refl _,by omega,L8,rfl,λi ts us x y=>by rw[if_neg (by omega)];rw[x] at y;exact(Option.some.inj y).symm⟩,?_⟩
 rintro n15 g15 ⟨j,vs,rfl,j1,j2,L15,S15⟩
 have hvl:=L15.len
 refine⟨λhlt=>?_,λhge=>hO g15 l4 vs L15 (hresG (S15.done (by rw[length_map];omega)))⟩
 obtain⟨x,hx⟩:∃ x,vs[j]?=some x:=⟨_,getElem?_eq_getElem (by omega)⟩
 have hlv2:(vs.map (·.2))[j]?=some x.2:=by rw[getElem?_map,hx];rfl
 obtain⟨ts,hts⟩:∃ ts,(ws.map (·.2))[j]?=some ts:=⟨_,getElem?_eq_getElem (by rw[length_map];omega)⟩
 have hxts:x.2=ts:=by
  have:=S15.2 j ts x.2 hts hlv2
  rw[if_neg (by omega)] at this;exact this
 have hx6:x.2.length<=4000000:=by rw[hxts];exact Nat.le_trans (totL_mem (mem_of_getElem? hts)) hs8
 have hkx:∀ t∈x.2,kOk t:=λt ht=>hk8 ts (mem_of_getElem? hts) t (by rw[<- hxts];exact ht)
 obtain⟨b2,ha2,hat2⟩:=L15.rd hx
 refine⟨b2,0,ha2,⟨by omega,by omega⟩,x.1,by rw[Nat.zero_add,Int.toNat_natCast];exact hat2,?_⟩
 refine rise_spec (Buf.row (L15.t x (mem_of_getElem? hx))) hx6 (λt ht=>(hkx t ht).1) λg16 r us K16 T16 N16 hp hsr=>⟨r,rfl,?_⟩
 obtain⟨b3,ha3,hc3,L17⟩:=L15.putN hx K16 N16 T16
 refine⟨b3,0,ha3,⟨by omega,by omega⟩,by rw[Nat.zero_add,Int.toNat_natCast];exact hc3,?_⟩
 simp only[Nat.zero_add,Int.toNat_natCast]
 generalize (g16.wr b3 j [.slice r.a r.n r.c])=g17 at L17 ⊢
 have hy:(vs.set j (r,us))[j]?=some (r,us):=by rw[List.getElem?_set_self (by omega)]
 obtain⟨b4,ha4,hat4⟩:=L17.rd hy
 have T17:=L17.t _ (mem_of_getElem? hy)
 have hun:r.n=us.length:=T17.n
 have hul:=hp.length_eq
 have hku:∀ t∈us,kOk t:=λt ht=>hkx t (hp.mem_iff.1 ht)
 refine⟨λn16 g=>g=g17/\∃ q:Nat,n16=(q:Int)/\1<=q/\q<=us.length+1/\∀ i a b,i+1<q->us[i]?=some a->us[i+1]?=some b->Bl a.greatest b.least,λn16 _=>us.length+1-n16.toNat,⟨rfl,1,rfl,Nat.le_refl _,by omega,λi a b h0=>absurd h0 (by omega)⟩,?_⟩
 rintro n16 g18 ⟨rfl,q,rfl,q1,q2,hA⟩
 refine⟨b4,0,ha4,⟨by omega,by omega⟩,r,by rw[Nat.zero_add];exact hat4,λhq=>?_,λhq=>?_⟩
 ·obtain⟨y,hy2⟩:∃ y,us[q]?=some y:=⟨_,getElem?_eq_getElem (by omega)⟩
  obtain⟨z,hz⟩:∃ z,us[q-1]?=some z:=⟨_,getElem?_eq_getElem (by omega)⟩
  obtain⟨b5,o5,a5,l5,r5⟩:=tab_at (Buf.row T17) hy2
  obtain⟨b6,o6,a6,l6,r6⟩:=tab_at (Buf.row T17) hz
  have ew:wrap .i64 ((q:Int)-1)=((q-1:Nat):Int):=by rw[wrap_i64 (by omega) (by omega)];omega
  rw[ew]
  refine⟨b4,0,ha4,⟨by omega,by omega⟩,r,by rw[Nat.zero_add];exact hat4,b5,o5,a5,⟨by omega,hq⟩,y.least,r5 4 (by decide),b4,0,ha4,⟨by omega,by omega⟩,r,by rw[Nat.zero_add];exact hat4,b6,o6,a6,⟨by omega,by omega⟩,z.greatest,r6 5 (by decide),?_⟩
  refine above_spec (hku y (mem_of_getElem? hy2)).1 (hku z (mem_of_getElem? hz)).2 (λhbl=>⟨true,rfl,λ_=>?_,λh0=>(by cases h0)⟩) (λhbl=>⟨false,rfl,λh0=>(by cases h0),λ_=>?_⟩)
  ·rw[next_i (n:=5000000) (by omega) (by omega)]
   refine⟨⟨rfl,q+1,rfl,by omega,by omega,λi a b hi ea eb=>?_⟩,by(try dsimp only);omega⟩
   by_cases hiq:i+1<q
   ·exact hA i a b hiq ea eb
   ·have:i=q-1:=by omega
    subst this
    rw[Nat.sub_add_cancel q1,hy2] at eb
    rw[hz] at ea
    cases ea;cases eb
    exact hbl
  ·exact hE g18 132 L17.k (by decide) (hresB ⟨j,ts,j1,hts,us,by rw[<- hxts];exact hp,hsr,q-1,z,y,hz,by rw[Nat.sub_add_cancel q1];exact hy2,hbl⟩)
 ·rw[next_i (n:=100) (by omega) (by omega)]
  refine⟨⟨j+1,_,rfl,by omega,by omega,L17,?_⟩,by(try dsimp only);omega⟩
  rw[List.map_set]
  exact S15.step j1 hlv2 ⟨hp,hsr,λi a b ea eb=>hA i a b (by have:=(List.getElem?_eq_some_iff.1 eb).1;dsimp only at this;omega) ea eb⟩
end Go.Eng.YtbjnlacacapjiaaGreatDoor
end
section
namespace Go.Eng.YtbjnlacacapjiaaGreatDoor
structure Pn where
 b:Nat
 n:Int
 lv:Lv
 i:Nat
def pk(b:Nat):Value:=.pointer (some ⟨b,0,none⟩)
def Pn.ent(p:Pn):MapEntry:=⟨pk p.b,.int .i64 p.n,p.i⟩
def ents(L:List Pn):Array MapEntry:=⟨L.map Pn.ent⟩
theorem kEq_p(a b:Nat):kEq (pk a) (pk b)=decide (a=b):=by simp[kEq,pk]
theorem pin_idx{p:Pn}{B:List Pn}:∀ {A:List Pn},(∀ q∈A,q.b≠p.b)->((A++p::B).map Pn.ent).findIdx? (λe=>kEq (pk p.b) e.key)=some A.length
 |[],_=>by
  rw[List.nil_append,map_cons,List.findIdx?_cons,show kEq (pk p.b) p.ent.key=true from by rw[show p.ent.key=pk p.b from rfl,kEq_p];simp,if_pos rfl];rfl
 |q::A,h=>by
  have hq:kEq (pk p.b) q.ent.key=false:=by rw[show q.ent.key=pk q.b from rfl,kEq_p];simp;exact λe=>h q mem_cons_self e.symm
  rw[List.cons_append,map_cons,List.findIdx?_cons,hq,if_neg (by simp),pin_idx λr hr=>h r (mem_cons_of_mem _ hr)]
  rfl
theorem pin_no{b:Nat}{L:List Pn}(h:∀ q∈L,q.b≠b):(L.map Pn.ent).findIdx? (λe=>kEq (pk b) e.key)=none:=by
 rw[List.findIdx?_eq_none_iff]
 intro e he
 obtain⟨q,hq,rfl⟩:=List.mem_map.1 he
 rw[show q.ent.key=pk q.b from rfl,kEq_p]
 simpa using λe=>h q hq e.symm
theorem pin_get{p:Pn}{A B:List Pn}{z:Value}(hA:∀ q∈A,q.b≠p.b):mget (ents (A++p::B)) (pk p.b) z=.int .i64 p.n:=by
 unfold mget ents
 rw[map_append,map_cons,List.find?_append]
 have h0:(A.map Pn.ent).find? (λe=>kEq (pk p.b) e.key)=none:=by
  rw[List.find?_eq_none]
  intro e he
  obtain⟨q,hq,rfl⟩:=List.mem_map.1 he
  rw[show q.ent.key=pk q.b from rfl,kEq_p]
  simpa using λe=>hA q hq e.symm
 rw[h0,List.find?_cons_of_pos (by rw[show p.ent.key=pk p.b from rfl,kEq_p];simp)]
 rfl
theorem pin_get0{b:Nat}{L:List Pn}{z:Value}(h:∀ q∈L,q.b≠b):mget (ents L) (pk b) z=z:=by
 unfold mget ents
 have h0:(L.map Pn.ent).find? (λe=>kEq (pk b) e.key)=none:=by
  rw[List.find?_eq_none]
  intro e he
  obtain⟨q,hq,rfl⟩:=List.mem_map.1 he
  rw[show q.ent.key=pk q.b from rfl,kEq_p]
  simpa using λe=>h q hq e.symm
 rw[h0]
theorem mod_app{α:Type}{x:α}{B:List α}{f:α->α}:∀ {A:List α},(A++x::B).modify A.length f=A++f x::B
 |[]=>rfl
 |a::A=>by rw[List.cons_append,length_cons,List.modify_succ_cons,mod_app];rfl
theorem pin_put{p:Pn}{A B:List Pn}{c:Nat}{n:Int}(hA:∀ q∈A,q.b≠p.b):mPut (ents (A++p::B)) c (pk p.b) (.int .i64 n)=.map (ents (A++⟨p.b,n,p.lv,p.i⟩::B)) c:=by
 unfold mPut
 rw[show(ents (A++p::B)).toList=(A++p::B).map Pn.ent from rfl,pin_idx hA]
 dsimp only
 congr 1
 apply Array.toList_inj.1
 rw[Array.toList_modify]
 show((A++p::B).map Pn.ent).modify _ _=(A++⟨p.b,n,p.lv,p.i⟩::B).map Pn.ent
 rw[map_append,map_append,map_cons,map_cons]
 have:A.length=(A.map Pn.ent).length:=by simp
 rw[this,mod_app]
 rfl
theorem pin_put0{b c:Nat}{L:List Pn}{n:Int}(h:∀ q∈L,q.b≠b)(lv:Lv):mPut (ents L) c (pk b) (.int .i64 n)=.map (ents (L++[⟨b,n,lv,c⟩])) (c+1):=by
 unfold mPut
 rw[show(ents L).toList=L.map Pn.ent from rfl,pin_no h]
 dsimp only
 congr 1
 apply Array.toList_inj.1
 rw[Array.toList_push]
 show L.map Pn.ent++_=(L++_).map Pn.ent
 rw[map_append]
 rfl
theorem pin_del{p:Pn}{A B:List Pn}(hA:∀ q∈A,q.b≠p.b):mDel (ents (A++p::B)) (pk p.b)=ents (A++B):=by
 unfold mDel
 rw[show(ents (A++p::B)).toList=(A++p::B).map Pn.ent from rfl,pin_idx hA]
 dsimp only
 have hi:A.length<(ents (A++p::B)).size:=by
  show A.length<((A++p::B).map Pn.ent).length
  rw[length_map,length_append,length_cons];omega
 rw[Array.eraseIdxIfInBounds,dif_pos hi]
 apply Array.toList_inj.1
 rw[Array.toList_eraseIdx]
 show((A++p::B).map Pn.ent).eraseIdx _=(A++B).map Pn.ent
 rw[map_append,map_append,map_cons]
 have:A.length=(A.map Pn.ent).length:=by simp
 rw[this,List.eraseIdx_append_of_length_le (Nat.le_refl _),Nat.sub_self]
 rfl
def pcnt(sn:Array Nat)(L:List Pn)(k:Int):Int:=((L.filter λp=>sn.contains p.i).map λp=>cnt (nums p.lv) k).sum
theorem pcnt_nil(L:List Pn)(k:Int):pcnt #[] L k=0:=by
 unfold pcnt;rw[List.filter_eq_nil_iff.2 (by simp)];rfl
theorem pcnt_other{sn:Array Nat}{j:Nat}{L:List Pn}{k:Int}(h:∀ p∈L,p.i≠j):pcnt (sn.push j) L k=pcnt sn L k:=by
 unfold pcnt
 rw[List.filter_congr (q:=λp=>sn.contains p.i)]
 intro p hp
 have:=h p hp
 simp[this]
theorem pcnt_push{sn:Array Nat}{k:Int}{p:Pn}{A B:List Pn}(hn:((A++p::B).map (·.i)).Nodup)(hs:sn.contains p.i=false):pcnt (sn.push p.i) (A++p::B) k=pcnt sn (A++p::B) k+cnt (nums p.lv) k:=by
 rw[map_append,map_cons] at hn
 have hA:∀ q∈A,q.i≠p.i:=λq hq e=>(nodup_append.1 hn).2.2 q.i (mem_map_of_mem hq) p.i mem_cons_self e
 have hB:∀ q∈B,q.i≠p.i:=λq hq e=>(List.nodup_cons.1 (nodup_append.1 hn).2.1).1 (e ▸ mem_map_of_mem (f:=(·.i)) hq)
 have e1:=pcnt_other (sn:=sn) (k:=k) hA
 have e2:=pcnt_other (sn:=sn) (k:=k) hB
 unfold pcnt at *
 rw[List.filter_append,List.filter_append,List.filter_cons,List.filter_cons,hs,if_pos (by simp),if_neg (by simp),map_append,map_append,List.sum_append,List.sum_append,map_cons,List.sum_cons,e1,e2]
 omega
theorem pcnt_le(sn:Array Nat)(k:Int){m:Nat}:∀ (L:List Pn),(∀ p∈L,totL p.lv<=m)->0<=pcnt sn L k/\pcnt sn L k<=((L.length*m:Nat):Int)
 |[],_=>by unfold pcnt;simp
 |p::L,h=>by
  obtain⟨h1,h2⟩:=pcnt_le sn k L λq hq=>h q (mem_cons_of_mem _ hq)
  have hp:=cnt_le (nums p.lv) k
  rw[nums_len] at hp
  have:=h p mem_cons_self
  have e:((p::L).length*m)=L.length*m+m:=by rw[length_cons,Nat.add_mul,Nat.one_mul]
  rw[e]
  have e2:pcnt sn (p::L) k=(if sn.contains p.i=true then cnt (nums p.lv) k else 0)+pcnt sn L k:=by
   unfold pcnt
   rw[List.filter_cons]
   by_cases hc:sn.contains p.i=true
   ·rw[if_pos hc,if_pos hc,map_cons,List.sum_cons]
   ·rw[if_neg hc,if_neg hc];omega
  rw[e2]
  split<;>omega
def held(now:Lv)(P:List Lv)(k:Int):Prop:=k∈nums now\/∃ lv∈P,k∈nums lv
instance (now:Lv) (P:List Lv) (k:Int):Decidable (held now P k):=inferInstanceAs (Decidable (_\/_))
theorem pcnt_zero{sn:Array Nat}{L:List Pn}{now:Lv}{k:Int}(h:∀ p∈L,sn.contains p.i=true):cnt (nums now) k+pcnt sn L k=0↔¬ held now (L.map (·.lv)) k:=by
 unfold held
 have h1:=cnt_le (nums now) k
 have h2:=cnt_pos (nums now) k
 have key:∀ (M:List Pn),(∀ p∈M,sn.contains p.i=true)->0<=pcnt sn M k/\(0<pcnt sn M k↔∃ lv∈M.map (·.lv),k∈nums lv):=by
  intro M
  induction M with
  |nil=>intro _;unfold pcnt;simp
  |cons p M ih=>
   intro hM
   obtain⟨i1,i2⟩:=ih λq hq=>hM q (mem_cons_of_mem _ hq)
   have e2:pcnt sn (p::M) k=cnt (nums p.lv) k+pcnt sn M k:=by
    unfold pcnt
    rw[List.filter_cons,if_pos (hM p mem_cons_self),map_cons,List.sum_cons]
   have hp:=cnt_le (nums p.lv) k
   have hq:=cnt_pos (nums p.lv) k
   rw[e2]
   refine⟨by omega,⟨λhlt=>?_,?_⟩⟩
   ·by_cases hc:0<cnt (nums p.lv) k
    ·exact⟨p.lv,by simp,hq.1 hc⟩
    ·obtain⟨lv,hl,hk⟩:=i2.1 (by omega)
     exact⟨lv,by rw[map_cons];exact mem_cons_of_mem _ hl,hk⟩
   ·rintro⟨lv,hl,hk⟩
    rw[map_cons] at hl
    rcases mem_cons.1 hl with rfl|hl
    ·have:=hq.2 hk;omega
    ·have:=i2.2 ⟨lv,hl,hk⟩;omega
 obtain⟨k1,k2⟩:=key L h
 rw[<- k2,<- h2]
 omega
def goneM(now:Lv)(P:List Lv)(v:Lv):List Int:=((nums v).filter λk=>decide (¬ held now P k)).mergeSort λx y=>decide (x<=y)
end Go.Eng.YtbjnlacacapjiaaGreatDoor
end
section
namespace Go.Eng.YtbjnlacacapjiaaGreatDoor
def VerO(g h:Hp)(b:Nat)(lv:Lv):Prop:=∃ ls xs,Ver g h b ls xs/\xs.map (·.2)=lv
theorem VerO.r{g h:Hp}{b:Nat}{lv:Lv}(V:VerO g h b lv):VerR h b lv:=by
 obtain⟨ls,xs,v,rfl⟩:=V
 exact v.r
theorem VerO.keep{g h h':Hp}{b:Nat}{lv:Lv}(V:VerO g h b lv)(K:Keep h h'):VerO g h' b lv:=by
 obtain⟨ls,xs,v,e⟩:=V
 exact⟨ls,xs,v.keep K,e⟩
theorem VerO.ck{κ:List Nat}{g h h':Hp}{b:Nat}{lv:Lv}(V:VerO g h b lv)(C:Ck κ h h')(K:Keep g h')(x:79∉κ)(y:65∉κ)(z:148∉κ):VerO g h' b lv:=by
 obtain⟨ls,xs,v,e⟩:=V
 exact⟨ls,xs,v.ck C K x y z,e⟩
theorem VerO.solid{g h:Hp}{b:Nat}{lv:Lv}(V:VerO g h b lv):∃ x,h b=some (.cells ⟨[x]⟩ 146 (0,0)):=by
 obtain⟨ls,xs,v,e⟩:=V
 exact⟨_,v.v⟩
structure SetP(g h:Hp)(sb vb pm cm:Nat)(ps ls:Sl)(xs:List (Sl×List Tab))(ptrs:List ByteArray)(L:List Pn):Prop where
 V:Ver g h vb ls xs
 ns:g sb=none
 s:h sb=some (.cells ⟨[.pointer (some ⟨vb,0,none⟩),.map (some pm),.slice ps.a ps.n ps.c,.map (some cm)]⟩ 150 (0,0))
 np:NewN g ps
 p:Buf h ps 1 9 (ptrV ptrs)
 nm:g pm=none
 m:∃ c,h pm=some (.map (ents L) c)/\∀ p∈L,p.i<c
 ni:(L.map (·.i)).Nodup
 nb:(L.map (·.b)).Nodup
 pv:∀ p∈L,VerO g h p.b p.lv
 nc:g cm=none
 c:∃ es c,h cm=some (.map es c)/\U64s es
 ne:pm≠cm
def DP(sb pm cm:Nat)(ps:Sl)(k:Nat):Prop:=k=sb\/k=cm\/ps.a=some ⟨k,0,none⟩\/k=pm
structure SmP(xs:List (Sl×List Tab))(L:List Pn):Prop where
 t:totL (xs.map (·.2))<=5000000
 x5:xs.length<=5
 l:L.length<=100000
 p:∀ p∈L,totL p.lv<=5000000/\p.lv.length<=5
section
variable{g h h':Hp}{sb vb pm cm:Nat}{ps ls:Sl}{xs:List (Sl×List Tab)}{ptrs:List ByteArray}{L:List Pn}
theorem SetP.keep(S:SetP g h sb vb pm cm ps ls xs ptrs L)(K:Keep h h'):SetP g h' sb vb pm cm ps ls xs ptrs L:=by
 obtain⟨c,hc,hi⟩:=S.m
 obtain⟨es,c2,h2,h3⟩:=S.c
 exact⟨S.V.keep K,S.ns,K _ _ S.s,S.np,S.p.keep K,S.nm,⟨c,K _ _ hc,hi⟩,S.ni,S.nb,λp hp=>(S.pv p hp).keep K,S.nc,⟨es,c2,K _ _ h2,h3⟩,S.ne⟩
theorem SetP.one(S:SetP g h sb vb pm cm ps ls xs ptrs L)(O:One cm h h')(hc':∃ es c,h' cm=some (.map es c)/\U64s es):SetP g h' sb vb pm cm ps ls xs ptrs L:=by
 obtain⟨c,hc,hi⟩:=S.m
 obtain⟨es,c2,h2,h3⟩:=S.c
 have C:=O.ck h2
 have K:=S.V.L.k.one O S.nc
 exact⟨S.V.ck C K (by simp[kd]) (by simp[kd]) (by simp[kd]),S.ns,O.keep _ _ (ne_kd S.s h2 (by simp[kd])) S.s,S.np,C.buf (by simp[kd]) S.p,S.nm,⟨c,O.keep _ _ S.ne hc,hi⟩,S.ni,S.nb,λp hp=>(S.pv p hp).ck C K (by simp[kd]) (by simp[kd]) (by simp[kd]),S.nc,hc',S.ne⟩
theorem SetP.dp(S:SetP g h sb vb pm cm ps ls xs ptrs L):∀ k x,DP sb pm cm ps k->h k=some x->kd x∈[152,0,11]:=by
 intro k x hd hk
 rcases hd with rfl|rfl|hp|rfl
 ·rw[S.s] at hk;cases hk;simp[kd]
 ·obtain⟨es,c2,h2,h3⟩:=S.c
  rw[h2] at hk;cases hk;simp[kd]
 ·rw[(buf_kd S.p hp hk).2];decide
 ·obtain⟨c,hc,hi⟩:=S.m
  rw[hc] at hk;cases hk;simp[kd]
theorem gone_p{vb2:Nat}{lv2:Lv}{Q:Value->Hp->Prop}(S:SetP g h sb vb pm cm ps ls xs ptrs L)(V2:VerR h vb2 lv2)(Z:SmP xs L)(hs2:totL lv2<=5000000)(h52:lv2.length<=5)
  (hQ:∀ h' (l:Sl),One cm h h'->(∃ es c,h' cm=some (.map es c)/\U64s es)->Buf h' l 1 48 (uvs (goneM (xs.map (·.2)) (L.map (·.lv)) lv2))->NewN h l->Q (.slice l.a l.n l.c) h'):F98.T (some ⟨sb,0,none⟩) (some ⟨vb2,0,none⟩) h Q:=by
 obtain⟨es,c,hc,hu⟩:=S.c
 obtain⟨c1,hm,hi1⟩:=S.m
 refine⟨sb,0,rfl,some cm,at_of S.s 3,es,c,hc,sb,0,rfl,?_⟩
 show ∃ p2,(h.new cm (.map #[] c)).at sb 0=_/\_
 have O1:One cm h (h.new cm (.map #[] c)):=One.new _ (by rw[hc];simp)
 have hsc:sb≠cm:=ne_kd S.s hc (by simp[kd])
 have hs1:=O1.keep _ _ hsc S.s
 refine⟨some ⟨vb,0,none⟩,at_of hs1 0,sb,0,rfl,some cm,at_of hs1 3,?_⟩
 have hc1:=new_at h cm (.map #[] c)
 refine counted_spec (S.V.r.one O1 hc) (Mp.new h cm c) (λk=>⟨Int.le_refl _,by omega⟩) Z.t (by rw[length_map];exact Z.x5) λh2 M2 O2=>?_
 have O12:=O1.trans O2
 have hs2':=O12.keep _ _ hsc S.s
 have hm2:=O12.keep _ _ S.ne hm
 refine⟨sb,0,rfl,some pm,at_of hs2' 1,ents L,c1,hm2,λb4 hb4=>?_⟩
 have K3:=Keep.new hb4 (.mapIter (some pm) c1 #[] c1)
 have hi:=new_at h2 b4 (.mapIter (some pm) c1 #[] c1)
 have hb4h:h b4=none:=O12.dom _ hb4
 have M3:=Mp.keep K3 M2
 have O3:One cm h (h2.new b4 (.mapIter (some pm) c1 #[] c1)):=O12.trans ⟨λk x _ e=>K3 k x e,K3.dom⟩
 have hbc:b4≠cm:=λe=>by subst e;rw[hb4h] at hc;cases hc
 generalize h2.new b4 (.mapIter (some pm) c1 #[] c1)=h3 at hi M3 O3 ⊢
 clear K3 hs2' hm2 M2
 refine⟨λhh=>∃ sn,hh b4=some (.mapIter (some pm) c1 sn c1)/\Mp hh cm (λk=>cnt (nums (xs.map (·.2))) k+pcnt sn L k)/\One cm h hh,λhh=>match hh b4 with|some (.mapIter _ _ sn _)=>(L.filter λp=>!sn.contains p.i).length|_=>0,⟨#[],hi,Mp.congr M3 λk=>by rw[pcnt_nil];omega,O3⟩,?_⟩
 clear hi M3 O3 h3
 rintro h3 ⟨sn,hi,M3,O3⟩
 have hs3:=O3.keep _ _ hsc S.s
 have hm3:=O3.keep _ _ S.ne hm
 refine⟨b4,some pm,c1,sn,c1,ents L,c1,rfl,hi,hm3,?_,?_,?_⟩
 ·unfold nextOk
  cases L with
  |nil=>simp[ents]
  |cons p L'=>
   have:=hi1 p mem_cons_self
   have hf:(ents (p::L')).all (λe=>decide (e.born ≥ c1))=false:=by
    rw[<- Bool.not_eq_true,Array.all_eq_true_iff_forall_mem]
    intro hall
    have:=hall p.ent (by rw[Array.mem_def];simp[ents])
    simp[Pn.ent] at this
    omega
   rw[hf];simp
 ·intro e he hsn
  obtain⟨p,hp,rfl⟩:=List.mem_map.1 (show e∈L.map Pn.ent from he)
  simp only[show p.ent.born=p.i from rfl] at hsn ⊢
  have hi':=new_at h3 b4 (.mapIter (some pm) c1 (sn.push p.i) c1)
  have O4:One cm h (h3.new b4 (.mapIter (some pm) c1 (sn.push p.i) c1)):=⟨λk x n e=>by
    rw[new_ne _ _ (ne_of e hb4h)];exact O3.keep k x n e,λk e=>by
    by_cases hk:k=b4
    ·rw[hk];exact hb4h
    ·rw[new_ne _ _ hk] at e;exact O3.dom k e⟩
  have M4:Mp (h3.new b4 (.mapIter (some pm) c1 (sn.push p.i) c1)) cm (λk=>cnt (nums (xs.map (·.2))) k+pcnt sn L k):=by
   obtain⟨es4,c4,m4,m5⟩:=M3
   exact⟨es4,c4,by rw[new_ne _ _ (Ne.symm hbc)];exact m4,m5⟩
  have hlt:(L.filter λq=>!(sn.push p.i).contains q.i).length<(L.filter λq=>!sn.contains q.i).length:=by
   rw[<- List.countP_eq_length_filter,<- List.countP_eq_length_filter]
   obtain⟨A,B,rfl⟩:=List.append_of_mem hp
   rw[List.countP_append,List.countP_append,List.countP_cons,List.countP_cons]
   have hmono:∀ M:List Pn,M.countP (λq=>!(sn.push p.i).contains q.i)<=M.countP (λq=>!sn.contains q.i):=λM=>List.countP_mono_left λq _ hq=>by
    simp only[Bool.not_eq_true',Array.contains_push,Bool.or_eq_false_iff] at hq ⊢
    exact hq.1
   have hA:=hmono A
   have hB:=hmono B
   rw[show(!(sn.push p.i).contains p.i)=false by simp,show(!sn.contains p.i)=true by rw[show sn.contains p.i=false from hsn];rfl]
   simp only[Bool.false_eq_true,if_false,if_true]
   omega
  have hm4:=O4.keep _ _ S.ne hm
  have hs4:=O4.keep _ _ hsc S.s
  generalize h3.new b4 (.mapIter (some pm) c1 (sn.push p.i) c1)=h4 at hi' O4 M4 hm4 hs4 ⊢
  refine⟨b4,pm,c1,sn.push p.i,ents L,c1,p.i,p.ent,rfl,hi',by simp,hm4,?_,some ⟨p.b,0,none⟩,p.n,rfl,sb,0,rfl,some cm,at_of hs4 3,?_⟩
  ·have hfind:(L.map Pn.ent).find? (λe=>e.born == p.i)=some p.ent:=by
    obtain⟨A,B,e⟩:=List.append_of_mem hp
    have hn:=S.ni
    rw[e,map_append,map_cons] at hn
    rw[e,map_append,map_cons,List.find?_append]
    have h0:(A.map Pn.ent).find? (λe=>e.born == p.i)=none:=by
     rw[List.find?_eq_none]
     intro x hx
     obtain⟨q,hq,rfl⟩:=List.mem_map.1 hx
     have:q.i≠p.i:=λe=>(nodup_append.1 hn).2.2 q.i (mem_map_of_mem hq) p.i mem_cons_self e
     simp[Pn.ent,this]
    rw[h0,List.find?_cons_of_pos (by simp[Pn.ent])]
    rfl
   rw[<- hfind,<- Array.find?_toList]
   rfl
  ·have hb:=pcnt_le sn
   refine counted_spec ((S.pv p hp).r.one O4 hc) M4 (λk=>?_) (Z.p p hp).1 (Z.p p hp).2 λh5 M5 O5=>?_
   ·have h1:=pcnt_le sn k (m:=5000000) L λq hq=>(Z.p q hq).1
    have h2:=cnt_le (nums (xs.map (·.2))) k
    rw[nums_len] at h2
    have h3:=Z.t
    have h4:=Z.l
    omega
   ·have hi5:=O5.keep _ _ hbc hi'
    refine⟨⟨sn.push p.i,hi5,Mp.congr M5 λk=>?_,O4.trans O5⟩,?_⟩
    ·obtain⟨A,B,e⟩:=List.append_of_mem hp
     have hn:=S.ni
     rw[e] at hn ⊢
     rw[pcnt_push hn hsn];omega
    ·rw[hi5,hi];exact hlt
 intro hall
 have hall':∀ p∈L,sn.contains p.i=true:=λp hp=>hall p.ent (mem_map_of_mem hp) (hi1 p hp)
 have hz:=λk=>pcnt_zero (now:=xs.map (·.2)) (k:=k) hall'
 obtain⟨ls2,xs2,v1,v2,v3,rfl⟩:=V2.one O3 hc
 have hn2:ls2.n=xs2.length:=by have:=v2.1;rw[slV_length,length_map] at this;omega
 rw[length_map] at h52
 obtain⟨fil,efil⟩:∃ fil:Int->Bool,fil=λk=>decide (¬ held (xs.map (·.2)) (L.map (·.lv)) k):=⟨_,rfl⟩
 have hfil:∀ k,fil k=true↔cnt (nums (xs.map (·.2))) k+pcnt sn L k=0:=λk=>by rw[efil,decide_eq_true_iff];exact(hz k).symm
 unfold goneM at hQ
 rw[<- efil] at hQ
 clear hz efil hall hall'
 refine⟨vb2,0,rfl,ls2,at_of v1 0,λl1 n1 h4=>∃ P R,xs2=P++R/\n1=(P.length:Int)/\Buf h4 l1 1 48 (uvs ((nums (P.map (·.2))).filter fil))/\NewN h3 l1/\Keep h3 h4,λ_ n1 _=>xs2.length-n1.toNat,⟨[],xs2,rfl,rfl,Buf.nil _ _ _,.inl rfl,Keep.refl _⟩,?_⟩
 rintro l1 n1 h4 ⟨P,R,rfl,rfl,B4,N4,K4⟩
 rw[length_append] at hn2 h52
 have htot:totL (P.map (·.2))+totL (R.map (·.2))<=5000000:=by
  unfold totL at hs2 ⊢
  rw[map_append,map_append,List.sum_append] at hs2
  exact hs2
 have hl4:=B4.len
 rw[uvs_len] at hl4
 have hf4:=List.length_filter_le fil (nums (P.map (·.2)))
 rw[nums_len] at hf4
 refine⟨λhlt=>?_,λhge=>?_⟩
 ·rcases R with _|⟨x,R⟩
  ·exact absurd hlt (by simp at hn2;omega)
  rw[length_cons] at hn2 h52
  obtain⟨_,b1,o1,ha1,hat1⟩:=rows_rd (K4.row v2) (i:=P.length) (x:=x) (by simp)
  have htx:=v3 x (by simp)
  have hxn:x.1.n=x.2.length:=by have:=htx.1;rw[tabV_len] at this;omega
  have hxt:totL ((x::R).map (·.2))=x.2.length+totL (R.map (·.2)):=by simp[totL]
  refine⟨b1,o1,ha1,⟨by omega,hlt⟩,x.1,by rw[Int.toNat_natCast];exact hat1,λl3 n2 h5=>∃ A B,x.2=A++B/\n2=(A.length:Int)/\Buf h5 l3 1 48 (uvs ((nums (P.map (·.2))++A.map Tab.num).filter fil))/\NewN h3 l3/\Keep h3 h5,λ_ n2 _=>x.2.length-n2.toNat,⟨[],x.2,rfl,rfl,by simpa using B4,N4,K4⟩,?_⟩
  rintro l3 n2 h5 ⟨A,B,eAB,rfl,B5,N5,K5⟩
  have hl5:=B5.len
  rw[uvs_len] at hl5
  have hf5:=List.length_filter_le fil (nums (P.map (·.2))++A.map Tab.num)
  rw[length_append,nums_len,length_map] at hf5
  refine⟨λhlt1=>?_,λhge1=>?_⟩
  ·rcases B with _|⟨t,B⟩
   ·exact absurd hlt1 (by rw[hxn,eAB];simp)
   rw[eAB] at htx
   have eL:x.2.length=A.length+(B.length+1):=by rw[eAB,length_append,length_cons]
   refine tab_rd (K5.row htx) rfl λb2 o2=>?_
   refine⟨sb,0,rfl,some cm,at_of (K5 _ _ (O3.keep _ _ hsc S.s)) 3,?_⟩
   refine Mp.get (Mp.keep K5 M3) t.num λes4 c4=>⟨λh0=>?_,λh0=>?_⟩
   ·refine append_buf B5 rfl rfl (by omega) λl4 h6 B6 hl6 U6=>?_
    obtain⟨K6,N6⟩:=N5.upd K5 U6
    rw[next_i (n:=5100000) (by omega) (by omega)]
    refine⟨⟨A++[t],B,by rw[eAB];simp,by simp,?_,N6,K6⟩,by(try dsimp only);rw[eL];omega⟩
    have e:(nums (P.map (·.2))++(A++[t]).map Tab.num).filter fil=(nums (P.map (·.2))++A.map Tab.num).filter fil++[t.num]:=by
     rw[map_append,<- List.append_assoc,List.filter_append]
     congr 1
     rw[map_cons,List.map_nil,List.filter_cons,if_pos ((hfil t.num).2 h0)];rfl
    rw[e]
    unfold uvs at B6 ⊢;rw[map_append];exact B6
   ·rw[next_i (n:=5100000) (by omega) (by omega)]
    refine⟨⟨A++[t],B,by rw[eAB];simp,by simp,?_,N5,K5⟩,by(try dsimp only);rw[eL];omega⟩
    have e:(nums (P.map (·.2))++(A++[t]).map Tab.num).filter fil=(nums (P.map (·.2))++A.map Tab.num).filter fil:=by
     rw[map_append,<- List.append_assoc,List.filter_append,map_cons,List.map_nil,List.filter_cons,if_neg (λh=>h0 ((hfil t.num).1 h))]
     exact append_nil _
    rw[e];exact B5
  ·have hB:B=[]:=eq_nil_of_length_eq_zero (by have:=congrArg List.length eAB;rw[length_append] at this;omega)
   subst hB
   rw[append_nil] at eAB
   rw[next_i (n:=100) (by omega) (by omega)]
   refine⟨⟨P++[x],R,by simp,by simp,?_,N5,K5⟩,by(try dsimp only);rw[length_append,length_cons];omega⟩
   rw[map_append,nums_app,map_cons,List.map_nil,nums_one,eAB];exact B5
 ·have hR:R=[]:=eq_nil_of_length_eq_zero (by omega)
  subst hR
  rw[append_nil] at hQ
  refine sort_s B4 (by omega) λh7 B7 U7=>?_
  obtain⟨K7,N7⟩:=N4.upd K4 U7
  obtain⟨es7,c7,e7,u7,_⟩:=Mp.keep K7 M3
  exact hQ h7 l1 (O3.trans ⟨λk x _ e=>K7 k x e,K7.dom⟩) ⟨es7,c7,e7,u7⟩ B7 (N7.mono O3.dom)
end
end Go.Eng.YtbjnlacacapjiaaGreatDoor
end
section
namespace Go.Eng.YtbjnlacacapjiaaGreatDoor
section
variable{g h h':Hp}{sb vb pm cm:Nat}{ps ls:Sl}{xs:List (Sl×List Tab)}{ptrs:List ByteArray}{L:List Pn}
theorem SetP.keys(S:SetP g h sb vb pm cm ps ls xs ptrs L){b:Nat}{x:Value}(hb:h b=some (.cells ⟨[x]⟩ 146 (0,0))):keysP h (pk b) (ents L):=by
 intro e he
 obtain⟨p,hp,rfl⟩:=List.mem_map.1 (show e∈L.map Pn.ent from he)
 refine⟨some ⟨p.b,0,none⟩,rfl,λa a' e1 e2 _=>?_⟩
 cases e1
 cases e2
 obtain⟨y,hy⟩:=(S.pv p hp).solid
 exact⟨⟨_,_,hb,by simp⟩,⟨_,_,hy,by simp⟩⟩
theorem SetP.put(S:SetP g h sb vb pm cm ps ls xs ptrs L){L':List Pn}{c':Nat}(hi:∀ p∈L',p.i<c')(ni:(L'.map (·.i)).Nodup)(nb:(L'.map (·.b)).Nodup)(pv:∀ p∈L',VerO g h p.b p.lv) :
  SetP g (h.new pm (.map (ents L') c')) sb vb pm cm ps ls xs ptrs L'/\One pm h (h.new pm (.map (ents L') c')):=by
 obtain⟨c,hc,_⟩:=S.m
 obtain⟨es,c2,h2,h3⟩:=S.c
 have O:One pm h (h.new pm (.map (ents L') c')):=One.new _ (by rw[hc];simp)
 have C:=O.ck hc
 have K:=S.V.L.k.one O S.nm
 exact⟨⟨S.V.ck C K (by simp[kd]) (by simp[kd]) (by simp[kd]),S.ns,O.keep _ _ (ne_kd S.s hc (by simp[kd])) S.s,S.np,C.buf (by simp[kd]) S.p,S.nm,⟨c',new_at _ _ _,hi⟩,ni,nb,λp hp=>(pv p hp).ck C K (by simp[kd]) (by simp[kd]) (by simp[kd]),S.nc,⟨es,c2,O.keep _ _ (Ne.symm S.ne) h2,h3⟩,S.ne⟩,O⟩
def PinR(L:List Pn)(vb:Nat)(lv:Lv)(L':List Pn):Prop:=
 (∃ A p B,L=A++p::B/\p.b=vb/\L'=A++⟨p.b,p.n+1,p.lv,p.i⟩::B)\/((∀ q∈L,q.b≠vb)/\∃ i,L'=L++[⟨vb,1,lv,i⟩])
theorem nodup_ne{L A B:List Pn}{p:Pn}(hn:(L.map (·.b)).Nodup)(e:L=A++p::B):∀ q∈A,q.b≠p.b:=by
 rw[e,map_append,map_cons] at hn
 exact λq hq e=>(nodup_append.1 hn).2.2 q.b (mem_map_of_mem hq) p.b mem_cons_self e
theorem pin_p{Q:Value->Hp->Prop}(S:SetP g h sb vb pm cm ps ls xs ptrs L)(hn:∀ p∈L,1<=p.n/\p.n<=1000000)
  (hQ:∀ h' L',One pm h h'->SetP g h' sb vb pm cm ps ls xs ptrs L'->PinR L vb (xs.map (·.2)) L'->Q (.pointer (some ⟨vb,0,none⟩)) h'):F40.T (some ⟨sb,0,none⟩) h Q:=by
 obtain⟨c,hc,hi⟩:=S.m
 have hk:=S.keys S.V.v
 refine⟨sb,0,rfl,some pm,at_of S.s 1,sb,0,rfl,some ⟨vb,0,none⟩,at_of S.s 0,ents L,c,hc,hk,?_⟩
 by_cases hex:∃ p∈L,p.b=vb
 ·obtain⟨p,hp,rfl⟩:=hex
  obtain⟨A,B,e⟩:=List.append_of_mem hp
  have hA:=nodup_ne S.nb e
  have hpn:=hn p hp
  have hi':∀ q∈A++⟨p.b,p.n+1,p.lv,p.i⟩::B,q.i<c:=λq hq=>by
   rw[mem_append,mem_cons] at hq
   rcases hq with hq|rfl|hq
   ·exact hi q (by rw[e];simp[hq])
   ·exact hi p hp
   ·exact hi q (by rw[e];simp[hq])
  obtain⟨S',O⟩:=S.put (L':=A++⟨p.b,p.n+1,p.lv,p.i⟩::B) (c':=c) hi' (by have:=S.ni;rw[e] at this;simpa using this) (by have:=S.nb;rw[e] at this;simpa using this) (λq hq=>by
   rw[mem_append,mem_cons] at hq
   rcases hq with hq|rfl|hq
   ·exact S.pv q (by rw[e];simp[hq])
   ·exact S.pv p hp
   ·exact S.pv q (by rw[e];simp[hq]))
  refine⟨p.n,by rw[e];exact pin_get hA,pm,ents L,c,rfl,hc,hk,?_⟩
  rw[show mPut (ents L) c (.pointer (some ⟨p.b,0,none⟩)) (.int .i64 (wrap .i64 (p.n+1)))=.map (ents (A++⟨p.b,p.n+1,p.lv,p.i⟩::B)) c from by rw[wrap_i64 (by omega) (by omega),e];exact pin_put hA]
  exact⟨sb,0,rfl,_,at_of S'.s 0,hQ _ _ O S' (.inl ⟨A,p,B,e,rfl,rfl⟩)⟩
 ·have hno:∀ q∈L,q.b≠vb:=λq hq e=>hex ⟨q,hq,e⟩
  obtain⟨S',O⟩:=S.put (L':=L++[⟨vb,1,xs.map (·.2),c⟩]) (c':=c+1) (λq hq=>by
   rw[mem_append,mem_singleton] at hq
   rcases hq with hq|rfl
   ·exact Nat.lt_succ_of_lt (hi q hq)
   ·exact Nat.lt_succ_self c) (by
   rw[map_append,map_cons,List.map_nil,nodup_append]
   refine⟨S.ni,by simp,?_⟩
   intro a ha b hb
   obtain⟨q,hq,rfl⟩:=List.mem_map.1 ha
   rw[mem_singleton] at hb
   subst hb
   exact Nat.ne_of_lt (hi q hq)) (by
   rw[map_append,map_cons,List.map_nil,nodup_append]
   refine⟨S.nb,by simp,?_⟩
   intro a ha b hb
   obtain⟨q,hq,rfl⟩:=List.mem_map.1 ha
   rw[mem_singleton] at hb
   subst hb
   exact hno q hq) (λq hq=>by
   rw[mem_append,mem_singleton] at hq
   rcases hq with hq|rfl
   ·exact S.pv q hq
   ·exact⟨ls,xs,S.V,rfl⟩)
  refine⟨0,pin_get0 hno,pm,ents L,c,rfl,hc,hk,?_⟩
  rw[show mPut (ents L) c (.pointer (some ⟨vb,0,none⟩)) (.int .i64 (wrap .i64 (0+1)))=.map (ents (L++[⟨vb,1,xs.map (·.2),c⟩])) (c+1) from pin_put0 hno _]
  exact⟨sb,0,rfl,_,at_of S'.s 0,hQ _ _ O S' (.inr ⟨hno,c,rfl⟩)⟩
def UnpinR(L:List Pn)(b:Nat)(L':List Pn):Prop:=
 ∃ A p B,L=A++p::B/\p.b=b/\((p.n=1/\L'=A++B)\/(1<p.n/\L'=A++⟨p.b,p.n-1,p.lv,p.i⟩::B))
theorem unpin_p{b:Nat}{lv:Lv}{Q:Value->Hp->Prop}(S:SetP g h sb vb pm cm ps ls xs ptrs L)(V2:VerO g h b lv)(Z:SmP xs L)(hn:∀ p∈L,1<=p.n/\p.n<=1000000)(hs:totL lv<=5000000)(h5:lv.length<=5)
  (h0:(∀ q∈L,q.b≠b)->Q (.slice none 0 0) h)
  (hQ:∀ h' L' (l:Sl),Chg (λk=>k=pm\/k=cm) h h'->SetP g h' sb vb pm cm ps ls xs ptrs L'->UnpinR L b L'->Buf h' l 1 48 (uvs (goneM (xs.map (·.2)) (L'.map (·.lv)) lv))->NewN h l->VerO g h' b lv->Q (.slice l.a l.n l.c) h'):F43.T (some ⟨sb,0,none⟩) (some ⟨b,0,none⟩) h Q:=by
 unfold F43.T F43.G
 obtain⟨c,hc,hi⟩:=S.m
 obtain⟨x,hx⟩:=V2.solid
 have hk:=S.keys hx
 refine⟨sb,0,rfl,some pm,at_of S.s 1,ents L,c,hc,hk,?_⟩
 by_cases hex:∃ p∈L,p.b=b
 ·obtain⟨p,hp,rfl⟩:=hex
  obtain⟨A,B,e⟩:=List.append_of_mem hp
  have hA:=nodup_ne S.nb e
  have hpn:=hn p hp
  have hg:mget (ents L) (pk p.b) (.int .i64 0)=.int .i64 p.n:=by rw[e];exact pin_get hA
  refine⟨p.n,hg,λh0=>absurd h0 (by omega),λ_=>⟨λh1=>?_,λh1=>?_⟩⟩
  ·obtain⟨S',O⟩:=S.put (L':=A++B) (c':=c) (λq hq=>hi q (by rw[e];rcases mem_append.1 hq with hq|hq<;>simp[hq])) (by have:=S.ni;rw[e] at this;refine this.sublist ?_;simp) (by have:=S.nb;rw[e] at this;refine this.sublist ?_;simp) (λq hq=>S.pv q (by rw[e];rcases mem_append.1 hq with hq|hq<;>simp[hq]))
   refine⟨sb,0,rfl,some pm,at_of S.s 1,ents L,c,hc,hk,?_⟩
   rw[show mDel (ents L) (.pointer (some ⟨p.b,0,none⟩))=ents (A++B) from by rw[e];exact pin_del hA]
   show F98.T _ _ (h.new pm (.map (ents (A++B)) c)) _
   have V3:VerO g (h.new pm (.map (ents (A++B)) c)) p.b lv:=V2.ck (O.ck hc) (S.V.L.k.one O S.nm) (by simp[kd]) (by simp[kd]) (by simp[kd])
   have Z':SmP xs (A++B):=⟨Z.t,Z.x5,by have:=Z.l;rw[e,length_append,length_cons] at this;rw[length_append];omega,λq hq=>Z.p q (by rw[e];rcases mem_append.1 hq with hq|hq<;>simp[hq])⟩
   refine gone_p S' V3.r Z' hs h5 λh2 l O2 c2 B2 N2=>⟨l,rfl,?_⟩
   obtain⟨es3,c3,hc3,_⟩:=S'.c
   have V4:=V3.ck (O2.ck hc3) (S'.V.L.k.one O2 S'.nc) (by simp[kd]) (by simp[kd]) (by simp[kd])
   exact hQ h2 (A++B) l ((Chg.one O (.inl rfl)).trans (Chg.one O2 (.inr rfl))) (S'.one O2 c2) ⟨A,p,B,e,rfl,.inl ⟨h1,rfl⟩⟩ B2 (N2.mono O.dom) V4
  ·have hi':∀ q∈A++⟨p.b,p.n-1,p.lv,p.i⟩::B,q.i<c:=λq hq=>by
    rw[mem_append,mem_cons] at hq
    rcases hq with hq|rfl|hq
    ·exact hi q (by rw[e];simp[hq])
    ·exact hi p hp
    ·exact hi q (by rw[e];simp[hq])
   have hm:∀ {P:Pn->Prop},(∀ q∈L,P q)->P ⟨p.b,p.n-1,p.lv,p.i⟩->∀ q∈A++⟨p.b,p.n-1,p.lv,p.i⟩::B,P q:=λhP hp' q hq=>by
    rw[mem_append,mem_cons] at hq
    rcases hq with hq|rfl|hq
    ·exact hP q (by rw[e];simp[hq])
    ·exact hp'
    ·exact hP q (by rw[e];simp[hq])
   obtain⟨S',O⟩:=S.put (L':=A++⟨p.b,p.n-1,p.lv,p.i⟩::B) (c':=c) hi' (by have:=S.ni;rw[e] at this;simpa using this) (by have:=S.nb;rw[e] at this;simpa using this) (hm S.pv (S.pv p hp))
   refine⟨sb,0,rfl,some pm,at_of S.s 1,ents L,c,hc,hk,p.n,hg,pm,ents L,c,rfl,hc,hk,?_⟩
   rw[show mPut (ents L) c (.pointer (some ⟨p.b,0,none⟩)) (.int .i64 (wrap .i64 (p.n-1)))=.map (ents (A++⟨p.b,p.n-1,p.lv,p.i⟩::B)) c from by rw[wrap_i64 (by omega) (by omega),e];exact pin_put hA]
   have V3:VerO g (h.new pm (.map (ents (A++⟨p.b,p.n-1,p.lv,p.i⟩::B)) c)) p.b lv:=V2.ck (O.ck hc) (S.V.L.k.one O S.nm) (by simp[kd]) (by simp[kd]) (by simp[kd])
   have Z':SmP xs (A++⟨p.b,p.n-1,p.lv,p.i⟩::B):=⟨Z.t,Z.x5,by have:=Z.l;rw[e,length_append,length_cons] at this;rw[length_append,length_cons];omega,hm Z.p (Z.p p hp)⟩
   refine gone_p S' V3.r Z' hs h5 λh2 l O2 c2 B2 N2=>⟨l,rfl,?_⟩
   obtain⟨es3,c3,hc3,_⟩:=S'.c
   have V4:=V3.ck (O2.ck hc3) (S'.V.L.k.one O2 S'.nc) (by simp[kd]) (by simp[kd]) (by simp[kd])
   exact hQ h2 _ l ((Chg.one O (.inl rfl)).trans (Chg.one O2 (.inr rfl))) (S'.one O2 c2) ⟨A,p,B,e,rfl,.inr ⟨by omega,rfl⟩⟩ B2 (N2.mono O.dom) V4
 ·have hno:∀ q∈L,q.b≠b:=λq hq e=>hex ⟨q,hq,e⟩
  exact⟨0,pin_get0 hno,λ_=>h0 hno,λh1=>absurd rfl h1⟩
theorem new_p{h:Hp}{n:Int}{Q:Value->Hp->Prop}{k:Nat}(hk:(k:Int)=iMin (iMax n 1) 5)
  (hQ:∀ h' sb vb pm cm ps ls xs,SetP h h' sb vb pm cm ps ls xs (List.replicate k ⟨#[]⟩) []->xs.map (·.2)=List.replicate k []->Q (.pointer (some ⟨sb,0,none⟩)) h'):F25.T n h Q:=by
 have k1:1<=k/\k<=5:=by
  unfold iMin iMax at hk
  split at hk<;>split at hk<;>omega
 have e:iMin (iMax (k:Int) 1) 5=iMin (iMax n 1) 5:=by
  rw[<- hk]
  unfold iMin iMax
  split<;>split<;>omega
 have:=new_spec0 (h:=h) (n:=(k:Int)) (k:=k) (Q:=Q) rfl k1.1 k1.2 λh' sb vb pm cm ps ls xs S hpm e=>by
  obtain⟨c,hc⟩:=S.m
  exact hQ h' sb vb pm cm ps ls xs ⟨S.V,S.ns,S.s,S.np,S.p,hpm,⟨c,hc,λp hp=>by cases hp⟩,by simp,by simp,λp hp=>(by cases hp),S.nc,S.c,S.ne⟩ e
 unfold F25.T at this ⊢
 rw[e] at this
 exact this
theorem apply_p{l l1 l2:Sl}{e:Edit}{a b c:Int}{Q:Value->Hp->Prop}
  (S:SetP g h sb vb pm cm ps ls xs ptrs L) (Eh:EdAt h e l l1 l2) (hE:∀ h9:Hp,(∀ k x,k≠sb->h k=some x->h9 k=some x)->h9.row l2.a l2.n (ptrV e.ptr)) (hp:ptrs.length=xs.length) (h1:1<=xs.length) (h5:xs.length<=5) (hs:totL (xs.map (·.2))+e.inn.length<=4000000) (ho:e.out.length<=4000000) (hL:L.length<=100000) (hLp:∀ p∈L,totL p.lv<=5000000/\p.lv.length<=5)
  (hQ:∀ h' c (r:Sl) vb' ls' xs' ptrs',Chg (DP sb pm cm ps) h h'->SetP g h' sb vb' pm cm ps ls' xs' ptrs' L->Res (xs.map (·.2)) e c (xs'.map (·.2))->(c=0->ptrs'=e.ptr/\h vb'=none/\Buf h' r 1 48 (uvs (goneM (xs'.map (·.2)) (L.map (·.lv)) (xs.map (·.2))))/\NewN h r)->(c≠0->vb'=vb/\xs'=xs/\ptrs'=ptrs/\Keep h h'/\r=⟨none,0,0⟩)->Q (.tuple ⟨[.slice r.a r.n r.c,.int .i64 c]⟩) h'):F33.T (some ⟨sb,0,none⟩) a b c l l1 l2 h Q:=by
 have hl2:l2.n=e.ptr.length:=by have:=Eh.ptr.1;rw[ptrV_length] at this;omega
 have hln:=S.V.L.len
 refine⟨sb,0,rfl,some ⟨vb,0,none⟩,at_of S.s 0,vb,0,rfl,ls,at_of S.V.v 0,λhlen=>?_,λhlen=>?_⟩
 ·have hpl:e.ptr.length=(xs.map (·.2)).length:=by rw[length_map];omega
  refine⟨sb,0,rfl,some ⟨vb,0,none⟩,at_of S.s 0,?_⟩
  refine copied_ver S.V.r (by rw[length_map];exact h5) (by omega) λh1 vb1 ls1 xs1 V1 e1=>⟨some ⟨vb1,0,none⟩,rfl,?_⟩
  have hx1l:xs1.length=xs.length:=by have:=congrArg List.length e1;simpa using this
  refine out_spec V1 Eh.out (by rw[e1];omega) (by omega) λh2 xs2 V2 C2 e2=>⟨_,rfl,λhc=>?_,λhc=>?_⟩
  ·rw[e1] at hc e2
   have so:=outM_sum e.out (xs.map (·.2))
   have hx2l:xs2.length=xs.length:=by have:=congrArg List.length e2;rw[length_map,so.2.1,length_map] at this;exact this
   refine in_spec V2 Eh.inn (by rw[e2];omega) (by omega) (by omega) λh3 c3 xs3 V3 C3 r3=>⟨c3,rfl,λhc3=>?_,λhc3=>?_⟩
   ·subst hc3
    have S3:=S.keep V3.L.k
    have V3g:=V3.base S.V.L.k
    have hR:Res (xs.map (·.2)) e 0 (xs3.map (·.2)):=by
     unfold Res
     rw[if_pos hpl,if_pos hc]
     unfold InR at r3
     rw[e2] at r3
     exact r3
    refine⟨sb,0,rfl,some ⟨vb,0,none⟩,at_of S3.s 0,sb,0,rfl,canW_new S3.s (by simp),sb,0,rfl,?_⟩
    have C4:Ck [152] h3 (h3.wr sb 0 [.pointer (some ⟨vb1,0,none⟩)]):=Ck.wr S3.s
    have K4:Keep g (h3.wr sb 0 [.pointer (some ⟨vb1,0,none⟩)]):=V3g.L.k.wr S.ns _ _
    have s4:=wr_at (o:=0) (vs:=[.pointer (some ⟨vb1,0,none⟩)]) S3.s
    have Cg4:Chg (DP sb pm cm ps) h (h3.wr sb 0 [.pointer (some ⟨vb1,0,none⟩)]):=by
     refine(Chg.of_keep V3.L.k).trans ⟨λk x n ek=>?_,C4.dom⟩
     unfold Hp.wr
     rw[if_neg (λhk=>n (.inl hk))];exact ek
    have r4:=hE (h3.wr sb 0 [.pointer (some ⟨vb1,0,none⟩)]) λk x n ek=>by
     unfold Hp.wr
     rw[if_neg n];exact V3.L.k k x ek
    have V4:=V3g.ck C4 K4 (by decide) (by decide) (by decide)
    have Vo4:=S3.V.ck C4 K4 (by decide) (by decide) (by decide)
    have P4:∀ p∈L,VerO g (h3.wr sb 0 [.pointer (some ⟨vb1,0,none⟩)]) p.b p.lv:=λp hp=>(S3.pv p hp).ck C4 K4 (by decide) (by decide) (by decide)
    have p4:=C4.buf (by decide) S3.p
    obtain⟨cp,hcp,hcl⟩:=S3.m
    have m4:=C4.keep _ _ hcp (by simp[kd])
    obtain⟨es,ce,hce,hue⟩:=S3.c
    have c4:=C4.keep _ _ hce (by simp[kd])
    clear C4
    generalize h3.wr sb 0 [.pointer (some ⟨vb1,0,none⟩)]=h4 at K4 s4 Cg4 V4 Vo4 p4 m4 c4 P4 r4 ⊢
    have hpn:ps.n=ptrs.length:=by have:=p4.len;rw[ptrV_length] at this;omega
    have hmin:Nat.min l2.n ps.n=l2.n:=Nat.min_eq_left (by omega)
    refine⟨ps,at_of s4 2,ptrV e.ptr,?_⟩
    rw[hmin,Nat.mul_one]
    obtain⟨bp,hbp⟩:=buf_b p4 (by rw[ptrV_length];omega)
    obtain⟨w5,U5,B5⟩:=bufWr' (A:=[]) (U:=ptrV ptrs) (V:=ptrV e.ptr) (B:=[]) (by rw[List.nil_append,append_nil];exact p4) (by rw[ptrV_length,ptrV_length];omega) hbp
    simp only[List.nil_append,append_nil,List.length_nil] at w5 U5 B5
    rw[<- hbp] at w5 U5 B5
    refine⟨r4,ptr_one _,w5,?_⟩
    have C5:Ck [11] h4 (h4.wrA ps.a (ptrV e.ptr)):=Ck.of_upd p4 U5
    have K5:=(S.np.upd K4 U5).1
    have S5:SetP g (h4.wrA ps.a (ptrV e.ptr)) sb vb1 pm cm ps ls1 xs3 e.ptr L:=⟨V4.ck C5 K5 (by decide) (by decide) (by decide),S.ns,C5.keep _ _ s4 (show 152∉[11] by decide),S.np,B5,S.nm,⟨cp,C5.keep _ _ m4 (show 0∉[11] by decide),hcl⟩,S.ni,S.nb,λp hp=>(P4 p hp).ck C5 K5 (by decide) (by decide) (by decide),S.nc,⟨es,ce,C5.keep _ _ c4 (show 0∉[11] by decide),hue⟩,S.ne⟩
    have Vo5:=Vo4.ck C5 K5 (by decide) (by decide) (by decide)
    have Cg5:Chg (DP sb pm cm ps) h (h4.wrA ps.a (ptrV e.ptr)):=Cg4.trans (Chg.upd U5 λk o hk=>.inr (.inr (.inl (by rw[hbp] at hk ⊢;simp only[Option.some.injEq,Addr.mk.injEq,and_true] at hk;rw[hk.1]))))
    obtain⟨_,l2',hS,hT2,hl2',_⟩:=hR.ok
    have t3:totL (xs3.map (·.2))<=5000000:=by rw[hS.totL];omega
    have n3:xs3.length=xs.length:=by have:=hS.1;rw[length_map,hl2',length_map] at this;exact this
    refine gone_p S5 Vo5.r ⟨t3,by omega,hL,hLp⟩ (by omega) (by rw[length_map];exact h5) λh6 r O6 c6 B6 N6=>⟨r,rfl,?_⟩
    exact hQ h6 0 r vb1 ls1 xs3 e.ptr (Cg5.trans (Chg.one O6 (.inr (.inl rfl)))) (S5.one O6 c6) hR (λ_=>⟨rfl,V3.nv,B6,N6.mono Cg5.dom⟩) (λh0=>absurd rfl h0)
   ·refine hQ h3 c3 ⟨none,0,0⟩ vb ls xs ptrs (Chg.of_keep V3.L.k) (S.keep V3.L.k) ?_ (λh0=>absurd h0 hc3) (λ_=>⟨rfl,rfl,rfl,V3.L.k,rfl⟩)
    unfold Res
    rw[if_pos hpl,if_pos hc]
    unfold InR at r3
    rw[e2] at r3
    split
    ·next h0=>
     rw[if_pos h0] at r3
     exact r3.imp id λk=>absurd k.1 hc3
    ·next h0=>rw[if_neg h0] at r3;exact r3
  ·rw[e1] at hc
   rw[e1]
   refine hQ h2 _ ⟨none,0,0⟩ vb ls xs ptrs (Chg.of_keep V2.L.k) (S.keep V2.L.k) ?_ (λh0=>absurd h0 hc) (λ_=>⟨rfl,rfl,rfl,V2.L.k,rfl⟩)
   unfold Res
   rw[if_pos hpl,if_neg hc]
 ·refine hQ h 133 ⟨none,0,0⟩ vb ls xs ptrs (Chg.of_keep (Keep.refl h)) S ?_ (λh0=>absurd h0 (by decide)) (λ_=>⟨rfl,rfl,rfl,Keep.refl h,rfl⟩)
  unfold Res
  rw[if_neg (by rw[length_map];omega)]
end
end Go.Eng.YtbjnlacacapjiaaGreatDoor
end
section
namespace Go.Eng.YtbjnlacacapjiaaGreatDoor
def Cnt(h0 h:Hp)(b k:Nat):Prop:=Keep h0 h/\h0 b=none/\∃ v:Int,h b=some (.cells ⟨[.int .i64 v]⟩ 156 (0,0))/\-1125899906842624<=v/\v<=8192/\(0<=v->v+k<=8192)
section
variable{h0 h:Hp}{b k:Nat}{Q:Value->Hp->Prop}{l l1 l2:Sl}
theorem padd_s(C:Cnt h0 h b k){n:Nat}(hn:n<=562949953421312)(hQ:∀ h' r,Cnt h0 h' b (k+n)->Q (.bool r) h'):F70.T (some ⟨b,0,none⟩) (n:Int) h Q:=by
 obtain⟨K,hb,v,x,v1,v2,v3⟩:=C
 refine⟨b,0,rfl,v,at_of x 0,λh1=>?_,λh1=>?_⟩
 ·have y:=wr_at (o:=0) (vs:=[.int .i64 (v-(n:Int))]) x
  refine⟨b,0,rfl,v,at_of x 0,b,0,rfl,canW_new x (Nat.le_refl 1),?_⟩
  rw[wrap_i64 (by omega) (by omega)]
  have C':Cnt h0 (h.wr b 0 [.int .i64 (v-(n:Int))]) b (k+n):=⟨K.wr hb _ _,hb,v-n,y,by omega,by omega,λ_=>by have:=v3 h1;omega⟩
  exact⟨b,0,rfl,_,at_of y 0,λ_=>hQ _ _ C',λ_=>hQ _ _ C'⟩
 ·have C':Cnt h0 h b (k+n):=⟨K,hb,v,x,v1,v2,λh2=>absurd h2 h1⟩
  exact⟨b,0,rfl,v,at_of x 0,λ_=>hQ _ _ C',λ_=>hQ _ _ C'⟩
theorem pok_s(C:Cnt h0 h b k)(h1:k<=8192->Q (.bool true) h)(h2:(∀ k,Cnt h0 h b k)->Q (.bool false) h):F31.T (some ⟨b,0,none⟩) h Q:=by
 obtain⟨K,hb,v,x,v1,v2,v3⟩:=C
 exact⟨b,0,rfl,v,at_of x 0,λh0=>h1 (by have:=v3 h0;omega),λh0=>h2 λk=>⟨K,hb,v,x,v1,v2,λh3=>absurd h3 h0⟩⟩
theorem Cnt.mono{k':Nat}(C:Cnt h0 h b k)(hk:k'<=k):Cnt h0 h b k':=by
 obtain⟨K,hb,v,x,v1,v2,v3⟩:=C
 exact⟨K,hb,v,x,v1,v2,λh=>by have:=v3 h;omega⟩
theorem ptext_s(C:Cnt h0 h b k){s:ByteArray}(hs:s.size<=281474976710656)(hQ:∀ h' r,Cnt h0 h' b (k+1)->Q r h'):F71.T (some ⟨b,0,none⟩) s h Q:=by
 unfold F71.T F71.G
 rw[show(1+(s.size:Int))=((1+s.size:Nat):Int) by omega,wrap_i64 (by omega) (by omega)]
 refine padd_s C (by omega) λh' r C'=>⟨r,rfl,λ_=>hQ _ _ (C'.mono (by omega)),λ_=>hQ _ _ (C'.mono (by omega))⟩
def Edit.fits(e:Edit):Prop:=(∀ p∈e.inn,p.least.size<=281474976710656/\p.greatest.size<=281474976710656)/\∀ s∈e.ptr,s.size<=281474976710656
theorem small_s{e:Edit}{a a1 a2:Int}(E:EdAt h e l l1 l2)(z:e.fits)(ho:e.out.length<=140737488355328)(hi:e.inn.length<=140737488355328)(hp:e.ptr.length<=140737488355328)
  (hQ:∀ h' r,Keep h h'->(r=true->e.out.length<=8192/\e.inn.length<=8192/\e.ptr.length<=8192)->Q (.bool r) h'):F7.T a a1 a2 l l1 l2 h Q:=by
 have hl:l.n=e.out.length:=by have:=E.out.1;rw[outV_len] at this;omega
 have hl1:l1.n=e.inn.length:=by have:=E.inn.1;rw[inV_len] at this;omega
 have hl2:l2.n=e.ptr.length:=by have:=E.ptr.1;rw[ptrV_length] at this;omega
 unfold F7.T F29.T F7.G F30.T F30.G
 intro b hb
 have C1:Cnt h (h.new b (.cells ⟨[.int .i64 8192]⟩ 156 (0,0))) b 0:=⟨Keep.new hb _,hb,_,new_at _ _ _,by decide,by decide,by decide⟩
 generalize h.new b (.cells ⟨[.int .i64 8192]⟩ 156 (0,0))=h1 at C1 ⊢
 refine⟨_,rfl,?_⟩
 rw[show(1+(l.n:Int))=((1+l.n:Nat):Int) by omega,wrap_i64 (by omega) (by omega)]
 refine padd_s C1 (by omega) λh2 r C2=>⟨r,rfl,?_⟩
 have fin:∀ h3,Cnt h h3 b (e.out.length+e.inn.length+e.ptr.length)->F31.T (some ⟨b,0,none⟩) h3 λr2 h3=>retB r2 (Q (.bool true) h3) (Q (.bool false) h3):=λh3 C3=>
  pok_s C3 (λhk=>⟨true,rfl,λ_=>hQ _ _ C3.1 λ_=>⟨by omega,by omega,by omega⟩,λh0=>(by cases h0)⟩) λ_=>⟨false,rfl,λh0=>(by cases h0),λ_=>hQ _ _ C3.1 λh0=>(by cases h0)⟩
 have one:∃ J:Hp->Prop,(∀ h2:Hp,J h2->∃ (I:Int->Hp->Prop) (m:Int->Hp->Nat),I 0 h2/\(∀ n3:Int,∀ h3:Hp,I n3 h3->par (n3<(l2.n:Int)) (F31.T (some ⟨b,0,none⟩) h3 λr1 h4=>retB r1 (ix l2.a n3 l2.n λb1 o=>ldT h4 b1 (o+n3.toNat) λs=>F71.T (some ⟨b,0,none⟩) s h4 λr2 h5=>I (wrap .i64 (n3+1)) h5/\m (wrap .i64 (n3+1)) h5<m n3 h3) (F31.T (some ⟨b,0,none⟩) h4 λr2 h3=>retB r2 (Q (.bool true) h3) (Q (.bool false) h3))) (F31.T (some ⟨b,0,none⟩) h3 λr2 h3=>retB r2 (Q (.bool true) h3) (Q (.bool false) h3))))/\(∃ (I1:Int->Hp->Prop) (m1:Int->Hp->Nat),I1 0 h2/\(∀ n4:Int,∀ h6:Hp,I1 n4 h6->par (n4<(l1.n:Int)) (F31.T (some ⟨b,0,none⟩) h6 λr3 h7=>retB r3 (ix l1.a n4 l1.n λb1 o1=>ldT h7 b1 (((o1+n4.toNat*7)+1)+4) λs1=>F71.T (some ⟨b,0,none⟩) s1 h7 λr4 h8=>ix l1.a n4 l1.n λb2 o2=>ldT h8 b2 (((o2+n4.toNat*7)+1)+5) λs2=>F70.T (some ⟨b,0,none⟩) (s2.size:Int) h8 λr5 h9=>retB r5 (I1 (wrap .i64 (n4+1)) h9/\m1 (wrap .i64 (n4+1)) h9<m1 n4 h6) (I1 (wrap .i64 (n4+1)) h9/\m1 (wrap .i64 (n4+1)) h9<m1 n4 h6)) (J h7)) (J h6))):=by
  refine⟨λh3=>Cnt h h3 b (e.out.length+e.inn.length),λh3 C3=>?_,λn h3=>∃ P R,e.inn=P++R/\n=(P.length:Int)/\Cnt h h3 b (e.out.length+P.length),λn _=>e.inn.length-n.toNat,⟨[],e.inn,rfl,rfl,C2.mono (by simp;omega)⟩,?_⟩
  ·refine⟨λn h4=>∃ P R,e.ptr=P++R/\n=(P.length:Int)/\Cnt h h4 b (e.out.length+e.inn.length+P.length),λn _=>e.ptr.length-n.toNat,⟨[],e.ptr,rfl,rfl,C3⟩,?_⟩
   rintro n h4 ⟨P,R,eP,rfl,C4⟩
   have eL:=congrArg List.length eP
   rw[length_append] at eL
   refine⟨λhlt=>?_,λhge=>fin h4 (C4.mono (by omega))⟩
   refine pok_s C4 (λ_=>⟨true,rfl,λ_=>?_,λh0=>by cases h0⟩) λC5=>⟨false,rfl,λh0=>(by cases h0),λ_=>fin h4 (C5 _)⟩
   rcases R with _|⟨s,R⟩
   ·simp at eL;omega
   obtain⟨b2,o,ha,hat⟩:=row_get (C4.1.row E.ptr) (i:=P.length) (by omega)
   refine⟨b2,o,ha,⟨by omega,hlt⟩,s,?_,?_⟩
   ·rw[Int.toNat_natCast,hat P.length (by omega),eP]
    unfold ptrV
    rw[getElem?_map,List.getElem?_append_right (Nat.le_refl _),Nat.sub_self];rfl
   ·refine ptext_s C4 (z.2 s (by rw[eP];simp)) λh5 r C5=>?_
    rw[length_cons] at eL
    rw[next_i (n:=140737488355328) (by omega) (by omega)]
    exact⟨⟨P++[s],R,by rw[eP];simp,by simp,C5.mono (by rw[length_append];simp;omega)⟩,by dsimp only;omega⟩
  ·rintro n h4 ⟨P,R,eP,rfl,C4⟩
   have eL:=congrArg List.length eP
   rw[length_append] at eL
   refine⟨λhlt=>?_,λhge=>C4.mono (by omega)⟩
   refine pok_s C4 (λ_=>⟨true,rfl,λ_=>?_,λh0=>by cases h0⟩) λC5=>⟨false,rfl,λh0=>(by cases h0),λ_=>C5 _⟩
   rcases R with _|⟨p,R⟩
   ·simp at eL;omega
   have er:=E.inn
   rw[eP] at er
   have cell:∀ h',Keep h h'->∃ b o,(l1.a:Option Addr)=some ⟨b,o,none⟩/\h'.at b (((o+P.length*7)+1)+4)=some (.string p.least)/\h'.at b (((o+P.length*7)+1)+5)=some (.string p.greatest):=λh' K=>by
    obtain⟨b,o,h1,_,n1,_,n2,_,n3,_,n4,_,n5,_,s,hs,s1,hs1,rfl,rfl⟩:=in_rd (K.row er) rfl (K:=λ_ _ _ _ _ _ _ s s1=>s=p.least/\s1=p.greatest) (λ_ _=>⟨rfl,rfl⟩)
    rw[Int.toNat_natCast] at hs hs1
    exact⟨b,o,h1,hs,hs1⟩
   have zp:=z.1 p (by rw[eP];simp)
   obtain⟨b1,o1,ha1,hs1,_⟩:=cell h4 C4.1
   refine⟨b1,o1,ha1,⟨by omega,hlt⟩,p.least,by rw[Int.toNat_natCast];exact hs1,?_⟩
   refine ptext_s C4 zp.1 λh5 r5 C5=>?_
   obtain⟨b2,o2,ha2,_,hs2⟩:=cell h5 C5.1
   refine⟨b2,o2,ha2,⟨by omega,hlt⟩,p.greatest,by rw[Int.toNat_natCast];exact hs2,?_⟩
   refine padd_s C5 (by have:=zp.2;omega) λh6 r6 C6=>?_
   rw[length_cons] at eL
   rw[next_i (n:=140737488355328) (by omega) (by omega)]
   have last:(∃ P' R',e.inn=P'++R'/\((P.length+1:Nat):Int)=(P'.length:Int)/\Cnt h h6 b (e.out.length+P'.length)):=⟨P++[p],R,by rw[eP];simp,by simp,C6.mono (by rw[length_append];simp;omega)⟩
   exact⟨r6,rfl,λ_=>⟨last,by dsimp only;omega⟩,λ_=>⟨last,by dsimp only;omega⟩⟩
 exact⟨λ_=>one,λ_=>one⟩
end
end Go.Eng.YtbjnlacacapjiaaGreatDoor
end
section
namespace Go.Eng.YtbjnlacacapjiaaGreatDoor
open Go.Eng
def DVer(g h:Hp)(wb nm:Nat)(lv:Lv):Prop:=∃ ls xs,Lvs g h ls xs/\g wb=none/\h wb=some (.cells ⟨[.int .i64 (nm:Int),.slice ls.a ls.n ls.c]⟩ 152 (0,0))/\xs.map (·.2)=lv
theorem DVer.ck{κ:List Nat}{g h h':Hp}{wb nm:Nat}{lv:Lv}(V:DVer g h wb nm lv)(C:Ck κ h h')(K:Keep g h')(a:79∉κ)(b:65∉κ)(c:154∉κ):DVer g h' wb nm lv:=by
 obtain⟨ls,xs,L,n,v,e⟩:=V
 exact⟨ls,xs,L.ck C K a b,n,C.keep _ _ v c,e⟩
theorem DVer.keep{g h h':Hp}{wb nm:Nat}{lv:Lv}(V:DVer g h wb nm lv)(K:Keep h h'):DVer g h' wb nm lv:=by
 obtain⟨ls,xs,L,n,v,e⟩:=V
 exact⟨ls,xs,L.keep K,n,K _ _ v,e⟩
def nV(w:List Nat):List Value:=w.map λi:Nat=>Value.int .i64 (i:Int)
theorem nV_len(w:List Nat):(nV w).length=w.length:=length_map _
def wV(D:List (Nat×Lv)):List Value:=D.map λd=>pk d.1
theorem wV_len(D:List (Nat×Lv)):(wV D).length=D.length:=length_map _
structure SetD(g h:Hp)(sb:Nat)(al pi ps:Sl)(D:List (Nat×Lv))(pins:List Nat)(ptrs:List ByteArray):Prop where
 k:Keep g h
 ns:g sb=none
 s:∃ d,D.getLast?=some d/\h sb=some (.cells ⟨[.pointer (some ⟨d.1,0,none⟩),.slice al.a al.n al.c,.slice pi.a pi.n pi.c,.slice ps.a ps.n ps.c]⟩ 154 (0,0))
 na:NewN g al
 a:Buf h al 1 97 (wV D)
 ni:NewN g pi
 i:Buf h pi 1 3 (nV pins)
 np:NewN g ps
 p:Buf h ps 1 9 (ptrV ptrs)
 pl:pins.length=D.length
 v:∀ (i:Nat) d,D[i]?=some d->DVer g h d.1 i d.2
 nd:(D.map (·.1)).Nodup
def curD(D:List (Nat×Lv)):Lv:=match D.getLast? with|some d=>d.2|none=>[]
def pinL(D:List (Nat×Lv))(pins:List Nat):List Lv:=(D.zip pins).filterMap λx=>if 0<x.2 then some x.1.2 else none
theorem mem_pinL{D:List (Nat×Lv)}{pins:List Nat}{lv:Lv}:lv∈pinL D pins↔∃ (i:Nat) (d:Nat×Lv) (n:Nat),D[i]?=some d/\pins[i]?=some n/\0<n/\d.2=lv:=by
 unfold pinL
 rw[List.mem_filterMap]
 constructor
 ·rintro⟨⟨d,n⟩,hm,e⟩
  obtain⟨i,hi,hx⟩:=List.getElem_of_mem hm
  dsimp only at e
  split at e
  ·rename_i hn
   rw[List.getElem_zip] at hx
   have hi2:=hi
   rw[List.length_zip] at hi2
   cases hx
   exact⟨i,_,_,getElem?_eq_getElem (by omega),getElem?_eq_getElem (by omega),hn,Option.some.inj e⟩
  ·cases e
 ·rintro⟨i,d,n,h1,h2,h3,rfl⟩
  refine⟨(d,n),?_,by simp[h3]⟩
  obtain⟨i1,e1⟩:=List.getElem?_eq_some_iff.1 h1
  obtain⟨i2,e2⟩:=List.getElem?_eq_some_iff.1 h2
  have:(D.zip pins)[i]'(by rw[List.length_zip];omega)=(d,n):=by rw[List.getElem_zip,e1,e2]
  rw[<- this]
  exact List.getElem_mem _
structure SmD(D:List (Nat×Lv)):Prop where
 l:D.length<=100000
 p:∀ d∈D,totL d.2<=4000000/\d.2.length<=5
section
variable{g h h':Hp}{sb:Nat}{al pi ps:Sl}{D:List (Nat×Lv)}{pins:List Nat}{ptrs:List ByteArray}{Q:Value->Hp->Prop}
theorem SetD.ck{κ:List Nat}(S:SetD g h sb al pi ps D pins ptrs)(C:Ck κ h h')(K:Keep g h')(a:79∉κ)(b:65∉κ)(c:154∉κ)(d:156∉κ)(e:99∉κ)(f:5∉κ)(x:11∉κ):SetD g h' sb al pi ps D pins ptrs:=by
 obtain⟨q,h1,h2⟩:=S.s
 exact⟨K,S.ns,⟨q,h1,C.keep _ _ h2 d⟩,S.na,C.buf e S.a,S.ni,C.buf f S.i,S.np,C.buf x S.p,S.pl,λi d hd=>(S.v i d hd).ck C K a b c,S.nd⟩
theorem SetD.keep(S:SetD g h sb al pi ps D pins ptrs)(K:Keep h h'):SetD g h' sb al pi ps D pins ptrs:=
 S.ck (κ:=[]) (Ck.of_keep K) (S.k.trans K) (by simp) (by simp) (by simp) (by simp) (by simp) (by simp) (by simp)
theorem has_d{wb nm:Nat}{lv:Lv}{n:Int}(V:DVer g h wb nm lv)(hs:totL lv<=4100000)(h5:lv.length<=5)(hT:n∈nums lv->Q (.bool true) h)(hF:n∉nums lv->Q (.bool false) h):F165.T (some ⟨wb,0,none⟩) n h Q:=by
 obtain⟨ls,xs,L,_,v,rfl⟩:=V
 exact⟨wb,0,rfl,ls,at_of v 1,anywhere_spec L.l.row (λx hx=>Buf.row (L.t x hx)) hs (by simpa using h5) (λhm=>⟨true,rfl,λ_=>hT hm,λh0=>(by cases h0)⟩) (λhm=>⟨false,rfl,λh0=>(by cases h0),λ_=>hF hm⟩)⟩
theorem u_at{l:Sl}{vs:List Int}(B:Buf h l 1 48 (uvs vs)){i:Nat}(hi:i<vs.length):∃ b,l.a=some ⟨b,0,none⟩/\h.at b i=some (.int .u64 (vs[i]'hi)):=by
 obtain⟨b,ha,hat,_⟩:=buf_set B (k:=i) (by rw[uvs_len];exact hi)
 refine⟨b,ha,?_⟩
 rw[hat];unfold uvs;rw[getElem?_map,getElem?_eq_getElem hi];rfl
theorem uvs_one(vs:List Int):∀ v∈uvs vs,Value.oneCell' v=true:=λv hv=>by
 unfold uvs at hv
 obtain⟨s,_,rfl⟩:=List.mem_map.1 hv
 rfl
theorem lay_d{l:Sl}{vs:List Int}{n:Int}(B:Buf h l 1 48 (uvs vs))(hs:vs.length<=4000000)(hsr:vs.Pairwise (·<=·))(hQ:∀ h' (r:Sl) us,Keep h h'->Buf h' r 1 48 (uvs us)->NewN h r->us.Perm (n::vs)->us.Pairwise (·<=·)->Q (.slice r.a r.n r.c) h'):F166.T l n h Q:=by
 have hn:l.n=vs.length:=by have:=B.len;rw[uvs_len] at this;omega
 have hc:=B.cap
 have fin:∀ {g:Hp} {l1:Sl} {us:List Int} {j:Nat},Buf g l1 1 48 (uvs us)->NewN h l1->Keep h g->us=vs.take j->j<=vs.length->(∀ x∈us,x<n)->(∀ x∈vs.drop j,n<=x)->appendD l1 48 1 8 [.int .u64 0] 1 [.int .u64 n] g λl3 h3=>Sl.okCut l (j:Int) (l.n:Int) (l.c:Int)/\∃ ws,h3.row ((Sl.cut l 1 (j:Int) (l.n:Int) (l.c:Int)).a) (((Sl.cut l 1 (j:Int) (l.n:Int) (l.c:Int)).n)*1) ws/\(∀ v∈ws,Value.oneCell' v=true)/\appendD l3 48 1 8 [.int .u64 0] ((Sl.cut l 1 (j:Int) (l.n:Int) (l.c:Int)).n) ws h3 λl4 h4=>Q (.slice l4.a l4.n l4.c) h4:=λ{g l1 us j} B1 N1 K1 hu hj hlt hge=>by
  have hl1:l1.n=us.length:=by have:=B1.len;rw[uvs_len] at this;omega
  have hul:us.length=j:=by rw[hu,List.length_take];omega
  refine append_buf B1 rfl rfl (by omega) λl3 h3 B3 hl3 U3=>?_
  obtain⟨K3,N3⟩:=N1.upd K1 U3
  have r2:=cut_back (k:=j) (K3.row B.row) (by omega) hc
  have e2:(uvs vs).drop (j*1)=uvs (vs.drop j):=by unfold uvs;rw[Nat.mul_one,List.map_drop]
  rw[e2] at r2
  have n2:(Sl.cut l 1 (j:Int) (l.n:Int) (l.c:Int)).n=vs.length-j:=by unfold Sl.cut;dsimp only;omega
  refine⟨⟨by omega,by omega,by omega,by omega⟩,uvs (vs.drop j),r2,uvs_one _,?_⟩
  refine append_buf B3 rfl (by rw[uvs_len,n2,List.length_drop];omega) (by rw[n2];omega) λl4 h4 B4 hl4 U4=>?_
  obtain⟨K4,N4⟩:=N3.upd K3 U4
  refine hQ h4 l4 (us++[n]++vs.drop j) K4 (by unfold uvs at B4 ⊢;rw[map_append,map_append];exact B4) N4 ?_ ?_
  ·rw[List.append_assoc]
   have:(us++([n]++vs.drop j)).Perm (n::(us++vs.drop j)):=List.perm_middle
   rw[hu,List.take_append_drop] at this
   rw[hu];exact this
  ·rw[List.append_assoc,List.pairwise_append]
   refine⟨by rw[hu];exact hsr.sublist (List.take_sublist _ _),?_,λa ha b hb=>?_⟩
   ·show List.Pairwise (·<=·) (n::vs.drop j)
    exact List.pairwise_cons.2 ⟨hge,hsr.sublist (List.drop_sublist _ _)⟩
   ·have:=hlt a ha
    rcases mem_cons.1 hb with rfl|hb
    ·omega
    ·have:=hge b hb;omega
 refine⟨λl1 n1 g=>∃ (j:Nat) (us:List Int),n1=(j:Int)/\j<=vs.length/\us=vs.take j/\(∀ x∈us,x<n)/\Buf g l1 1 48 (uvs us)/\NewN h l1/\Keep h g,λ_ n1 _=>vs.length-n1.toNat,⟨0,[],rfl,Nat.zero_le _,rfl,λx hx=>(by cases hx),Buf.nil _ _ _,.inl rfl,Keep.refl h⟩,?_⟩
 rintro l1 n1 g ⟨j,us,rfl,hj,hu,hlt',B1,N1,K1⟩
 have hl1:l1.n=us.length:=by have:=B1.len;rw[uvs_len] at this;omega
 have hul:us.length=j:=by rw[hu,List.length_take];omega
 refine⟨λhlt=>?_,λhge=>fin B1 N1 K1 hu hj hlt' λx hx=>?_⟩
 ·have hjl:j<vs.length:=by omega
  obtain⟨b,ha,hat⟩:=u_at (B.keep K1) (i:=j) hjl
  refine⟨b,0,ha,⟨by omega,hlt⟩,_,by rw[Nat.zero_add,Int.toNat_natCast];exact hat,λh2=>?_,λh2=>fin B1 N1 K1 hu hj hlt' λx hx=>?_⟩
  ·refine⟨b,0,ha,⟨by omega,hlt⟩,_,by rw[Nat.zero_add,Int.toNat_natCast];exact hat,?_⟩
   refine append_buf B1 rfl rfl (by omega) λl2 g2 B2 hl2 U2=>?_
   obtain⟨K2,N2⟩:=N1.upd K1 U2
   rw[next_i (n:=5000000) (by omega) (by omega)]
   refine⟨⟨j+1,us++[vs[j]],rfl,by omega,by rw[hu,List.take_add_one,getElem?_eq_getElem hjl];rfl,λx hx=>?_,by unfold uvs at B2 ⊢;rw[map_append];exact B2,N2,K2⟩,by(try dsimp only);omega⟩
   rcases mem_append.1 hx with hx|hx
   ·exact hlt' x hx
   ·rw[mem_singleton.1 hx];exact h2
  ·rw[List.drop_eq_getElem_cons hjl] at hx
   rcases mem_cons.1 hx with rfl|hx
   ·omega
   ·have hp:=hsr.sublist (List.drop_sublist j vs)
    rw[List.drop_eq_getElem_cons hjl,List.pairwise_cons] at hp
    have:=hp.1 x hx
    omega
 ·rw[List.drop_eq_nil_of_le (by omega)] at hx;cases hx
theorem gone_uniq{now:Lv}{P:List Lv}{v:Lv}{us:List Int}(hp:us.Perm ((nums v).filter λk=>decide (¬ held now P k)))(hs:us.Pairwise (·<=·)):us=goneM now P v:=by
 unfold goneM
 refine List.Perm.eq_of_pairwise (le:=λx y:Int=>x<=y) (λa b _ _ h1 h2=>by omega) hs ?_ (hp.trans (List.mergeSort_perm _ _).symm)
 have:=List.pairwise_mergeSort (le:=λx y:Int=>decide (x<=y)) (λa b c h1 h2=>by simp at h1 h2 ⊢;omega) (λa b=>by simp;omega) ((nums v).filter λk=>decide (¬ held now P k))
 exact this.imp λh=>by simpa using h
theorem gone_d{vb2 nm2:Nat}{lv2:Lv}(S:SetD g h sb al pi ps D pins ptrs)(V2:DVer g h vb2 nm2 lv2)(Z:SmD D)(hs2:totL lv2<=4000000)(h52:lv2.length<=5)
  (hQ:∀ h' (r:Sl),Keep h h'->Buf h' r 1 48 (uvs (goneM (curD D) (pinL D pins) lv2))->NewN h r->Q (.slice r.a r.n r.c) h'):F100.T (some ⟨sb,0,none⟩) (some ⟨vb2,0,none⟩) h Q:=by
 obtain⟨ls2,ys,L2,_,hv2,rfl⟩:=V2
 have hr2:=L2.l.row
 have ht2:=λx hx=>Buf.row (L2.t x hx)
 have hys:ys.length<=5:=by simpa using h52
 have hn2:ls2.n=ys.length:=L2.len
 have han:al.n=D.length:=by have:=S.a.len;rw[wV_len] at this;omega
 have hpin:pi.n=D.length:=by have:=S.i.len;rw[nV_len,S.pl] at this;omega
 obtain⟨dl,hdl,hsb⟩:=S.s
 have hD0:D≠[]:=λe=>by rw[e] at hdl;cases hdl
 have hcur:curD D=dl.2:=by unfold curD;rw[hdl]
 have hlast:D[D.length-1]?=some dl:=by rw[List.getLast?_eq_getElem?] at hdl;exact hdl
 have hdlm:dl∈D:=mem_of_getElem? hlast
 have Vl:=S.v _ _ hlast
 have Zl:=Z.p dl hdlm
 have hDl:=Z.l
 have fl:∀ (k:Int) (l:List Int),(l++[k]).filter (λk=>decide (¬ held (curD D) (pinL D pins) k))=l.filter (λk=>decide (¬ held (curD D) (pinL D pins) k))++if held (curD D) (pinL D pins) k then[] else[k]:=λk l=>by
  rw[List.filter_append]
  congr 1
  by_cases hk:held (curD D) (pinL D pins) k<;>simp[hk]
 unfold F100.T F100.G
 refine⟨λl n g=>∃ P R vs,ys=P++R/\n=(P.length:Int)/\Buf g l 1 48 (uvs vs)/\NewN h l/\Keep h g/\vs.Perm ((nums (P.map (·.2))).filter λk=>decide (¬ held (curD D) (pinL D pins) k))/\vs.Pairwise (·<=·),λ_ n _=>ys.length-n.toNat,⟨[],ys,[],rfl,rfl,Buf.nil _ _ _,.inl rfl,Keep.refl h,List.Perm.refl _,List.Pairwise.nil⟩,?_⟩
 rintro l n g1 ⟨P,R,vs,eP,rfl,B1,N1,K1,hvs,hvp⟩
 have hlP:=congrArg List.length eP
 rw[length_append] at hlP
 refine⟨vb2,0,rfl,ls2,at_of (K1 _ _ hv2) 1,λhlt=>?_,λhge=>?_⟩
 rotate_left
 ·have hR:R=[]:=eq_nil_of_length_eq_zero (by omega)
  subst hR
  rw[append_nil] at eP
  subst eP
  exact hQ g1 l K1 (by rw[<- gone_uniq hvs hvp];exact B1) N1
 rcases R with _|⟨x,R⟩
 ·exact absurd hlt (by simp at hlP;omega)
 rw[length_cons] at hlP
 have hx:ys[P.length]?=some x:=by rw[eP];simp
 have htot:totL (P.map (·.2))+x.2.length<=4000000:=by
  rw[eP] at hs2
  unfold totL at hs2 ⊢
  rw[map_append,map_cons,map_append,map_cons,List.sum_append,List.sum_cons] at hs2
  omega
 have nl:∀ lv:Lv,(nums lv).length=totL lv:=λlv=>by unfold nums totL;rw[length_map,List.length_flatten]
 have htx:=ht2 x (mem_of_getElem? hx)
 have hxn:x.1.n=x.2.length:=by have:=htx.1;rw[tabV_len] at this;omega
 refine⟨λl2 n1 g=>∃ A B vs,x.2=A++B/\n1=(A.length:Int)/\Buf g l2 1 48 (uvs vs)/\NewN h l2/\Keep h g/\vs.Perm ((nums (P.map (·.2))++A.map Tab.num).filter λk=>decide (¬ held (curD D) (pinL D pins) k))/\vs.Pairwise (·<=·),λ_ n1 _=>x.2.length-n1.toNat,⟨[],x.2,vs,rfl,rfl,B1,N1,K1,by simpa using hvs,hvp⟩,?_⟩
 rintro l2 n1 g2 ⟨A,B,ws,eAB,rfl,B2,N2,K2,hws,hwp⟩
 have hlA:=congrArg List.length eAB
 rw[length_append] at hlA
 have hwl:ws.length<=4000000:=by
  have h1:=hws.length_eq
  have h2:=List.length_filter_le (λk=>decide (¬ held (curD D) (pinL D pins) k)) (nums (P.map (·.2))++A.map Tab.num)
  rw[length_append,nl,length_map] at h2
  omega
 obtain⟨_,b2,o2,ha2,hat2⟩:=rows_rd (K2.row hr2) hx
 have hat2':g2.at b2 (o2+(P.length:Int).toNat)=some (.slice x.1.a x.1.n x.1.c):=by rw[Int.toNat_natCast];exact hat2
 refine⟨vb2,0,rfl,ls2,at_of (K2 _ _ hv2) 1,b2,o2,ha2,⟨by omega,by omega⟩,x.1,hat2',λhlt1=>?_,λhge1=>?_⟩
 ·rcases B with _|⟨t,B⟩
  ·exact absurd hlt1 (by simp at hlA;omega)
  rw[length_cons] at hlA
  have hta:x.2[A.length]?=some t:=by rw[eAB];simp
  obtain⟨b3,o3,ha3,hi3,hat3⟩:=tab_at (K2.row htx) hta
  refine⟨vb2,0,rfl,ls2,at_of (K2 _ _ hv2) 1,b2,o2,ha2,⟨by omega,by omega⟩,x.1,hat2',b3,o3,ha3,⟨by omega,by omega⟩,t.num,by rw[Int.toNat_natCast];exact hat3 0 (by decide),sb,0,rfl,some ⟨dl.1,0,none⟩,at_of (K2 _ _ hsb) 0,?_⟩
  have ex:∀ k:Int,(nums (P.map (·.2))++(A++[t]).map Tab.num)=(nums (P.map (·.2))++A.map Tab.num)++[t.num]:=λk=>by simp
  have stepH:∀ {g3:Hp} ,Keep h g3->Buf g3 l2 1 48 (uvs ws)->held (curD D) (pinL D pins) t.num->(∃ A' B' vs,x.2=A'++B'/\wrap .i64 ((A.length:Int)+1)=(A'.length:Int)/\Buf g3 l2 1 48 (uvs vs)/\NewN h l2/\Keep h g3/\vs.Perm ((nums (P.map (·.2))++A'.map Tab.num).filter λk=>decide (¬ held (curD D) (pinL D pins) k))/\vs.Pairwise (·<=·))/\x.2.length-(wrap .i64 ((A.length:Int)+1)).toNat<x.2.length-((A.length:Nat):Int).toNat:=λ{g3} K3 B3 hh=>by
   rw[next_i (n:=5000000) (by omega) (by omega)]
   exact⟨⟨A++[t],B,ws,by rw[eAB];simp,by simp,B3,N2,K3,by rw[ex 0,fl,if_pos hh,append_nil];exact hws,hwp⟩,by omega⟩
  have stepN:∀ {g3:Hp} {l3:Sl} {us:List Int},Buf g3 l3 1 48 (uvs us)->NewN h l3->Keep h g3->us.Perm (t.num::ws)->us.Pairwise (·<=·)->¬ held (curD D) (pinL D pins) t.num->(∃ A' B' vs,x.2=A'++B'/\wrap .i64 ((A.length:Int)+1)=(A'.length:Int)/\Buf g3 l3 1 48 (uvs vs)/\NewN h l3/\Keep h g3/\vs.Perm ((nums (P.map (·.2))++A'.map Tab.num).filter λk=>decide (¬ held (curD D) (pinL D pins) k))/\vs.Pairwise (·<=·))/\x.2.length-(wrap .i64 ((A.length:Int)+1)).toNat<x.2.length-((A.length:Nat):Int).toNat:=λ{g3 l3 us} B3 N3 K3 hu hup hh=>by
   rw[next_i (n:=5000000) (by omega) (by omega)]
   refine⟨⟨A++[t],B,us,by rw[eAB];simp,by simp,B3,N3,K3,?_,hup⟩,by omega⟩
   rw[ex 0,fl,if_neg hh]
   exact hu.trans ((List.Perm.cons _ hws).trans (List.perm_append_singleton _ _).symm)
  refine has_d (Vl.keep K2) (by omega) Zl.2 (λhm=>⟨true,rfl,λ_=>?_,λq=>Bool.noConfusion q⟩) (λhm=>⟨false,rfl,λq=>Bool.noConfusion q,λ_=>?_⟩)
  ·have hh:held (curD D) (pinL D pins) t.num:=.inl (by rw[hcur];exact hm)
   refine⟨λbb n3 g3=>bb=true/\n3=0/\g3=g2,λ_ _ _=>0,⟨rfl,rfl,rfl⟩,?_,?_⟩
   ·rintro n3 g3 ⟨_,rfl,rfl⟩
    exact⟨sb,0,rfl,al,at_of (K2 _ _ hsb) 1,λ_=>stepH K2 B2 hh,λ_=>stepH K2 B2 hh⟩
   ·rintro n3 g3 ⟨h0,_⟩;cases h0
  ·refine⟨λbb n3 g3=>(bb=true->held (curD D) (pinL D pins) t.num)/\(∃ q:Nat,n3=(q:Int)/\q<=D.length/\(bb=false->∀ (i:Nat) d m,i<q->D[i]?=some d->pins[i]?=some m->0<m->t.num∉nums d.2))/\g3=g2,λ_ n3 _=>D.length-n3.toNat,⟨λh0=>(by cases h0),⟨0,rfl,Nat.zero_le _,λ_ i d m hi=>absurd hi (Nat.not_lt_zero _)⟩,rfl⟩,?_,?_⟩
   ·rintro n3 g3 ⟨hh,_,rfl⟩
    exact⟨sb,0,rfl,al,at_of (K2 _ _ hsb) 1,λ_=>stepH K2 B2 (hh rfl),λ_=>stepH K2 B2 (hh rfl)⟩
   ·rintro n3 g3 ⟨_,⟨q,rfl,hq,hno⟩,rfl⟩
    refine⟨sb,0,rfl,al,at_of (K2 _ _ hsb) 1,λhlt3=>?_,λhge3=>?_⟩
    ·have hqD:q<D.length:=by omega
     obtain⟨bp,hap,hatp,_⟩:=buf_set (S.i.keep K2) (k:=q) (by rw[nV_len,S.pl];exact hqD)
     have eq:pins[q]?=some (pins[q]'(by rw[S.pl];exact hqD)):=getElem?_eq_getElem _
     have edq:D[q]?=some D[q]:=getElem?_eq_getElem hqD
     generalize pins[q]'(by rw[S.pl];exact hqD)=m at eq
     have hatp':g3.at bp q=some (.int .i64 (m:Int)):=by rw[hatp];unfold nV;rw[getElem?_map,eq];rfl
     have nxq:wrap .i64 ((q:Int)+1)=((q+1:Nat):Int):=next_i (n:=2000000) (by omega) (by omega)
     have go:∀ bb:Bool,(bb=true->held (curD D) (pinL D pins) t.num)->(bb=false->0<m->t.num∉nums D[q].2)->((bb=true->held (curD D) (pinL D pins) t.num)/\(∃ q':Nat,wrap .i64 ((q:Int)+1)=(q':Int)/\q'<=D.length/\(bb=false->∀ (i:Nat) d m,i<q'->D[i]?=some d->pins[i]?=some m->0<m->t.num∉nums d.2))/\g3=g3)/\D.length-(wrap .i64 ((q:Int)+1)).toNat<D.length-((q:Nat):Int).toNat:=λbb h1 h2=>by
      rw[nxq]
      refine⟨⟨h1,⟨q+1,rfl,by omega,λhb i d m' hi hd hm hpos=>?_⟩,rfl⟩,by omega⟩
      by_cases e:i=q
      ·subst e
       rw[edq] at hd;rw[eq] at hm
       cases hd;cases hm
       exact h2 hb hpos
      ·exact hno rfl i d m' (by omega) hd hm hpos
     refine⟨sb,0,rfl,pi,at_of (K2 _ _ hsb) 2,bp,0,hap,⟨by omega,by omega⟩,(m:Int),by rw[Nat.zero_add,Int.toNat_natCast];exact hatp',λhpos=>?_,λhz=>go false (λq=>by cases q) λ_ h0=>absurd h0 (by omega)⟩
     obtain⟨ba,haa,hata,_⟩:=buf_set (S.a.keep K2) (k:=q) (by rw[wV_len];exact hqD)
     refine⟨sb,0,rfl,al,at_of (K2 _ _ hsb) 1,ba,0,haa,⟨by omega,by omega⟩,some ⟨D[q].1,0,none⟩,by rw[Nat.zero_add,Int.toNat_natCast,hata];unfold wV;rw[getElem?_map,edq];rfl,?_⟩
     have Zq:=Z.p D[q] (List.getElem_mem hqD)
     refine has_d ((S.v q _ edq).keep K2) (by omega) Zq.2 (λhm=>⟨true,rfl,λ_=>go true (λ_=>.inr ⟨D[q].2,mem_pinL.2 ⟨q,_,m,edq,eq,by omega,rfl⟩,hm⟩) (λq=>by cases q),λq=>Bool.noConfusion q⟩) (λhm=>⟨false,rfl,λq=>Bool.noConfusion q,λ_=>go false (λq=>by cases q) λ_ _=>hm⟩)
    ·have hh:¬ held (curD D) (pinL D pins) t.num:=by
      rintro(h1|⟨lv,h1,h2⟩)
      ·rw[hcur] at h1;exact hm h1
      ·obtain⟨i,d,m,hd,hp,hpos,rfl⟩:=mem_pinL.1 h1
       have hi:=(List.getElem?_eq_some_iff.1 hd).1
       exact hno rfl i d m (by omega) hd hp hpos h2
     refine lay_d B2 hwl hwp λg4 r us K4 B4 N4 hu hup=>⟨r,rfl,?_⟩
     exact stepN B4 (N4.mono K2.dom) (K2.trans K4) hu hup hh
 ·have hB:B=[]:=eq_nil_of_length_eq_zero (by omega)
  subst hB
  rw[append_nil] at eAB
  rw[next_i (n:=100) (by omega) (by omega)]
  refine⟨⟨P++[x],R,ws,by rw[eP];simp,by simp,B2,N2,K2,?_,hwp⟩,by(try dsimp only);(try simp only[length_append,length_singleton]);omega⟩
  have:nums ((P++[x]).map (·.2))=nums (P.map (·.2))++x.2.map Tab.num:=by
   rw[map_append,nums_app];unfold nums;simp
  rw[this,eAB];exact hws
end
end Go.Eng.YtbjnlacacapjiaaGreatDoor
end
