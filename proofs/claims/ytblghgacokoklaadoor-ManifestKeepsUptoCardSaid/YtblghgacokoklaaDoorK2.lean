/-
  JOINED.
-/
import Derived.Test.YtblghgacokoklaaDoorK1
import Derived.Deep.LoopGhost
import Derived.ScopeJumps
set_option linter.unusedSimpArgs false
set_option linter.unusedVariables false
open Go.IntKind (wrap)
open List (mem_of_getElem? mem_cons_self mem_cons_of_mem map_cons mem_map_of_mem mem_append_left mem_append_right mem_cons mem_append mem_singleton pairwise_cons nodup_append)
section
namespace Go.Eng
section
variable{P:Program}{lo:List Nat}{G:List (Nat×(List Value->PT))}{V:Value->List Value->PT}{fr:Hp}{ops:Array Oper}
def OnlyB{α:Type}(b:Nat):Sem α->Prop
 |.pure _=>True
 |.load _ ad k=>ad.block=b/\∀ v,OnlyB b (k v)
 |.program k=>∀ p,OnlyB b (k p)
 |.mark _ k=>OnlyB b k
 |.halt _=>True
 |_=>False
theorem OnlyB.bind{α β:Type}{b:Nat}{s:Sem α}{f:α->Sem β}(hs:OnlyB b s)(hf:∀ a,OnlyB b (f a)):OnlyB b (s >>= f):=by
 show OnlyB b (s.bind f)
 induction s with
 |pure a=>exact hf a
 |load m ad k ih=>exact⟨hs.1,λv=>ih v (hs.2 v)⟩
 |program k ih=>exact λp=>ih p (hs p)
 |mark m k ih=>exact ih hs
 |halt x=>trivial
 |_=>exact hs.elim
theorem OnlyB.run{α:Type}{b:Nat}{s:Sem α}(hs:OnlyB b s){w w' w1:World}{v:α}{c:Array Value}{t:TypeId}{f:Nat×Nat}(h1:w.heap[b]?=some (.cells c t f))(h2:w'.heap[b]?=some (.cells c t f))(hr:s.run P w=.ok v w1):s.run P w'=.ok v w':=by
 induction s with
 |pure a=>simp only[Sem.run] at hr ⊢;cases hr;rfl
 |load m ad k ih=>
  obtain⟨rfl,hk⟩:=hs
  have hc:w'.cell? ad=w.cell? ad:=by simp only[World.cell?,h1,h2]
  simp only[Sem.run] at hr ⊢
  rw[hc]
  cases hcell:w.cell? ad with
  |some u=>rw[hcell] at hr;exact ih u (hk u) hr
  |none=>
   rw[hcell] at hr
   simp only[World.farLoad,h1] at hr
   cases hr
 |program k ih=>simp only[Sem.run] at hr ⊢;exact ih P (hs P) hr
 |mark m k ih=>simp only[Sem.run] at hr ⊢;exact ih hs hr
 |halt x=>simp only[Sem.run] at hr;cases hr
 |_=>exact hs.elim
theorem OnlyB.underlying(b:Nat)(t:TypeId):OnlyB b (underlying t):=by
 unfold Go.underlying
 refine OnlyB.bind (λp=>trivial) λp=>?_
 split<;>trivial
theorem OnlyB.sizeOf(b:Nat)(t:TypeId):OnlyB b (sizeOf t):=by
 unfold Go.sizeOf Go.typeInfo
 refine OnlyB.bind (OnlyB.bind (λp=>trivial) λp=>?_) λ_=>trivial
 split<;>trivial
theorem OnlyB.load(b o:Nat):OnlyB b (load ⟨b,o,none⟩):=⟨rfl,λv=>trivial⟩
theorem OnlyB.from(b o:Nat):∀ (n i:Nat) (acc:Array Value),OnlyB b (loadCellsFrom ⟨b,o,none⟩ i n acc)
 |0,i,acc=>trivial
 |n+1,i,acc=>by
  unfold loadCellsFrom
  refine OnlyB.bind ?_ λv=>OnlyB.from b o n (i+1) _
  rw[addr_add]
  exact OnlyB.load b (o+i)
theorem OnlyB.loadAt(b o:Nat)(t:TypeId):OnlyB b (Instr.loadAt t (.pointer (some ⟨b,o,none⟩))):=by
 show OnlyB b (loadVar t ⟨b,o,none⟩)
 unfold loadVar isAgg
 refine OnlyB.bind (OnlyB.bind (OnlyB.underlying b t) λd=>?_) λc=>?_
 ·split<;>trivial
 ·split
  ·exact OnlyB.bind (OnlyB.sizeOf b t) λn=>OnlyB.bind (OnlyB.from b o n 0 #[]) λ_=>trivial
  ·exact OnlyB.load b o
theorem stepD_cases{ops:Array Oper}{g:Nat->Nat}{A:Env}{L:List LE}{h:Hp}{a:Act}{o:Oper}{K:KS}(F:FO g A a)(hk:stepD P lo G V ops.toList o A L h K) :
  (Region.wanted o (yielded ops a.tmps)=true/\opD P lo G V o.dst o.type o.op A L h λx L' h'=>K (putD (killA lo o.dst o.op A) o.dst x) L' h') \/
  (Region.wanted o (yielded ops a.tmps)=false/\K (putD A o.dst (.v undef)) L h):=by
 unfold stepD at hk
 cases hg:o.guard with
 |none=>rw[hg] at hk;exact .inl ⟨by simp[Region.wanted,hg],hk⟩
 |some gw=>
  obtain⟨j,want⟩:=gw
  rw[hg] at hk
  dsimp only at hk
  cases hd:dstOf ops.toList j with
  |none=>rw[hd] at hk;exact False.elim hk
  |some d=>
   rw[hd] at hk
   dsimp only at hk
   have hat:=F.at_ d
   have hwanted:∀ r:Option Bool,yielded ops a.tmps j=r->Region.wanted o (yielded ops a.tmps)=(r == some want):=by
    intro r hr;simp[Region.wanted,hg,hr]
   cases hA:getE A d with
   |v x=>
    rw[hA] at hk hat
    have hy:=yielded_eq hd hat
    cases x with
    |bool b=>
     simp only[boolOf] at hy
     have hw:=hwanted _ hy
     cases b<;>cases want<;>simp only at hk hw
     ·exact .inl ⟨by rw[hw];rfl,hk⟩
     ·exact .inr ⟨by rw[hw];rfl,hk⟩
     ·exact .inr ⟨by rw[hw];rfl,hk⟩
     ·exact .inl ⟨by rw[hw];rfl,hk⟩
    |tuple vs=>
     have hw:=hwanted _ hy
     exact .inr ⟨by rw[hw];rfl,hk⟩
    |_=>exact False.elim hk
   |_=>rw[hA] at hk;exact False.elim hk
theorem exec_load{g:Nat->Nat}{A:Env}{L:List LE}{h:Hp}{a:Act}{w:World}{o:Oper}{t:Nat}{ad:Operand}(ho:o.op=.load t ad){K:KO}(F:FO g A a)(H:HO fr g L h w)(hk:opD P lo G V o.dst o.type o.op A L h K) :
  ∃ x v,(execOp a.eval o).run P w=.ok (.value v) w/\x.is g v/\K x L h:=by
 rw[ho] at hk
 obtain⟨x,v,hr,hx,hK⟩:=load_okQ H (K:=K) hk (ev_is F ad)
 refine⟨x,v,?_,hx,hK⟩
 unfold execOp
 rw[ho]
 simp only[Sem.run_bind,hr,Result.andThen_ok,Sem.run_pure]
theorem conv_row{h:Hp}{w:World}(hh:∀ b o,h b=some o->w.heap[b]?=some o){src dst e:TypeId}(hus:P.underlying src=some (.slice e))(hue:P.underlying e=some (.int .u8))(hut:P.underlying dst=some .string){a:Option Addr}{n c:Nat}{s:ByteArray}(hr:h.row a n (bytesV s)) :
  (convert src dst (.slice a n c)).run P w=.ok (.string s) w:=by
 obtain⟨hl,hrow⟩:=hr
 rw[bytesV_length] at hl
 subst hl
 have sn:strOfNums (s.data.toList.map λb=>(b.toNat:Int))=s:=by
  unfold strOfNums
  apply ByteArray.ext
  apply Array.ext'
  simp only[List.map_map]
  have:((λn:Int=>UInt8.ofNat n.toNat) ∘ λb:UInt8=>(b.toNat:Int))=id:=by funext b;simp
  rw[this]
  simp
 rcases hrow with h0|⟨b,o,rfl,hat⟩
 ·have hse:s=ByteArray.empty:=by
   apply ByteArray.ext
   apply Array.ext'
   have:s.data.toList.length=0:=by rw[Array.length_toList];exact h0
   rw[List.eq_nil_of_length_eq_zero this]
   rfl
  cases a with
  |none=>rw[hse];exact run_convert_bytes_nil w src e hus hue _ _ dst hut
  |some ad=>
   have hr:=run_convert_bytes_string w src dst e (some ad) s.size c hus hue hut
   rw[hr,h0,hse]
   simp[Conv.bytesToString,loadCells,loadCellsFrom]
 ·have:=run_convert_bytes_arg (P:=P) w src e hus hue b o s.size c (s.data.toList.map λb=>(b.toNat:Int)) (by rw[List.length_map,Array.length_toList];rfl)
   (λi hi=>by
    have h1:=hat i hi
    have hil:i<s.data.toList.length:=by rw[Array.length_toList];exact hi
    have h2:(bytesV s)[i]?=some (.int .u8 ((s.data.toList.map λb=>(b.toNat:Int)).getD i 0)):=by
     simp[bytesV,List.getD_eq_getElem?_getD,List.getElem?_eq_getElem hil]
    rw[h2] at h1
    exact cell_of hh h1) dst hut
  rw[sn] at this
  exact this
theorem isConv_spec{o:Op}(hl:isConv P o=true):∃ s t y e,o=.convert s t y/\P.underlying s=some (.slice e)/\P.underlying e=some (.int .u8)/\P.underlying t=some .string:=by
 cases o with
 |convert s t y=>
  have h1:bytesT P s=true/\strT P t=true:=by simpa[isConv] using hl
  obtain⟨h1,h2⟩:=h1
  unfold bytesT at h1
  unfold strT at h2
  cases hs:under P s<;>rw[hs] at h1<;>first|exact absurd h1 Bool.false_ne_true|skip
  rename_i e
  dsimp only at h1
  cases he:under P e<;>rw[he] at h1<;>first|exact absurd h1 Bool.false_ne_true|skip
  rename_i k
  cases k<;>first|exact absurd h1 Bool.false_ne_true|skip
  cases ht:under P t<;>rw[ht] at h2<;>first|exact absurd h2 Bool.false_ne_true|skip
  exact⟨s,t,y,e,rfl,under_some hs (by simp),under_some he (by simp),under_some ht (by simp)⟩
 |_=>exact absurd hl Bool.false_ne_true
theorem exec_conv{g:Nat->Nat}{A:Env}{L:List LE}{h:Hp}{a:Act}{w:World}{o:Oper}(hc:isConv P o.op=true){K:KO}(F:FO g A a)(H:HO fr g L h w)(hk:opD P lo G V o.dst o.type o.op A L h K) :
  ∃ x v,(execOp a.eval o).run P w=.ok (.value v) w/\x.is g v/\K x L h:=by
 obtain⟨s,t,y,e,ho,hus,hue,hut⟩:=isConv_spec hc
 rw[ho] at hk
 replace hk:dConv P s t (ev A y) L h K:=hk
 have hy:=ev_is F y
 have u1:under P t=.string:=by unfold under;rw[hut];rfl
 have u2:under P s=.slice e:=by unfold under;rw[hus];rfl
 have u3:under P e=.int .u8:=by unfold under;rw[hue];rfl
 unfold dConv at hk
 rw[u1,u2] at hk
 dsimp only at hk
 split at hk
 ·exact hk.elim
 ·rename_i A0 n c hA
  rw[u3] at hk
  dsimp only at hk
  obtain⟨bs,hr,hk⟩:=hk
  rw[hA] at hy
  have hy:a.eval y=.slice A0 n c:=hy
  refine⟨.v (.string bs),.string bs,?_,rfl,hk⟩
  unfold execOp
  rw[ho]
  simp only[Sem.run_bind,hy,conv_row H.hh hus hue hut hr,Result.andThen_ok,Sem.run_pure]
 ·exact hk.elim
theorem isLook_spec{o:Op}(hl:isLook P o=true):∃ t y i kt et,o=.lookup t y i false/\P.underlying t=some (.map kt et)/\P.underlying kt=some .string:=by
 cases o with
 |lookup t y i ok=>
  simp only[isLook,Bool.and_eq_true] at hl
  obtain⟨h0,h1⟩:=hl
  cases ok with
  |true=>cases h0
  |false=>
   unfold lookT at h1
   cases ht:under P t<;>rw[ht] at h1<;>first|exact absurd h1 Bool.false_ne_true|skip
   rename_i kt et
   dsimp only at h1
   unfold strT at h1
   cases hk:under P kt<;>rw[hk] at h1<;>first|exact absurd h1 Bool.false_ne_true|skip
   exact⟨t,y,i,kt,et,rfl,under_some ht (by simp),under_some hk (by simp)⟩
 |_=>exact absurd hl Bool.false_ne_true
theorem exec_look{g:Nat->Nat}{A:Env}{L:List LE}{h:Hp}{a:Act}{w:World}{o:Oper}(hc:isLook P o.op=true){K:KO}(F:FO g A a)(H:HO fr g L h w)(hk:opD P lo G V o.dst o.type o.op A L h K) :
  ∃ x v,(execOp a.eval o).run P w=.ok (.value v) w/\x.is g v/\K x L h:=by
 obtain⟨t,y,i,kt,et,ho,hut,huk⟩:=isLook_spec hc
 rw[ho] at hk
 replace hk:dLookup P t (ev A y) (ev A i) false L h K:=hk
 have hy:=ev_is F y
 have hi:=ev_is F i
 have u1:under P t=.map kt et:=by unfold under;rw[hut];rfl
 unfold dLookup at hk
 rw[u1] at hk
 dsimp only at hk
 cases hz:zeroV P et<;>rw[hz] at hk<;>try exact False.elim hk
 rename_i z
 dsimp only at hk
 split at hk
 ·rename_i m hA
  rw[hA] at hy
  have hy:a.eval y=.map m:=hy
  obtain⟨k,hkg,hk,hpl⟩:=AV.get_plain hk
  have hjk:a.eval i=k:=is_unique hpl hi (hkg g)
  obtain⟨hkey,es,c,hm,hk⟩:=keyV_spec hk
  obtain⟨hfk,hk⟩:=fit_find H hkey hk
  obtain⟨x,hx,hK⟩:=exVal_spec hk
  refine⟨x,mget es k z,?_,hx g,hK⟩
  unfold execOp
  rw[ho]
  simp only[Sem.run_bind,hy,hjk,look_run H.hh hut hz hkey hm hfk,Result.andThen_ok,Sem.run_pure]
 ·exact hk.elim
theorem isEqP_spec{o:Op}(hl:isEqP P o=true):∃ op t x y z e,o=.binOp op t x y z/\(op=.eql\/op=.neq)/\P.underlying t=some (.pointer e):=by
 cases o with
 |binOp op t x y z=>
  unfold isEqP at hl
  cases op<;>first|exact absurd hl Bool.false_ne_true|skip
  all_goals
   dsimp only at hl
   cases ht:under P t<;>rw[ht] at hl<;>first|exact absurd hl Bool.false_ne_true|skip
   rename_i e
  ·exact⟨.eql,t,x,y,z,e,rfl,.inl rfl,under_some ht (by simp)⟩
  ·exact⟨.neq,t,x,y,z,e,rfl,.inr rfl,under_some ht (by simp)⟩
 |_=>exact absurd hl Bool.false_ne_true
theorem exec_eqp{g:Nat->Nat}{A:Env}{L:List LE}{h:Hp}{a:Act}{w:World}{o:Oper}(hc:isEqP P o.op=true){K:KO}(F:FO g A a)(H:HO fr g L h w)(hk:opD P lo G V o.dst o.type o.op A L h K) :
  ((∃ v,∀ w,(execOp a.eval o).run P w=.ok (.value v) w)\/Dead P (execOp a.eval o))\/∃ x v,(execOp a.eval o).run P w=.ok (.value v) w/\x.is g v/\K x L h:=by
 obtain⟨op,t,x,y,z,e,ho,hop,hut⟩:=isEqP_spec hc
 have fin:∀ {s:Sem Value},execOp a.eval o=(do pure (Next.value (<- s)):Sem Next)->Flat P s->(∃ v,∀ w,(execOp a.eval o).run P w=.ok (.value v) w)\/Dead P (execOp a.eval o):=by
  intro s hs hf
  rw[hs]
  rcases hf with⟨v,hv⟩|hd
  ·exact .inl ⟨v,λw=>by simp only[Sem.run_bind,hv,Result.andThen_ok,Sem.run_pure]⟩
  ·refine .inr λw v w' e=>?_
   simp only[Sem.run_bind] at e
   cases hr:s.run P w with
   |ok v1 w1=>exact hd _ _ _ hr
   |halt y w1=>rw[hr] at e;simp at e
 have hex:execOp a.eval o=(do pure (Next.value (<- (do eqGuard op t x y (a.eval x) (a.eval y);binOp op t (a.eval x) (a.eval y):Sem Value))):Sem Next):=by unfold execOp;rw[ho]
 rw[ho] at hk
 replace hk:dBin P op t (ev A x) (ev A y) L h K:=hk
 have hx:=ev_is F x
 have hy:=ev_is F y
 have u1:under P t=.pointer e:=by unfold under;rw[hut];rfl
 have third:∀ zx:AV,zx.is g (a.eval x)->(zx.get λv=>(ev A y).get λu=>dEq P op t v u L h K)->∃ x v,(execOp a.eval o).run P w=.ok (.value v) w/\x.is g v/\K x L h:=by
  intro zx hzx hz
  obtain⟨v,hv,hz1,hp1⟩:=AV.get_plain hz
  obtain⟨u,hu,hz2,hp2⟩:=AV.get_plain hz1
  clear hz hz1
  have e1:a.eval x=v:=is_unique hp1 hzx (hv g)
  have e2:a.eval y=u:=is_unique hp2 hy (hu g)
  unfold dEq at hz2
  rw[u1] at hz2
  dsimp only at hz2
  split at hz2
  ·rename_i p
   split at hz2
   ·rename_i q
    obtain⟨hg,hok,hz⟩:=(grd_spec hz2:_/\_/\_)
    simp only[Bool.and_eq_true,Bool.not_eq_true',beq_eq_false_iff_ne,ne_eq] at hg
    have hr:=run_eqPtr H hut hg.1 hg.2 hok
    have hb:(do eqGuard op t x y (.pointer p) (.pointer q);binOp op t (.pointer p) (.pointer q):Sem Value).run P w=.ok (.bool (if op=.eql then decide (p=q) else !decide (p=q))) w:=by
     rcases hop with rfl|rfl<;>simp[Go.eqGuard,binOp,Sem.run_bind,hr]
    rw[hex,e1,e2]
    have run:∀ b:Bool,(if op=.eql then decide (p=q) else !decide (p=q))=b->(do pure (Next.value (<- (do eqGuard op t x y (.pointer p) (.pointer q);binOp op t (.pointer p) (.pointer q):Sem Value))):Sem Next).run P w=.ok (.value (.bool b)) w:=λb hbb=>by
     rw[Sem.run_bind,hb,hbb];rfl
    rcases hop with rfl|rfl
    ·by_cases hpq:p=q
     ·exact⟨.v (.bool true),_,run true (by simp[hpq]),rfl,hz.1 hpq⟩
     ·exact⟨.v (.bool false),_,run false (by simp[hpq]),rfl,hz.2 hpq⟩
    ·by_cases hpq:p=q
     ·exact⟨.v (.bool false),_,run false (by simp[hpq]),rfl,hz.1 hpq⟩
     ·exact⟨.v (.bool true),_,run true (by simp[hpq]),rfl,hz.2 hpq⟩
   ·exact hz2.elim
  ·exact hz2.elim
 unfold dBin at hk
 split at hk
 ·rename_i k n hxa
  split at hk
  ·rename_i k' m hya
   rw[hxa] at hx;rw[hya] at hy
   have hx:a.eval x=.int k n:=hx
   have hy:a.eval y=.int k' m:=hy
   refine .inl (fin hex ?_)
   rw[hx,hy]
   exact Flat.bind (Flat.eqGuard _ _ _ _ _ _ (.inl ⟨_,_,_,_,rfl,rfl⟩)) λ_=>Flat.binInt _ _ _ _ _ _
  ·exact hk.elim
 ·rename_i s hxa
  split at hk
  ·rename_i u hya
   rw[hxa] at hx;rw[hya] at hy
   have hx:a.eval x=.string s:=hx
   have hy:a.eval y=.string u:=hy
   refine .inl (fin hex ?_)
   rw[hx,hy]
   exact Flat.bind (Flat.eqGuard _ _ _ _ _ _ (.inr ⟨_,_,rfl,rfl⟩)) λ_=>Flat.binStr _ _ _ _
  ·exact hk.elim
 ·exact .inr (third _ hx hk)
theorem makes_quiet{o:Op}(h:quietB P o=true):makes o=false:=by cases o<;>first|rfl|(exact absurd h Bool.false_ne_true)
theorem quiet_step(hG:GOk P G)(hV:VOk P V){g:Nat->Nat}{A:Env}{L:List LE}{h:Hp}{a:Act}{w:World}{o:Oper}{K:KS}(F:FO g A a)(H:HO fr g L h w)(hq:quietO P o=true)(hk:stepD P lo G V ops.toList o A L h K) :
  ∃ v,Yat P ops o v a w/\(isRead P o.op=false->∀ w',Yat P ops o v a w')/\Rel (dW o.dst) fr g L a w K (a.put o.dst v) w:=by
 unfold quietO at hq
 rw[Bool.and_eq_true] at hq
 rcases stepD_cases F hk with⟨hw,ho⟩|⟨hw,hk⟩
 ·by_cases hl:isLoad o.op=true
  ·have:∃ t ad,o.op=.load t ad:=by
    cases hop:o.op<;>rw[hop] at hl<;>first|exact⟨_,_,rfl⟩|exact absurd hl Bool.false_ne_true
   obtain⟨t,ad,hop⟩:=this
   obtain⟨x,v,hr,hx,hK⟩:=exec_load hop F H ho
   rw[killA_no (makes_quiet hq.2)] at hK
   exact⟨v,.inl ⟨hw,hr⟩,λe=>(by unfold isRead at e;rw[hl] at e;cases e),put_rel F hx H (Wr.refl w) (Kp.refl L) hK⟩
  ·have hl1:isLoad o.op=false:=by simpa using hl
   by_cases hcv:isConv P o.op=true
   ·obtain⟨x,v,hr,hx,hK⟩:=exec_conv hcv F H ho
    rw[killA_no (makes_quiet hq.2)] at hK
    exact⟨v,.inl ⟨hw,hr⟩,λe=>(by unfold isRead at e;rw[hcv,Bool.true_or,Bool.or_true] at e;cases e),put_rel F hx H (Wr.refl w) (Kp.refl L) hK⟩
   by_cases hlk:isLook P o.op=true
   ·obtain⟨x,v,hr,hx,hK⟩:=exec_look hlk F H ho
    rw[killA_no (makes_quiet hq.2)] at hK
    exact⟨v,.inl ⟨hw,hr⟩,λe=>(by unfold isRead at e;rw[hlk,Bool.true_or,Bool.or_true,Bool.or_true] at e;cases e),put_rel F hx H (Wr.refl w) (Kp.refl L) hK⟩
   have hwp0:=op_ok (Q:=λ_ _ _=>False) hG hV H F ho
   by_cases hep:isEqP P o.op=true
   ·have hird:isRead P o.op=true:=by unfold isRead;rw[hep];simp
    rcases exec_eqp hep F H ho with(⟨v,hv⟩|hd)|⟨x,v,hr,hx,hK⟩
    ·refine⟨v,.inl ⟨hw,hv w⟩,λe=>(by rw[hird] at e;cases e),?_⟩
     unfold Oper.wp at hwp0
     rw[hv w] at hwp0
     exact hwp0
    ·exfalso
     unfold Oper.wp at hwp0
     cases hr:(execOp a.eval o).run P w with
     |ok v w'=>exact hd _ _ _ hr
     |halt x w'=>rw[hr] at hwp0;cases x<;>exact hwp0
    ·rw[killA_no (makes_quiet hq.2)] at hK
     exact⟨v,.inl ⟨hw,hr⟩,λe=>(by rw[hird] at e;cases e),put_rel F hx H (Wr.refl w) (Kp.refl L) hK⟩
   have hl:isRead P o.op=false:=by unfold isRead;rw[hl1];simp only[Bool.not_eq_true] at hcv hlk hep;rw[hcv,hlk,hep];rfl
   have hwp:=op_ok (Q:=λ_ _ _=>False) hG hV H F ho
   rcases quiet_flat F hq.2 hl ho with⟨v,hv⟩|hd
   ·refine⟨v,.inl ⟨hw,hv w⟩,λ_ w'=>.inl ⟨hw,hv w'⟩,?_⟩
    unfold Oper.wp at hwp
    rw[hv w] at hwp
    exact hwp
   ·exfalso
    unfold Oper.wp at hwp
    cases hr:(execOp a.eval o).run P w with
    |ok v w'=>exact hd _ _ _ hr
    |halt x w'=>rw[hr] at hwp;cases x<;>exact hwp
 ·exact⟨undef,.inr ⟨hw,rfl⟩,λ_ w'=>.inr ⟨hw,rfl⟩,put_rel (x:=.v undef) F rfl H (Wr.refl w) (Kp.refl L) hk⟩
def Live(P:Program)(ops:Array Oper)(x:Nat)(a:Act)(w:World):Prop:=
 ∃ o v,ops[x]?=some o/\a.put o.dst v=a/\Yat P ops o v a w/\(isRead P o.op=false->∀ w',Yat P ops o v a w')
theorem Live.chk{x:Nat}{a:Act}{w:World}(h:Live P ops x a w):Chk P ops x a w:=let ⟨o,v,h1,h2,h3,_⟩:=h;⟨o,v,h1,h3,h2⟩
theorem Live.put{x:Nat}(hsel:∀ (j:Nat) (o:Oper) cs b,ops[j]?=some o->o.op≠.select cs b){i:Nat}{oi:Oper}(hi:ops[i]?=some oi)(hix:Ind ops i x){a:Act}{w:World}{u:Value}(h:Live P ops x a w):Live P ops x (a.put oi.dst u) w:=by
 obtain⟨o,v,h1,h2,h3,h4⟩:=h
 have hl:∀ d,oi.dst=some d->d∉o.looksAt ops:=λd hd=>(hix oi o hi h1 d hd).1
 refine⟨o,v,h1,?_,(Yat.put (hsel x o · · h1) hl).2 h3,λe w'=>(Yat.put (hsel x o · · h1) hl).2 (h4 e w')⟩
 rw[Act.put_comm a u v (λd hd=>(hix oi o hi h1 d hd).2),h2]
theorem put_of{a a':Act}{d:Option Tmp}(h:∀ i,memN i (dW d)=false->a'.tmps.getD i undef=a.tmps.getD i undef)(hs:a'.tmps.size=a.tmps.size)(hd:a'.defers=a.defers):∃ u,a'=a.put d u:=by
 obtain⟨t',d'⟩:=a'
 obtain⟨t,d0⟩:=a
 simp only at h hs hd
 subst hd
 have ext:∀ t2:Array Value,t'.size=t2.size->(∀ i,i<t'.size->t'.getD i undef=t2.getD i undef)->t'=t2:=by
  intro t2 hsz hh
  apply Array.ext hsz
  intro i h1 h2
  have:=hh i h1
  simpa[Array.getD,h1,h2] using this
 cases d with
 |none=>
  refine⟨undef,?_⟩
  rw[show t'=t from ext t hs λi _=>h i rfl]
  rfl
 |some d=>
  refine⟨t'.getD d undef,?_⟩
  show _=(⟨t.setIfInBounds d (t'.getD d undef),_⟩:Act)
  congr 1
  refine ext _ (by simp[hs]) λi hi=>?_
  by_cases hdi:d=i
  ·subst hdi
   have:d<t.size:=hs ▸ hi
   simp[this]
  ·rw[h i (by simp[dW,memN,Ne.symm hdi])]
   simp[Array.getElem?_setIfInBounds_ne hdi]
theorem rowsAt_spec{h:Hp}{b o:Nat}:∀ {vs:List Value} {j:Nat} {p:Prop},rowsAt h b o j vs p->(∀ i v,vs[i]?=some v->h.at b (o+j+i)=some v)/\p
 |[],j,p,hk=>⟨λi v e=>by simp at e,hk⟩
 |v::vs,j,p,hk=>by
  obtain⟨h1,h2⟩:=hk
  obtain⟨h3,h4⟩:=rowsAt_spec h2
  refine⟨λi u e=>?_,h4⟩
  cases i with
  |zero=>simp at e;subst e;rw[addo_eq] at h1;exact h1
  |succ i=>have:=h3 i u (by simpa using e);rwa [show o+(j+1)+i=o+j+(i+1) by omega] at this
theorem stillAt_spec{h:Hp}{w:World}(hh:∀ b o,h b=some o->w.heap[b]?=some o){b o t:Nat}{x:AV}{p:Prop}(hi:hasInfo P t=true)(hu:hasUnder P t=true)(hk:stillAt P h b o t x p) :
  (∃ v,x=.v v/\(Instr.loadAt t (.pointer (some ⟨b,o,none⟩))).run P w=.ok v w)/\p:=by
 unfold stillAt at hk
 cases ha:isAggB P t with
 |true=>
  rw[ha] at hk
  dsimp only at hk
  split at hk
  ·rename_i vs
   obtain⟨hl,hk⟩:=grd_spec hk
   obtain⟨hat,hp⟩:=rowsAt_spec hk
   have hl:vs.length=P.cellsOf t:=by simpa[stillAt.lenB'] using hl
   refine⟨⟨_,rfl,?_⟩,hp⟩
   have:=run_loadVar' hi hu hl (λi v hv=>cell_of (w:=w) hh (by simpa using hat i v hv)) (.inl ha)
   unfold Instr.loadAt
   simp only[Instr.sureAddr,Sem.run_bind,Sem.run_pure,Result.andThen_ok,this,mkv_agg ha]
  ·exact hk.elim
 |false=>
  rw[ha] at hk
  dsimp only at hk
  split at hk
  ·rename_i v
   refine⟨⟨v,rfl,?_⟩,hk.2⟩
   unfold Instr.loadAt loadVar
   simp only[Instr.sureAddr,Sem.run_bind,Sem.run_pure,Result.andThen_ok,run_isAgg hu,ha,Bool.false_eq_true,if_false]
   exact run_load1 (cell_of hh hk.1)
  ·exact hk.elim
def Again(P:Program)(L:List LE)(no:List Nat)(A:Env)(w:World)(x:Oper):Prop:=
 (∃ t ad,x.op=.load t ad/\((∃ b o d v,ev A ad=.p b o/\x.dst=some d/\getE A d=.v v/\(Instr.loadAt t (.pointer (some ⟨b,o,none⟩))).run P w=.ok v w)\/∃ l off e,ev A ad=.loc l off/\findL L l=some e/\memN l no=false)) \/
 (∃ s t y u d v,x.op=.convert s t y/\ev A y=.v u/\x.dst=some d/\getE A d=.v v/\(convert s t u).run P w=.ok v w) \/
 ∃ t y i u j d v,x.op=.lookup t y i false/\ev A y=.v u/\ev A i=.v j/\x.dst=some d/\getE A d=.v v/\(Instr.lookup t u j false).run P w=.ok v w
theorem reLoad_spec{L:List LE}{no:List Nat}{A:Env}{h:Hp}{w:World}(hh:∀ b o,h b=some o->w.heap[b]?=some o){x:Oper}(hl:isRead P x.op=true){p:Prop}(hk:reLoad P L no A h x p):Again P L no A w x/\p:=by
 by_cases hcv:isConv P x.op=true
 ·obtain⟨s,t,y,e,hop,hus,hue,hut⟩:=isConv_spec hcv
  unfold reLoad at hk
  rw[hop] at hk
  dsimp only at hk
  split at hk
  ·rename_i A0 n c hA
   split at hk
   ·rename_i d hd
    split at hk
    ·rename_i bs hg
     exact⟨.inr (.inl ⟨s,t,y,_,d,_,hop,hA,hd,hg,conv_row hh hus hue hut hk.1⟩),hk.2⟩
    ·exact hk.elim
   ·exact hk.elim
  ·exact hk.elim
 by_cases hlk:isLook P x.op=true
 ·obtain⟨t,y,i,kt,et,hop,hut,huk⟩:=isLook_spec hlk
  have u1:under P t=.map kt et:=by unfold under;rw[hut];rfl
  unfold reLoad at hk
  rw[hop] at hk
  dsimp only at hk
  rw[u1] at hk
  dsimp only at hk
  cases hz:zeroV P et<;>rw[hz] at hk<;>try exact False.elim hk
  rename_i z
  dsimp only at hk
  split at hk
  ·rename_i m hA
   split at hk
   ·rename_i k hI
    split at hk
    ·rename_i d hd
     split at hk
     ·rename_i v hg
      obtain⟨⟨es,c,hm,hfit,hv⟩,hp⟩:=hk
      have hkey:KeyOk P kt (.string k):=.str huk
      exact⟨.inr (.inr ⟨t,y,i,_,_,d,v,hop,hA,hI,hd,hg,by rw[<- hv];exact look_run hh hut hz (.inl hkey) hm (run_findKey hkey hfit _)⟩),hp⟩
     ·exact hk.elim
    ·exact hk.elim
   ·exact hk.elim
  ·exact hk.elim
 by_cases hep:isEqP P x.op=true
 ·obtain⟨op,t,y,z,zz,e,hop,_,_⟩:=isEqP_spec hep
  unfold reLoad at hk
  rw[hop] at hk
  exact hk.elim
 have hl:isLoad x.op=true:=by unfold isRead at hl;simp only[Bool.not_eq_true] at hcv hlk hep;simpa[hcv,hlk,hep] using hl
 have:∃ t ad,x.op=.load t ad:=by
  cases hop:x.op<;>rw[hop] at hl<;>first|exact⟨_,_,rfl⟩|exact absurd hl Bool.false_ne_true
 obtain⟨t,ad,hop⟩:=this
 unfold reLoad at hk
 rw[hop] at hk
 dsimp only at hk
 split at hk
 ·rename_i b o hA
  split at hk
  ·rename_i d hd
   have hq:=grd_spec hk
   clear hk
   obtain⟨hb,hk⟩:=hq
   rw[Bool.and_eq_true] at hb
   obtain⟨⟨v,hv,hr⟩,hp⟩:=stillAt_spec hh hb.1 hb.2 hk
   exact⟨.inl ⟨t,ad,hop,.inl ⟨b,o,d,v,hA,hd,hv,hr⟩⟩,hp⟩
  ·exact hk.elim
 ·rename_i l off hA
  split at hk
  ·rename_i e hf
   split at hk
   ·exact hk.elim
   ·rename_i hm
    exact⟨.inl ⟨t,ad,hop,.inr ⟨l,off,e,hA,hf,hm⟩⟩,hk⟩
  ·exact hk.elim
 ·exact hk.elim
theorem reOne_spec{L:List LE}{no:List Nat}{g:Nat->Nat}{A:Env}{h:Hp}{a:Act}{w:World}(F:FO g A a)(hh:∀ b o,h b=some o->w.heap[b]?=some o){x:Oper}{p:Prop}(hk:reOne P ops.toList L no A h x p) :
  (isRead P x.op=true->Region.wanted x (yielded ops a.tmps)=true->Again P L no A w x)/\p:=by
 unfold reOne at hk
 split at hk
 ·rename_i hl
  exact⟨λe=>(by rw[hl] at e;cases e),hk⟩
 ·rename_i hl
  split at hk
  ·obtain⟨h1,h2⟩:=reLoad_spec hh hl hk
   exact⟨λ_ _=>h1,h2⟩
  ·rename_i j want hg
   split at hk
   ·rename_i d hd
    have hat:=F.at_ d
    have hwanted:∀ r:Option Bool,yielded ops a.tmps j=r->Region.wanted x (yielded ops a.tmps)=(r == some want):=by
     intro r hr;simp[Region.wanted,hg,hr]
    split at hk
    ·rename_i b hA
     rw[hA] at hat
     have hw:=hwanted _ (yielded_eq hd hat)
     simp only[boolOf] at hw
     cases b<;>cases want<;>simp only at hk hw
     ·obtain⟨h1,h2⟩:=reLoad_spec hh hl hk;exact⟨λ_ _=>h1,h2⟩
     ·exact⟨λ_ e=>(by rw[hw] at e;exact absurd e (by decide)),hk⟩
     ·exact⟨λ_ e=>(by rw[hw] at e;exact absurd e (by decide)),hk⟩
     ·obtain⟨h1,h2⟩:=reLoad_spec hh hl hk;exact⟨λ_ _=>h1,h2⟩
    ·rename_i vs hA
     rw[hA] at hat
     have hw:=hwanted _ (yielded_eq hd hat)
     exact⟨λ_ e=>(by rw[hw] at e;simp[boolOf] at e),hk⟩
    ·exact hk.elim
   ·exact hk.elim
theorem reAll_spec{L:List LE}{no:List Nat}{g:Nat->Nat}{A:Env}{h:Hp}{a:Act}{w:World}(F:FO g A a)(hh:∀ b o,h b=some o->w.heap[b]?=some o):∀ {l:List Nat} {p:Prop},reAll P ops.toList L no A h l p ->
  (∀ i∈l,∃ x,ops[i]?=some x/\(isRead P x.op=true->Region.wanted x (yielded ops a.tmps)=true->Again P L no A w x))/\p
 |[],p,hk=>⟨λi hi=>(by cases hi),hk⟩
 |i::l,p,hk=>by
  unfold reAll at hk
  rw[Array.getElem?_toList] at hk
  cases hx:ops[i]? with
  |none=>rw[hx] at hk;exact hk.elim
  |some x=>
   rw[hx] at hk
   obtain⟨h1,h2⟩:=reOne_spec F hh hk
   obtain⟨h3,h4⟩:=reAll_spec F hh h2
   refine⟨λk hkm=>?_,h4⟩
   rcases mem_cons.1 hkm with rfl|hkm
   ·exact⟨x,hx,h1⟩
   ·exact h3 k hkm
theorem Live.past{x i:Nat}{oi:Oper}(hsel:∀ (j:Nat) (o:Oper) cs b,ops[j]?=some o->o.op≠.select cs b)(hi:ops[i]?=some oi)(hix:Ind ops i x){g g':Nat->Nat}{A A':Env}{L L':List LE}{h h':Hp}{a a':Act}{w w':World}{keep:List Nat}
  (F:FO g A a) (H:HO fr g L h w) (F':FO g' A' a') (H':HO fr g' L' h' w') (T:Tr (dW oi.dst) g (freezeL (keepLs keep) L) a w g' L' a' w')
  (hl:Live P ops x a w) (hag:∃ o,ops[x]?=some o/\(isRead P o.op=true->Region.wanted o (yielded ops a'.tmps)=true->Again P L (dsts oi.dst++keep) A' w' o)):Live P ops x a' w':=by
 obtain⟨u,rfl⟩:=put_of T.un T.sz (F'.df.trans F.df.symm)
 obtain⟨o,v,h1,h2,h3,h4⟩:=Live.put hsel hi hix (u:=u) hl
 obtain⟨o',ho',hag⟩:=hag
 rw[h1] at ho'
 cases ho'
 cases hlo:isRead P o.op with
 |false=>exact⟨o,v,h1,h2,h4 hlo w',λe w2=>h4 e w2⟩
 |true=>
  rcases h3 with⟨hw,hr⟩|⟨hw,rfl⟩
  ·have fin:∀ {d:Nat} {val:Value},o.dst=some d->getE A' d=.v val->(execOp (a.put oi.dst u).eval o).run P w'=.ok (.value val) w'->Live P ops x (a.put oi.dst u) w':=by
    intro d val hd hv hrun
    have hdv:=F'.at_ d
    rw[hv] at hdv
    have hdv:(a.put oi.dst u).tmps.getD d undef=val:=hdv
    refine⟨o,val,h1,?_,.inl ⟨hw,hrun⟩,λe=>(by rw[hlo] at e;cases e)⟩
    rw[hd]
    show({ (a.put oi.dst u) with tmps:=(a.put oi.dst u).tmps.setIfInBounds d val }:Act)=_
    have:(a.put oi.dst u).tmps.setIfInBounds d val=(a.put oi.dst u).tmps:=by
     apply Array.ext_getElem?
     intro k
     by_cases hdk:d=k
     ·subst hdk
      by_cases hds:d<(a.put oi.dst u).tmps.size
      ·rw[<- hdv];simp[hds]
      ·simp[hds]
     ·rw[Array.getElem?_setIfInBounds_ne hdk]
    rw[this]
   rcases hag hlo hw with⟨t,ad,hop,hc⟩|⟨s,t,y,u1,d,val,hop,hA,hd,hv,hload⟩|⟨t,y,i2,u1,j1,d,val,hop,hA,hI,hd,hv,hload⟩
   rotate_left
   ·have hev:=ev_is F' y
    rw[hA] at hev
    have hev:(a.put oi.dst u).eval y=u1:=hev
    refine fin hd hv ?_
    unfold execOp
    rw[hop]
    simp only[Sem.run_bind,hev,hload,Result.andThen_ok,Sem.run_pure]
   ·have hev:=ev_is F' y
    rw[hA] at hev
    have hev:(a.put oi.dst u).eval y=u1:=hev
    have hei:=ev_is F' i2
    rw[hI] at hei
    have hei:(a.put oi.dst u).eval i2=j1:=hei
    refine fin hd hv ?_
    unfold execOp
    rw[hop]
    simp only[Sem.run_bind,hev,hei,hload,Result.andThen_ok,Sem.run_pure]
   have hrun:∀ w2 v2,(Instr.loadAt t ((a.put oi.dst u).eval ad)).run P w2=.ok v2 w2->(execOp (a.put oi.dst u).eval o).run P w2=.ok (.value v2) w2:=by
    intro w2 v2 e
    unfold execOp
    rw[hop]
    simp only[Sem.run_bind,e,Result.andThen_ok,Sem.run_pure]
   have hback:∃ w3,(Instr.loadAt t ((a.put oi.dst u).eval ad)).run P w=.ok v w3:=by
    unfold execOp at hr
    rw[hop] at hr
    simp only[Sem.run_bind] at hr
    cases he:(Instr.loadAt t ((a.put oi.dst u).eval ad)).run P w with
    |ok v3 w3=>rw[he] at hr;simp at hr;exact⟨w3,by rw[hr.1]⟩
    |halt y w3=>rw[he] at hr;simp at hr
   have hev:=ev_is F' ad
   rcases hc with⟨b,q,d,val,hA,hd,hv,hload⟩|⟨l,off,e,hA,hf,hno⟩
   ·rw[hA] at hev
    have hev:(a.put oi.dst u).eval ad=.pointer (some ⟨b,q,none⟩):=hev
    rw[hev] at hrun
    have hdv:=F'.at_ d
    rw[hv] at hdv
    have hdv:(a.put oi.dst u).tmps.getD d undef=val:=hdv
    refine⟨o,val,h1,?_,.inl ⟨hw,hrun w' val hload⟩,λe=>(by rw[hlo] at e;cases e)⟩
    rw[hd]
    show({ (a.put oi.dst u) with tmps:=(a.put oi.dst u).tmps.setIfInBounds d val }:Act)=_
    have:(a.put oi.dst u).tmps.setIfInBounds d val=(a.put oi.dst u).tmps:=by
     apply Array.ext_getElem?
     intro k
     by_cases hdk:d=k
     ·subst hdk
      by_cases hds:d<(a.put oi.dst u).tmps.size
      ·rw[<- hdv];simp[hds]
      ·simp[hds]
     ·rw[Array.getElem?_setIfInBounds_ne hdk]
    rw[this]
   ·rw[hA] at hev
    have hev:(a.put oi.dst u).eval ad=.pointer (some ⟨g' l,off,none⟩):=hev
    obtain⟨w3,hback⟩:=hback
    rw[hev] at hrun hback
    have hno1:memN l (dsts oi.dst)=false:=memN_l hno
    have hno2:memN l keep=false:=memN_r hno
    have hgl:g' l=g l:=T.gg l hno1
    obtain⟨hem,hel⟩:=findL_mem hf
    have hem':(⟨e.l,false,e.t,e.cs⟩:LE)∈L':=T.kp _ (freezeL_mem hem (.inr (by
     intro hmem
     have:e.l∈keep:=by simpa[keepLs] using hmem
     rw[hel] at this
     rw[memN_iff.2 this] at hno2;cases hno2))) rfl
    obtain⟨cs,q⟩:=H.ll e hem
    obtain⟨cs',q'⟩:=H'.ll _ hem'
    have hcs:cs'=cs:=by
     apply Array.ext (by rw[q.sz,q'.sz])
     intro k hk1 hk2
     have hk3:k<e.cs.length:=by rw[<- q.sz];exact hk2
     have e1:=q.is_ k hk3
     have e2:=q'.is_ k hk3
     have hp:(getN e.cs k).plain=true:=by rw[getN_eq,List.getElem?_eq_getElem hk3];exact q.pl _ (List.getElem_mem _)
     have:=is_unique hp e1 (AV.is_plain (g':=g) hp e2)
     simp only[Array.getD,hk1,hk2,dif_pos] at this
     exact this.symm
    have hb1:w.heap[g l]?=some (.cells cs e.t (0,0)):=by rw[<- hel];exact q.at_
    have hb2:w'.heap[g l]?=some (.cells cs e.t (0,0)):=by rw[<- hgl,<- hel,<- hcs];exact q'.at_
    rw[hgl] at hback hrun
    refine⟨o,v,h1,h2,.inl ⟨hw,hrun w' v (OnlyB.run (OnlyB.loadAt _ _ t) hb1 hb2 hback)⟩,λe=>(by rw[hlo] at e;cases e)⟩
  ·exact⟨o,undef,h1,h2,.inr ⟨hw,rfl⟩,λe=>(by rw[hlo] at e;cases e)⟩
where
 memN_l {i:Nat} {l k:List Nat} (h:memN i (l++k)=false):memN i l=false:=by rw[memN_append] at h;simp at h;exact h.1
 memN_r {i:Nat} {l k:List Nat} (h:memN i (l++k)=false):memN i k=false:=by rw[memN_append] at h;simp at h;exact h.2
end
end Go.Eng
end
section
namespace Go.Eng
section
variable{P:Program}{lo:List Nat}{G:List (Nat×(List Value->PT))}{V:Value->List Value->PT}{fr:Hp}{ops:Array Oper}
def nodesOf(P:Program)(ops:Array Oper)(tab:List (List Nat)):List Nat->List Nat->List Nd
 |[],_=>[]
 |i::rest,done=>match ops[i]? with
  |none=>[]
  |some o=>match quietO P o with
   |true=>(i,true,[])::nodesOf P ops tab rest (done++[i])
   |false=>(i,false,done.filter (notAnc tab i))::nodesOf P ops tab rest (done.filter (notAnc tab i))
def PI(P:Program)(ops:Array Oper)(tab:List (List Nat))(x i:Nat):Prop:=(notAnc tab i x=false/\∀ o,ops[i]?=some o->quietO P o=false)\/Ind ops i x
theorem denP_run(hG:GOk P G)(hV:VOk P V)(hsel:∀ (j:Nat) (o:Oper) cs b,ops[j]?=some o->o.op≠.select cs b)(hown:∀ (x:Nat) (o:Oper),ops[x]?=some o->quietO P o=true->∀ d,o.dst=some d->d∉o.looksAt ops)
  {tab:List (List Nat)} {K:KS} {K0:Act->World->Prop}:∀ (l done:List Nat),done.Pairwise (λ_ _=>True)->l.Pairwise (PI P ops tab)->(∀ x∈done,∀ i∈l,PI P ops tab x i) ->
   ∀ (g:Nat->Nat) (A:Env) (L:List LE) (h:Hp) (a:Act) (w:World),HO fr g L h w->FO g A a->(∀ x∈done,Live P ops x a w) ->
   denP P lo G V ops tab l done A L h K->(∀ a' w',Rel (opWrites ops.toList) fr g L a w K a' w'->K0 a' w') ->
   runP P ops (λe a w=>match e with|.normal=>K0 a w|_=>False) K0 (nodesOf P ops tab l done) a w
 |[],done,_,_,_,g,A,L,h,a,w,H,F,hlive,hk,hK0=>hK0 _ _ ⟨g,A,L,h,F,H,Tr.refl _ _ _ _ _,hk⟩
 |i::rest,done,hdn,hpw,hdl,g,A,L,h,a,w,H,F,hlive,hk,hK0=>by
  unfold denP at hk
  unfold nodesOf
  obtain⟨hp1,hp2⟩:=pairwise_cons.1 hpw
  cases hi:ops[i]? with
  |none=>rw[hi] at hk;exact hk.elim
  |some o=>
   rw[hi] at hk
   dsimp only at hk ⊢
   have hmem:o∈ops.toList:=by
    rw[<- Array.getElem?_toList] at hi
    exact mem_of_getElem? hi
   have hWo:∀ k,memN k (opWrites ops.toList)=false->memN k (dW o.dst)=false:=dW_sub hmem
   cases hq:quietO P o with
   |true=>
    rw[hq] at hk
    dsimp only at hk ⊢
    obtain⟨v,hy,hfl,g1,A1,L1,h1,F1,H1,T1,hk1⟩:=quiet_step hG hV F H hq hk
    refine⟨o,v,hi,hy,?_⟩
    refine denP_run hG hV hsel hown rest (done++[i]) (List.pairwise_of_forall λ_ _=>trivial) hp2 (λx hx k hkr=>?_) g1 A1 L1 h1 _ w H1 F1 (λx hx=>?_) hk1 (λa' w' hr=>hK0 a' w' ?_)
    ·rcases mem_append.1 hx with hx|hx
     ·exact hdl x hx k (mem_cons_of_mem _ hkr)
     ·simp only[mem_singleton] at hx;subst hx;exact hp1 k hkr
    ·rcases mem_append.1 hx with hx|hx
     ·have hix:Ind ops i x:=by
       rcases hdl x hx i mem_cons_self with h|h
       ·have:=h.2 o hi;rw[hq] at this;cases this
       ·exact h
      exact Live.put hsel hi hix (hlive x hx)
     ·simp only[mem_singleton] at hx
      subst hx
      have ho:=hown x o hi hq
      exact⟨o,v,hi,put_put _ _ _ _,(Yat.put (hsel x o · · hi) ho).2 hy,λe w'=>(Yat.put (hsel x o · · hi) ho).2 (hfl e w')⟩
    ·obtain⟨g2,A2,L2,h2,F2,H2,T2,k2⟩:=hr
     exact⟨g2,A2,L2,h2,F2,H2,(T1.mono hWo).trans T2,k2⟩
   |false=>
    rw[hq] at hk
    dsimp only at hk ⊢
    have hs:=step_ok (Q:=λe a w=>match e with|.normal=>K0 a w|_=>False) hG hV (H.freeze (keepLs (keepOf o A))) F hk
    refine⟨o,hi,?_⟩
    have next:∀ a' w',Rel (dW o.dst) fr g (freezeL (keepLs (keepOf o A)) L) a w (λA' L' h'=>reAll P ops.toList L (dsts o.dst++keepOf o A) A' h' (done.filter (notAnc tab i)) (denP P lo G V ops tab rest (done.filter (notAnc tab i)) A' (thaw L L') h' K)) a' w' ->
      (∀ y∈done.filter (notAnc tab i),Chk P ops y a' w')/\runP P ops (λe a w=>match e with|.normal=>K0 a w|_=>False) K0 (nodesOf P ops tab rest (done.filter (notAnc tab i))) a' w':=by
     rintro a' w' ⟨g1,A1,L1,h1,F1,H1,T1,hk1⟩
     obtain⟨hag,hk1⟩:=reAll_spec F1 H1.hh hk1
     have hl':∀ x∈done.filter (notAnc tab i),Live P ops x a' w':=λx hx=>
      Live.past hsel hi ((hdl x (List.mem_filter.1 hx).1 i mem_cons_self).resolve_left (λh=>by have h2:=(List.mem_filter.1 hx).2;rw[h.1] at h2;cases h2)) F H F1 H1 T1 (hlive x (List.mem_filter.1 hx).1) (hag x hx)
     refine⟨λy hy=>(hl' y hy).chk,?_⟩
     refine denP_run hG hV hsel hown rest _ (List.pairwise_of_forall λ_ _=>trivial) hp2 (λx hx k hkr=>hdl x (List.mem_filter.1 hx).1 k (mem_cons_of_mem _ hkr)) g1 A1 (thaw L L1) h1 a' w' (H1.thaw L) F1 hl' hk1 (λa'' w'' hr=>hK0 a'' w'' ?_)
     obtain⟨g2,A2,L2,h2,F2,H2,T2,k2⟩:=hr
     refine⟨g2,A2,L2,h2,F2,H2,?_,k2⟩
     exact(⟨T1.wr,Kp.thaw H T1.kp,λk hk=>T1.gg k (hWo k hk),λk hk=>T1.un k (hWo k hk),T1.sz⟩:Tr (opWrites ops.toList) g L a w g1 (thaw L L1) a' w').trans T2
    unfold eff
    split
    ·rename_i hw
     rw[if_pos hw] at hs
     exact Oper.wp_mono (λa' w' hr=>next a' w' hr) hs
    ·rename_i hw
     rw[if_neg hw] at hs
     exact next _ _ hs
theorem Anc.trans{x y z:Nat}(h:Anc ops x y)(k:Anc ops y z):Anc ops x z:=by
 induction k with
 |edge ho he=>exact .step ho he h
 |step ho he _ ih=>exact .step ho he ih
structure Pr(P:Program)(ops:Array Oper)(tab:List (List Nat))(x i:Nat):Prop where
 or_:Anc ops x i\/(Ind ops x i/\∀ o,ops[x]?=some o->quietO P o=true)
 ind:PI P ops tab x i
 seen:∀ o,ops[x]?=some o->i∉edgesOf o
theorem nodes_fst(tab:List (List Nat)):∀ (l done:List Nat),(∀ i∈l,∃ o,ops[i]?=some o)->(nodesOf P ops tab l done).map (·.1)=l
 |[],_,_=>rfl
 |i::l,done,h=>by
  obtain⟨o,ho⟩:=h i mem_cons_self
  unfold nodesOf
  rw[ho]
  dsimp only
  cases quietO P o with
  |true=>simp only[map_cons];rw[nodes_fst tab l _ λk hk=>h k (mem_cons_of_mem _ hk)]
  |false=>simp only[map_cons];rw[nodes_fst tab l _ λk hk=>h k (mem_cons_of_mem _ hk)]
theorem nodes_quiet(tab:List (List Nat)):∀ (l done:List Nat),∀ n∈nodesOf P ops tab l done,∃ o,ops[n.1]?=some o/\n.2.1=quietO P o
 |[],_,n,hn=>by simp[nodesOf] at hn
 |i::l,done,n,hn=>by
  unfold nodesOf at hn
  cases ho:ops[i]? with
  |none=>rw[ho] at hn;simp at hn
  |some o=>
   rw[ho] at hn
   dsimp only at hn
   cases hq:quietO P o with
   |true=>
    rw[hq] at hn
    rcases mem_cons.1 hn with rfl|hn
    ·exact⟨o,ho,hq.symm⟩
    ·exact nodes_quiet tab l _ n hn
   |false=>
    rw[hq] at hn
    rcases mem_cons.1 hn with rfl|hn
    ·exact⟨o,ho,hq.symm⟩
    ·exact nodes_quiet tab l _ n hn
theorem nodes_mem(tab:List (List Nat)):∀ (l done:List Nat),∀ n∈nodesOf P ops tab l done,n.1∈l
 |[],_,n,hn=>by simp[nodesOf] at hn
 |i::l,done,n,hn=>by
  unfold nodesOf at hn
  cases ho:ops[i]? with
  |none=>rw[ho] at hn;simp at hn
  |some o=>
   rw[ho] at hn
   dsimp only at hn
   cases hq:quietO P o with
   |true=>
    rw[hq] at hn
    rcases mem_cons.1 hn with rfl|hn
    ·exact mem_cons_self
    ·exact mem_cons_of_mem _ (nodes_mem tab l _ n hn)
   |false=>
    rw[hq] at hn
    rcases mem_cons.1 hn with rfl|hn
    ·exact mem_cons_self
    ·exact mem_cons_of_mem _ (nodes_mem tab l _ n hn)
theorem nodes_c{tab:List (List Nat)}(htab:∀ i x,notAnc tab i x=false->Anc ops x i):∀ (l done:List Nat) (x:Nat),x∈done->l.Pairwise (Pr P ops tab)->∀ n∈nodesOf P ops tab l done,Anc ops x n.1\/(n.2.1=true\/x∈n.2.2)
 |[],_,x,_,_,n,hn=>by simp[nodesOf] at hn
 |i::l,done,x,hx,hpw,n,hn=>by
  obtain⟨hp1,hp2⟩:=pairwise_cons.1 hpw
  unfold nodesOf at hn
  cases ho:ops[i]? with
  |none=>rw[ho] at hn;simp at hn
  |some o=>
   rw[ho] at hn
   dsimp only at hn
   cases hq:quietO P o with
   |true=>
    rw[hq] at hn
    rcases mem_cons.1 hn with rfl|hn
    ·exact .inr (.inl rfl)
    ·exact nodes_c htab l _ x (mem_append_left _ hx) hp2 n hn
   |false=>
    rw[hq] at hn
    cases hna:notAnc tab i x with
    |true=>
     have hxm:x∈done.filter (notAnc tab i):=List.mem_filter.2 ⟨hx,hna⟩
     rcases mem_cons.1 hn with rfl|hn
     ·exact .inr (.inr hxm)
     ·exact nodes_c htab l _ x hxm hp2 n hn
    |false=>
     have hxi:=htab i x hna
     rcases mem_cons.1 hn with rfl|hn
     ·exact .inl hxi
     ·obtain⟨o',ho',hq'⟩:=nodes_quiet tab l _ n hn
      cases hqn:n.2.1 with
      |true=>exact .inr (.inl rfl)
      |false=>
       have hnl:n.1∈l:=nodes_mem tab l _ n hn
       rcases (hp1 n.1 hnl).or_ with h|h
       ·exact .inl (hxi.trans h)
       ·have:=h.2 o ho;rw[hq] at this;cases this
theorem nodes_pw{tab:List (List Nat)}(htab:∀ i x,notAnc tab i x=false->Anc ops x i):∀ (l done:List Nat),l.Pairwise (Pr P ops tab) ->
  (nodesOf P ops tab l done).Pairwise (λn1 n=>(Anc ops n1.1 n.1\/Fit ops n1 n)/\(n.2.1=true->Ind ops n.1 n1.1)/\∀ o,ops[n1.1]?=some o->n.1∉edgesOf o)
 |[],_,_=>by simp[nodesOf]
 |i::l,done,hpw=>by
  obtain⟨hp1,hp2⟩:=pairwise_cons.1 hpw
  unfold nodesOf
  cases ho:ops[i]? with
  |none=>simp
  |some o=>
   dsimp only
   cases hq:quietO P o with
   |true=>
    refine pairwise_cons.2 ⟨λn hn=>?_,nodes_pw htab l _ hp2⟩
    have hpr:=hp1 n.1 (nodes_mem tab l _ n hn)
    obtain⟨on,hon,hqn⟩:=nodes_quiet tab l _ n hn
    have hind:n.2.1=true->Ind ops n.1 i:=λe=>hpr.ind.resolve_left (λh=>by have:=h.2 on hon;rw[<- hqn,e] at this;cases this)
    refine⟨?_,hind,hpr.seen⟩
    rcases nodes_c htab l _ i (mem_append_right _ (by simp)) hp2 n hn with h|h
    ·exact .inl h
    ·rcases hpr.or_ with h'|h'
     ·exact .inl h'
     ·rcases hpr.ind with h''|h''
      ·exact .inl (htab _ _ h''.1)
      ·exact .inr ⟨rfl,h'.1,h'',h⟩
   |false=>
    refine pairwise_cons.2 ⟨λn hn=>?_,nodes_pw htab l _ hp2⟩
    have hpr:=hp1 n.1 (nodes_mem tab l _ n hn)
    obtain⟨on,hon,hqn⟩:=nodes_quiet tab l _ n hn
    have hind:n.2.1=true->Ind ops n.1 i:=λe=>hpr.ind.resolve_left (λh=>by have:=h.2 on hon;rw[<- hqn,e] at this;cases this)
    refine⟨?_,hind,hpr.seen⟩
    rcases hpr.or_ with h'|h'
    ·exact .inl h'
    ·have:=h'.2 o ho;rw[hq] at this;cases this
theorem distinct_nodup:∀ {l:List Nat},distinct l=true->l.Nodup
 |[],_=>List.nodup_nil
 |x::l,h=>by
  simp only[distinct,Bool.and_eq_true,Bool.not_eq_true'] at h
  exact List.nodup_cons.2 ⟨λhx=>(by rw[memN_iff.2 hx] at h;cases h.1),distinct_nodup h.2⟩
theorem topo_spec:∀ {l seen:List Nat},orderTopo ops seen l=true->l.Nodup->(∀ x∈l,x∉seen) ->
  (∀ i∈l,∃ o,ops[i]?=some o/\∀ e∈edgesOf o,e<i)/\l.Pairwise (λx i=>∀ o,ops[x]?=some o->i∉edgesOf o)
 |[],seen,_,_,_=>⟨λi hi=>(by cases hi),List.Pairwise.nil⟩
 |i::l,seen,h,hn,hs=>by
  simp only[orderTopo,Bool.and_eq_true] at h
  obtain⟨h1,h2⟩:=h
  obtain⟨hn1,hn2⟩:=List.nodup_cons.1 hn
  obtain⟨h3,h4⟩:=topo_spec h2 hn2 (λx hx hxs=>by
   rcases mem_cons.1 hxs with rfl|hxs
   ·exact hn1 hx
   ·exact hs x (mem_cons_of_mem _ hx) hxs)
  cases ho:ops[i]? with
  |none=>rw[ho] at h1;cases h1
  |some o=>
   rw[ho] at h1
   have h1:∀ e∈edgesOf o,e∈seen/\e<i:=by
    intro e he
    have:=List.all_eq_true.1 h1 e he
    rw[Bool.and_eq_true] at this
    exact⟨memN_iff.1 this.1,by have:=this.2;rw[Nat.blt_eq] at this;exact this⟩
   refine⟨λk hk=>?_,pairwise_cons.2 ⟨λk hk o' ho' hke=>?_,h4⟩⟩
   ·rcases mem_cons.1 hk with rfl|hk
    ·exact⟨o,ho,λe he=>(h1 e he).2⟩
    ·exact h3 k hk
   ·rw[ho] at ho'
    cases ho'
    exact hs k (mem_cons_of_mem _ hk) (h1 k hke).1
theorem pairs_spec{tab:List (List Nat)}(htab:∀ i x,notAnc tab i x=false->Anc ops x i):∀ {l:List Nat},orderPairs P ops tab l=true->l.Pairwise (λx i=>(Anc ops x i\/(Ind ops x i/\∀ o,ops[x]?=some o->quietO P o=true))/\PI P ops tab x i)
 |[],_=>List.Pairwise.nil
 |x::l,h=>by
  simp only[orderPairs,Bool.and_eq_true] at h
  refine pairwise_cons.2 ⟨λi hi=>?_,pairs_spec htab h.2⟩
  have hp:=List.all_eq_true.1 h.1 i hi
  unfold orderPair at hp
  cases hx:ops[x]? with
  |none=>rw[hx] at hp;cases hp
  |some ox=>
   cases hii:ops[i]? with
   |none=>rw[hx,hii] at hp;cases hp
   |some oi=>
    rw[hx,hii] at hp
    simp only[Bool.and_eq_true,Bool.or_eq_true,Bool.not_eq_true'] at hp
    refine⟨?_,?_⟩
    ·rcases hp.1 with h|h
     ·exact .inl (htab i x h)
     ·obtain⟨a1,a2,a3⟩:=Oper.apart_spec h.2
      refine .inr ⟨λo1 o2 h1 h2 d hd=>?_,λo ho=>?_⟩
      ·rw[hx] at h1;rw[hii] at h2;cases h1;cases h2
       exact⟨a1 d hd,a2 d hd⟩
      ·cases ho;exact h.1
    ·rcases hp.2 with h3|h3
     ·exact .inl ⟨h3.1,λo ho=>by rw[hii] at ho;cases ho;exact h3.2⟩
     refine .inr λo1 o2 h1 h2 d hd=>?_
     rw[hii] at h1;rw[hx] at h2;cases h1;cases h2
     rw[hd] at h3
     simp only[Bool.and_eq_true,Bool.not_eq_true',bne_iff_ne,ne_eq] at h3
     exact⟨λhm=>(by simp[hm] at h3),h3.2⟩
theorem order_ok(hG:GOk P G)(hV:VOk P V){id:Nat}{l:List Nat}(hm:P.follows .mixedOrders=true)(ho:orderOk P ops (ancTab [] ops.toList) l=true){K:KS}{g:Nat->Nat}{A:Env}{L:List LE}{h:Hp}{a:Act}{w:World}(H:HO fr g L h w)(F:FO g A a)
  (hk:denP P lo G V ops (ancTab [] ops.toList) l [] A L h K):(Code.region id ops true).wp P (λe a' w'=>match e with|.normal=>Rel (opWrites ops.toList) fr g L a w K a' w'|_=>False) a w:=by
 unfold orderOk at ho
 simp only[Bool.and_eq_true,beq_iff_eq] at ho
 obtain⟨⟨⟨⟨⟨⟨hsel,hlen⟩,hall⟩,hdist⟩,hown⟩,htopo⟩,hpairs⟩:=ho
 have hnd:=distinct_nodup hdist
 obtain⟨ht1,ht2⟩:=topo_spec htopo hnd (λx _ hx=>by cases hx)
 have htab:∀ i x,notAnc (ancTab [] ops.toList) i x=false->Anc ops x i:=λi x h=>notAnc_false h
 have hps:=pairs_spec htab hpairs
 have hpr:l.Pairwise (Pr P ops (ancTab [] ops.toList)):=(hps.and ht2).imp λh=>⟨h.1.1,h.1.2,h.2⟩
 have hselS:=Region.noSelect_spec hsel
 have hownS:∀ (x:Nat) (o:Oper),ops[x]?=some o->quietO P o=true->∀ d,o.dst=some d->d∉o.looksAt ops:=by
  intro x o hx hq d hd hm
  have:=Array.all_eq_true_iff_forall_mem.1 hown o (Array.mem_of_getElem? hx)
  rw[hq,hd] at this
  simp[hm] at this
 let w1:World:={ w with drawn:=w.drawn+1 }
 have H1:HO fr g L h w1:=⟨H.hh,H.ff,H.dj,λe he=>(let ⟨cs,q⟩:=H.ll e he;⟨cs,⟨q.at_,q.sz,q.is_,q.pl,q.nh,q.nf⟩⟩),H.uq⟩
 have hrun:=denP_run (K0:=λa' w'=>Rel (opWrites ops.toList) fr g L a w K a' w') hG hV hselS hownS l [] List.Pairwise.nil (hpr.imp λh=>h.ind) (λx hx=>by cases hx) g A L h a w1 H1 F (λx hx=>by cases hx) hk
  (λa' w' ⟨g2,A2,L2,h2,F2,H2,T2,k2⟩=>⟨g2,A2,L2,h2,F2,H2,⟨⟨T2.wr.os,T2.wr.tape,T2.wr.output,T2.wr.size⟩,T2.kp,T2.gg,T2.un,T2.sz⟩,k2⟩)
 have hfst:=nodes_fst (P:=P) (ancTab [] ops.toList) l [] (λi hi=>let ⟨o,ho,_⟩:=ht1 i hi;⟨o,ho⟩)
 refine wp_region_any hm (any_of_run (λa w h=>h) (λc a w h=>h) hselS ops.size _ _ a w1 ?_ (by simp) (λj=>?_) (λj o _ hj=>?_) ⟨nodes_pw htab l [] hpr,λn hn=>?_,by rw[hfst];exact hnd⟩ hrun)
 ·have:=congrArg List.length hfst
  rw[List.length_map] at this
  rw[this,hlen]
 ·rw[hfst]
  constructor
  ·intro hj
   have hjs:j<ops.size:=by
    apply Classical.byContradiction
    intro hne
    simp[hne] at hj
   exact memN_iff.1 (List.all_eq_true.1 hall j (List.mem_range.2 hjs))
  ·intro hj
   obtain⟨o,ho,_⟩:=ht1 j hj
   have:j<ops.size:=(Array.getElem?_eq_some_iff.1 ho).1
   simp[this]
 ·exfalso
  by_cases hjs:j<ops.size
  ·simp[hjs] at hj
  ·simp[hjs] at hj
 ·obtain⟨o,ho,hlt⟩:=ht1 n.1 (nodes_mem _ _ _ n hn)
  have hns:n.1<ops.size:=(Array.getElem?_eq_some_iff.1 ho).1
  obtain⟨o',ho',hq⟩:=nodes_quiet _ _ _ n hn
  rw[ho] at ho'
  cases ho'
  exact⟨o,ho,λhm=>absurd (hlt _ hm) (Nat.lt_irrefl _),λe he=>Nat.lt_trans (hlt e he) hns,λe d hd=>hownS n.1 o ho (by rw[<- hq];exact e) d hd⟩
end
end Go.Eng
end
section
namespace Go.Eng
section
variable{P:Program}{lo:List Nat}{G:List (Nat×(List Value->PT))}{V:Value->List Value->PT}{fr:Hp}{ops:Array Oper}
def AllocAt(P:Program)(o:Oper)(a:Act)(obj:Obj)(vf:Nat->Value):Prop:=
 ∀ w:World,∃ n,(execOp a.eval o).run P w=.ok (.value (vf w.heap.size)) { w with heap:=w.heap.push obj,drawn:=n }
theorem bs_run{g:Nat->Nat}{t n:Nat}{ps:List (Nat×AV)}{qs:Array (Nat×Value)}{C:Nat->List Value->Prop}(hk:bsD P t n ps C)(hp:partsIs g ps qs.toList) :
  ∃ e us,C e us/\∀ w:World,∃ m,(Instr.buildSlice t n qs).run P w=.ok (.slice (some ⟨w.heap.size,0,none⟩) n n) { w with heap:=w.heap.push (.cells us.toArray e (0,0)),drawn:=m }:=by
 unfold bsD at hk
 cases hd:under P t<;>rw[hd] at hk<;>try exact False.elim hk
 case slice e=>
 have hut:=under_some hd (by simp)
 have hq:=grd_spec hk
 clear hk
 obtain⟨hie,hk⟩:=hq
 cases hz:zeroOf P e with
 |none=>rw[hz] at hk;exact False.elim hk
 |some z=>
  rw[hz] at hk
  dsimp only at hk
  have hq:=grd_spec hk
  clear hk
  obtain⟨hb,hk⟩:=hq
  simp only[Bool.and_eq_true,Nat.ble_eq] at hb
  obtain⟨hbig,hz0⟩:=hb
  have hz0:0<z.length:=by simp[Nat.blt] at hz0;omega
  obtain⟨i0,v0,hi0,hzi,hvc,hzl,hcs⟩:=zeroOf_some hz
  rw[replA_map] at hk
  obtain⟨cs,us,hfill,hst,hcl,hk⟩:=fillP_ok (us:=replV n z) hk hp (inStep_map _)
  obtain⟨vs,hvl,hat,hpl,hk⟩:=getAll_spec hk
  have:us=vs:=lists_eq hpl hst.1 hvl hst.2 (hat g)
  subst this
  refine⟨e,us,hk,λw=>⟨w.drawn,?_⟩⟩
  have hcell:P.cellsOf e=z.length:=by rw[hcs,hzl]
  have hnb:¬ (n*P.cellsOf e > 2 ^ 24):=by simp;exact hbig
  have hcells:(Array.range (n*P.cellsOf e)).map (λx=>z.toArray[x % z.toArray.size]!)=(replV n z).toArray:=by rw[hcell];exact range_zero n hz0
  unfold Instr.buildSlice
  simp only[Sem.run_bind,run_underlying hut,Result.andThen_ok,run_sizeOf' hie]
  rw[if_neg hnb]
  by_cases hn0:n*P.cellsOf e=0
  ·have hn:n=0:=by rcases Nat.mul_eq_zero.1 hn0 with h1|h1<;>omega
   subst hn
   have:replV 0 z=[]:=rfl
   rw[this] at hfill
   have hnil:∀ f:Nat->Value,(Array.range 0).map f=#[]:=λf=>by simp
   simp only[hn0,if_true,Sem.run_bind,Sem.run_pure,Result.andThen_ok,hnil]
   rw[hfill]
   simp[newRow,newObj,Sem.run]
  ·obtain⟨v,hrv,hvc'⟩:=run_zero hz w
   simp only[hn0,if_false,Sem.run_bind,hrv,Result.andThen_ok,hvc',Sem.run_pure]
   rw[hcells,hfill]
   simp[newRow,newObj,Sem.run]
theorem mk_run{g:Nat->Nat}{t:Nat}{l c:AV}{u v:Value}{C:Nat->List Value->Int->Int->Prop}(hk:mkD P t l c C)(hl:l.is g u)(hc:c.is g v) :
  ∃ e z n m,C e z n m/\∀ w:World,∃ q,(Instr.makeSlice t u v).run P w=.ok (.slice (some ⟨w.heap.size,0,none⟩) n.toNat m.toNat) { w with heap:=w.heap.push (.cells (Builtin.zeroCells z.toArray m.toNat) e (0,0)),drawn:=q }:=by
 unfold mkD at hk
 cases hd:under P t<;>rw[hd] at hk<;>try exact False.elim hk
 case slice e=>
 have hut:=under_some hd (by simp)
 dsimp only at hk
 cases hi:P.info? e with
 |none=>rw[hi] at hk;exact False.elim hk
 |some i=>
  rw[hi] at hk
  dsimp only at hk
  cases hz:zeroOf P e with
  |none=>rw[hz] at hk;exact False.elim hk
  |some z=>
   rw[hz] at hk
   dsimp only at hk
   cases l with
   |v lv=>
    have hu:u=lv:=hl
    subst hu
    cases u with
    |int k n=>
     dsimp only at hk
     cases c with
     |v cv=>
      have hv:v=cv:=hc
      subst hv
      cases v with
      |int k' m=>
       have hq:=grd_spec hk
       clear hk
       obtain⟨hb,hk⟩:=hq
       simp only[Bool.and_eq_true] at hb
       have hby:0<i.bytes:=by have:=hb.1;simp[Nat.blt] at this;omega
       have hz0:0<z.length:=by have:=hb.2;simp[Nat.blt] at this;omega
       obtain⟨⟨h0,h1,h2⟩,hk⟩:=hk
       obtain⟨i0,v0,hi0,hzi,hvc,hzl,hcs⟩:=zeroOf_some hz
       have hii:i=i0:=by rw[hi] at hi0;exact Option.some.inj hi0
       subst hii
       have hm:m<=281474976710656:=by
        have:(1:Int)*m<=i.bytes*m:=Int.mul_le_mul_of_nonneg_right (by omega) (by omega)
        omega
       have wr:∀ x:Int,0<=x->x<=281474976710656->IntKind.i64.wrap x=x:=by
        intro x hx0 hx1
        have e1:x % (2 ^ IntKind.i64.bits:Int)=x:=Int.emod_eq_of_lt hx0 (by simp[IntKind.bits];omega)
        unfold IntKind.wrap
        simp only[e1]
        rw[if_neg (by simp[IntKind.signed,IntKind.bits];omega)]
       have wn:=wr n h0 (by omega)
       have wm:=wr m (by omega) hm
       refine⟨e,z,n,m,hk,λw=>⟨w.drawn,?_⟩⟩
       obtain⟨M,rfl⟩:=Int.eq_ofNat_of_zero_le (show 0<=m by omega)
       obtain⟨N,rfl⟩:=Int.eq_ofNat_of_zero_le h0
       have hask:∀ b,(askRoom b).run P w=.ok () w:=by intro b;unfold askRoom;split<;>simp[mark,Sem.run]
       have hinf:(typeInfo e).run P w=.ok i w:=by simp[typeInfo,hi]
       have hsz:(sizeOf e).run P w=.ok i.size w:=by simp[sizeOf,typeInfo,hi]
       obtain⟨zv,hzr,hzc⟩:=run_zero hz w
       unfold Instr.makeSlice
       simp only[Sem.run_bind,run_underlying hut,Result.andThen_ok,asInt,asIntOf,Sem.run_pure,hinf,wn,wm]
       rw[if_neg (by simp;omega)]
       simp only[Sem.run_bind,hask,Result.andThen_ok,hsz,Int.toNat_natCast]
       by_cases hM:M*i.size=0
       ·have hM0:M=0:=by rcases Nat.mul_eq_zero.1 hM with h3|h3<;>omega
        subst hM0
        have hnil:∀ f:Nat->Value,(Array.range 0).map f=#[]:=λf=>by simp
        simp only[Nat.zero_mul,if_true,Sem.run_pure,Result.andThen_ok,hnil]
        have hnil2:Builtin.zeroCells z.toArray 0=#[]:=by unfold Builtin.zeroCells;rw[Nat.zero_mul];exact hnil _
        rw[hnil2]
        simp[newRow,newObj,Sem.run]
       ·simp only[hM,if_false,Sem.run_bind,hzr,Result.andThen_ok,hzc,Sem.run_pure]
        simp[newRow,newObj,Sem.run,Builtin.zeroCells,hzl]
      |_=>exact False.elim hk
     |_=>exact False.elim hk
    |_=>exact False.elim hk
   |_=>exact False.elim hk
theorem exec_of{o:Oper}{a:Act}{s:Sem Value}{obj:Obj}{vf:Nat->Value}(hs:execOp a.eval o=(do pure (Next.value (<- s)):Sem Next))
  (h:∀ w:World,∃ n,s.run P w=.ok (vf w.heap.size) { w with heap:=w.heap.push obj,drawn:=n }):AllocAt P o a obj vf:=by
 intro w
 obtain⟨n,hn⟩:=h w
 refine⟨n,?_⟩
 rw[hs]
 simp only[Sem.run_bind,hn,Result.andThen_ok,Sem.run_pure]
theorem exec_bs{o:Oper}{a:Act}{t n:Nat}{ps:Array (Nat×Operand)}(ho:o.op=.buildSlice t n ps):execOp a.eval o=(do pure (Next.value (<- Instr.buildSlice t n (ps.map λ(i,x)=>(i,a.eval x)))):Sem Next):=by
 unfold execOp;rw[ho]
theorem exec_mk{o:Oper}{a:Act}{t:Nat}{l c:Operand}(ho:o.op=.makeSlice t l c):execOp a.eval o=(do pure (Next.value (<- Instr.makeSlice t (a.eval l) (a.eval c))):Sem Next):=by
 unfold execOp;rw[ho]
theorem exec_mm{o:Oper}{a:Act}{t:Nat}(ho:o.op=.makeMap t none):execOp a.eval o=(do pure (Next.value (<- Instr.makeMap t none)):Sem Next):=by
 unfold execOp;rw[ho];rfl
theorem exec_al{o:Oper}{a:Act}{t:Nat}(ho:o.op=.alloc t):execOp a.eval o=(do pure (Next.value (<- Instr.alloc t true (.tuple #[]))):Sem Next):=by
 unfold execOp;rw[ho]
theorem run_alloc{t:Nat}{z:List Value}(hz:zeroOf P t=some z)(w:World):∃ n,(Instr.alloc t true (.tuple #[])).run P w=.ok (.pointer (some ⟨w.heap.size,0,none⟩)) { w with heap:=w.heap.push (.cells z.toArray t (0,0)),drawn:=n }:=by
 obtain⟨v,hr,hc⟩:=run_zero hz w
 refine⟨w.drawn,?_⟩
 unfold Instr.alloc
 simp[Sem.run_bind,hr,newVar,newRow,newObj,hc,Sem.run]
theorem parts_arr{g:Nat->Nat}{A:Env}{a:Act}(F:FO g A a)(ps:Array (Nat×Operand)):partsIs g (partsEv A ps.toList) (ps.map λ(i,x)=>(i,a.eval x)).toList:=by
 rw[Array.toList_map];exact partsEv_is F ps.toList
theorem late_run{g:Nat->Nat}{A:Env}{a:Act}{o:Oper}{p:Prop}(F:FO g A a)(hk:lateD P o.op A p):(∃ obj vf,AllocAt P o a obj vf)/\p:=by
 unfold lateD at hk
 split at hk
 ·rename_i t n ps ho
  obtain⟨e,us,hp,hr⟩:=bs_run (qs:=ps.map λ(i,x)=>(i,a.eval x)) hk (parts_arr F ps)
  exact⟨⟨.cells us.toArray e (0,0),λb=>.slice (some ⟨b,0,none⟩) n n,exec_of (exec_bs ho) hr⟩,hp⟩
 ·rename_i t l c ho
  obtain⟨e,z,n,m,hp,hr⟩:=mk_run hk (ev_is F l) (ev_is F c)
  exact⟨⟨.cells (Builtin.zeroCells z.toArray m.toNat) e (0,0),λb=>.slice (some ⟨b,0,none⟩) n.toNat m.toNat,exec_of (exec_mk ho) hr⟩,hp⟩
 ·rename_i t r ho
  cases r with
  |none=>exact⟨⟨.map #[] 0,λb=>.map (some b),exec_of (exec_mm ho) λw=>⟨w.drawn,by simp[Instr.makeMap,newObj,Sem.run]⟩⟩,hk⟩
  |some x=>exact hk.elim
 ·rename_i t ho
  cases hz:zeroOf P t with
  |none=>rw[hz] at hk;exact hk.elim
  |some z=>rw[hz] at hk;exact⟨⟨.cells z.toArray t (0,0),λb=>.pointer (some ⟨b,0,none⟩),exec_of (exec_al ho) (run_alloc hz)⟩,hk⟩
 ·exact hk.elim
theorem lateG_cases{g:Nat->Nat}{A:Env}{a:Act}{o:Oper}{p:Prop}(F:FO g A a)(hk:lateG P ops.toList o A p) :
  (Region.wanted o (yielded ops a.tmps)=true/\lateD P o.op A p)\/(Region.wanted o (yielded ops a.tmps)=false/\p):=by
 unfold lateG at hk
 cases hg:o.guard with
 |none=>rw[hg] at hk;exact .inl ⟨by simp[Region.wanted,hg],hk⟩
 |some gw=>
  obtain⟨j,want⟩:=gw
  rw[hg] at hk
  dsimp only at hk
  cases hd:dstOf ops.toList j with
  |none=>rw[hd] at hk;exact False.elim hk
  |some d=>
   rw[hd] at hk
   dsimp only at hk
   have hat:=F.at_ d
   have hwanted:∀ r:Option Bool,yielded ops a.tmps j=r->Region.wanted o (yielded ops a.tmps)=(r == some want):=by
    intro r hr;simp[Region.wanted,hg,hr]
   cases hA:getE A d with
   |v x=>
    rw[hA] at hk hat
    have hy:=yielded_eq hd hat
    cases x with
    |bool b=>
     simp only[boolOf] at hy
     have hw:=hwanted _ hy
     cases b<;>cases want<;>simp only at hk hw
     ·exact .inl ⟨by rw[hw];rfl,hk⟩
     ·exact .inr ⟨by rw[hw];rfl,hk⟩
     ·exact .inr ⟨by rw[hw];rfl,hk⟩
     ·exact .inl ⟨by rw[hw];rfl,hk⟩
    |tuple vs=>
     have hw:=hwanted _ hy
     exact .inr ⟨by rw[hw];rfl,hk⟩
    |_=>exact False.elim hk
   |_=>rw[hA] at hk;exact False.elim hk
theorem late_pub{g:Nat->Nat}{A:Env}{a:Act}{o:Oper}{L:List LE}{h:Hp}{K:KS}(F:FO g A a)(hl:isLate lo o=true)(hk:opD P lo G V o.dst o.type o.op A L h λx L' h'=>K (putD (killA lo o.dst o.op A) o.dst x) L' h') :
  ∃ obj vf,AllocAt P o a obj vf/\∀ b,h b=none->∃ x:AV,x.is g (vf b)/\K (putD A o.dst x) L (h.new b obj):=by
 unfold isLate at hl
 simp only[Bool.and_eq_true] at hl
 obtain⟨hop,hdst⟩:=hl
 obtain⟨d,hd,hm⟩:∃ d,o.dst=some d/\memN d lo=false:=by
  cases hd:o.dst with
  |none=>rw[hd] at hdst;cases hdst
  |some d=>rw[hd] at hdst;exact⟨d,rfl,by simpa using hdst⟩
 have hkill:killA lo o.dst o.op A=A:=by
  unfold killA
  rw[hd]
  cases makes o.op with
  |true=>dsimp only;rw[hm]
  |false=>rfl
 rw[hkill] at hk
 split at hop
 ·rename_i t n ps ho
  rw[ho,hd] at hk
  have hk:dBuildSlice P lo (some d) t n (partsEv A ps.toList) L h (λx L' h'=>K (putD A (some d) x) L' h'):=hk
  have hb:bsD P t n (partsEv A ps.toList) (λe vs=>∀ b,h b=none->K (putD A (some d) (.v (.slice (some ⟨b,0,none⟩) n n))) L (h.new b (.cells ⟨vs⟩ e (0,0)))):=by
   unfold dBuildSlice at hk
   dsimp only at hk
   rw[hm] at hk
   exact hk
  obtain⟨e,us,hp,hr⟩:=bs_run (qs:=ps.map λ(i,x)=>(i,a.eval x)) hb (parts_arr F ps)
  rw[hd]
  exact⟨.cells us.toArray e (0,0),λb=>.slice (some ⟨b,0,none⟩) n n,exec_of (exec_bs ho) hr,λb hb=>⟨.v (.slice (some ⟨b,0,none⟩) n n),rfl,hp b hb⟩⟩
 ·rename_i t l c ho
  rw[ho,hd] at hk
  have hk:dMake P t (ev A l) (ev A c) L h (λx L' h'=>K (putD A (some d) x) L' h'):=hk
  have hb:mkD P t (ev A l) (ev A c) (λe z n m=>∀ b,h b=none->K (putD A (some d) (.v (.slice (some ⟨b,0,none⟩) n.toNat m.toNat))) L (h.new b (.cells (Builtin.zeroCells z.toArray m.toNat) e (0,0)))):=hk
  obtain⟨e,z,n,m,hp,hr⟩:=mk_run hb (ev_is F l) (ev_is F c)
  rw[hd]
  exact⟨.cells (Builtin.zeroCells z.toArray m.toNat) e (0,0),λb=>.slice (some ⟨b,0,none⟩) n.toNat m.toNat,exec_of (exec_mk ho) hr,λb hb=>⟨.v (.slice (some ⟨b,0,none⟩) n.toNat m.toNat),rfl,hp b hb⟩⟩
 ·rename_i t r ho
  rw[ho,hd] at hk
  cases r with
  |none=>
   have hk:∀ b,h b=none->K (putD A (some d) (.v (.map (some b)))) L (h.new b (.map #[] 0)):=hk
   rw[hd]
   exact⟨.map #[] 0,λb=>.map (some b),exec_of (exec_mm ho) λw=>⟨w.drawn,by simp[Instr.makeMap,newObj,Sem.run]⟩,λb hb=>⟨.v (.map (some b)),rfl,hk b hb⟩⟩
  |some x=>exact False.elim hk
 ·rename_i t ho
  rw[ho,hd] at hk
  have hk:dAlloc P lo (some d) t L h (λx L' h'=>K (putD A (some d) x) L' h'):=hk
  unfold dAlloc at hk
  cases hz:zeroOf P t with
  |none=>rw[hz] at hk;exact False.elim hk
  |some z=>
   rw[hz] at hk
   unfold dNew at hk
   dsimp only at hk
   rw[hm] at hk
   have hk:∀ b,h b=none->K (putD A (some d) (.p b 0)) L (h.new b (.cells z.toArray t (0,0))):=by
    have hs:inStep g (z.map AV.v) z:=by
     refine⟨by simp,λi hi=>?_⟩
     have hi':i<z.length:=by simpa using hi
     rw[getN_eq,List.getElem?_map,List.getElem?_eq_getElem hi']
     show _=_
     simp[List.getD_eq_getElem?_getD,List.getElem?_eq_getElem hi']
    exact getAll_vals hk hs
   rw[hd]
   exact⟨.cells z.toArray t (0,0),λb=>.pointer (some ⟨b,0,none⟩),exec_of (exec_al ho) (run_alloc hz),λb hb=>⟨.p b 0,rfl,hk b hb⟩⟩
 ·cases hop
theorem AllocAt.same{o:Oper}{a:Act}{obj obj':Obj}{vf vf':Nat->Value}(h:AllocAt P o a obj vf)(k:AllocAt P o a obj' vf')(w:World):obj=obj'/\vf w.heap.size=vf' w.heap.size:=by
 obtain⟨n,hn⟩:=h w
 obtain⟨m,hm⟩:=k w
 rw[hn] at hm
 simp only[Result.ok.injEq,Next.value.injEq,World.mk.injEq] at hm
 obtain⟨h1,h2⟩:=hm
 refine⟨?_,h1⟩
 have:=congrArg (λh=>h.back?) h2.1
 simpa using this
end
end Go.Eng
end
section
namespace Go.Eng
section
variable{P:Program}{lo:List Nat}{G:List (Nat×(List Value->PT))}{V:Value->List Value->PT}{fr:Hp}{ops:Array Oper}
theorem HO.sub{fr fr':Hp}{g:Nat->Nat}{L:List LE}{h:Hp}{w:World}(H:HO fr' g L h w)(hs:∀ b o,fr b=some o->fr' b=some o):HO fr g L h w:=by
 have nn:∀ b,fr' b=none->fr b=none:=λb hb=>by
  cases hf:fr b with
  |none=>rfl
  |some o=>rw[hs b o hf] at hb;cases hb
 exact⟨H.hh,λb o hb=>H.ff b o (hs b o hb),λb=>(H.dj b).imp id (nn b),λe he=>(let ⟨cs,q⟩:=H.ll e he;⟨cs,⟨q.at_,q.sz,q.is_,q.pl,q.nh,nn _ q.nf⟩⟩),H.uq⟩
theorem HO.early{fr:Hp}{g:Nat->Nat}{L:List LE}{h:Hp}{w w1:World}{o:Obj}(H:HO fr g L h w)(hn:New w w1 o):HO (fr.new w.heap.size o) g L h w1:=by
 refine⟨λk x hk=>?_,λk x hk=>?_,λk=>?_,λe he=>?_,H.uq⟩
 ·rw[hn.old k (H.lt_h hk)];exact H.hh k x hk
 ·unfold Hp.new at hk
  by_cases hkb:k=w.heap.size
  ·subst hkb;rw[if_pos rfl] at hk;rw[<- hk];exact hn.at_
  ·rw[if_neg hkb] at hk;rw[hn.old k (H.lt_f hk)];exact H.ff k x hk
 ·unfold Hp.new
  by_cases hkb:k=w.heap.size
  ·exact .inl (H.none_h (by omega))
  ·rw[if_neg hkb];exact H.dj k
 ·obtain⟨cs,q⟩:=H.ll e he
  have hlt:=q.lt
  exact⟨cs,⟨by rw[hn.old _ hlt];exact q.at_,q.sz,q.is_,q.pl,q.nh,by unfold Hp.new;rw[if_neg (by omega)];exact q.nf⟩⟩
theorem HO.publish{fr:Hp}{g:Nat->Nat}{L:List LE}{h:Hp}{w:World}{b:Nat}{o:Obj}(H:HO fr g L h w)(hb:fr b=some o):HO (λk=>if k=b then none else fr k) g L (h.new b o) w:=by
 refine⟨λk x hk=>?_,λk x hk=>?_,λk=>?_,λe he=>?_,H.uq⟩
 ·unfold Hp.new at hk
  by_cases hkb:k=b
  ·subst hkb;rw[if_pos rfl] at hk;cases hk;exact H.ff _ _ hb
  ·rw[if_neg hkb] at hk;exact H.hh k x hk
 ·by_cases hkb:k=b
  ·simp only[hkb,if_pos] at hk;cases hk
  ·simp only[if_neg hkb] at hk;exact H.ff k x hk
 ·unfold Hp.new
  by_cases hkb:k=b
  ·right;simp only[hkb,if_pos]
  ·rw[if_neg hkb,if_neg hkb];exact H.dj k
 ·obtain⟨cs,q⟩:=H.ll e he
  have hne:g e.l≠b:=λq2=>by have:=q.nf;rw[q2,hb] at this;cases this
  exact⟨cs,⟨q.at_,q.sz,q.is_,q.pl,by unfold Hp.new;rw[if_neg hne];exact q.nh,by rw[if_neg hne];exact q.nf⟩⟩
theorem FO.putUnk{g:Nat->Nat}{A:Env}{a:Act}(F:FO g A a){d:Nat}(hu:isUnk (getE A d)=true)(v:Value):FO g A (a.put (some d) v):=by
 refine⟨?_,λi=>?_,F.df⟩
 ·rw[F.len];exact(put_size a (some d) v).symm
 ·by_cases hid:d=i
  ·subst hid
   cases he:getE A d with
   |unk=>trivial
   |_=>rw[he] at hu;cases hu
  ·have:(a.put (some d) v).tmps.getD i undef=a.tmps.getD i undef:=put_un a (some d) v i (by simp[dW,memN,Ne.symm hid])
   rw[this];exact F.at_ i
theorem Live.push{x:Nat}{a:Act}{w:World}{g:Nat->Nat}{A:Env}(hl:Live P ops x a w)(o:Obj)(n:Nat)(hrd:∀ ox,ops[x]?=some ox->isRead P ox.op=true->∀ v,(execOp a.eval ox).run P w=.ok (.value v) w->(execOp a.eval ox).run P { w with heap:=w.heap.push o,drawn:=n }=.ok (.value v) { w with heap:=w.heap.push o,drawn:=n }) :
  Live P ops x a { w with heap:=w.heap.push o,drawn:=n }:=by
 obtain⟨ox,v,h1,h2,h3,h4⟩:=hl
 refine⟨ox,v,h1,h2,?_,h4⟩
 cases hr:isRead P ox.op with
 |false=>exact h4 hr _
 |true=>
  rcases h3 with⟨hw,hv⟩|⟨hw,hv⟩
  ·exact .inl ⟨hw,hrd ox h1 hr v hv⟩
  ·exact .inr ⟨hw,hv⟩
def OnlyL{α:Type}:Sem α->Prop
 |.pure _=>True
 |.load _ _ k=>∀ v,OnlyL (k v)
 |.program k=>∀ p,OnlyL (k p)
 |.mark _ k=>OnlyL k
 |.halt _=>True
 |_=>False
theorem OnlyL.bind{α β:Type}{s:Sem α}{f:α->Sem β}(hs:OnlyL s)(hf:∀ a,OnlyL (f a)):OnlyL (s >>= f):=by
 show OnlyL (s.bind f)
 induction s with
 |pure a=>exact hf a
 |load m ad k ih=>exact λv=>ih v (hs v)
 |program k ih=>exact λp=>ih p (hs p)
 |mark m k ih=>exact ih hs
 |halt x=>trivial
 |_=>exact hs.elim
theorem seen_none{w:World}{at_:Addr}(h:w.heap[at_.block]?=none)(u:TypeId)(k:Addr)(at1:Bool):∃ e,w.seen P at_ u k at1=.error e:=by
 cases hs:w.seen P at_ u k at1 with
 |error e=>exact⟨e,rfl⟩
 |ok r=>
  exfalso
  unfold World.seen at hs
  simp only[h,bind,Except.bind,pure,Except.pure,throw,throwThe,MonadExceptOf.throw] at hs
  repeat' split at hs
  all_goals first|(cases hs;done)|skip
theorem viewLoad_ext{w w2:World}(hx:∀ k,k<w.heap.size->w2.heap[k]?=w.heap[k]?){at_:Addr}{u:TypeId}{k:Addr}{at1:Bool}{r:Value×List Addr}(h:w.viewLoad P at_ u k at1=.ok r):w2.viewLoad P at_ u k at1=.ok r:=by
 by_cases hb:at_.block<w.heap.size
 ·have e:w2.seen P at_ u k at1=w.seen P at_ u k at1:=by unfold World.seen;rw[hx _ hb]
  unfold World.viewLoad at h ⊢
  rw[e];exact h
 ·exfalso
  obtain⟨e,he⟩:=seen_none (P:=P) (w:=w) (at_:=at_) (Array.getElem?_eq_none (by omega)) u k at1
  unfold World.viewLoad at h
  rw[he] at h
  cases h
theorem OnlyL.run{α:Type}{s:Sem α}(hs:OnlyL s){w w2 w1:World}{v:α}(hx:∀ k,k<w.heap.size->w2.heap[k]?=w.heap[k]?)(hr:s.run P w=.ok v w1):s.run P w2=.ok v w2:=by
 induction s with
 |pure a=>simp only[Sem.run] at hr ⊢;cases hr;rfl
 |load m ad k ih=>
  have hblk:∀ x,w.heap[ad.block]?=some x->w2.heap[ad.block]?=some x:=λx e=>by
   have:ad.block<w.heap.size:=(Array.getElem?_eq_some_iff.1 e).1
   rw[hx _ this];exact e
  simp only[Sem.run] at hr ⊢
  cases hb:w.heap[ad.block]? with
  |none=>
   have hc:w.cell? ad=none:=by simp only[World.cell?,hb]
   rw[hc] at hr
   simp only[World.farLoad,hb] at hr
   cases hr
  |some x=>
   have hb2:=hblk x hb
   have hc:w2.cell? ad=w.cell? ad:=by simp only[World.cell?,hb,hb2]
   rw[hc]
   cases hcell:w.cell? ad with
   |some u=>rw[hcell] at hr;exact ih u (hs u) hr
   |none=>
    rw[hcell] at hr
    dsimp only at hr ⊢
    cases hf:w.farLoad P ad (m == .atomic) with
    |error e=>rw[hf] at hr;cases hr
    |ok r=>
     rw[hf] at hr
     have hf2:w2.farLoad P ad (m == .atomic)=.ok r:=by
      unfold World.farLoad at hf ⊢
      rw[hb] at hf
      rw[hb2]
      cases x with
      |view at_ u=>
       dsimp only at hf ⊢
       cases hv:w.viewLoad P at_ u ad (m == .atomic) with
       |error e=>rw[hv] at hf;cases hf
       |ok r2=>rw[viewLoad_ext hx hv];rw[hv] at hf;exact hf
      |_=>cases hf
     rw[hf2]
     exact ih r.1 (hs r.1) hr
 |program k ih=>simp only[Sem.run] at hr ⊢;exact ih P (hs P) hr
 |mark m k ih=>simp only[Sem.run] at hr ⊢;exact ih hs hr
 |halt x=>simp only[Sem.run] at hr;cases hr
 |_=>exact hs.elim
theorem OnlyL.underlying(t:TypeId):OnlyL (underlying t):=by
 unfold Go.underlying
 refine OnlyL.bind (λp=>trivial) λp=>?_
 split<;>trivial
theorem OnlyL.sizeOf(t:TypeId):OnlyL (sizeOf t):=by
 unfold Go.sizeOf Go.typeInfo
 refine OnlyL.bind (OnlyL.bind (λp=>trivial) λp=>?_) λ_=>trivial
 split<;>trivial
theorem OnlyL.load(a:Addr):OnlyL (load a):=λv=>trivial
theorem OnlyL.from(a:Addr):∀ (n i:Nat) (acc:Array Value),OnlyL (loadCellsFrom a i n acc)
 |0,i,acc=>trivial
 |n+1,i,acc=>by
  unfold loadCellsFrom
  exact OnlyL.bind (OnlyL.load _) λv=>OnlyL.from a n (i+1) _
theorem OnlyL.sure(v:Value):OnlyL (Instr.sureAddr v):=by
 unfold Instr.sureAddr
 split<;>trivial
theorem OnlyL.loadAt(t:TypeId)(v:Value):OnlyL (Instr.loadAt t v):=by
 unfold Instr.loadAt
 refine OnlyL.bind (OnlyL.sure v) λa=>?_
 unfold loadVar isAgg
 refine OnlyL.bind (OnlyL.bind (OnlyL.underlying t) λd=>?_) λc=>?_
 ·split<;>trivial
 ·split
  ·exact OnlyL.bind (OnlyL.sizeOf t) λn=>OnlyL.bind (OnlyL.from a n 0 #[]) λ_=>trivial
  ·exact OnlyL.load a
end
end Go.Eng
end
section
namespace Go.Eng
section
variable{P:Program}{lo:List Nat}{G:List (Nat×(List Value->PT))}{V:Value->List Value->PT}{fr:Hp}{ops:Array Oper}
theorem OnlyL.forList{α β:Type}{f:α->β->Sem (ForInStep β)}(hf:∀ a b,OnlyL (f a b)):∀ (l:List α) (b:β),OnlyL (forIn l b f)
 |[],b=>by rw[List.forIn_nil];trivial
 |x::l,b=>by
  rw[List.forIn_cons]
  refine OnlyL.bind (hf x b) λr=>?_
  cases r with
  |done b=>trivial
  |yield b=>exact OnlyL.forList hf l b
theorem OnlyL.forArr{α β:Type}{f:α->β->Sem (ForInStep β)}(hf:∀ a b,OnlyL (f a b))(xs:Array α)(b:β):OnlyL (forIn xs b f):=by
 rw[<- Array.forIn_toList]
 exact OnlyL.forList hf _ b
theorem OnlyL.bytesToString(v:Value):OnlyL (Conv.bytesToString v):=by
 unfold Conv.bytesToString
 split
 ·trivial
 ·refine OnlyL.bind (OnlyL.from _ _ _ _) λarr=>?_
  refine OnlyL.bind (OnlyL.forArr (λc s=>?_) _ _) λs=>trivial
  split<;>trivial
 ·trivial
theorem conv_ext{s t e:TypeId}(hus:P.underlying s=some (.slice e))(hue:P.underlying e=some (.int .u8))(hut:P.underlying t=some .string){v u:Value}{w w2 w1:World}(hx:∀ k,k<w.heap.size->w2.heap[k]?=w.heap[k]?)(hr:(convert s t v).run P w=.ok u w1):(convert s t v).run P w2=.ok u w2:=by
 have key:∀ (w:World),(convert s t v).run P w=(match v with|.int _ n=>Conv.intToString n|.string b=>(pure (.string b):Sem Value)|x=>Conv.bytesToString x).run P w:=by
  intro w
  cases v<;>simp[convert,run_underlying hus,run_underlying hut,run_underlying hue]
 rw[key] at hr ⊢
 have hO:OnlyL (match v with|.int _ n=>Conv.intToString n|.string b=>(pure (.string b):Sem Value)|x=>Conv.bytesToString x):=by
  split
  ·unfold Conv.intToString
   trivial
  ·trivial
  ·exact OnlyL.bytesToString _
 exact hO.run hx hr
def OnlyR(P:Program){α:Type}(R:α->Prop):Sem α->Prop
 |.pure a=>R a
 |.getObj _ k=>∀ o,OnlyR P R (k o)
 |.program k=>OnlyR P R (k P)
 |.mark _ k=>OnlyR P R k
 |.halt _=>True
 |_=>False
theorem OnlyR.bind{α β:Type}{R:α->Prop}{S:β->Prop}{s:Sem α}{f:α->Sem β}(hs:OnlyR P R s)(hf:∀ a,R a->OnlyR P S (f a)):OnlyR P S (s >>= f):=by
 show OnlyR P S (s.bind f)
 induction s with
 |pure a=>exact hf a hs
 |getObj r k ih=>exact λo=>ih o (hs o)
 |program k ih=>exact ih P hs
 |mark m k ih=>exact ih hs
 |halt x=>trivial
 |_=>exact hs.elim
theorem OnlyR.run{α:Type}{R:α->Prop}{s:Sem α}(hs:OnlyR P R s){w w2 w1:World}{v:α}(hx:∀ k,k<w.heap.size->w2.heap[k]?=w.heap[k]?)(hr:s.run P w=.ok v w1):s.run P w2=.ok v w2:=by
 induction s with
 |pure a=>simp only[Sem.run] at hr ⊢;cases hr;rfl
 |getObj r k ih=>
  simp only[Sem.run] at hr ⊢
  cases hb:w.heap[r]? with
  |none=>rw[hb] at hr;cases hr
  |some o=>
   have:r<w.heap.size:=(Array.getElem?_eq_some_iff.1 hb).1
   rw[hx _ this,hb]
   rw[hb] at hr
   cases o<;>first|(cases hr;done)|exact ih _ (hs _) hr
 |program k ih=>simp only[Sem.run] at hr ⊢;exact ih P hs hr
 |mark m k ih=>simp only[Sem.run] at hr ⊢;exact ih hs hr
 |halt x=>simp only[Sem.run] at hr;cases hr
 |_=>exact hs.elim
theorem OnlyR.under{t:TypeId}{d:TypeDesc}(h:P.underlying t=some d):OnlyR P (λx=>x=d) (underlying t):=by
 unfold underlying
 show OnlyR P _ (Sem.bind program _)
 show OnlyR P _ (match P.underlying t with|some d=>(pure d:Sem TypeDesc)|none=>_)
 rw[h]
 exact rfl
theorem OnlyR.info(t:TypeId):OnlyR P (λ_=>True) (typeInfo t):=by
 unfold typeInfo
 refine OnlyR.bind (R:=λ_=>True) (show OnlyR P _ program from trivial) λp _=>?_
 split<;>trivial
theorem OnlyR.zero(t:TypeId):OnlyR P (λ_=>True) (zeroValue t):=by
 unfold zeroValue
 refine OnlyR.bind (OnlyR.info t) λi _=>?_
 split<;>trivial
theorem OnlyR.key{kt:TypeId}(huk:P.underlying kt=some .string)(b:Bool)(i:Value):OnlyR P (λ_=>True) (Instr.checkKey b 10000 kt i):=by
 unfold Instr.checkKey
 refine OnlyR.bind (OnlyR.under huk) λd hd=>?_
 subst hd
 cases i<;>trivial
theorem OnlyR.find{kt:TypeId}(huk:P.underlying kt=some .string)(i:Value)(es:List MapEntry):OnlyR P (λ_=>True) (Instr.findKey kt i es):=by
 have ask:∀ (es:List MapEntry) (n:Nat),OnlyR P (λ_=>True) (Instr.findAsking kt i es n):=by
  intro es
  induction es with
  |nil=>intro n;trivial
  |cons e es ih=>
   intro n
   unfold Instr.findAsking
   refine OnlyR.bind (R:=λ_=>True) ?_ λb _=>?_
   ·unfold Op.equal Op.equalIn
    refine OnlyR.bind (OnlyR.under huk) λd hd=>?_
    subst hd
    cases i<;>cases e.key<;>trivial
   ·split
    ·trivial
    ·exact ih _
 unfold Instr.findKey
 refine OnlyR.bind (OnlyR.under huk) λd hd=>?_
 subst hd
 split
 ·trivial
 ·exact ask _ _
theorem look_ext{t kt et:TypeId}(hut:P.underlying t=some (.map kt et))(huk:P.underlying kt=some .string){y i v:Value}{w w2 w1:World}(hx:∀ k,k<w.heap.size->w2.heap[k]?=w.heap[k]?)(hr:(Instr.lookup t y i false).run P w=.ok v w1):(Instr.lookup t y i false).run P w2=.ok v w2:=by
 refine OnlyR.run (P:=P) (R:=λ_=>True) ?_ hx hr
 unfold Instr.lookup
 refine OnlyR.bind (OnlyR.under hut) λd hd=>?_
 subst hd
 dsimp only
 cases y with
 |map m=>
  cases m with
  |none=>
   refine OnlyR.bind (R:=λ_=>True) trivial λes _=>?_
   refine OnlyR.bind (OnlyR.key huk _ _) λ_ _=>?_
   refine OnlyR.bind (OnlyR.find huk _ _) λq _=>?_
   split
   ·exact OnlyR.bind (R:=λ_=>True) trivial λ_ _=>trivial
   ·exact OnlyR.bind (OnlyR.zero et) λ_ _=>OnlyR.bind (R:=λ_=>True) trivial λ_ _=>trivial
  |some r=>
   refine OnlyR.bind (R:=λ_=>True) (λo=>trivial) λo _=>?_
   cases o with
   |map es c=>
    refine OnlyR.bind (R:=λ_=>True) trivial λes _=>?_
    refine OnlyR.bind (OnlyR.key huk _ _) λ_ _=>?_
    refine OnlyR.bind (OnlyR.find huk _ _) λq _=>?_
    split
    ·exact OnlyR.bind (R:=λ_=>True) trivial λ_ _=>trivial
    ·exact OnlyR.bind (OnlyR.zero et) λ_ _=>OnlyR.bind (R:=λ_=>True) trivial λ_ _=>trivial
   |_=>trivial
 |_=>trivial
theorem read_ext{ox:Oper}(hrd:isRead P ox.op=true)(hne:isEqP P ox.op=false){a:Act}{v:Value}{w w2:World}(hx:∀ k,k<w.heap.size->w2.heap[k]?=w.heap[k]?)(hr:(execOp a.eval ox).run P w=.ok (.value v) w):(execOp a.eval ox).run P w2=.ok (.value v) w2:=by
 by_cases hl:isLoad ox.op=true
 ·have:∃ t ad,ox.op=.load t ad:=by
   cases hop:ox.op<;>rw[hop] at hl<;>first|exact⟨_,_,rfl⟩|exact absurd hl Bool.false_ne_true
  obtain⟨t,ad,hop⟩:=this
  unfold execOp at hr ⊢
  rw[hop] at hr ⊢
  simp only[Sem.run_bind] at hr ⊢
  cases he:(Instr.loadAt t (a.eval ad)).run P w with
  |ok v3 w3=>
   rw[he] at hr
   simp at hr
   rw[(OnlyL.loadAt t (a.eval ad)).run hx he,<- hr.1]
   simp
  |halt y w3=>rw[he] at hr;simp at hr
 ·by_cases hlk:isLook P ox.op=true
  ·obtain⟨t,y,i,kt,et,hop,hut,huk⟩:=isLook_spec hlk
   unfold execOp at hr ⊢
   rw[hop] at hr ⊢
   simp only[Sem.run_bind] at hr ⊢
   cases he:(Instr.lookup t (a.eval y) (a.eval i) false).run P w with
   |ok v3 w3=>
    rw[he] at hr
    simp at hr
    rw[look_ext hut huk hx he,<- hr.1]
    simp
   |halt y w3=>rw[he] at hr;simp at hr
  have hc:isConv P ox.op=true:=by unfold isRead at hrd;simp only[Bool.not_eq_true] at hlk;simpa[hl,hlk,hne] using hrd
  obtain⟨s,t,y,e,hop,hus,hue,hut⟩:=isConv_spec hc
  unfold execOp at hr ⊢
  rw[hop] at hr ⊢
  simp only[Sem.run_bind] at hr ⊢
  cases he:(convert s t (a.eval y)).run P w with
  |ok v3 w3=>
   rw[he] at hr
   simp at hr
   rw[conv_ext hus hue hut hx he,<- hr.1]
   simp
  |halt y w3=>rw[he] at hr;simp at hr
theorem Live.made{x:Nat}{a:Act}{w:World}(hne:∀ (j:Nat) (o:Oper),ops[j]?=some o->isEqP P o.op=false)(hl:Live P ops x a w)(o:Obj)(n:Nat):Live P ops x a { w with heap:=w.heap.push o,drawn:=n }:=
 hl.push (g:=λ_=>0) (A:=⟨0,[]⟩) o n λox hox hrd v hv=>read_ext hrd (hne _ _ hox) (λk hk=>by show(w.heap.push o)[k]?=_;rw[Array.getElem?_push,if_neg (by omega)]) hv
end
end Go.Eng
end
section
namespace Go.Eng
section
variable{P:Program}{lo:List Nat}{G:List (Nat×(List Value->PT))}{V:Value->List Value->PT}{fr:Hp}{ops:Array Oper}
def Early(P:Program)(ops:Array Oper)(fr fr':Hp)(a:Act)(j:Nat)(b:Option Nat):Prop:=
 ∃ o,ops[j]?=some o/\match b with
  |some b=>Region.wanted o (yielded ops a.tmps)=true/\∃ obj vf,AllocAt P o a obj vf/\fr' b=some obj/\fr b=none/\a.put o.dst (vf b)=a
  |none=>Region.wanted o (yielded ops a.tmps)=false/\a.put o.dst undef=a
theorem AllocAt.put{o:Oper}{a:Act}{obj:Obj}{vf:Nat->Value}(hs:∀ cs b,o.op≠.select cs b){d:Option Tmp}{v:Value}(h:∀ e,d=some e->e∉o.looksAt ops)(k:AllocAt P o a obj vf):AllocAt P o (a.put d v) obj vf:=by
 intro w
 obtain⟨n,hn⟩:=k w
 exact⟨n,by rw[execOp_put o hs a d v h];exact hn⟩
theorem Early.put{fr':Hp}{a:Act}{i j:Nat}{b:Option Nat}{oi:Oper}(hsel:∀ (j:Nat) (o:Oper) cs b,ops[j]?=some o->o.op≠.select cs b)(hi:ops[i]?=some oi)(hij:Ind ops i j){v:Value}(h:Early P ops fr fr' a j b):Early P ops fr fr' (a.put oi.dst v) j b:=by
 obtain⟨o,h1,h⟩:=h
 have hl:∀ d,oi.dst=some d->d∉o.looksAt ops:=λd hd=>(hij oi o hi h1 d hd).1
 have hd2:∀ d,oi.dst=some d->o.dst≠some d:=λd hd=>(hij oi o hi h1 d hd).2
 refine⟨o,h1,?_⟩
 cases b with
 |some b=>
  obtain⟨hw,obj,vf,h2,h3,h4,h5⟩:=h
  exact⟨by rw[wanted_put o a oi.dst v hl];exact hw,obj,vf,h2.put (hsel j o · · h1) hl,h3,h4,by rw[Act.put_comm a v (vf b) hd2,h5]⟩
 |none=>exact⟨by rw[wanted_put o a oi.dst v hl];exact h.1,by rw[Act.put_comm a v undef hd2,h.2]⟩
theorem AllocAt.vals{o:Oper}{a:Act}{obj obj':Obj}{vf vf':Nat->Value}(w0:World)(h:AllocAt P o a obj vf)(k:AllocAt P o a obj' vf')(b:Nat):obj=obj'/\vf b=vf' b:=by
 have:=h.same k { w0 with heap:=Array.replicate b obj }
 simpa using this
theorem AllocAt.new{o:Oper}{a:Act}{obj:Obj}{vf:Nat->Value}(h:AllocAt P o a obj vf)(w:World):∃ n,(execOp a.eval o).run P w=.ok (.value (vf w.heap.size)) { w with heap:=w.heap.push obj,drawn:=n }/\New w { w with heap:=w.heap.push obj,drawn:=n } obj:=by
 obtain⟨n,hn⟩:=h w
 exact⟨n,hn,New.push w obj n⟩
def DS(P:Program)(lo:List Nat)(G:List (Nat×(List Value->PT)))(V:Value->List Value->PT)(ops:Array Oper)(tab:List (List Nat))(lt:List Nat)(K:KS)(fr:Hp)(g0:Nat->Nat)(L0:List LE)(a0:Act)(w0:World)
  (l D:List Nat) (E:List (Nat×Option Nat)) (a:Act) (w:World):Prop:=
 ∃ fr' g A L h done,HO fr' g L h w/\FO g A a/\Tr (opWrites ops.toList) g0 L0 a0 w0 g L a w/\(∀ b o,fr b=some o->fr' b=some o)/\(∀ x∈D,x∈done)/\(∀ x∈D,Live P ops x a w) /\
  (∀ e∈E,Early P ops fr fr' a e.1 e.2)/\(E.filterMap (·.2)).Nodup/\denL P lo G V ops tab lt l done A L h K
section
variable{tab:List (List Nat)}{lt:List Nat}{K:KS}{g0:Nat->Nat}{L0:List LE}{a0:Act}{w0:World}
theorem preAll_spec{l:List Nat}{A:Env}:∀ {lt:List Nat} {p:Prop},preAll P ops tab l A lt p->p/\∀ j∈lt,j∈l->(∀ x∈(tab[j]?).getD [],x∉l)->∃ o d q,ops[j]?=some o/\o.dst=some d/\isUnk (getE A d)=true/\lateG P ops.toList o A q
 |[],p,h=>⟨h,λj hj=>(by cases hj)⟩
 |j::lt,p,h=>by
  unfold preAll at h
  cases hc:(memN j l && ((tab[j]?).getD []).all (λx=>!memN x l)) with
  |true=>
   rw[hc] at h
   dsimp only at h
   cases ho:ops[j]? with
   |none=>rw[ho] at h;exact h.elim
   |some o=>
    rw[ho] at h
    dsimp only at h
    cases hd:o.dst with
    |none=>rw[hd] at h;exact h.elim
    |some d=>
     rw[hd] at h
     dsimp only at h
     obtain⟨hu,h⟩:=grd_spec h
     have hp:preAll P ops tab l A lt p:=lateG_holds h
     obtain⟨h1,h2⟩:=preAll_spec hp
     refine⟨h1,λk hk hkl hka=>?_⟩
     rcases mem_cons.1 hk with rfl|hk
     ·exact⟨o,d,_,ho,hd,hu,h⟩
     ·exact h2 k hk hkl hka
  |false=>
   rw[hc] at h
   obtain⟨h1,h2⟩:=preAll_spec (lt:=lt) h
   refine⟨h1,λk hk hkl hka=>?_⟩
   rcases mem_cons.1 hk with rfl|hk
   ·exfalso
    have:(memN k l && ((tab[k]?).getD []).all (λx=>!memN x l))=true:=by
     rw[Bool.and_eq_true]
     refine⟨memN_iff.2 hkl,List.all_eq_true.2 λx hx=>?_⟩
     cases hm:memN x l with
     |false=>rfl
     |true=>exact absurd (memN_iff.1 hm) (hka x hx)
    rw[this] at hc;cases hc
   ·exact h2 k hk hkl hka
where
 lateG_holds {o:Oper} {A:Env} {p:Prop} (h:lateG P ops.toList o A p):p:=by
  unfold lateG at h
  repeat' split at h
  all_goals first|exact h.elim|exact h|exact lateD_holds h
 lateD_holds {o:Op} {A:Env} {p:Prop} (h:lateD P o A p):p:=by
  unfold lateD at h
  split at h
  ·rename_i t n ps
   unfold bsD at h
   split at h
   ·obtain⟨_,h⟩:=grd_spec h
    split at h
    ·obtain⟨_,h⟩:=grd_spec h
     exact fill_holds h
    ·exact h.elim
   ·exact h.elim
  ·unfold mkD at h
   repeat' split at h
   all_goals first|exact h.elim|skip
   obtain⟨_,h⟩:=grd_spec h
   exact h.2
  ·split at h
   ·exact h
   ·exact h.elim
  ·split at h
   ·exact h
   ·exact h.elim
  ·exact h.elim
 fill_holds {e size:Nat} {p:Prop}:∀ {ps:List (Nat×AV)} {cs:List AV},fillP P e size ps cs (λcs=>getAll cs (λ_=>p))->p
  |[],cs,h=>(getAll_spec h).elim λ_ h=>h.2.2.2
  |(i,x)::ps,cs,h=>by
   unfold fillP at h
   unfold cellsV at h
   repeat' split at h
   all_goals first|exact h.elim|exact fill_holds (grd_spec h).2|skip
   all_goals exact fill_holds (grd_spec (stOk_spec h).2).2
theorem adv_quiet(hG:GOk P G)(hV:VOk P V)(hsel:∀ (j:Nat) (o:Oper) cs b,ops[j]?=some o->o.op≠.select cs b)(hown:∀ (x:Nat) (o:Oper),ops[x]?=some o->quietO P o=true->∀ d,o.dst=some d->d∉o.looksAt ops)
  {x:Nat} {o:Oper} (ho:ops[x]?=some o) (hq:quietO P o=true) {l D:List Nat} {E:List (Nat×Option Nat)} {a:Act} {w:World} (hD:∀ y∈D,Ind ops x y) (hE:∀ e∈E,Ind ops x e.1) (h:DS P lo G V ops tab lt K fr g0 L0 a0 w0 (x::l) D E a w) :
  ∃ v,Yat P ops o v a w/\DS P lo G V ops tab lt K fr g0 L0 a0 w0 l (D++[x]) E (a.put o.dst v) w:=by
 obtain⟨fr',g,A,L,h,done,H,F,T,hs,hDd,hl,he,hnd,hk⟩:=h
 unfold denL at hk
 rw[ho] at hk
 dsimp only at hk
 rw[hq] at hk
 dsimp only at hk
 have hmem:o∈ops.toList:=by rw[<- Array.getElem?_toList] at ho;exact mem_of_getElem? ho
 obtain⟨v,hy,hfl,g1,A1,L1,h1,F1,H1,T1,hk1⟩:=quiet_step hG hV F H hq hk
 refine⟨v,hy,fr',g1,A1,L1,h1,done++[x],H1,F1,T.trans (T1.mono (dW_sub hmem)),hs,λy hy=>?_,λy hy=>?_,λe hee=>Early.put hsel ho (hE e hee) (he e hee),hnd,hk1⟩
 ·rcases mem_append.1 hy with hy|hy
  ·exact mem_append_left _ (hDd y hy)
  ·exact mem_append_right _ hy
 ·rcases mem_append.1 hy with hy|hy
  ·exact Live.put hsel ho (hD y hy) (hl y hy)
  ·simp only[mem_singleton] at hy
   subst hy
   have ho':=hown y o ho hq
   exact⟨o,v,ho,put_put _ _ _ _,(Yat.put (hsel y o · · ho) ho').2 (by assumption),λe w'=>(Yat.put (hsel y o · · ho) ho').2 (hfl e w')⟩
theorem snd_inj:∀ {E:List (Nat×Option Nat)},(E.filterMap (·.2)).Nodup->∀ {e e':Nat×Option Nat} {b:Nat},e∈E->e'∈E->e.2=some b->e'.2=some b->e=e'
 |[],_,_,_,_,h,_,_,_=>by cases h
 |x::E,hn,e,e',b,h,h',q,q'=>by
  have hm:∀ y:Nat×Option Nat,y∈E->y.2=some b->b∈E.filterMap (·.2):=λy hy e=>List.mem_filterMap.2 ⟨y,hy,e⟩
  have hnE:(E.filterMap (·.2)).Nodup:=by
   rw[List.filterMap_cons] at hn
   split at hn
   ·exact hn
   ·exact(List.nodup_cons.1 hn).2
  have hx:x.2=some b->b∉E.filterMap (·.2):=λhx=>by
   rw[List.filterMap_cons,hx] at hn
   exact(List.nodup_cons.1 hn).1
  rcases mem_cons.1 h with h1|h1
  ·rcases mem_cons.1 h' with h2|h2
   ·rw[h1,h2]
   ·exact absurd (hm e' h2 q') (hx (h1 ▸ q))
  ·rcases mem_cons.1 h' with h2|h2
   ·exact absurd (hm e h1 q) (hx (h2 ▸ q'))
   ·exact snd_inj hnE h1 h2 q q'
theorem adv_pub{j:Nat}{ob:Option Nat}{o:Oper}(ho:ops[j]?=some o)(hq:quietO P o=false)(hlate:isLate lo o=true){l D:List Nat}{E:List (Nat×Option Nat)}{a:Act}{w:World}(hj:(j,ob)∈E)(hD:∀ x∈D,notAnc tab j x=true)(h:DS P lo G V ops tab lt K fr g0 L0 a0 w0 (j::l) D E a w) :
  DS P lo G V ops tab lt K fr g0 L0 a0 w0 l D (E.filter λe=>e.1 != j) a w:=by
 obtain⟨fr',g,A,L,h,done,H,F,T,hs,hDd,hl,he,hnd,hk⟩:=h
 unfold denL at hk
 rw[ho] at hk
 dsimp only at hk
 rw[hq] at hk
 dsimp only at hk
 have hk:=(preAll_spec hk).1
 obtain⟨o2,ho2,hEarly⟩:=he _ hj
 rw[ho] at ho2
 cases ho2
 have hnd':((E.filter λe=>e.1 != j).filterMap (·.2)).Nodup:=hnd.sublist (List.filter_sublist.filterMap _)
 have hDd':∀ y∈D,y∈done.filter (notAnc tab j):=λy hy=>List.mem_filter.2 ⟨hDd y hy,hD y hy⟩
 rcases stepD_cases F hk with⟨hwt,hk⟩|⟨hwt,hk⟩
 ·cases ob with
  |none=>have:=hEarly.1;rw[hwt] at this;cases this
  |some b=>
   obtain⟨_,obj,vf,hal,hb,hfb,hput⟩:=hEarly
   obtain⟨obj',vf',hal',hpub⟩:=late_pub (K:=λA' L' h'=>reAll P ops.toList L (dsts o.dst++keepOf o A) A' h' (done.filter (notAnc tab j)) (denL P lo G V ops tab lt l (done.filter (notAnc tab j)) A' (thaw L L') h' K)) F hlate hk
   obtain⟨rfl,hv⟩:=hal.vals w0 hal' b
   have hnb:h b=none:=(H.dj b).resolve_right (by rw[hb];simp)
   obtain⟨x,hx,hk⟩:=hpub b hnb
   obtain⟨_,hk⟩:=reAll_spec (a:=a) (g:=g) (w:={ w with heap:=w.heap }) (A:=putD A o.dst x) (by rw[<- hput,hv];exact F.put o.dst hx) (H.publish hb).hh hk
   refine⟨_,g,_,_,_,_,((H.freeze (keepLs (keepOf o A))).publish hb).thaw L,by rw[<- hput,hv];exact F.put o.dst hx,T.trans ⟨Wr.refl w,Kp.thaw H (Kp.refl _),λ_ _=>rfl,λ_ _=>rfl,rfl⟩,λk ob hk=>?_,hDd',hl,λe hee=>?_,hnd',hk⟩
   ·have hkb:k≠b:=λq=>by rw[q,hfb] at hk;cases hk
    simp only[if_neg hkb]
    exact hs k ob hk
   ·obtain⟨h1,h2⟩:=List.mem_filter.1 hee
    obtain⟨o3,q1,q2⟩:=he e h1
    refine⟨o3,q1,?_⟩
    cases he2:e.2 with
    |none=>rw[he2] at q2;exact q2
    |some c=>
     rw[he2] at q2
     obtain⟨q0,obj3,vf3,q2,q3,q4,q5⟩:=q2
     have hne:c≠b:=λq=>by
      have:=snd_inj hnd h1 hj (b:=b) (by rw[he2,q]) rfl
      rw[this] at h2;simp at h2
     exact⟨q0,obj3,vf3,q2,by simp only[if_neg hne];exact q3,q4,q5⟩
 ·cases ob with
  |some b=>have:=hEarly.1;rw[hwt] at this;cases this
  |none=>
   obtain⟨_,hput⟩:=hEarly
   have F1:FO g (putD A o.dst (.v undef)) a:=by rw[<- hput];exact F.put o.dst rfl
   obtain⟨_,hk⟩:=reAll_spec (a:=a) (g:=g) (w:=w) (A:=putD A o.dst (.v undef)) F1 H.hh hk
   exact⟨fr',g,_,_,_,_,(H.freeze (keepLs (keepOf o A))).thaw L,F1,T.trans ⟨Wr.refl w,Kp.thaw H (Kp.refl _),λ_ _=>rfl,λ_ _=>rfl,rfl⟩,hs,hDd',hl,λe hee=>he e (List.mem_filter.1 hee).1,hnd',hk⟩
theorem early_step{Q:Exit->Act->World->Prop}(hne:∀ (j:Nat) (o:Oper),ops[j]?=some o->isEqP P o.op=false)(hsel:∀ (j:Nat) (o:Oper) cs b,ops[j]?=some o->o.op≠.select cs b){i hd:Nat}{o od:Oper}{rest:List Nat}(hod:ops[hd]?=some od)(hqd:quietO P od=false)(ho:ops[i]?=some o)(hi:i∈lt)(hil:i∈hd::rest)(hia:∀ x∈(tab[i]?).getD [],x∉hd::rest){D:List Nat}{E:List (Nat×Option Nat)}{a:Act}{w:World}
  (hD:∀ x∈D,Ind ops i x) (hE:∀ e∈E,Ind ops i e.1) (hself:∀ d,o.dst=some d->d∉o.looksAt ops) (h:DS P lo G V ops tab lt K fr g0 L0 a0 w0 (hd::rest) D E a w) :
  ∃ b,eff P ops Q o (λa' w'=>(∀ y∈D,Chk P ops y a' w')/\DS P lo G V ops tab lt K fr g0 L0 a0 w0 (hd::rest) D (E++[(i,b)]) a' w') a w:=by
 obtain⟨fr',g,A,L,h,done,H,F,T,hs,hDd,hl,he,hnd,hk⟩:=h
 have hk0:=hk
 unfold denL at hk
 rw[hod] at hk
 dsimp only at hk
 rw[hqd] at hk
 dsimp only at hk
 obtain⟨o2,d,q,ho2,hdst,hunk,hlate⟩:=(preAll_spec hk).2 i hi hil hia
 rw[ho] at ho2
 cases ho2
 have hmem:o∈ops.toList:=by rw[<- Array.getElem?_toList] at ho;exact mem_of_getElem? ho
 rcases lateG_cases F hlate with⟨hw,hlate⟩|⟨hw,_⟩
 ·obtain⟨⟨obj,vf,hal⟩,_⟩:=late_run F hlate
  obtain⟨n,hrun,hnew⟩:=hal.new w
  refine⟨some w.heap.size,?_⟩
  unfold eff
  rw[if_pos hw]
  unfold Oper.wp
  rw[hrun]
  have hlive:∀ x∈D,Live P ops x (a.put o.dst (vf w.heap.size)) { w with heap:=w.heap.push obj,drawn:=n }:=λx hx=>Live.put hsel ho (hD x hx) (Live.made hne (hl x hx) obj n)
  refine⟨λy hy=>(hlive y hy).chk,fr'.new w.heap.size obj,g,A,L,h,done,H.early hnew,by rw[hdst];exact F.putUnk hunk _,T.trans ⟨hnew.wr,Kp.refl L,λ_ _=>rfl,λk hk=>put_un a o.dst _ k (dW_sub hmem k hk),put_size a o.dst _⟩,λb ob hb=>?_,hDd,hlive,λe hee=>?_,?_,hk0⟩
  ·unfold Hp.new
   by_cases hbs:b=w.heap.size
   ·have:=H.none_f (k:=b) (by omega)
    rw[hs b ob hb] at this;cases this
   ·rw[if_neg hbs];exact hs b ob hb
  ·rcases mem_append.1 hee with hee|hee
   ·obtain⟨o3,q1,q2⟩:=Early.put (v:=vf w.heap.size) hsel ho (hE e hee) (he e hee)
    refine⟨o3,q1,?_⟩
    cases he2:e.2 with
    |none=>rw[he2] at q2;exact q2
    |some c=>
     rw[he2] at q2
     obtain⟨q0,obj3,vf3,q2,q3,q4,q5⟩:=q2
     refine⟨q0,obj3,vf3,q2,?_,q4,q5⟩
     unfold Hp.new
     have:c≠w.heap.size:=λq=>by have:=H.none_f (k:=c) (by omega);rw[q3] at this;cases this
     rw[if_neg this];exact q3
   ·simp only[mem_singleton] at hee
    subst hee
    refine⟨o,ho,by rw[wanted_put o a o.dst _ hself];exact hw,obj,vf,?_,by show(fr'.new w.heap.size obj) w.heap.size=_;unfold Hp.new;rw[if_pos rfl],?_,put_put _ _ _ _⟩
    ·exact AllocAt.put (ops:=ops) (hsel i o · · ho) hself hal
    ·cases hf:fr w.heap.size with
     |none=>rfl
     |some x=>have:=H.none_f (k:=w.heap.size) (Nat.le_refl _);rw[hs _ _ hf] at this;cases this
  ·rw[List.filterMap_append]
   refine nodup_append.2 ⟨hnd,by simp,λx hx y hy=>?_⟩
   simp only[List.filterMap_cons,List.filterMap_nil,mem_singleton] at hy
   subst hy
   obtain⟨e,hee,hex⟩:=List.mem_filterMap.1 hx
   obtain⟨o3,q1,q2⟩:=he e hee
   rw[hex] at q2
   obtain⟨q0,obj3,vf3,q2,q3,q4,q5⟩:=q2
   intro q
   have:=H.none_f (k:=x) (by rw[q];exact Nat.le_refl _)
   rw[q3] at this;cases this
 ·refine⟨none,?_⟩
  unfold eff
  rw[if_neg (by rw[hw];simp)]
  have hlive:∀ x∈D,Live P ops x (a.put o.dst undef) w:=λx hx=>Live.put hsel ho (hD x hx) (hl x hx)
  refine⟨λy hy=>(hlive y hy).chk,fr',g,A,L,h,done,H,by rw[hdst];exact F.putUnk hunk _,T.trans ⟨Wr.refl w,Kp.refl L,λ_ _=>rfl,λk hk=>put_un a o.dst _ k (dW_sub hmem k hk),put_size a o.dst _⟩,hs,hDd,hlive,λe hee=>?_,?_,hk0⟩
  ·rcases mem_append.1 hee with hee|hee
   ·exact Early.put hsel ho (hE e hee) (he e hee)
   ·simp only[mem_singleton] at hee
    subst hee
    exact⟨o,ho,by rw[wanted_put o a o.dst _ hself];exact hw,put_put _ _ _ _⟩
  ·rw[List.filterMap_append]
   simpa using hnd
theorem eff_step{Q:Exit->Act->World->Prop}(hG:GOk P G)(hV:VOk P V)(hsel:∀ (j:Nat) (o:Oper) cs b,ops[j]?=some o->o.op≠.select cs b){i:Nat}{o:Oper}{rest:List Nat}(ho:ops[i]?=some o)(hq:quietO P o=false){D:List Nat}{E:List (Nat×Option Nat)}{a:Act}{w:World}
  (hDn:∀ x∈D,notAnc tab i x=true) (hD:∀ x∈D,Ind ops i x) (hE:∀ e∈E,Ind ops i e.1) (h:DS P lo G V ops tab lt K fr g0 L0 a0 w0 (i::rest) D E a w) :
  eff P ops Q o (λa' w'=>(∀ y∈D,Chk P ops y a' w')/\DS P lo G V ops tab lt K fr g0 L0 a0 w0 rest D E a' w') a w:=by
 obtain⟨fr',g,A,L,h,done,H,F,T,hs,hDd,hl,he,hnd,hk⟩:=h
 unfold denL at hk
 rw[ho] at hk
 dsimp only at hk
 rw[hq] at hk
 dsimp only at hk
 have hk:=(preAll_spec hk).1
 have hmem:o∈ops.toList:=by rw[<- Array.getElem?_toList] at ho;exact mem_of_getElem? ho
 have hWo:∀ k,memN k (opWrites ops.toList)=false->memN k (dW o.dst)=false:=dW_sub hmem
 have hst:=step_ok (Q:=Q) hG hV (H.freeze (keepLs (keepOf o A))) F hk
 have next:∀ a' w',Rel (dW o.dst) fr' g (freezeL (keepLs (keepOf o A)) L) a w (λA' L' h'=>reAll P ops.toList L (dsts o.dst++keepOf o A) A' h' (done.filter (notAnc tab i)) (denL P lo G V ops tab lt rest (done.filter (notAnc tab i)) A' (thaw L L') h' K)) a' w' ->
   (∀ y∈D,Chk P ops y a' w')/\DS P lo G V ops tab lt K fr g0 L0 a0 w0 rest D E a' w':=by
  rintro a' w' ⟨g1,A1,L1,h1,F1,H1,T1,hk1⟩
  obtain⟨hag,hk1⟩:=reAll_spec F1 H1.hh hk1
  have hl':∀ x∈D,Live P ops x a' w':=λx hx=>Live.past hsel ho (hD x hx) F H F1 H1 T1 (hl x hx) (hag x (List.mem_filter.2 ⟨hDd x hx,hDn x hx⟩))
  obtain⟨u,hu⟩:=put_of T1.un T1.sz (F1.df.trans F.df.symm)
  refine⟨λy hy=>(hl' y hy).chk,fr',g1,A1,_,h1,_,H1.thaw L,F1,T.trans ⟨T1.wr,Kp.thaw H T1.kp,λk hk=>T1.gg k (hWo k hk),λk hk=>T1.un k (hWo k hk),T1.sz⟩,hs,λx hx=>List.mem_filter.2 ⟨hDd x hx,hDn x hx⟩,hl',λe hee=>?_,hnd,hk1⟩
  rw[hu]
  exact Early.put hsel ho (hE e hee) (he e hee)
 unfold eff
 split
 ·rename_i hw
  rw[if_pos hw] at hst
  exact Oper.wp_mono next hst
 ·rename_i hw
  rw[if_neg hw] at hst
  exact next _ _ hst
end
end
end Go.Eng
end
section
set_option linter.unusedSectionVars false
namespace Go.Eng
section
variable{P:Program}{lo:List Nat}{G:List (Nat×(List Value->PT))}{V:Value->List Value->PT}{fr:Hp}{ops:Array Oper}{tab:List (List Nat)}{lt:List Nat}{K:KS}{g0:Nat->Nat}{L0:List LE}{a0:Act}{w0:World}
structure Su(P:Program)(lo:List Nat)(ops:Array Oper)(tab:List (List Nat))(lt:List Nat):Prop where
 sel:∀ (j:Nat) (o:Oper) cs b,ops[j]?=some o->o.op≠.select cs b
 ne:∀ (j:Nat) (o:Oper),ops[j]?=some o->isEqP P o.op=false
 own:∀ (x:Nat) (o:Oper),ops[x]?=some o->quietO P o=true->∀ d,o.dst=some d->d∉o.looksAt ops
 anc:∀ i x,notAnc tab i x=false->Anc ops x i
 late:∀ j∈lt,∃ o,ops[j]?=some o/\isLate lo o=true/\quietO P o=false/\(∀ d,o.dst=some d->d∉o.looksAt ops)/\∀ x∈(tab[j]?).getD [],x∉lt
structure PrL(P:Program)(ops:Array Oper)(tab:List (List Nat))(lt:List Nat)(x i:Nat):Prop where
 or_:Anc ops x i\/(Ind ops x i/\∀ o,ops[x]?=some o->quietO P o=true)\/(i∈lt/\Ind ops x i)
 ind:PI P ops tab x i
 seen:∀ o,ops[x]?=some o->i∉edgesOf o
def qs(D:List Nat):List Nd:=D.map λi=>(i,true,[])
def un(l:List Nat)(E:List (Nat×Option Nat)):List Nat:=l.filter λj=>!memN j (E.map (·.1))
theorem mem_un{l:List Nat}{E:List (Nat×Option Nat)}{j:Nat}:j∈un l E↔j∈l/\j∉E.map (·.1):=by
 unfold un
 rw[List.mem_filter]
 constructor
 ·rintro⟨h1,h2⟩
  exact⟨h1,λh=>by rw[memN_iff.2 h] at h2;cases h2⟩
 ·rintro⟨h1,h2⟩
  refine⟨h1,?_⟩
  cases hm:memN j (E.map (·.1)) with
  |false=>rfl
  |true=>exact absurd (memN_iff.1 hm) h2
theorem runP_mono{Q:Exit->Act->World->Prop}{Φ Ψ:Act->World->Prop}(h:∀ a w,Φ a w->Ψ a w):∀ (D:List Nat) (a:Act) (w:World),runP P ops Q Φ (qs D) a w->runP P ops Q Ψ (qs D) a w
 |[],a,w,hr=>h a w hr
 |x::D,a,w,hr=>by
  obtain⟨o,v,h1,h2,h3⟩:=hr
  exact⟨o,v,h1,h2,runP_mono h D _ _ h3⟩
theorem runP_to{Q:Exit->Act->World->Prop}{Φ Ψ:Act->World->Prop}{R:List Nd}(h:∀ a w,Φ a w->runP P ops Q Ψ R a w):∀ (D:List Nat) (a:Act) (w:World),runP P ops Q Φ (qs D) a w->runP P ops Q Ψ (qs D++R) a w
 |[],a,w,hr=>h a w hr
 |x::D,a,w,hr=>by
  obtain⟨o,v,h1,h2,h3⟩:=hr
  exact⟨o,v,h1,h2,runP_to h D _ _ h3⟩
theorem runP_ex{Q:Exit->Act->World->Prop}{Φ:Option Nat->Act->World->Prop}:∀ (D:List Nat) (a:Act) (w:World),runP P ops Q (λa w=>∃ b,Φ b a w) (qs D) a w->∃ b,runP P ops Q (Φ b) (qs D) a w
 |[],a,w,hr=>hr
 |x::D,a,w,hr=>by
  obtain⟨o,v,h1,h2,h3⟩:=hr
  obtain⟨b,h4⟩:=runP_ex D _ _ h3
  exact⟨b,o,v,h1,h2,h4⟩
theorem qs_app(D D':List Nat):qs (D++D')=qs D++qs D':=List.map_append
structure St(P:Program)(ops:Array Oper)(tab:List (List Nat))(lt l0:List Nat)(listed:Array Bool)(l D:List Nat)(E:List (Nat×Option Nat)):Prop where
 sub:(D++l).Sublist l0
 qui:∀ x∈D,∃ o,ops[x]?=some o/\quietO P o=true
 ear:∀ e∈E,e.1∈lt/\e.1∈l
 ek:(E.map (·.1)).Nodup
 sz:listed.size=ops.size
 un_:∀ j,listed.getD j true=false↔j∈D++un l E
 down:Down ops listed
section
variable{l0:List Nat}(S:Su P lo ops tab lt)(hl0:l0.Pairwise (PrL P ops tab lt))(hnd0:l0.Nodup)(hall:∀ i∈l0,∃ o,ops[i]?=some o/\∀ e∈edgesOf o,e<i)
include S hl0 hnd0 hall
theorem St.unlisted{listed:Array Bool}{l D:List Nat}{E:List (Nat×Option Nat)}(T:St P ops tab lt l0 listed l D E){j:Nat}(hj:j∈D++un l E):listed.getD j false=false:=by
 have h1:=(T.un_ j).2 hj
 by_cases hjs:j<listed.size
 ·simp only[Array.getD,hjs,dif_pos] at h1 ⊢;exact h1
 ·simp[Array.getD,hjs]
theorem St.listed{listed:Array Bool}{l D:List Nat}{E:List (Nat×Option Nat)}(T:St P ops tab lt l0 listed l D E){j:Nat}(hj:j∈l0)(hn:j∉D++un l E):listed.getD j false=true:=by
 obtain⟨o,ho,_⟩:=hall j hj
 have hjs:j<listed.size:=by rw[T.sz];exact(Array.getElem?_eq_some_iff.1 ho).1
 have:¬ listed.getD j true=false:=λh=>hn ((T.un_ j).1 h)
 simp only[Array.getD,hjs,dif_pos] at this ⊢
 simpa using this
theorem St.pair{listed:Array Bool}{l D:List Nat}{E:List (Nat×Option Nat)}(T:St P ops tab lt l0 listed l D E):(D++l).Pairwise (PrL P ops tab lt):=hl0.sublist T.sub
theorem St.nd{listed:Array Bool}{l D:List Nat}{E:List (Nat×Option Nat)}(T:St P ops tab lt l0 listed l D E):(D++l).Nodup:=hnd0.sublist T.sub
theorem St.early_anc{listed:Array Bool}{l D:List Nat}{E:List (Nat×Option Nat)}(T:St P ops tab lt l0 listed l D E){e:Nat×Option Nat}(he:e∈E){x:Nat}(hx:x∈D++un l E):¬ Anc ops x e.1:=by
 intro ha
 have hel:=(T.ear e he).2
 have hl0e:e.1∈l0:=T.sub.subset (mem_append_right _ hel)
 have hen:e.1∉D++un l E:=by
  intro h
  rcases mem_append.1 h with h|h
  ·have:=St.nd S hl0 hnd0 hall T
   rw[nodup_append] at this
   exact this.2.2 _ h _ hel rfl
  ·exact(mem_un.1 h).2 (mem_map_of_mem (f:=λx:Nat×Option Nat=>x.1) he)
 have hls:=St.listed S hl0 hnd0 hall T hl0e hen
 have:=ha.listed T.down λo ho e' he'=>T.down _ o ho hls e' he'
 rw[St.unlisted S hl0 hnd0 hall T hx] at this
 cases this
theorem late_not_quiet{j:Nat}(hj:j∈lt){o:Oper}(ho:ops[j]?=some o):quietO P o=false:=by
 obtain⟨o',ho',_,hq,_⟩:=S.late j hj
 rw[ho] at ho';cases ho';exact hq
theorem norm(hG:GOk P G)(hV:VOk P V){Q:Exit->Act->World->Prop}{listed:Array Bool}{a:Act}{w:World}:∀ (l D:List Nat) (E:List (Nat×Option Nat)),St P ops tab lt l0 listed l D E->runP P ops Q (DS P lo G V ops tab lt K fr g0 L0 a0 w0 l D E) (qs D) a w ->
  ∃ l' D' E',St P ops tab lt l0 listed l' D' E'/\D'++un l' E'=D++un l E/\runP P ops Q (DS P lo G V ops tab lt K fr g0 L0 a0 w0 l' D' E') (qs D') a w/\(l'=[]\/∃ hd rest o,l'=hd::rest/\ops[hd]?=some o/\quietO P o=false/\hd∉E'.map (·.1))
 |[],D,E,T,h=>⟨[],D,E,T,rfl,h,.inl rfl⟩
 |x::l,D,E,T,h=>by
  have hxl0:x∈l0:=T.sub.subset (mem_append_right _ mem_cons_self)
  obtain⟨o,ho,_⟩:=hall x hxl0
  have hpw:=List.pairwise_append.1 (St.pair S hl0 hnd0 hall T)
  have hnd:=nodup_append.1 (St.nd S hl0 hnd0 hall T)
  have hxnl:x∉l:=(List.nodup_cons.1 hnd.2.1).1
  cases hq:quietO P o with
  |true=>
   have hxlt:x∉lt:=λhx=>by rw[late_not_quiet S hl0 hnd0 hall hx ho] at hq;cases hq
   have hxE:x∉E.map (·.1):=λhx=>by
    obtain⟨e,he,rfl⟩:=List.mem_map.1 hx
    exact hxlt (T.ear e he).1
   have hxun:x∈D++un (x::l) E:=mem_append_right _ (mem_un.2 ⟨mem_cons_self,hxE⟩)
   have hD:∀ y∈D,Ind ops x y:=λy hy=>by
    rcases (hpw.2.2 y hy x mem_cons_self).ind with h|h
    ·have:=h.2 o ho;rw[hq] at this;cases this
    ·exact h
   have hE:∀ e∈E,Ind ops x e.1:=λe he=>by
    have hel:=(T.ear e he).2
    have hne:e.1≠x:=λq=>hxE (q ▸ mem_map_of_mem (f:=λx:Nat×Option Nat=>x.1) he)
    have hel':e.1∈l:=(mem_cons.1 hel).resolve_left hne
    rcases ((pairwise_cons.1 hpw.2.1).1 _ hel').or_ with h|h|h
    ·exact absurd h (St.early_anc S hl0 hnd0 hall T he hxun)
    ·exact h.1
    ·exact h.2
   have hun:un (x::l) E=x::un l E:=by
    unfold un
    rw[List.filter_cons,if_pos]
    cases hm:memN x (E.map (·.1)) with
    |false=>rfl
    |true=>exact absurd (memN_iff.1 hm) hxE
   have hh:runP P ops Q (DS P lo G V ops tab lt K fr g0 L0 a0 w0 l (D++[x]) E) (qs (D++[x])) a w:=by
    rw[qs_app]
    exact runP_to (λa w hd=>by
     obtain⟨v,hy,hd'⟩:=adv_quiet hG hV S.sel S.own ho hq hD hE hd
     exact⟨o,v,ho,hy,hd'⟩) D a w h
   have T':St P ops tab lt l0 listed l (D++[x]) E:=by
    refine⟨by rw[List.append_assoc];exact T.sub,λy hy=>?_,λe he=>⟨(T.ear e he).1,?_⟩,T.ek,T.sz,λj=>?_,T.down⟩
    ·rcases mem_append.1 hy with hy|hy
     ·exact T.qui y hy
     ·simp only[mem_singleton] at hy;subst hy;exact⟨o,ho,hq⟩
    ·have hne:e.1≠x:=λq=>hxE (q ▸ mem_map_of_mem (f:=λx:Nat×Option Nat=>x.1) he)
     exact(mem_cons.1 (T.ear e he).2).resolve_left hne
    ·rw[T.un_ j,hun,List.append_assoc];rfl
   obtain⟨l',D',E',h1,h2,h3,h4⟩:=norm hG hV l (D++[x]) E T' hh
   exact⟨l',D',E',h1,by rw[h2,hun,List.append_assoc];rfl,h3,h4⟩
  |false=>
   by_cases hxE:x∈E.map (·.1)
   ·obtain⟨⟨x',b⟩,he,hx'⟩:=List.mem_map.1 hxE
    have hx':x'=x:=hx'
    subst hx'
    have hlt:=(T.ear _ he).1
    obtain⟨o2,ho2,hlate,_,_,_⟩:=S.late x' hlt
    have ho2:ops[x']?=some o2:=ho2
    rw[ho] at ho2
    cases ho2
    have hDn:∀ y∈D,notAnc tab x' y=true:=λy hy=>by
     cases hna:notAnc tab x' y with
     |true=>rfl
     |false=>exact absurd (S.anc _ _ hna) (St.early_anc S hl0 hnd0 hall T he (mem_append_left _ hy))
    have hfil:∀ j,j≠x'->(j∈(E.filter λe=>e.1 != x').map (·.1)↔j∈E.map (·.1)):=λj hj=>by
     constructor
     ·intro h
      obtain⟨e,he,rfl⟩:=List.mem_map.1 h
      exact mem_map_of_mem (f:=λx:Nat×Option Nat=>x.1) (List.mem_filter.1 he).1
     ·intro h
      obtain⟨e,he,rfl⟩:=List.mem_map.1 h
      exact mem_map_of_mem (f:=λx:Nat×Option Nat=>x.1) (List.mem_filter.2 ⟨he,by simpa using hj⟩)
    have hun:un l (E.filter λe=>e.1 != x')=un (x'::l) E:=by
     unfold un
     rw[List.filter_cons,if_neg (by rw[memN_iff.2 hxE];simp)]
     refine List.filter_congr λj hj=>?_
     have hne:j≠x':=λq=>hxnl (q ▸ hj)
     cases h1:memN j ((E.filter λe=>e.1 != x').map (·.1)) with
     |true=>rw[memN_iff.2 ((hfil j hne).1 (memN_iff.1 h1))]
     |false=>
      cases h2:memN j (E.map (·.1)) with
      |false=>rfl
      |true=>rw[memN_iff.2 ((hfil j hne).2 (memN_iff.1 h2))] at h1;cases h1
    have hh:runP P ops Q (DS P lo G V ops tab lt K fr g0 L0 a0 w0 l D (E.filter λe=>e.1 != x')) (qs D) a w:=
     runP_mono (λa w hd=>adv_pub ho hq hlate he hDn hd) D a w h
    have T':St P ops tab lt l0 listed l D (E.filter λe=>e.1 != x'):=by
     refine⟨(List.Sublist.append_left (List.sublist_cons_self _ _) _).trans T.sub,T.qui,λe hee=>?_,T.ek.sublist (List.filter_sublist.map _),T.sz,λj=>by rw[T.un_ j,hun],T.down⟩
     obtain⟨h1,h2⟩:=List.mem_filter.1 hee
     exact⟨(T.ear e h1).1,(mem_cons.1 (T.ear e h1).2).resolve_left (by simpa using h2)⟩
    obtain⟨l',D',E',h1,h2,h3,h4⟩:=norm hG hV l D _ T' hh
    exact⟨l',D',E',h1,by rw[h2,hun],h3,h4⟩
   ·exact⟨x::l,D,E,T,rfl,h,.inr ⟨x,l,o,rfl,ho,hq,hxE⟩⟩
end
end
end Go.Eng
end
section
set_option linter.unusedSectionVars false
namespace Go.Eng
section
variable{P:Program}{lo:List Nat}{G:List (Nat×(List Value->PT))}{V:Value->List Value->PT}{fr:Hp}{ops:Array Oper}{tab:List (List Nat)}{lt:List Nat}{K:KS}{g0:Nat->Nat}{L0:List LE}{a0:Act}{w0:World}
theorem len_of{R R':List Nat}{i:Nat}(h1:R.Nodup)(h2:R'.Nodup)(hi:i∈R)(h:∀ j,j∈R'↔j∈R/\j≠i):R'.length+1=R.length:=by
 have hp:R'.Perm (R.erase i):=(List.perm_ext_iff_of_nodup h2 (h1.erase i)).2 λj=>by rw[h j,h1.mem_erase_iff];exact And.comm
 have h0:=List.length_pos_of_mem hi
 rw[hp.length_eq,List.length_erase_of_mem hi]
 omega
section
variable{l0:List Nat}(S:Su P lo ops tab lt)(hl0:l0.Pairwise (PrL P ops tab lt))(hnd0:l0.Nodup)(hall:∀ i∈l0,∃ o,ops[i]?=some o/\∀ e∈edgesOf o,e<i)
include S hl0 hnd0 hall
theorem St.mark{listed:Array Bool}{l D l' D':List Nat}{E E':List (Nat×Option Nat)}{i:Nat}(T:St P ops tab lt l0 listed l D E)(hi:i∈D++un l E)(hdeps:∀ o,ops[i]?=some o->∀ e∈edgesOf o,listed.getD e false=true)
  (hsub:(D'++l').Sublist l0) (hqui:∀ x∈D',∃ o,ops[x]?=some o/\quietO P o=true) (hear:∀ e∈E',e.1∈lt/\e.1∈l') (hek:(E'.map (·.1)).Nodup) (hun:∀ j,j∈D'++un l' E'↔j∈D++un l E/\j≠i) :
  St P ops tab lt l0 (listed.setIfInBounds i true) l' D' E':=by
 refine⟨hsub,hqui,hear,hek,by simp[T.sz],λj=>?_,λj oj hoj hlj e he=>?_⟩
 ·rw[hun j]
  by_cases hij:i=j
  ·subst hij
   refine⟨λhh=>?_,λhh=>absurd rfl hh.2⟩
   by_cases his:i<listed.size
   ·simp[his] at hh
   ·simp[his] at hh
  ·rw[getD_set_ne true hij,T.un_ j]
   exact⟨λh=>⟨h,Ne.symm hij⟩,λh=>h.1⟩
 ·by_cases hij:i=j
  ·subst hij
   exact getD_set_true (hdeps oj hoj e he)
  ·rw[getD_set_ne false hij] at hlj
   exact getD_set_true (T.down j oj hoj hlj e he)
theorem any_late(hG:GOk P G)(hV:VOk P V){K0:Act->World->Prop}(hK0:∀ a w,Rel (opWrites ops.toList) fr g0 L0 a0 w0 K a w->K0 a w) :
  ∀ (fuel:Nat) (l D:List Nat) (E:List (Nat×Option Nat)) (listed:Array Bool) (a:Act) (w:World),(D++un l E).length=fuel->St P ops tab lt l0 listed l D E ->
   runP P ops (λe a w=>match e with|.normal=>K0 a w|_=>False) (DS P lo G V ops tab lt K fr g0 L0 a0 w0 l D E) (qs D) a w ->
   wpAny P .any ops (λe a w=>match e with|.normal=>K0 a w|_=>False) fuel listed a w:=by
 intro fuel
 induction fuel with
 |zero=>
  intro l D E listed a w hl T h
  have hnil:=List.eq_nil_of_length_eq_zero hl
  obtain⟨l',D',E',T',hR,h',hn⟩:=norm S hl0 hnd0 hall hG hV l D E T h
  rw[hnil] at hR
  obtain⟨hD',hu'⟩:=List.append_eq_nil_iff.1 hR
  subst hD'
  have hl':l'=[]:=by
   rcases hn with h|⟨hd,rest,o,rfl,_,_,hE⟩
   ·exact h
   ·have:hd∈un (hd::rest) E':=mem_un.2 ⟨mem_cons_self,hE⟩
    rw[hu'] at this;cases this
  subst hl'
  refine⟨?_,?_⟩
  ·cases hr:Region.ready .any ops listed with
   |nil=>rfl
   |cons j l=>
    have hj:j∈Region.ready .any ops listed:=by rw[hr];exact mem_cons_self
    have:=(T.un_ j).1 (mem_ready.1 hj).1
    rw[hnil] at this;cases this
  ·obtain⟨fr',g,A,L,h,done,H,F,Tr0,hs,_,_,_,_,hk⟩:=h'
   exact hK0 _ _ ⟨g,A,L,h,F,H.sub hs,Tr0,hk⟩
 |succ fuel ih=>
  intro l D E listed a w hl T h
  have edge_bind:∀ (o:Oper) (e:Edge),e∈o.after->Region.binds .any e=true->e.on∈edgesOf o:=by
   intro o e he hb
   unfold edgesOf
   exact List.mem_map.2 ⟨e,List.mem_filter.2 ⟨Array.mem_toList_iff.2 he,hb⟩,rfl⟩
  have bind_edge:∀ (o:Oper) (k:Nat),k∈edgesOf o->∃ e∈o.after,Region.binds .any e=true/\e.on=k:=by
   intro o k hk
   unfold edgesOf at hk
   obtain⟨e,he,rfl⟩:=List.mem_map.1 hk
   obtain⟨h1,h2⟩:=List.mem_filter.1 he
   exact⟨e,Array.mem_toList_iff.1 h1,h2,rfl⟩
  obtain⟨l',D',E',T',hR,h',hn⟩:=norm S hl0 hnd0 hall hG hV l D E T h
  clear h T
  rw[<- hR] at hl
  clear hR l D E
  have hsubR:(D'++un l' E').Sublist (D'++l'):=List.Sublist.append_left (by unfold un;exact List.filter_sublist) _
  have hpwR:=(St.pair S hl0 hnd0 hall T').sublist hsubR
  have hndR:=(St.nd S hl0 hnd0 hall T').sublist hsubR
  have hpw:=List.pairwise_append.1 (St.pair S hl0 hnd0 hall T')
  have hnd:=nodup_append.1 (St.nd S hl0 hnd0 hall T')
  refine⟨λh0=>?_,λi hi=>?_⟩
  ·exfalso
   match hRR:D'++un l' E',hl with
   |n::R',_=>
    have hn0:n∈D'++un l' E':=by rw[hRR];exact mem_cons_self
    obtain⟨o,ho,hlt⟩:=hall n (T'.sub.subset (hsubR.subset hn0))
    have hnr:n∈Region.ready .any ops listed:=by
     refine mem_ready.2 ⟨(T'.un_ n).2 hn0,o,ho,λe he hb=>?_⟩
     apply Classical.byContradiction
     intro hne
     have heo:=edge_bind o e he hb
     have hes:e.on<listed.size:=by rw[T'.sz];have:=hlt _ heo;have:=(Array.getElem?_eq_some_iff.1 ho).1;omega
     have heu:listed.getD e.on true=false:=by
      simp only[Array.getD,hes,dif_pos] at hne ⊢
      simpa using hne
     have hmem:=(T'.un_ e.on).1 heu
     rw[hRR] at hmem hpwR
     rcases mem_cons.1 hmem with h1|h1
     ·have:=hlt _ heo;omega
     ·exact((pairwise_cons.1 hpwR).1 _ h1).seen o ho heo
    rw[h0] at hnr;cases hnr
  ·obtain⟨hiu,o,ho,hal⟩:=mem_ready.1 hi
   have hiR:=(T'.un_ i).1 hiu
   have hdeps:∀ o',ops[i]?=some o'->∀ e∈edgesOf o',listed.getD e false=true:=by
    intro o' ho' e he
    rw[ho] at ho'
    cases ho'
    obtain⟨e',he',hb,rfl⟩:=bind_edge o e he
    exact hal e' he' hb
   have noAnc:∀ x∈D'++un l' E',¬ Anc ops x i:=λx hx ha=>by
    have:=ha.listed T'.down hdeps
    rw[St.unlisted S hl0 hnd0 hall T' hx] at this
    cases this
   rcases mem_append.1 hiR with hiD|hil
   ·-- it has been read
    obtain⟨D1,D2,rfl⟩:=List.append_of_mem hiD
    obtain⟨o',ho',hq⟩:=T'.qui i hiD
    rw[ho] at ho'
    cases ho'
    have hpD:=List.pairwise_append.1 hpw.1
    have h1:runP P ops (λe a w=>match e with|.normal=>K0 a w|_=>False) (DS P lo G V ops tab lt K fr g0 L0 a0 w0 l' (D1++i::D2) E') (qs D1++(i,true,[])::qs D2) a w:=by
     have:=h'
     rw[qs_app] at this
     exact this
    have hrun:=pull (λc a w h=>h) S.sel (qs D1) [] [] a w (λx hx=>?_) (λx hx ox hox=>?_) ?_ (λy hy=>hy) (λy hy=>(by cases hy)) h1
    ·obtain⟨o',v,ho',hy,hr⟩:=hrun
     rw[ho] at ho'
     cases ho'
     have hr:runP P ops (λe a w=>match e with|.normal=>K0 a w|_=>False) (DS P lo G V ops tab lt K fr g0 L0 a0 w0 l' (D1++D2) E') (qs (D1++D2)) (a.put o.dst v) w:=by
      rw[<- qs_app] at hr
      refine runP_mono (λa w hd=>?_) _ _ _ hr
      obtain⟨fr',g,A,L,h,done,H,F,Tr0,hs,hDd,hlv,he,hn2,hk⟩:=hd
      have sub:∀ x,x∈D1++D2->x∈D1++i::D2:=λx hx=>by
       rcases mem_append.1 hx with h|h
       ·exact mem_append_left _ h
       ·exact mem_append_right _ (mem_cons_of_mem _ h)
      exact⟨fr',g,A,L,h,done,H,F,Tr0,hs,λx hx=>hDd x (sub x hx),λx hx=>hlv x (sub x hx),he,hn2,hk⟩
     have hun:∀ j,j∈(D1++D2)++un l' E'↔j∈(D1++i::D2)++un l' E'/\j≠i:=by
      intro j
      have hndD:=hnd.1
      rw[nodup_append] at hndD
      obtain⟨_,n2,n3⟩:=hndD
      have ni:=(List.nodup_cons.1 n2).1
      have hiu:i∉un l' E':=λhm=>hnd.2.2 i (mem_append_right _ mem_cons_self) i (mem_un.1 hm).1 rfl
      simp only[mem_append,mem_cons]
      constructor
      ·rintro((h|h)|h)
       ·exact⟨.inl (.inl h),λq=>n3 j h i mem_cons_self q⟩
       ·exact⟨.inl (.inr (.inr h)),λq=>ni (q ▸ h)⟩
       ·exact⟨.inr h,λq=>hiu (q ▸ h)⟩
      ·rintro⟨(h|h|h)|h,hne⟩
       ·exact .inl (.inl h)
       ·exact absurd h hne
       ·exact .inl (.inr h)
       ·exact .inr h
     have hsub':((D1++D2)++l').Sublist ((D1++i::D2)++l'):=List.Sublist.append_right (List.Sublist.append_left (List.sublist_cons_self _ _) _) _
     have hsubq:∀ x∈D1++D2,∃ o,ops[x]?=some o/\quietO P o=true:=λx hx=>T'.qui x (by
      rcases mem_append.1 hx with h|h
      ·exact mem_append_left _ h
      ·exact mem_append_right _ (mem_cons_of_mem _ h))
     have T2:=St.mark S hl0 hnd0 hall T' hiR hdeps (hsub'.trans T'.sub) hsubq T'.ear T'.ek hun
     have hnd2:((D1++D2)++un l' E').Nodup:=(hnd0.sublist T2.sub).sublist (List.Sublist.append_left (by unfold un;exact List.filter_sublist) _)
     have hlen:=len_of hndR hnd2 hiR hun
     have hgo:=ih l' (D1++D2) E' _ _ _ (by omega) T2 hr
     unfold wpOp
     rw[ho]
     dsimp only
     rcases hy with⟨hw,hv⟩|⟨hw,rfl⟩
     ·rw[if_pos hw]
      refine .inl ?_
      unfold Oper.wp
      rw[hv]
      exact hgo
     ·rw[if_neg (by rw[hw];simp)]
      exact hgo
    ·obtain⟨y,hy,rfl⟩:=List.mem_map.1 hx
     have hp:=hpD.2.2 y hy i mem_cons_self
     have hna:=noAnc y (mem_append_left _ (mem_append_left _ hy))
     refine⟨rfl,?_,?_,.inl rfl⟩
     ·rcases hp.or_ with h|h|h
      ·exact absurd h hna
      ·exact h.1
      ·exact h.2
     ·rcases hp.ind with h|h
      ·exact absurd (S.anc _ _ h.1) hna
      ·exact h
    ·obtain⟨y,hy,rfl⟩:=List.mem_map.1 hx
     obtain⟨oy,hoy,hqy⟩:=T'.qui y (mem_append_left _ hy)
     have hox:ops[y]?=some ox:=hox
     rw[hoy] at hox
     cases hox
     exact S.own y _ hoy hqy
    ·unfold qs
     rw[List.pairwise_map]
     refine hpD.1.imp_of_mem λ{y x} hy hx hp=>?_
     rcases hp.ind with h|h
     ·obtain⟨ox,hox,hqx⟩:=T'.qui x (mem_append_left _ hx)
      have:=h.2 ox hox
      rw[hqx] at this;cases this
     ·exact h
   ·-- it acts
    obtain⟨hil',hiE⟩:=mem_un.1 hil
    obtain⟨hd,rest,od,rfl,hod,hqd,hdE⟩:=hn.resolve_left (λq=>by rw[q] at hil';cases hil')
    have hdun:hd∈D'++un (hd::rest) E':=mem_append_right _ (mem_un.2 ⟨mem_cons_self,hdE⟩)
    have fits:∀ x∈qs D',Fit ops x (i,false,D'):=λx hx=>by
     obtain⟨y,hy,rfl⟩:=List.mem_map.1 hx
     have hp:=hpw.2.2 y hy i hil'
     have hna:=noAnc y (mem_append_left _ hy)
     refine⟨rfl,?_,?_,.inr hy⟩
     ·rcases hp.or_ with h|h|h
      ·exact absurd h hna
      ·exact h.1
      ·exact h.2
     ·rcases hp.ind with h|h
      ·exact absurd (S.anc _ _ h.1) hna
      ·exact h
    have owns:∀ x∈qs D',∀ ox,ops[x.1]?=some ox->∀ d,ox.dst=some d->d∉ox.looksAt ops:=λx hx ox hox=>by
     obtain⟨y,hy,rfl⟩:=List.mem_map.1 hx
     obtain⟨oy,hoy,hqy⟩:=T'.qui y hy
     have hox:ops[y]?=some ox:=hox
     rw[hoy] at hox
     cases hox
     exact S.own y _ hoy hqy
    have pws:(qs D').Pairwise (λy x=>Ind ops x.1 y.1):=by
     unfold qs
     rw[List.pairwise_map]
     refine hpw.1.imp_of_mem λ{y x} hy hx hp=>?_
     rcases hp.ind with h|h
     ·obtain⟨ox,hox,hqx⟩:=T'.qui x hx
      have:=h.2 ox hox
      rw[hqx] at this;cases this
     ·exact h
    have hDi:∀ x∈D',Ind ops i x:=λx hx=>(fits _ (List.mem_map.2 ⟨x,hx,rfl⟩)).2.2.1
    have hDn:∀ x∈D',notAnc tab i x=true:=λx hx=>by
     cases hna:notAnc tab i x with
     |true=>rfl
     |false=>exact absurd (S.anc _ _ hna) (noAnc x (mem_append_left _ hx))
    -- at the end of either
    have finish:∀ (Ψ:Act->World->Prop),(∀ a w,DS P lo G V ops tab lt K fr g0 L0 a0 w0 (hd::rest) D' E' a w->eff P ops (λe a w=>match e with|.normal=>K0 a w|_=>False) o (λa' w'=>(∀ y∈D',Chk P ops y a' w')/\Ψ a' w') a w) ->
      (∀ a' w',runP P ops (λe a w=>match e with|.normal=>K0 a w|_=>False) Ψ (qs D') a' w'->wpAny P .any ops (λe a w=>match e with|.normal=>K0 a w|_=>False) fuel (listed.setIfInBounds i true) a' w') ->
      wpOp P ops (λe a w=>match e with|.normal=>K0 a w|_=>False) i (wpAny P .any ops (λe a w=>match e with|.normal=>K0 a w|_=>False) fuel (listed.setIfInBounds i true)) a w:=by
     intro Ψ hstep hgo
     have h1:=runP_to (R:=[(i,false,D')]) (Ψ:=Ψ) (λa w hd=>⟨o,ho,hstep a w hd⟩) D' a w h'
     have hrun:=pull (λc a w h=>h) S.sel (qs D') D' [] a w fits owns pws (λy hy=>(by cases hy)) (λy hy=>(by cases hy)) h1
     rw[List.append_nil] at hrun
     obtain⟨o',ho',he⟩:=hrun
     rw[ho] at ho'
     cases ho'
     have he':=eff_mono (λa' w' hk=>hgo a' w' hk.2) he
     unfold eff at he'
     unfold wpOp
     rw[ho]
     dsimp only
     split
     ·rename_i hw;rw[if_pos hw] at he';exact .inl he'
     ·rename_i hw;rw[if_neg hw] at he';exact he'
    by_cases hilt:i∈lt
    ·-- a block,early
     obtain⟨o2,ho2,hlate,hqi,hself,hla⟩:=S.late i hilt
     rw[ho] at ho2
     cases ho2
     have hia:∀ x∈(tab[i]?).getD [],x∉hd::rest:=λx hx hxl=>by
      have ha:Anc ops x i:=S.anc i x (by unfold notAnc;rw[memN_iff.2 hx];rfl)
      by_cases hxE:x∈E'.map (·.1)
      ·obtain⟨e,he,rfl⟩:=List.mem_map.1 hxE
       exact hla _ hx (T'.ear e he).1
      ·exact noAnc x (mem_append_right _ (mem_un.2 ⟨hxl,hxE⟩)) ha
     have hEi:∀ e∈E',Ind ops i e.1:=λe he=>by
      have hne:e.1≠i:=λq=>hiE (q ▸ mem_map_of_mem (f:=λx:Nat×Option Nat=>x.1) he)
      have hel:=(T'.ear e he).2
      obtain⟨s,t,hst⟩:=List.append_of_mem hil'
      rw[hst] at hel hpw
      have hpl:=List.pairwise_append.1 hpw.2.1
      rcases mem_append.1 hel with h|h
      ·have hp:=hpl.2.2 _ h i mem_cons_self
       rcases hp.ind with h|h
       ·exfalso
        have hm:e.1∈(tab[i]?).getD []:=by
         have:=h.1
         unfold notAnc at this
         exact memN_iff.1 (by simpa using this)
        exact hla _ hm (T'.ear e he).1
       ·exact h
      ·have h:=(mem_cons.1 h).resolve_left hne
       have hp:=(pairwise_cons.1 hpl.2.1).1 _ h
       rcases hp.or_ with h|h|h
       ·exact absurd h (St.early_anc S hl0 hnd0 hall T' he hiR)
       ·have:=h.2 o ho;rw[hqi] at this;cases this
       ·exact h.2
     refine finish (λa w=>∃ b,DS P lo G V ops tab lt K fr g0 L0 a0 w0 (hd::rest) D' (E'++[(i,b)]) a w) (λa w hds=>?_) (λa' w' hr=>?_)
     ·obtain⟨b,hb⟩:=early_step S.ne S.sel hod hqd ho hilt hil' hia hDi hEi hself hds
      exact eff_mono (λa' w' h=>⟨h.1,b,h.2⟩) hb
     ·obtain⟨b,hr⟩:=runP_ex D' a' w' hr
      have hmk:∀ j,j∈(E'++[(i,b)]).map (·.1)↔j∈E'.map (·.1)\/j=i:=λj=>by simp
      have hun:∀ j,j∈D'++un (hd::rest) (E'++[(i,b)])↔j∈D'++un (hd::rest) E'/\j≠i:=by
       intro j
       have hiD:i∉D':=λhm=>hnd.2.2 i hm i hil' rfl
       rw[mem_append,mem_append,mem_un,mem_un,hmk]
       constructor
       ·rintro(h|⟨h1,h2⟩)
        ·exact⟨.inl h,λq=>hiD (q ▸ h)⟩
        ·exact⟨.inr ⟨h1,λh=>h2 (.inl h)⟩,λq=>h2 (.inr q)⟩
       ·rintro⟨h|⟨h1,h2⟩,hne⟩
        ·exact .inl h
        ·exact .inr ⟨h1,λh=>h.elim h2 hne⟩
      have T2:=St.mark S hl0 hnd0 hall T' hiR hdeps T'.sub T'.qui (λe he=>by
       rcases mem_append.1 he with h|h
       ·exact T'.ear e h
       ·simp only[mem_singleton] at h;subst h;exact⟨hilt,hil'⟩) (by
       rw[List.map_append,nodup_append]
       refine⟨T'.ek,by simp,λx hx y hy=>?_⟩
       simp only[map_cons,List.map_nil,mem_singleton] at hy
       subst hy
       exact λq=>hiE (q ▸ hx)) hun
      have hnd2:(D'++un (hd::rest) (E'++[(i,b)])).Nodup:=(hnd0.sublist T2.sub).sublist (List.Sublist.append_left (by unfold un;exact List.filter_sublist) _)
      have hlen:=len_of hndR hnd2 hiR hun
      exact ih _ _ _ _ _ _ (by omega) T2 hr
    ·-- it is next
     have hih:i=hd:=by
      rcases mem_cons.1 hil' with h|h
      ·exact h
      ·exfalso
       have hp:=(pairwise_cons.1 hpw.2.1).1 i h
       rcases hp.or_ with h|h|h
       ·exact noAnc hd hdun h
       ·have:=h.2 od hod;rw[hqd] at this;cases this
       ·exact hilt h.1
     subst hih
     rw[ho] at hod
     cases hod
     have hirest:i∉rest:=(List.nodup_cons.1 hnd.2.1).1
     have hEi:∀ e∈E',e.1∈rest/\Ind ops i e.1:=λe he=>by
      have hne:e.1≠i:=λq=>hdE (q ▸ mem_map_of_mem (f:=λx:Nat×Option Nat=>x.1) he)
      have hel:=(mem_cons.1 (T'.ear e he).2).resolve_left hne
      have hp:=(pairwise_cons.1 hpw.2.1).1 _ hel
      refine⟨hel,?_⟩
      rcases hp.or_ with h|h|h
      ·exact absurd h (St.early_anc S hl0 hnd0 hall T' he hiR)
      ·have:=h.2 o ho;rw[hqd] at this;cases this
      ·exact h.2
     refine finish (DS P lo G V ops tab lt K fr g0 L0 a0 w0 rest D' E') (λa w hds=>eff_step hG hV S.sel ho hqd hDn hDi (λe he=>(hEi e he).2) hds) (λa' w' hr=>?_)
     have hun:∀ j,j∈D'++un rest E'↔j∈D'++un (i::rest) E'/\j≠i:=by
      intro j
      have hiD:i∉D':=λhm=>hnd.2.2 i hm i mem_cons_self rfl
      rw[mem_append,mem_append,mem_un,mem_un,mem_cons]
      constructor
      ·rintro(h|⟨h1,h2⟩)
       ·exact⟨.inl h,λq=>hiD (q ▸ h)⟩
       ·exact⟨.inr ⟨.inr h1,h2⟩,λq=>hirest (q ▸ h1)⟩
      ·rintro⟨h|⟨h1|h1,h2⟩,hne⟩
       ·exact .inl h
       ·exact absurd h1 hne
       ·exact .inr ⟨h1,h2⟩
     have T2:=St.mark S hl0 hnd0 hall T' hiR hdeps ((List.Sublist.append_left (List.sublist_cons_self _ _) _).trans T'.sub) T'.qui (λe he=>⟨(T'.ear e he).1,(hEi e he).1⟩) T'.ek hun
     have hnd2:(D'++un rest E').Nodup:=(hnd0.sublist T2.sub).sublist (List.Sublist.append_left (by unfold un;exact List.filter_sublist) _)
     have hlen:=len_of hndR hnd2 hiR hun
     exact ih _ _ _ _ _ _ (by omega) T2 hr
end
theorem pairsL_spec(htab:∀ i x,notAnc tab i x=false->Anc ops x i):∀ {l:List Nat},orderPairsL P ops tab lt l=true->l.Pairwise (λx i=>(Anc ops x i\/(Ind ops x i/\∀ o,ops[x]?=some o->quietO P o=true)\/(i∈lt/\Ind ops x i))/\PI P ops tab x i)
 |[],_=>List.Pairwise.nil
 |x::l,h=>by
  simp only[orderPairsL,Bool.and_eq_true] at h
  refine pairwise_cons.2 ⟨λi hi=>?_,pairsL_spec htab h.2⟩
  have hp:=List.all_eq_true.1 h.1 i hi
  unfold orderPairL at hp
  cases hx:ops[x]? with
  |none=>rw[hx] at hp;cases hp
  |some ox=>
   cases hii:ops[i]? with
   |none=>rw[hx,hii] at hp;cases hp
   |some oi=>
    rw[hx,hii] at hp
    simp only[Bool.and_eq_true,Bool.or_eq_true,Bool.not_eq_true'] at hp
    have ap:ox.apart ops oi=true->Ind ops x i:=λh=>by
     obtain⟨a1,a2,a3⟩:=Oper.apart_spec h
     intro o1 o2 h1 h2 d hd
     rw[hx] at h1;rw[hii] at h2;cases h1;cases h2
     exact⟨a1 d hd,a2 d hd⟩
    refine⟨?_,?_⟩
    ·rcases hp.1 with(h|h)|h
     ·exact .inl (htab i x h)
     ·exact .inr (.inl ⟨ap h.2,λo ho=>by cases ho;exact h.1⟩)
     ·exact .inr (.inr ⟨memN_iff.1 h.1,ap h.2⟩)
    ·rcases hp.2 with h3|h3
     ·exact .inl ⟨h3.1,λo ho=>by rw[hii] at ho;cases ho;exact h3.2⟩
     refine .inr λo1 o2 h1 h2 d hd=>?_
     rw[hii] at h1;rw[hx] at h2;cases h1;cases h2
     rw[hd] at h3
     simp only[Bool.and_eq_true,Bool.not_eq_true',bne_iff_ne,ne_eq] at h3
     exact⟨λhm=>(by simp[hm] at h3),h3.2⟩
theorem order_okL(hG:GOk P G)(hV:VOk P V){id:Nat}{l:List Nat}(hm:P.follows .mixedOrders=true)(ho:orderOkL P lo ops (ancTab [] ops.toList) l lt=true){K:KS}{g:Nat->Nat}{A:Env}{L:List LE}{h:Hp}{a:Act}{w:World}(H:HO fr g L h w)(F:FO g A a)
  (hk:denL P lo G V ops (ancTab [] ops.toList) lt l [] (forgetE (lateDsts ops lt) A) L h K):(Code.region id ops true).wp P (λe a' w'=>match e with|.normal=>Rel (opWrites ops.toList) fr g L a w K a' w'|_=>False) a w:=by
 unfold orderOkL at ho
 simp only[Bool.and_eq_true,beq_iff_eq] at ho
 obtain⟨⟨⟨⟨⟨⟨⟨⟨⟨hsel,hlen⟩,hall⟩,hdist⟩,hown⟩,htopo⟩,hpairs⟩,hlate⟩,hltl⟩,hnep⟩:=ho
 have hnd:=distinct_nodup hdist
 obtain⟨ht1,ht2⟩:=topo_spec htopo hnd (λx _ hx=>by cases hx)
 have htab:∀ i x,notAnc (ancTab [] ops.toList) i x=false->Anc ops x i:=λi x h=>notAnc_false h
 have hps:=pairsL_spec htab hpairs
 have hpr:l.Pairwise (PrL P ops (ancTab [] ops.toList) lt):=(hps.and ht2).imp λh=>⟨h.1.1,h.1.2,h.2⟩
 have S:Su P lo ops (ancTab [] ops.toList) lt:=by
  refine⟨Region.noSelect_spec hsel,λj o hj=>?_,?_,htab,λj hj=>?_⟩
  ·have:=Array.all_eq_true_iff_forall_mem.1 hnep o (Array.mem_of_getElem? hj)
   simpa using this
  ·intro x o hx hq d hd hm
   have:=Array.all_eq_true_iff_forall_mem.1 hown o (Array.mem_of_getElem? hx)
   rw[hq,hd] at this
   simp[hm] at this
  ·have:=List.all_eq_true.1 hlate j hj
   unfold lateOk at this
   cases hoj:ops[j]? with
   |none=>rw[hoj] at this;exact absurd this Bool.false_ne_true
   |some o=>
    rw[hoj] at this
    dsimp only at this
    rw[Bool.and_eq_true,Bool.and_eq_true,Bool.and_eq_true] at this
    obtain⟨⟨⟨h1,h2⟩,h3⟩,h4⟩:=this
    refine⟨o,rfl,h1,by simpa using h2,λd hd hm=>?_,λx hx hxl=>?_⟩
    ·rw[hd] at h3;simp[hm] at h3
    ·have:=List.all_eq_true.1 h4 x hx
     rw[memN_iff.2 hxl] at this;cases this
 let w1:World:={ w with drawn:=w.drawn+1 }
 have H1:HO fr g L h w1:=⟨H.hh,H.ff,H.dj,λe he=>(let ⟨cs,q⟩:=H.ll e he;⟨cs,⟨q.at_,q.sz,q.is_,q.pl,q.nh,q.nf⟩⟩),H.uq⟩
 have F1:FO g (forgetE (lateDsts ops lt) A) a:=F.forget F (λ_ _=>rfl) (λ_ _=>rfl) rfl
 have hun:un l []=l:=by unfold un;exact List.filter_eq_self.2 λj _=>rfl
 have hst:St P ops (ancTab [] ops.toList) lt l (Array.replicate ops.size false) l [] []:=by
  refine⟨by simp,λx hx=>(by cases hx),λe he=>(by cases he),by simp,by simp,λj=>?_,λj o _ hj=>?_⟩
  ·rw[List.nil_append,hun]
   constructor
   ·intro hj
    have hjs:j<ops.size:=by
     apply Classical.byContradiction
     intro hne
     simp[hne] at hj
    exact memN_iff.1 (List.all_eq_true.1 hall j (List.mem_range.2 hjs))
   ·intro hj
    obtain⟨o,ho,_⟩:=ht1 j hj
    have:j<ops.size:=(Array.getElem?_eq_some_iff.1 ho).1
    simp[this]
  ·exfalso
   by_cases hjs:j<ops.size
   ·simp[hjs] at hj
   ·simp[hjs] at hj
 have hany:=any_late (K:=K) (g0:=g) (L0:=L) (a0:=a) (w0:=w1) (fr:=fr) S hpr hnd ht1 hG hV (K0:=λa' w'=>Rel (opWrites ops.toList) fr g L a w K a' w')
  (λa' w' ⟨g2,A2,L2,h2,F2,H2,T2,k2⟩=>⟨g2,A2,L2,h2,F2,H2,⟨⟨T2.wr.os,T2.wr.tape,T2.wr.output,T2.wr.size⟩,T2.kp,T2.gg,T2.un,T2.sz⟩,k2⟩)
  ops.size l [] [] (Array.replicate ops.size false) a w1 (by rw[List.nil_append,hun,hlen]) hst
  (show runP P ops _ _ [] a w1 from⟨fr,g,_,L,h,[],H1,F1,Tr.refl _ _ _ _ _,λ_ _ h=>h,λx hx=>(by cases hx),λx hx=>(by cases hx),λe he=>(by cases he),by simp,hk⟩)
 exact wp_region_any hm hany
end
end Go.Eng
end
section
namespace Go.Eng
section
variable{P:Program}{lo:List Nat}{G:List (Nat×(List Value->PT))}{V:Value->List Value->PT}{fr:Hp}
def RelC(W:List Nat)(fr:Hp)(g:Nat->Nat)(L:List LE)(a:Act)(w:World)(K:KC):Exit->Act->World->Prop:=λe a' w'=>Rel W fr g L a w (K e) a' w'
theorem Rel.after{W W':List Nat}{g g1:Nat->Nat}{L L1:List LE}{a a1:Act}{w w1:World}{K:KS}{a':Act}{w':World}(hW:∀ i,memN i W=false->memN i W'=false)(T:Tr W g L a w g1 L1 a1 w1)(hr:Rel W' fr g1 L1 a1 w1 K a' w'):Rel W fr g L a w K a' w':=by
 obtain⟨g2,A2,L2,h2,F2,H2,T2,k2⟩:=hr
 exact⟨g2,A2,L2,h2,F2,H2,T.trans (T2.mono hW),k2⟩
theorem memN_left{i:Nat}{l k:List Nat}(h:memN i (l++k)=false):memN i l=false:=by rw[memN_append] at h;simp at h;exact h.1
theorem memN_right{i:Nat}{l k:List Nat}(h:memN i (l++k)=false):memN i k=false:=by rw[memN_append] at h;simp at h;exact h.2
theorem Rel.thawed{W:List Nat}{ls:List (Nat×List Kd)}{g:Nat->Nat}{L:List LE}{h:Hp}{a:Act}{w:World}{K:KS}{a':Act}{w':World}(H:HO fr g L h w)
  (hr:Rel W fr g (freezeL ls L) a w (λA' L' h'=>K A' (thaw L L') h') a' w'):Rel W fr g L a w K a' w':=by
 obtain⟨g2,A2,L2,h2,F2,H2,T2,k2⟩:=hr
 exact⟨g2,A2,_,h2,F2,H2.thaw L,⟨T2.wr,Kp.thaw H T2.kp,T2.gg,T2.un,T2.sz⟩,k2⟩
theorem findL_freeze(ls:List (Nat×List Kd))(L:List LE)(l:Nat):findL (freezeL ls L) l=match findL L l with|some e=>some ⟨e.l,e.m && memN e.l (ls.map (·.1)),e.t,e.cs⟩|none=>none:=by
 induction L with
 |nil=>rfl
 |cons e L ih=>
  simp only[freezeL,findL]
  cases e.l == l with
  |true=>rfl
  |false=>exact ih
theorem okL_freeze{ls:List (Nat×List Kd)}{L:List LE}:∀ {ls':List (Nat×List Kd)},(∀ l∈ls'.map (·.1),l∈ls.map (·.1))->okL L ls'=true->okL (freezeL ls L) ls'=true
 |[],_,_=>rfl
 |(l,ks)::ls',hs,hok=>by
  simp only[okL,Bool.and_eq_true] at hok ⊢
  refine⟨?_,okL_freeze (λl h=>hs l (by simp only[map_cons,mem_cons];exact .inr h)) hok.2⟩
  rw[findL_freeze]
  cases hf:findL L l with
  |none=>rw[hf] at hok;exact hok.1
  |some e=>
   rw[hf] at hok
   have hl:=(findL_mem hf).2
   have hm:memN e.l (ls.map (·.1))=true:=memN_iff.2 (by rw[hl];exact hs l (by simp))
   simp only[Bool.and_eq_true] at hok ⊢
   exact⟨⟨hok.1.1,hm⟩,hok.1.2⟩
theorem sameT_freeze{ls:List (Nat×List Kd)}{L:List LE}:∀ {ls':List (Nat×List Kd)},okL L ls'=true->sameT L (freezeL ls L) ls'=true
 |[],_=>rfl
 |(l,ks)::ls',hok=>by
  simp only[okL,Bool.and_eq_true] at hok
  simp only[sameT,Bool.and_eq_true]
  refine⟨?_,sameT_freeze hok.2⟩
  rw[findL_freeze]
  cases hf:findL L l with
  |none=>rw[hf] at hok;cases hok.1
  |some e=>simp
theorem liveL_freeze{ls:List (Nat×List Kd)}{L:List LE}:∀ {ls':List (Nat×List Kd)},liveL (freezeL ls L) ls'=liveL L ls'
 |[]=>rfl
 |(l,ks)::ls'=>by
  simp only[liveL,liveL_freeze (ls':=ls')]
  rw[findL_freeze]
  cases findL L l<;>rfl
theorem keepL_look{g:Nat->Nat}{A:Env}{a:Act}(F:FO g A a):∀ (l:List Nat) (i:Nat),(look (keepL A l) i).is g (a.tmps.getD i undef)
 |[],_=>trivial
 |j::l,i=>by
  show AV.is g (match Nat.beq j i with|true=>getE A j|false=>look (keepL A l) i) _
  cases he:Nat.beq j i with
  |true=>have:=Nat.eq_of_beq_eq_true he;subst this;exact F.at_ j
  |false=>exact keepL_look F l i
theorem keepA_ok{g:Nat->Nat}{A:Env}{a:Act}{ls:List Nat}(F:FO g A a):FO g (keepA ls A) a:=by
 refine⟨F.len,λi=>?_,F.df⟩
 show AV.is g (match Nat.blt i A.n with|true=>look (keepL A ls) i|false=>.unk) _
 cases Nat.blt i A.n with
 |true=>exact keepL_look F ls i
 |false=>trivial
theorem den_ok(hG:GOk P G)(hV:VOk P V)(an:List (Nat×Ann)):∀ (c:Code) (n:Nat) (g:Nat->Nat) (A:Env) (L:List LE) (h:Hp) (a:Act) (w:World) (K:KC),HO fr g L h w->FO g A a ->
  den P lo G V an c n A L h K->c.wp P (RelC (writes c) fr g L a w K) a w:=by
 intro c
 induction c with
 |skip=>exact λn g A L h a w K H F hk=>wp_skip ⟨g,A,L,h,F,H,Tr.refl _ _ _ _ _,hk⟩
 |exit id=>exact λn g A L h a w K H F hk=>wp_exit ⟨g,A,L,h,F,H,Tr.refl _ _ _ _ _,hk⟩
 |ret=>exact λn g A L h a w K H F hk=>wp_ret ⟨g,A,L,h,F,H,Tr.refl _ _ _ _ _,hk⟩
 |label l=>exact λn g A L h a w K H F hk=>wp_label ⟨g,A,L,h,F,H,Tr.refl _ _ _ _ _,hk⟩
 |goto l=>exact λn g A L h a w K H F hk=>wp_goto ⟨g,A,L,h,F,H,Tr.refl _ _ _ _ _,hk⟩
 |region id ops draw=>
  intro n g A L h a w K H F hk
  cases draw with
  |true=>
   unfold den at hk
   dsimp only at hk
   split at hk
   ·rename_i l hl
    have hq:=grd_spec hk
    clear hk
    obtain⟨hb,hk⟩:=hq
    rw[Bool.and_eq_true] at hb
    refine wp_mono (order_ok hG hV (id:=id) hb.1 hb.2 H F hk) λe a' w' hr=>?_
    cases e with
    |normal=>exact hr
    |_=>exact hr.elim
   ·rename_i l lt hl
    have hq:=grd_spec hk
    clear hk
    obtain⟨hb,hk⟩:=hq
    rw[Bool.and_eq_true] at hb
    refine wp_mono (order_okL hG hV (id:=id) hb.1 hb.2 H F hk) λe a' w' hr=>?_
    cases e with
    |normal=>exact hr
    |_=>exact hr.elim
   ·exact False.elim hk
  |false=>
   exact wp_region_list (ops_ok (Q:=RelC (opWrites ops.toList) fr g L a w K) (K0:=λa' w'=>RelC (opWrites ops.toList) fr g L a w K .normal a' w') hG hV (λ_ _ h=>h) ops.toList (opWrites ops.toList) (λ_ h=>h) g A L h a w H F hk (λ_ _ h=>h))
 |cond c x y ihx ihy=>
  intro n g A L h a w K H F hk
  unfold den at hk
  have hc:=ev_is F c
  cases hca:ev A c with
  |v cv=>
   rw[hca] at hk hc
   have hce:a.eval c=cv:=hc
   cases cv with
   |bool b=>
    cases b with
    |true=>exact wp_cond_true hce (wp_mono (ihx _ g A L h a w K H F hk) λe a' w' hr=>Rel.after (λi=>memN_left) (Tr.refl _ _ _ _ _) hr)
    |false=>exact wp_cond_false hce (wp_mono (ihy _ g A L h a w K H F hk) λe a' w' hr=>Rel.after (λi=>memN_right) (Tr.refl _ _ _ _ _) hr)
   |_=>exact False.elim hk
  |_=>rw[hca] at hk;exact False.elim hk
 |block id x ih=>
  intro n g A L h a w K H F hk
  unfold den at hk
  refine wp_block (wp_mono (ih _ g A L h a w _ H F hk) λe a' w' hr=>?_)
  cases e with
  |exit id'=>
   simp only[Exit.inBlock]
   by_cases hid:id'=id
   ·rw[if_pos hid]
    refine Rel.mono (λA L h hk=>?_) hr
    have hid':(id' == id)=true:=by simp[hid]
    dsimp only at hk;rw[hid'] at hk;exact hk
   ·rw[if_neg hid]
    refine Rel.mono (λA L h hk=>?_) hr
    have hid':(id' == id)=false:=by simp[hid]
    dsimp only at hk;rw[hid'] at hk;exact hk
  |normal=>exact hr
  |goto l=>exact hr
  |ret=>exact hr
  |panic ch=>exact hr
  |outgrown=>exact hr
 |seq x y ihx ihy=>
  intro n g A L h a w K H F hk
  have plain:(den P lo G V an x (2*n) A L h λe A' L' h'=>match e with
    |.normal=>den P lo G V an y (2*n+1) A' L' h' K
    |e=>K e A' L' h')->(Code.seq x y).wp P (RelC (writes (.seq x y)) fr g L a w K) a w:=by
   intro hk
   refine wp_seq (wp_mono (ihx _ g A L h a w _ H F hk) λe a' w' hr=>?_)
   cases e with
   |normal=>
    obtain⟨g1,A1,L1,h1,F1,H1,T1,k1⟩:=hr
    exact wp_mono (ihy _ g1 A1 L1 h1 a' w' K H1 F1 k1) λe2 a2 w2 hr2=>Rel.after (λi=>memN_right) (T1.mono λi=>memN_left) hr2
   |exit id=>exact Rel.after (λi=>memN_left) (Tr.refl _ _ _ _ _) hr
   |goto l=>exact Rel.after (λi=>memN_left) (Tr.refl _ _ _ _ _) hr
   |ret=>exact Rel.after (λi=>memN_left) (Tr.refl _ _ _ _ _) hr
   |panic ch=>exact Rel.after (λi=>memN_left) (Tr.refl _ _ _ _ _) hr
   |outgrown=>exact Rel.after (λi=>memN_left) (Tr.refl _ _ _ _ _) hr
  unfold den at hk
  cases hl:lkA an n with
  |none=>rw[hl] at hk;exact plain hk
  |some an0=>
   rw[hl] at hk
   cases an0 with
   |loop vs ls=>exact plain hk
   |order l=>exact plain hk
   |orderL l lt=>exact plain hk
   |jump l=>exact plain hk
   |cut=>exact False.elim hk
   |live m l=>
    refine wp_seq (wp_mono (ihx _ g A L h a w _ H F hk) λe a' w' hr=>?_)
    cases e with
    |normal=>
     obtain⟨g1,A1,L1,h1,F1,H1,T1,k1⟩:=hr
     exact wp_mono (ihy _ g1 _ L1 h1 a' w' K H1 (keepA_ok F1) k1) λe2 a2 w2 hr2=>Rel.after (λi=>memN_right) (T1.mono λi=>memN_left) hr2
    |exit id=>exact Rel.after (λi=>memN_left) (Tr.refl _ _ _ _ _) hr
    |goto l=>exact Rel.after (λi=>memN_left) (Tr.refl _ _ _ _ _) hr
    |ret=>exact Rel.after (λi=>memN_left) (Tr.refl _ _ _ _ _) hr
    |panic ch=>exact Rel.after (λi=>memN_left) (Tr.refl _ _ _ _ _) hr
    |outgrown=>exact Rel.after (λi=>memN_left) (Tr.refl _ _ _ _ _) hr
   |join vs ls=>
    obtain⟨J,hk⟩:=hk
    obtain⟨hb,hrest,hx⟩:=grd_spec hk
    simp only[Bool.and_eq_true] at hb
    obtain⟨⟨hok,hdv⟩,hdl⟩:=hb
    refine wp_seq (wp_mono (ihx _ g A (freezeL ls L) h a w _ (H.freeze ls) F hx) λe a' w' hr=>?_)
    cases e with
    |normal=>
     obtain⟨g1,A1,L1,h1,F1,H1,T1,k1⟩:=hr
     obtain⟨hb1,k1⟩:=grd_spec k1
     simp only[Bool.and_eq_true] at hb1
     obtain⟨ys,j,hs,hj,hΦ⟩:=join_says k1 hrest
     obtain⟨F2,H2,T2⟩:=rejoin F H F1 H1 T1 hok hb1.1 hb1.2 hdl (.inl rfl) hs
     exact wp_mono (ihy _ _ _ _ _ _ _ _ H2 F2 (hΦ _ hj)) λe2 a2 w2 hr2=>Rel.after (λi=>memN_right) (T2.mono λi=>memN_left) hr2
    |exit id=>exact Rel.after (λi=>memN_left) (Tr.refl _ _ _ _ _) (Rel.thawed H hr)
    |goto l=>exact Rel.after (λi=>memN_left) (Tr.refl _ _ _ _ _) (Rel.thawed H hr)
    |ret=>exact Rel.after (λi=>memN_left) (Tr.refl _ _ _ _ _) (Rel.thawed H hr)
    |panic ch=>exact Rel.after (λi=>memN_left) (Tr.refl _ _ _ _ _) (Rel.thawed H hr)
    |outgrown=>exact Rel.after (λi=>memN_left) (Tr.refl _ _ _ _ _) (Rel.thawed H hr)
 |loop x ih=>
  intro n g A L h a w K H F hk
  unfold den at hk
  cases hl:lkA an n with
  |none=>rw[hl] at hk;exact False.elim hk
  |some an0=>
   rw[hl] at hk
   cases an0 with
   |join vs ls=>exact False.elim hk
   |order l=>exact False.elim hk
   |orderL l lt=>exact False.elim hk
   |jump l=>exact False.elim hk
   |cut=>exact False.elim hk
   |live m l=>exact False.elim hk
   |loop vs ls=>
    obtain⟨I,m,hk⟩:=hk
    obtain⟨hb,hI,hbody⟩:=grd_spec hk
    simp only[Bool.and_eq_true] at hb
    obtain⟨⟨hok,hdv⟩,hdl⟩:=hb
    let Φ:List AV->(Hp->Prop)->(Hp->Nat)->Prop:=λxs i u=>∀ h,i h ->
      den P lo G V an x (2*n) (backV (forgetE (writes x) A) vs xs) (backL (freezeL ls L) ls (xs.drop vs.length)) h λe A' L' h'=>match e with
       |.normal=>grd (okL L' ls && sameT L L' ls) (appK (kindsOf vs ls) I (liveV A' vs++liveL L' ls) (λj=>j h')/\appK (kindsOf vs ls) m (liveV A' vs++liveL L' ls) λq=>q h'<u h)
       |e=>K e A' (thaw L L') h'
    let Hd:Nat->Act->World->Prop:=λk a1 w1=>∃ (g1:Nat->Nat) (A1:Env) (L1:List LE) (h1:Hp) (i:Hp->Prop) (u:Hp->Nat),FO g1 A1 a1/\HO fr g1 L1 h1 w1/\Tr (writes x) g (freezeL ls L) a w g1 L1 a1 w1/\i h1/\u h1=k /\
     (∀ h,i h->den P lo G V an x (2*n) A1 L1 h λe A' L' h'=>match e with
       |.normal=>grd (okL L' ls && sameT L L' ls) (appK (kindsOf vs ls) I (liveV A' vs++liveL L' ls) (λj=>j h')/\appK (kindsOf vs ls) m (liveV A' vs++liveL L' ls) λq=>q h'<u h)
       |e=>K e A' (thaw L L') h')
    have enter:∀ (g0:Nat->Nat) (A0:Env) (L0:List LE) (h0:Hp) (a0:Act) (w0:World) (R:(Hp->Nat)->Prop),FO g0 A0 a0->HO fr g0 L0 h0 w0->Tr (writes x) g (freezeL ls L) a w g0 L0 a0 w0->okL L0 ls=true->sameT L L0 ls=true ->
      appK (kindsOf vs ls) I (liveV A0 vs++liveL L0 ls) (λj=>j h0)->appK (kindsOf vs ls) m (liveV A0 vs++liveL L0 ls) R->∃ u:Hp->Nat,R u/\Hd (u h0) a0 w0:=by
     intro g0 A0 L0 h0 a0 w0 R F0 H0 T0 ho0 hs0 hi hm
     obtain⟨ys,i,u,hs,hi',hu',hΦ⟩:=loop_says hi hm hbody
     obtain⟨F2,H2,T2⟩:=rejoin F H F0 H0 T0 hok ho0 hs0 hdl (.inr rfl) hs
     exact⟨u,hu',g0,_,_,h0,i,u,F2,H2,T2,hi',rfl,hΦ⟩
    obtain⟨u0,_,hd0⟩:=enter g A (freezeL ls L) h a w (λ_=>True) F (H.freeze ls) (Tr.refl _ _ _ _ _) (okL_freeze (λl h=>h) hok) (sameT_freeze hok) (by rw[liveL_freeze];exact hI) (by rw[liveL_freeze];exact appK_any hI)
    refine wp_loop_ghost Hd _ hd0 (λk a1 w1 hd=>?_)
    obtain⟨g1,A1,L1,h1,i,u,F1,H1,T1,hi,hu,hden⟩:=hd
    refine wp_mono (ih _ g1 A1 L1 h1 a1 w1 _ H1 F1 (hden h1 hi)) λe a' w' hr=>?_
    have out:∀ {K2:KS},Rel (writes x) fr g1 L1 a1 w1 (λA' L' h'=>K2 A' (thaw L L') h') a' w'->Rel (writes x) fr g L a w K2 a' w':=λhr=>Rel.thawed H (Rel.after (λi h=>h) T1 hr)
    cases e with
    |normal=>
     obtain⟨g2,A2,L2,h2,F2,H2,T2,k2⟩:=hr
     obtain⟨hb2,hi2,hm2⟩:=grd_spec k2
     simp only[Bool.and_eq_true] at hb2
     obtain⟨u2,hlt,hd2⟩:=enter g2 A2 L2 h2 a' w' (λq=>q h2<u h1) F2 H2 (T1.trans T2) hb2.1 hb2.2 hi2 hm2
     exact⟨u2 h2,by rw[<- hu];exact hlt,hd2⟩
    |exit id=>exact out hr
    |goto l=>exact out hr
    |ret=>exact out hr
    |panic ch=>exact out hr
    |outgrown=>exact out hr
 |_=>exact λn g A L h a w K H F hk=>False.elim hk
theorem scope_ok (hG : GOk P G) (hV : VOk P V) (an : List (Nat × Ann)) {x r : Code} {l n m : Nat} (hf : findLabel x l = some r) {g : Nat → Nat} {A : Env} {L : List LE} {h : Hp} {a : Act} {w : World} {K : KC} {W : List Nat} (hW : ∀ i, memN i W = false → memN i (writes x ++ writes r) = false) (H : HO fr g L h w) (F : FO g A a)
    (hk : den P lo G V an x n A L h fun e A' L' h' => match e with
        | .goto l' => match l' == l with
          | true => den P lo G V an r m A' L' h' fun e A' L' h' => match e with
            | .goto _ => False
            | e => K e A' L' h'
          | false => False
        | e => K e A' L' h') : (Code.scope x).wp P (RelC W fr g L a w K) a w := by
  refine wp_scope_jumps l (fun a' w' => Rel (writes x) fr g L a w (fun A' L' h' => den P lo G V an r m A' L' h' fun e A' L' h' => match e with
            | .goto _ => False
            | e => K e A' L' h') a' w') (fun _ _ => 0) hf (wp_mono (den_ok hG hV an x n g A L h a w _ H F hk) fun e a' w' hr => ?_) (fun a' w' hj => ?_)
  · have hx : ∀ i, memN i W = false → memN i (writes x) = false := fun i hi => memN_left (hW i hi)
    cases e with
    | goto l' =>
      obtain ⟨g1, A1, L1, h1, F1, H1, T1, k1⟩ := hr
      dsimp only at k1
      cases hl : l' == l with
      | true => rw [hl] at k1; exact ⟨by simpa using hl, g1, A1, L1, h1, F1, H1, T1, k1⟩
      | false => rw [hl] at k1; exact k1.elim
    | normal => exact Rel.after hx (Tr.refl _ _ _ _ _) hr
    | exit id => exact Rel.after hx (Tr.refl _ _ _ _ _) hr
    | ret => exact Rel.after hx (Tr.refl _ _ _ _ _) hr
    | panic ch => exact Rel.after hx (Tr.refl _ _ _ _ _) hr
    | outgrown => exact Rel.after hx (Tr.refl _ _ _ _ _) hr
  · obtain ⟨g1, A1, L1, h1, F1, H1, T1, k1⟩ := hj
    have hx : ∀ i, memN i W = false → memN i (writes x) = false := fun i hi => memN_left (hW i hi)
    have hr' : ∀ i, memN i W = false → memN i (writes r) = false := fun i hi => memN_right (hW i hi)
    refine wp_mono (den_ok hG hV an r m g1 A1 L1 h1 a' w' _ H1 F1 k1) fun e a2 w2 hr2 => ?_
    cases e with
    | goto l' => obtain ⟨_, _, _, _, _, _, _, k⟩ := hr2; exact k.elim
    | normal => exact Rel.after hr' (T1.mono hx) hr2
    | exit id => exact Rel.after hr' (T1.mono hx) hr2
    | ret => exact Rel.after hr' (T1.mono hx) hr2
    | panic ch => exact Rel.after hr' (T1.mono hx) hr2
    | outgrown => exact Rel.after hr' (T1.mono hx) hr2
theorem denT_ok(hG:GOk P G)(hV:VOk P V)(an:List (Nat×Ann))(c:Code)(n:Nat)(g:Nat->Nat)(A:Env)(L:List LE)(h:Hp)(a:Act)(w:World)(K:KC)(H:HO fr g L h w)(F:FO g A a)
  (hk:denT P lo G V an c n A L h K):∃ W,c.wp P (RelC W fr g L a w K) a w:=by
 unfold denT at hk
 split at hk
 ·rename_i x
  split at hk
  ·split at hk
   ·rename_i r hf
    exact⟨_,scope_ok hG hV an hf (λi hi=>hi) H F hk⟩
   ·exact hk.elim
  ·exact hk.elim
 ·rename_i x y
  cases hl:lkA an (2*n+1) with
  |none=>
   rw[hl] at hk
   refine⟨writes x,wp_seq (wp_mono (den_ok hG hV an x _ g A L h a w _ H F hk) λe a' w' hr=>?_)⟩
   cases e with
   |normal=>obtain⟨_,_,_,_,_,_,_,k⟩:=hr;exact k.elim
   |_=>exact hr
  |some q=>
   cases q with
   |jump l=>
    rw[hl] at hk
    dsimp only at hk
    cases hf:findLabel y l with
    |none=>
     rw[hf] at hk
     refine⟨writes x,wp_seq (wp_mono (den_ok hG hV an x _ g A L h a w _ H F hk) λe a' w' hr=>?_)⟩
     cases e with
     |normal=>obtain⟨_,_,_,_,_,_,_,k⟩:=hr;exact k.elim
     |_=>exact hr
    |some r=>
     rw[hf] at hk
     refine⟨writes x++(writes y++writes r),wp_seq (wp_mono (den_ok hG hV an x _ g A L h a w _ H F hk) λe a' w' hr=>?_)⟩
     cases e with
     |normal=>
      obtain⟨g1,A1,L1,h1,F1,H1,T1,k1⟩:=hr
      exact wp_mono (scope_ok hG hV an hf (λi hi=>hi) H1 F1 k1) λe2 a2 w2 hr2=>Rel.after (λi=>memN_right) (T1.mono λi=>memN_left) hr2
     |exit id=>exact Rel.after (λi=>memN_left) (Tr.refl _ _ _ _ _) hr
     |goto l=>exact Rel.after (λi=>memN_left) (Tr.refl _ _ _ _ _) hr
     |ret=>exact Rel.after (λi=>memN_left) (Tr.refl _ _ _ _ _) hr
     |panic ch=>exact Rel.after (λi=>memN_left) (Tr.refl _ _ _ _ _) hr
     |outgrown=>exact Rel.after (λi=>memN_left) (Tr.refl _ _ _ _ _) hr
   |_=>
    rw[hl] at hk
    refine⟨writes x,wp_seq (wp_mono (den_ok hG hV an x _ g A L h a w _ H F hk) λe a' w' hr=>?_)⟩
    cases e with
    |normal=>obtain⟨_,_,_,_,_,_,_,k⟩:=hr;exact k.elim
    |_=>exact hr
 ·exact⟨_,den_ok hG hV an _ n g A L h a w K H F hk⟩
def resSem(tmps:Array Value):ResultVar->Sem Value
 |.tmp t=>pure (tmps.getD t undef)
 |.cell q t=>do loadVar t (<- asAddr (tmps.getD q undef))
theorem results_eq(fn:Func)(tmps:Array Value):results fn tmps=(do let vs <- fn.results.mapM (resSem tmps);pure (if h:vs.size=1 then vs[0] else .tuple vs)):=by
 unfold results
 congr 1
theorem run_resOne{g:Nat->Nat}{A:Env}{L:List LE}{h:Hp}{a:Act}{w:World}(F:FO g A a)(H:HO fr g L h w){r:ResultVar}{K:Value->Prop}(hk:resOne P A L r K) :
  ∃ v,(resSem a.tmps r).run P w=.ok v w/\K v:=by
 cases r with
 |tmp t=>exact⟨_,by simp only[resSem,Sem.run_pure],AV.is_get (F.at_ t) hk⟩
 |cell q t=>
  unfold resOne at hk
  obtain⟨hb,hk⟩:=grd_spec hk
  simp only[Bool.and_eq_true] at hb
  have hq:=F.at_ q
  cases hx:getE A q with
  |loc l off=>
   rw[hx] at hk hq
   have hqe:a.tmps.getD q undef=.pointer (some ⟨g l,off,none⟩):=hq
   dsimp only at hk
   have hl:dLoad P t (.loc l off) L h (λx L' h'=>x.get K):=by
    unfold dLoad
    rw[hb.1,hb.2]
    show(match findL L l with
     |some e=>match isAggB P t with
      |true=>grd (lenB (takeN e.cs off (P.cellsOf t)) (P.cellsOf t)) (getAll (takeN e.cs off (P.cellsOf t)) λvs=>K (.agg ⟨vs⟩))
      |false=>grd (Nat.blt off e.cs.length) ((getN e.cs off).get K)
     |none=>False)
    cases hf:findL L l with
    |none=>rw[hf] at hk;exact False.elim hk
    |some e=>
     rw[hf] at hk
     dsimp only at hk ⊢
     cases ha:isAggB P t with
     |true=>rw[ha] at hk;exact hk
     |false=>
      rw[ha] at hk
      dsimp only at hk ⊢
      by_cases hlt:off<e.cs.length
      ·have:Nat.blt off e.cs.length=true:=by rw[Nat.blt_eq];exact hlt
       rw[this];exact hk
      ·have:getN e.cs off=.unk:=by rw[getN_eq,List.getElem?_eq_none (by omega)];rfl
       rw[this] at hk;exact False.elim hk
   have hy:AV.is g (.loc l off) (.pointer (some ⟨g l,off,none⟩)):=rfl
   obtain⟨x,v,hr,hx',hK⟩:=load_okQ H hl hy
   refine⟨v,?_,AV.is_get hx' hK⟩
   simp only[resSem,hqe,asAddr,Sem.run_bind,Sem.run_pure,Result.andThen_ok]
   simpa[Instr.loadAt,Instr.sureAddr] using hr
  |_=>rw[hx] at hk;exact False.elim hk
theorem run_resAll{g:Nat->Nat}{A:Env}{L:List LE}{h:Hp}{a:Act}{w:World}(F:FO g A a)(H:HO fr g L h w):∀ {rs:List ResultVar} {K:List Value->Prop},resAll P A L rs K ->
  ∃ vs,(rs.mapM (m:=Sem) (resSem a.tmps)).run P w=.ok vs w/\K vs
 |[],K,hk=>⟨[],by simp,hk⟩
 |r::rs,K,hk=>by
  obtain⟨v,hr,hk⟩:=run_resOne F H hk
  obtain⟨vs,hrs,hK⟩:=run_resAll F H hk
  refine⟨v::vs,?_,hK⟩
  rw[List.mapM_cons]
  simp only[Sem.run_bind]
  rw[hr]
  simp only[Result.andThen_ok,Sem.run_bind]
  rw[hrs]
  simp only[Result.andThen_ok,Sem.run_pure]
theorem run_results{g:Nat->Nat}{A:Env}{L:List LE}{h:Hp}{a:Act}{w:World}(F:FO g A a)(H:HO fr g L h w){fn:Func}{K:Value->Prop}(hk:resD P A L fn.results.toList K) :
  ∃ v,(results fn a.tmps).run P w=.ok v w/\K v:=by
 obtain⟨vs,hr,hk⟩:=run_resAll F H hk
 have hm:(fn.results.mapM (m:=Sem) (resSem a.tmps)).run P w=.ok vs.toArray w:=by
  rw[Array.mapM_eq_mapM_toList]
  simp only[Sem.run_map,hr,Result.andThen_ok]
 have hres:∀ us:List Value,us=vs->∀ v,(if h:us.toArray.size=1 then us.toArray[0] else .tuple us.toArray)=v->(results fn a.tmps).run P w=.ok v w:=by
  intro us hu v hv
  subst hu
  rw[results_eq]
  simp only[Sem.run_bind]
  rw[hm]
  simp only[Result.andThen_ok,Sem.run_pure]
  rw[<- hv]
 match vs,hk,hres with
 |[v],hk,hres=>exact⟨v,hres _ rfl v rfl,hk⟩
 |[],hk,hres=>exact⟨_,hres _ rfl _ rfl,hk⟩
 |x::y::zs,hk,hres=>exact⟨.tuple (x::y::zs).toArray,hres _ rfl _ (by rw[dif_neg (by simp)]),hk⟩
theorem denF_ok(hG:GOk P G)(hV:VOk P V){an:List (Nat×Ann)}{f:Nat}{fn:Func}{args:List AV}{vs:List Value}(hf:P.funcs[f]?=some fn)(ha:inStep (λ_=>0) args vs)(hpl:∀ x∈args,x.plain=true){T:PT}(hT:∀ h Q,T h Q->denF P lo G V an fn args h Q):Impl P f vs T:=by
 intro h Q hq fr w O
 have hd:=hT h Q hq
 unfold denF at hd
 cases hb:fn.body with
 |none=>rw[hb] at hd;exact False.elim hd
 |some c=>
  rw[hb] at hd
  dsimp only at hd
  have hW:=denT_ok (fr:=fr) hG hV an c 1 (λ_=>0) _ [] h { tmps:=vs.toArray++Array.replicate (fn.ntmps-vs.toArray.size) undef,defers:=[] } w _ ⟨O.hh,O.ff,O.dj,λe he=>(by simp at he),List.Pairwise.nil⟩ ?_ hd
  obtain⟨W,hW⟩:=hW
  refine calls_of_wp hf hb (wp_mono hW λe a' w' hr=>?_)
  rotate_left
  ·refine⟨?_,λi=>?_,rfl⟩
   ·simp only[initA,Array.size_append,Array.size_replicate,List.size_toArray,ha.1]
   ·have hnum:∀ (xs:List AV) (k i:Nat),look (numL k xs) i=if k<=i then getN xs (i-k) else .unk:=by
     intro xs
     induction xs with
     |nil=>intro k i;simp[numL,look,getN]
     |cons x xs ih=>
      intro k i
      simp only[numL,look]
      cases he:Nat.beq k i with
      |true=>have:=Nat.eq_of_beq_eq_true he;subst this;simp[getN]
      |false=>
       have hne:=Nat.ne_of_beq_eq_false he
       dsimp only
       rw[ih]
       by_cases hk:k<=i
       ·rw[if_pos hk,if_pos (by omega),show i-k=(i-(k+1))+1 by omega]
        rfl
       ·rw[if_neg hk,if_neg (by omega)]
    have hga:getE (initA args fn.ntmps) i=if i<args.length then getN args i else .unk:=by
     show(match Nat.blt i (args.length+(fn.ntmps-args.length)) with|true=>look (numL 0 args) i|false=>.unk)=_
     rw[hnum,if_pos (Nat.zero_le i),Nat.sub_zero]
     have hout:¬ i<args.length->getN args i=.unk:=λhi=>by rw[getN_eq,List.getElem?_eq_none (by omega)];rfl
     by_cases hi:i<args.length
     ·rw[if_pos hi,show Nat.blt i (args.length+(fn.ntmps-args.length))=true by rw[Nat.blt_eq];omega]
     ·rw[if_neg hi,hout hi]
      cases Nat.blt i (args.length+(fn.ntmps-args.length))<;>rfl
    rw[hga]
    by_cases hi:i<args.length
    ·rw[if_pos hi]
     have h1:=ha.2 i hi
     have hlt:i<vs.length:=by rw[ha.1];exact hi
     have:(vs.toArray++Array.replicate (fn.ntmps-vs.toArray.size) undef).getD i undef=vs.getD i undef:=by
      simp[Array.getElem?_append,hlt]
     rw[this]
     exact h1
    ·rw[if_neg hi];trivial
  ·obtain⟨g',A',L',h',F',H',T',k⟩:=hr
   cases e with
   |normal=>
    obtain⟨v,hv,hK⟩:=run_results F' H' k
    exact⟨F'.df,v,hv,v,h',rfl,⟨H'.hh,H'.ff,H'.dj⟩,T'.wr,hK⟩
   |ret=>
    obtain⟨v,hv,hK⟩:=run_results F' H' k
    exact⟨F'.df,v,hv,v,h',rfl,⟨H'.hh,H'.ff,H'.dj⟩,T'.wr,hK⟩
   |_=>exact False.elim k
end
end Go.Eng
end
section
namespace Go.Eng
section
variable{P:Program}{lo:List Nat}{G:List (Nat×(List Value->PT))}{V:Value->List Value->PT}
def FOk(P:Program)(f:Nat)(V:List Value->PT):Prop:=Enters P f/\∀ args,Impl P f args (V args)
theorem GOk.nil:GOk P []:=λf T h=>(by cases h)
theorem GOk.cons{f:Nat}{T:List Value->PT}(h:FOk P f T)(hG:GOk P G):GOk P ((f,T)::G):=by
 intro g T' hl
 unfold lkG at hl
 cases hfg:f == g with
 |true=>
  rw[hfg] at hl
  have:f=g:=by simpa using hfg
  subst this
  cases hl
  exact .inl h
 |false=>rw[hfg] at hl;exact hG g T' hl
theorem GOk.consX{f:Nat}{T:List Value->PT}(h:ExtOk P f T)(hG:GOk P G):GOk P ((f,T)::G):=by
 intro g T' hl
 unfold lkG at hl
 cases hfg:f == g with
 |true=>
  rw[hfg] at hl
  have:f=g:=by simpa using hfg
  subst this
  cases hl
  exact .inr h
 |false=>rw[hfg] at hl;exact hG g T' hl
def noV:Value->List Value->PT:=λ_ _ _ _=>False
theorem noV_ok:VOk P noV:=λ_ _ _ _ h=>h.elim
theorem inStep_v(g:Nat->Nat)(vs:List Value):inStep g (vs.map AV.v) vs:=by
 refine⟨by simp,λi hi=>?_⟩
 rw[getN_eq]
 have hi':i<vs.length:=by simpa using hi
 simp[hi']
 rfl
theorem denF_okV(hG:GOk P G)(hV:VOk P V){an:List (Nat×Ann)}{f:Nat}{fn:Func}{vs:List Value}(hf:P.funcs[f]?=some fn){T:PT}(hT:∀ h Q,T h Q->denF P lo G V an fn (vs.map AV.v) h Q):Impl P f vs T:=
 denF_ok hG hV hf (inStep_v _ vs) (λx hx=>by obtain⟨v,_,rfl⟩:=List.mem_map.1 hx;rfl) hT
theorem inStep_nil(g:Nat->Nat):inStep g [] []:=⟨rfl,λi hi=>(by simp at hi)⟩
theorem inStep_cons{g:Nat->Nat}{x:AV}{v:Value}{xs:List AV}{vs:List Value}(hx:x.is g v)(h:inStep g xs vs):inStep g (x::xs) (v::vs):=by
 refine⟨by simp[h.1],λi hi=>?_⟩
 cases i with
 |zero=>exact hx
 |succ i=>exact h.2 i (by simpa using hi)
theorem denF_okA(hG:GOk P G)(hV:VOk P V){an:List (Nat×Ann)}{f:Nat}{fn:Func}{xs:List AV}{vs:List Value}(hf:P.funcs[f]?=some fn)(hx:inStep (λ_=>0) xs vs)(hp:∀ x∈xs,x.plain=true){T:PT}(hT:∀ h Q,T h Q->denF P lo G V an fn xs h Q):Impl P f vs T:=
 denF_ok hG hV hf hx hp hT
theorem denF_okE(hG:GOk P G)(hV:VOk P V){an:List (Nat×Ann)}{f:Nat}{fn:Func}{vs:List Value}(hf:P.funcs[f]?=some fn){T:PT}(hT:denF P lo G V an fn (vs.map AV.v)=T):Impl P f vs T:=
 denF_okV hG hV hf λh Q hq=>by rw[hT];exact hq
theorem denF_okEA(hG:GOk P G)(hV:VOk P V){an:List (Nat×Ann)}{f:Nat}{fn:Func}{xs:List AV}{vs:List Value}(hf:P.funcs[f]?=some fn)(hx:inStep (λ_=>0) xs vs)(hp:∀ x∈xs,x.plain=true){T:PT}(hT:denF P lo G V an fn xs=T):Impl P f vs T:=
 denF_okA hG hV hf hx hp λh Q hq=>by rw[hT];exact hq
end
abbrev I9(β:Type):Type:=Int->Int->Int->Int->Int->Int->Int->Int->Int->β
@[reducible] def nw(h:Hp)(o:Obj)(K:Nat->Hp->Prop):Prop:=∀ b,h b=none->K b (h.new b o)
@[reducible] def st(h:Hp)(b o n:Nat)(vs:List Value)(K:Hp->Prop):Prop:=h.canW b o n/\K (h.wr b o vs)
@[reducible] def dr(p:Option Addr)(K:Nat->Nat->Prop):Prop:=∃ b o,p=some ⟨b,o,none⟩/\K b o
@[reducible] def ix(p:Option Addr)(n l:Int)(K:Nat->Nat->Prop):Prop:=∃ b o,p=some ⟨b,o,none⟩/\(0<=n/\n<l)/\K b o
@[reducible] def ldI(k:IntKind)(h:Hp)(b o:Nat)(K:Int->Prop):Prop:=∃ n:Int,h.at b o=some (.int k n)/\K n
@[reducible] def ldT(h:Hp)(b o:Nat)(K:ByteArray->Prop):Prop:=∃ s:ByteArray,h.at b o=some (.string s)/\K s
@[reducible] def ldS(h:Hp)(b o:Nat)(K:Sl->Prop):Prop:=∃ l:Sl,h.at b o=some (.slice l.a l.n l.c)/\K l
@[reducible] def ldP(h:Hp)(b o:Nat)(K:Option Addr->Prop):Prop:=∃ p:Option Addr,h.at b o=some (.pointer p)/\K p
@[reducible] def ldM(h:Hp)(b o:Nat)(K:Option Nat->Prop):Prop:=∃ m:Option Nat,h.at b o=some (.map m)/\K m
@[reducible] def ldB(h:Hp)(b o:Nat)(T F:Prop):Prop:=∃ x:Bool,h.at b o=some (.bool x)/\parB x T F
@[reducible] def retI(k:IntKind)(v:Value)(K:Int->Prop):Prop:=∃ n:Int,v=.int k n/\K n
@[reducible] def retT(v:Value)(K:ByteArray->Prop):Prop:=∃ s:ByteArray,v=.string s/\K s
@[reducible] def retS(v:Value)(K:Sl->Prop):Prop:=∃ l:Sl,v=.slice l.a l.n l.c/\K l
@[reducible] def retP(v:Value)(K:Option Addr->Prop):Prop:=∃ p:Option Addr,v=.pointer p/\K p
@[reducible] def retM(v:Value)(K:Option Nat->Prop):Prop:=∃ m:Option Nat,v=.map m/\K m
@[reducible] def retB(v:Value)(T F:Prop):Prop:=∃ b:Bool,v=.bool b/\parB b T F
@[reducible] def mpu(h:Hp)(m:Option Nat)(fit:Value->Array MapEntry->Prop)(k v:Value)(K:Hp->Prop):Prop:=∃ b es c,m=some b/\h b=some (.map es c)/\fit k es/\K (h.new b (mPut es c k v))
@[reducible] def cpy(h:Hp)(a sa:Option Addr)(m:Nat)(K:Hp->Prop):Prop:=∃ vs,h.row sa m vs/\(∀ v∈vs,v.oneCell'=true)/\h.canWA a vs.length/\K (h.wrA a vs)
end Go.Eng
end
