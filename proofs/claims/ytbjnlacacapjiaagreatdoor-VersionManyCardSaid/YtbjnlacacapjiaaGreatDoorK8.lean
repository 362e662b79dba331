/-
  JOINED.
-/
import Derived.Test.YtbjnlacacapjiaaGreatDoorK7
import Derived.Test.YtbjnlacacapjiaaGreatDoorK5
import Derived.Test.YtbjnlacacapjiaaGreatDoorK3
import Derived.Test.YtbjnlacacapjiaaGreatDoorK6
import Derived.Test.YtbjnlacacapjiaaGreatDoorK2
import Derived.Test.YtbjnlacacapjiaaGreatDoorProg
set_option linter.unusedSimpArgs false
set_option linter.unusedVariables false
set_option maxRecDepth 100000
open Go.IntKind (wrap)
open List (length_append length_map mem_of_getElem? mem_cons_self getElem?_eq_getElem getElem?_map map_append map_cons mem_map_of_mem length_take length_set mem_cons mem_append mem_singleton nodup_append)
section
namespace Go.Eng.YtbjnlacacapjiaaGreatDoor
open Go.Eng
def kdI(_:Nat)(v:Value):Prop:=∃ n:Int,v=.int .i64 n
def kdU(_:Nat)(v:Value):Prop:=∃ n:Int,v=.int .u64 n
def kdS(_:Nat)(v:Value):Prop:=∃ s:ByteArray,v=.string s
def kdT(c:Nat)(v:Value):Prop:=match c with
 |0=>∃ n:Int,v=.int .u64 n
 |1=>∃ n:Int,v=.int .i64 n
 |2=>∃ n:Int,v=.int .i64 n
 |3=>∃ n:Int,v=.int .i64 n
 |_=>∃ s:ByteArray,v=.string s
theorem kdU_one:∀ c v,kdU c v->Value.oneCell' v=true:=λ_ _ ⟨_,e⟩=>by rw[e];rfl
theorem kdS_one:∀ c v,kdS c v->Value.oneCell' v=true:=λ_ _ ⟨_,e⟩=>by rw[e];rfl
theorem kdT_one:∀ c v,kdT c v->Value.oneCell' v=true:=λc v h=>by
 unfold kdT at h
 split at h<;>(obtain⟨_,e⟩:=h;rw[e];rfl)
theorem cols1{P:Value->Prop}{vs:List Value}(h:∀ v∈vs,P v):Cols (λ_=>P) 1 vs:=λi v e=>h v (mem_of_getElem? e)
def kNums:KI:=⟨2,106,1,48,8,kdU⟩
def kTexts:KI:=⟨3,51,1,9,16,kdS⟩
def kTabs:KI:=⟨7,77,6,63,64,kdT⟩
abbrev kinds:List KI:=[kNums,kTexts,kTabs]
theorem kinds_d:∀ k∈kinds,∀ k'∈kinds,k.c=k'.c->k=k':=by
 intro k hk k' hk' e
 simp only[kinds,mem_cons,List.not_mem_nil,or_false] at hk hk'
 rcases hk with rfl|rfl|rfl<;>rcases hk' with rfl|rfl|rfl<;>first|rfl|(exact absurd e (by decide))
theorem kinds_ne{c:Nat}(h:(kinds.all λk=>k.c != c)=true):∀ k∈kinds,k.c≠c:=λk hk=>by
 have:=List.all_eq_true.1 h k hk
 simpa using this
theorem col_rd{KD:Nat->Value->Prop}{sz n:Nat}{vs:List Value}(C:Cols KD sz vs)(hl:vs.length=n*sz){i c:Nat}(hi:i<n)(hc:c<sz):∃ v,vs[i*sz+c]?=some v/\KD c v:=by
 have hlt:i*sz+c<vs.length:=by
  rw[hl]
  have:(i+1)*sz<=n*sz:=Nat.mul_le_mul_right _ hi
  rw[Nat.add_mul] at this
  omega
 refine⟨vs[i*sz+c],getElem?_eq_getElem hlt,?_⟩
 have:=C (i*sz+c) _ (getElem?_eq_getElem hlt)
 have e:(i*sz+c) % sz=c:=by rw[Nat.mul_comm,Nat.mul_add_mod,Nat.mod_eq_of_lt hc]
 rw[e] at this
 exact this
theorem cols_u(x:Int):Cols kdU 1 [.int .u64 x]:=cols1 (P:=λv=>∃ n:Int,v=.int .u64 n) λv hv=>⟨x,mem_singleton.1 hv⟩
theorem cols_uvs(xs:List Int):Cols kdU 1 (uvs xs):=cols1 (P:=λv=>∃ n:Int,v=.int .u64 n) λv hv=>by
 obtain⟨x,_,e⟩:=List.mem_map.1 hv
 exact⟨x,e.symm⟩
theorem cols_s(x:ByteArray):Cols kdS 1 [.string x]:=cols1 (P:=λv=>∃ n:ByteArray,v=.string n) λv hv=>⟨x,mem_singleton.1 hv⟩
theorem cols_ptr(xs:List ByteArray):Cols kdS 1 (ptrV xs):=cols1 (P:=λv=>∃ n:ByteArray,v=.string n) λv hv=>by
 obtain⟨x,_,e⟩:=List.mem_map.1 hv
 exact⟨x,e.symm⟩
theorem wrng(x:Int):-9223372036854775808<=wrap .i64 x/\wrap .i64 x<9223372036854775808:=by
 simp[IntKind.wrap,IntKind.signed,IntKind.bits];omega
theorem cols_t(t:Tab):Cols kdT 6 t.cells:=λi v e=>by
 match i,e with
 |0,e=>exact⟨_,(Option.some.inj e).symm⟩
 |1,e=>exact⟨_,(Option.some.inj e).symm⟩
 |2,e=>exact⟨_,(Option.some.inj e).symm⟩
 |3,e=>exact⟨_,(Option.some.inj e).symm⟩
 |4,e=>exact⟨_,(Option.some.inj e).symm⟩
 |5,e=>exact⟨_,(Option.some.inj e).symm⟩
 |i+6,e=>simp[Tab.cells] at e
theorem cols_tabV:∀ ts:List Tab,Cols kdT 6 (tabV ts)
 |[]=>Cols.nil _ _
 |t::ts=>(cols_t t).app (n:=1) (cols_tabV ts) rfl
theorem same_u{l l':Sl}{h:Hp}{vs:List Value}{K:Value->Hp->Prop}(C:Cols kdU 1 vs)(R:h.row l.a (l.n*1) vs)(R':h.row l'.a (l'.n*1) vs)(e:l.n=l'.n)(hb:l.n<=140737488355328)(hK:K (.bool true) h):F125.T l l' h K:=by
 unfold F125.T
 refine⟨λ_=>⟨λn h1=>∃ i:Nat,n=(i:Int)/\i<=l.n/\h1=h,λn _=>l.n-n.toNat,⟨0,rfl,Nat.zero_le _,rfl⟩,?_⟩,λq=>absurd (by rw[e]) q⟩
 rintro n h1 ⟨i,rfl,hi,rfl⟩
 refine⟨λhlt=>?_,λ_=>hK⟩
 have hi':i<l.n:=by omega
 obtain⟨b,o,ha,hat⟩:=R.2.resolve_left (by omega)
 obtain⟨b',o',ha',hat'⟩:=R'.2.resolve_left (by omega)
 obtain⟨v0,e0,x0,rfl⟩:=col_rd C R.1 hi' (show 0<1 by decide)
 rw[Nat.mul_one,Nat.add_zero] at e0
 refine⟨b,o,ha,⟨by omega,by omega⟩,x0,by rw[Int.toNat_natCast,hat _ (by omega)];exact e0,b',o',ha',⟨by omega,by omega⟩,x0,by rw[Int.toNat_natCast,hat' _ (by omega)];exact e0,λ_=>?_,λq=>absurd rfl q⟩
 rw[nx_i hi' (by omega)]
 exact⟨⟨i+1,rfl,hi',rfl⟩,by dsimp only;omega⟩
theorem same_s{l l':Sl}{h:Hp}{vs:List Value}{K:Value->Hp->Prop}(C:Cols kdS 1 vs)(R:h.row l.a (l.n*1) vs)(R':h.row l'.a (l'.n*1) vs)(e:l.n=l'.n)(hb:l.n<=140737488355328)(hK:K (.bool true) h):F126.T l l' h K:=by
 unfold F126.T
 refine⟨λ_=>⟨λn h1=>∃ i:Nat,n=(i:Int)/\i<=l.n/\h1=h,λn _=>l.n-n.toNat,⟨0,rfl,Nat.zero_le _,rfl⟩,?_⟩,λq=>absurd (by rw[e]) q⟩
 rintro n h1 ⟨i,rfl,hi,rfl⟩
 refine⟨λhlt=>?_,λ_=>hK⟩
 have hi':i<l.n:=by omega
 obtain⟨b,o,ha,hat⟩:=R.2.resolve_left (by omega)
 obtain⟨b',o',ha',hat'⟩:=R'.2.resolve_left (by omega)
 obtain⟨v0,e0,x0,rfl⟩:=col_rd C R.1 hi' (show 0<1 by decide)
 rw[Nat.mul_one,Nat.add_zero] at e0
 refine⟨b,o,ha,⟨by omega,by omega⟩,x0,by rw[Int.toNat_natCast,hat _ (by omega)];exact e0,b',o',ha',⟨by omega,by omega⟩,x0,by rw[Int.toNat_natCast,hat' _ (by omega)];exact e0,λ_=>?_,λq=>absurd rfl q⟩
 rw[nx_i hi' (by omega)]
 exact⟨⟨i+1,rfl,hi',rfl⟩,by dsimp only;omega⟩
theorem same_t{l l':Sl}{h:Hp}{vs:List Value}{K:Value->Hp->Prop}(C:Cols kdT 6 vs)(R:h.row l.a (l.n*6) vs)(R':h.row l'.a (l'.n*6) vs)(e:l.n=l'.n)(hb:l.n<=140737488355328)(hK:K (.bool true) h):F130.T l l' h K:=by
 unfold F130.T
 refine⟨λ_=>⟨λn h1=>∃ i:Nat,n=(i:Int)/\i<=l.n/\h1=h,λn _=>l.n-n.toNat,⟨0,rfl,Nat.zero_le _,rfl⟩,?_⟩,λq=>absurd (by rw[e]) q⟩
 rintro n h1 ⟨i,rfl,hi,rfl⟩
 refine⟨λhlt=>?_,λ_=>hK⟩
 have hi':i<l.n:=by omega
 obtain⟨b,o,ha,hat⟩:=R.2.resolve_left (by omega)
 obtain⟨b',o',ha',hat'⟩:=R'.2.resolve_left (by omega)
 have rd:∀ c v,c<6->vs[i*6+c]?=some v->h1.at b ((o+((i:Int)).toNat*6)+c)=some v/\h1.at b' ((o'+((i:Int)).toNat*6)+c)=some v:=λc v hc e=>by
  rw[Int.toNat_natCast,Nat.add_assoc,Nat.add_assoc,hat _ (by omega),hat' _ (by omega)];exact⟨e,e⟩
 obtain⟨v0,e0,x0,rfl⟩:=col_rd C R.1 hi' (show 0<6 by decide)
 obtain⟨v1,e1,x1,rfl⟩:=col_rd C R.1 hi' (show 1<6 by decide)
 obtain⟨v2,e2,x2,rfl⟩:=col_rd C R.1 hi' (show 2<6 by decide)
 obtain⟨v3,e3,x3,rfl⟩:=col_rd C R.1 hi' (show 3<6 by decide)
 obtain⟨v4,e4,x4,rfl⟩:=col_rd C R.1 hi' (show 4<6 by decide)
 obtain⟨v5,e5,x5,rfl⟩:=col_rd C R.1 hi' (show 5<6 by decide)
 refine⟨b,o,ha,⟨by omega,by omega⟩,x0,(rd 0 _ (by decide) e0).1,x1,(rd 1 _ (by decide) e1).1,x2,(rd 2 _ (by decide) e2).1,x3,(rd 3 _ (by decide) e3).1,x4,(rd 4 _ (by decide) e4).1,x5,(rd 5 _ (by decide) e5).1,b',o',ha',⟨by omega,by omega⟩,x0,(rd 0 _ (by decide) e0).2,x1,(rd 1 _ (by decide) e1).2,x2,(rd 2 _ (by decide) e2).2,x3,(rd 3 _ (by decide) e3).2,x4,(rd 4 _ (by decide) e4).2,x5,(rd 5 _ (by decide) e5).2,λ_=>?_,λq=>absurd rfl q⟩
 rw[nx_i hi' (by omega)]
 exact⟨⟨i+1,rfl,hi',rfl⟩,by dsimp only;omega⟩
section
variable{N:Nat}{Z:Nat->Prop}{pb R tB:Nat}{d:Int}{g0:Hp}{u:Mem}{h:Hp}{Q:Value->Hp->Prop}
theorem mark0(T0:TabP g0)(B:Bk kinds N Z pb R tB d g0 u h)(hQ:Q (.tuple ⟨[]⟩) h):F172.T (some ⟨pb,0,none⟩) h Q:=by
 unfold F172.T
 exact B.nilMark (s:=4) (c:=0) rfl (by decide) (kinds_ne (by decide)) hQ
theorem grow0(T0:TabP g0)(B:Bk kinds N Z pb R tB d g0 u h)(hQ:∀ h',Bk kinds N Z pb R tB d g0 u h'->Q (.tuple ⟨[]⟩) h'):F191.T (some ⟨pb,0,none⟩) h Q:=by
 unfold F191.T
 exact B.nilGrow (s:=4) (c:=0) rfl (by decide) (kinds_ne (by decide)) hQ
theorem hold0(B:Bk kinds N Z pb R tB d g0 u h)(hQ:Q (.bool true) h):F50.T (some ⟨pb,0,none⟩) h Q:=by
 unfold F50.T
 exact B.nilKeep (s:=4) (c:=0) rfl (by decide) (kinds_ne (by decide)) hQ
theorem mark1(T0:TabP g0)(B:Bk kinds N Z pb R tB d g0 u h)(hQ:Q (.tuple ⟨[]⟩) h):F173.T (some ⟨pb,0,none⟩) h Q:=by
 unfold F173.T
 exact B.nilMark (s:=13) (c:=1) rfl (by decide) (kinds_ne (by decide)) hQ
theorem grow1(T0:TabP g0)(B:Bk kinds N Z pb R tB d g0 u h)(hQ:∀ h',Bk kinds N Z pb R tB d g0 u h'->Q (.tuple ⟨[]⟩) h'):F192.T (some ⟨pb,0,none⟩) h Q:=by
 unfold F192.T
 exact B.nilGrow (s:=13) (c:=1) rfl (by decide) (kinds_ne (by decide)) hQ
theorem hold1(B:Bk kinds N Z pb R tB d g0 u h)(hQ:Q (.bool true) h):F51.T (some ⟨pb,0,none⟩) h Q:=by
 unfold F51.T
 exact B.nilKeep (s:=13) (c:=1) rfl (by decide) (kinds_ne (by decide)) hQ
theorem mark2(T0:TabP g0)(B:Bk kinds N Z pb R tB d g0 u h)(hN:N<=500000)(hQ:∀ h',Bk kinds N (λ_=>False) pb R tB d g0 u h'->Q (.tuple ⟨[]⟩) h'):F174.T (some ⟨pb,0,none⟩) h Q:=by
 unfold F174.T F174.G
 exact Bk.mark (s:=22) rfl (k:=kNums) (zs:=[.int .u64 0]) (OF:=Int.toNat) (WR:=(λa i h K=>K [.int .u64 (wrap .u64 (wrap .i64 (a+(wrap .i64 (3*i)))))] h)) (S:=F125.T) (by simp[kinds]) B hN (λ_ _ _ _ _ C R R' e b hK=>same_u C R R' e b hK) (by decide) (λi=>by show(i:Int).toNat=i*1;omega) (λ_ _ h _ _ k=>k h _ (Keep.refl h) rfl (cols_u _)) kdU_one rfl (by decide) hQ
theorem grow2(T0:TabP g0)(B:Bk kinds N Z pb R tB d g0 u h)(hN:N<=500000)(hQ:∀ h',Bk kinds N (λc=>Z c\/c=2) pb R tB d g0 u h'->Q (.tuple ⟨[]⟩) h'):F193.T (some ⟨pb,0,none⟩) h Q:=by
 unfold F193.T
 exact Bk.grow (s:=22) rfl (k:=kNums) (zs:=[.int .u64 0]) (WR:=(λa i h K=>K [.int .u64 (wrap .u64 (wrap .i64 ((wrap .i64 (a+6))+(wrap .i64 (5*i)))))] h)) (by simp[kinds]) B hN (λ_ _ h _ _ k=>k h _ (Keep.refl h) rfl (cols_u _)) kdU_one (by decide) rfl hQ
theorem hold2(B:Bk kinds N Z pb R tB d g0 u h)(hN:N<=500000)(hZ:Z 2)(hQ:Q (.bool true) h):F52.T (some ⟨pb,0,none⟩) h Q:=by
 unfold F52.T F52.G
 exact Bk.hold (s:=22) rfl (k:=kNums) (by decide) (S:=F125.T) (by simp[kinds]) (λ_ _ _ _ _ C R R' e b hK=>same_u C R R' e b hK) B hN hZ hQ
theorem mark3(T0:TabP g0)(B:Bk kinds N Z pb R tB d g0 u h)(hN:N<=500000)(hQ:∀ h',Bk kinds N (λ_=>False) pb R tB d g0 u h'->Q (.tuple ⟨[]⟩) h'):F175.T (some ⟨pb,0,none⟩) h Q:=by
 unfold F175.T F175.G
 exact Bk.mark (s:=31) rfl (k:=kTexts) (zs:=[.string ⟨#[]⟩]) (OF:=Int.toNat) (WR:=(λa i h K=>F216.T (wrap .i64 (a+(wrap .i64 (3*i)))) h λr h1=>retT r λs=>K [.string s] h1)) (S:=F126.T) (by simp[kinds]) B hN (λ_ _ _ _ _ C R R' e b hK=>same_s C R R' e b hK) (by decide) (λi=>by show(i:Int).toNat=i*1;omega) (λ_ _ _ _ k hK=>itoa_s (T0.keep k) (wrng _) λh' s K'=>⟨s,rfl,hK h' _ K' rfl (cols_s s)⟩) kdS_one rfl (by decide) hQ
theorem grow3(T0:TabP g0)(B:Bk kinds N Z pb R tB d g0 u h)(hN:N<=500000)(hQ:∀ h',Bk kinds N (λc=>Z c\/c=3) pb R tB d g0 u h'->Q (.tuple ⟨[]⟩) h'):F194.T (some ⟨pb,0,none⟩) h Q:=by
 unfold F194.T F194.G
 exact Bk.grow (s:=31) rfl (k:=kTexts) (zs:=[.string ⟨#[]⟩]) (WR:=(λa i h K=>F216.T (wrap .i64 ((wrap .i64 (a+6))+(wrap .i64 (5*i)))) h λr h1=>retT r λs=>K [.string s] h1)) (by simp[kinds]) B hN (λ_ _ _ _ k hK=>itoa_s (T0.keep k) (wrng _) λh' s K'=>⟨s,rfl,hK h' _ K' rfl (cols_s s)⟩) kdS_one (by decide) rfl hQ
theorem hold3(B:Bk kinds N Z pb R tB d g0 u h)(hN:N<=500000)(hZ:Z 3)(hQ:Q (.bool true) h):F53.T (some ⟨pb,0,none⟩) h Q:=by
 unfold F53.T F53.G
 exact Bk.hold (s:=31) rfl (k:=kTexts) (by decide) (S:=F126.T) (by simp[kinds]) (λ_ _ _ _ _ C R R' e b hK=>same_s C R R' e b hK) B hN hZ hQ
theorem mark4(T0:TabP g0)(B:Bk kinds N Z pb R tB d g0 u h)(hQ:Q (.tuple ⟨[]⟩) h):F176.T (some ⟨pb,0,none⟩) h Q:=by
 unfold F176.T
 exact B.nilMark (s:=40) (c:=4) rfl (by decide) (kinds_ne (by decide)) hQ
theorem grow4(T0:TabP g0)(B:Bk kinds N Z pb R tB d g0 u h)(hQ:∀ h',Bk kinds N Z pb R tB d g0 u h'->Q (.tuple ⟨[]⟩) h'):F195.T (some ⟨pb,0,none⟩) h Q:=by
 unfold F195.T
 exact B.nilGrow (s:=40) (c:=4) rfl (by decide) (kinds_ne (by decide)) hQ
theorem hold4(B:Bk kinds N Z pb R tB d g0 u h)(hQ:Q (.bool true) h):F54.T (some ⟨pb,0,none⟩) h Q:=by
 unfold F54.T
 exact B.nilKeep (s:=40) (c:=4) rfl (by decide) (kinds_ne (by decide)) hQ
theorem mark5(T0:TabP g0)(B:Bk kinds N Z pb R tB d g0 u h)(hQ:Q (.tuple ⟨[]⟩) h):F177.T (some ⟨pb,0,none⟩) h Q:=by
 unfold F177.T
 exact B.nilMark (s:=49) (c:=5) rfl (by decide) (kinds_ne (by decide)) hQ
theorem grow5(T0:TabP g0)(B:Bk kinds N Z pb R tB d g0 u h)(hQ:∀ h',Bk kinds N Z pb R tB d g0 u h'->Q (.tuple ⟨[]⟩) h'):F196.T (some ⟨pb,0,none⟩) h Q:=by
 unfold F196.T
 exact B.nilGrow (s:=49) (c:=5) rfl (by decide) (kinds_ne (by decide)) hQ
theorem hold5(B:Bk kinds N Z pb R tB d g0 u h)(hQ:Q (.bool true) h):F55.T (some ⟨pb,0,none⟩) h Q:=by
 unfold F55.T
 exact B.nilKeep (s:=49) (c:=5) rfl (by decide) (kinds_ne (by decide)) hQ
theorem mark6(T0:TabP g0)(B:Bk kinds N Z pb R tB d g0 u h)(hQ:Q (.tuple ⟨[]⟩) h):F178.T (some ⟨pb,0,none⟩) h Q:=by
 unfold F178.T
 exact B.nilMark (s:=58) (c:=6) rfl (by decide) (kinds_ne (by decide)) hQ
theorem grow6(T0:TabP g0)(B:Bk kinds N Z pb R tB d g0 u h)(hQ:∀ h',Bk kinds N Z pb R tB d g0 u h'->Q (.tuple ⟨[]⟩) h'):F197.T (some ⟨pb,0,none⟩) h Q:=by
 unfold F197.T
 exact B.nilGrow (s:=58) (c:=6) rfl (by decide) (kinds_ne (by decide)) hQ
theorem hold6(B:Bk kinds N Z pb R tB d g0 u h)(hQ:Q (.bool true) h):F56.T (some ⟨pb,0,none⟩) h Q:=by
 unfold F56.T
 exact B.nilKeep (s:=58) (c:=6) rfl (by decide) (kinds_ne (by decide)) hQ
theorem mark7(T0:TabP g0)(B:Bk kinds N Z pb R tB d g0 u h)(hN:N<=500000)(hQ:∀ h',Bk kinds N (λ_=>False) pb R tB d g0 u h'->Q (.tuple ⟨[]⟩) h'):F179.T (some ⟨pb,0,none⟩) h Q:=by
 unfold F179.T F179.G
 exact Bk.mark (s:=67) rfl (k:=kTabs) (zs:=[.int .u64 0,.int .i64 0,.int .i64 0,.int .i64 0,.string ⟨#[]⟩,.string ⟨#[]⟩]) (OF:=(λn=>n.toNat*6)) (WR:=(λa i h K=>K [.int .u64 (wrap .u64 (wrap .i64 (a+(wrap .i64 (3*i))))),.int .i64 0,.int .i64 0,.int .i64 0,.string ⟨#[]⟩,.string ⟨#[]⟩] h)) (S:=F130.T) (by simp[kinds]) B hN (λ_ _ _ _ _ C R R' e b hK=>same_t C R R' e b hK) (by decide) (λi=>by show(i:Int).toNat*6=i*6;omega) (λ_ _ h _ _ k=>k h _ (Keep.refl h) rfl (cols_t ⟨_,_,_,_,_,_⟩)) kdT_one rfl (by decide) hQ
theorem grow7(T0:TabP g0)(B:Bk kinds N Z pb R tB d g0 u h)(hN:N<=500000)(hQ:∀ h',Bk kinds N (λc=>Z c\/c=7) pb R tB d g0 u h'->Q (.tuple ⟨[]⟩) h'):F198.T (some ⟨pb,0,none⟩) h Q:=by
 unfold F198.T
 exact Bk.grow (s:=67) rfl (k:=kTabs) (zs:=[.int .u64 0,.int .i64 0,.int .i64 0,.int .i64 0,.string ⟨#[]⟩,.string ⟨#[]⟩]) (WR:=(λa i h K=>K [.int .u64 (wrap .u64 (wrap .i64 ((wrap .i64 (a+6))+(wrap .i64 (5*i))))),.int .i64 0,.int .i64 0,.int .i64 0,.string ⟨#[]⟩,.string ⟨#[]⟩] h)) (by simp[kinds]) B hN (λ_ _ h _ _ k=>k h _ (Keep.refl h) rfl (cols_t ⟨_,_,_,_,_,_⟩)) kdT_one (by decide) rfl hQ
theorem hold7(B:Bk kinds N Z pb R tB d g0 u h)(hN:N<=500000)(hZ:Z 7)(hQ:Q (.bool true) h):F57.T (some ⟨pb,0,none⟩) h Q:=by
 unfold F57.T F57.G
 exact Bk.hold (s:=67) rfl (k:=kTabs) (by decide) (S:=F130.T) (by simp[kinds]) (λ_ _ _ _ _ C R R' e b hK=>same_t C R R' e b hK) B hN hZ hQ
theorem mark8(T0:TabP g0)(B:Bk kinds N Z pb R tB d g0 u h)(hQ:Q (.tuple ⟨[]⟩) h):F180.T (some ⟨pb,0,none⟩) h Q:=by
 unfold F180.T
 exact B.nilMark (s:=76) (c:=8) rfl (by decide) (kinds_ne (by decide)) hQ
theorem grow8(T0:TabP g0)(B:Bk kinds N Z pb R tB d g0 u h)(hQ:∀ h',Bk kinds N Z pb R tB d g0 u h'->Q (.tuple ⟨[]⟩) h'):F199.T (some ⟨pb,0,none⟩) h Q:=by
 unfold F199.T
 exact B.nilGrow (s:=76) (c:=8) rfl (by decide) (kinds_ne (by decide)) hQ
theorem hold8(B:Bk kinds N Z pb R tB d g0 u h)(hQ:Q (.bool true) h):F58.T (some ⟨pb,0,none⟩) h Q:=by
 unfold F58.T
 exact B.nilKeep (s:=76) (c:=8) rfl (by decide) (kinds_ne (by decide)) hQ
theorem mark9(T0:TabP g0)(B:Bk kinds N Z pb R tB d g0 u h)(hQ:Q (.tuple ⟨[]⟩) h):F181.T (some ⟨pb,0,none⟩) h Q:=by
 unfold F181.T
 exact B.nilMark (s:=85) (c:=9) rfl (by decide) (kinds_ne (by decide)) hQ
theorem grow9(T0:TabP g0)(B:Bk kinds N Z pb R tB d g0 u h)(hQ:∀ h',Bk kinds N Z pb R tB d g0 u h'->Q (.tuple ⟨[]⟩) h'):F200.T (some ⟨pb,0,none⟩) h Q:=by
 unfold F200.T
 exact B.nilGrow (s:=85) (c:=9) rfl (by decide) (kinds_ne (by decide)) hQ
theorem hold9(B:Bk kinds N Z pb R tB d g0 u h)(hQ:Q (.bool true) h):F59.T (some ⟨pb,0,none⟩) h Q:=by
 unfold F59.T
 exact B.nilKeep (s:=85) (c:=9) rfl (by decide) (kinds_ne (by decide)) hQ
theorem mark10(T0:TabP g0)(B:Bk kinds N Z pb R tB d g0 u h)(hQ:Q (.tuple ⟨[]⟩) h):F182.T (some ⟨pb,0,none⟩) h Q:=by
 unfold F182.T
 exact B.nilMark (s:=94) (c:=10) rfl (by decide) (kinds_ne (by decide)) hQ
theorem grow10(T0:TabP g0)(B:Bk kinds N Z pb R tB d g0 u h)(hQ:∀ h',Bk kinds N Z pb R tB d g0 u h'->Q (.tuple ⟨[]⟩) h'):F201.T (some ⟨pb,0,none⟩) h Q:=by
 unfold F201.T
 exact B.nilGrow (s:=94) (c:=10) rfl (by decide) (kinds_ne (by decide)) hQ
theorem hold10(B:Bk kinds N Z pb R tB d g0 u h)(hQ:Q (.bool true) h):F60.T (some ⟨pb,0,none⟩) h Q:=by
 unfold F60.T
 exact B.nilKeep (s:=94) (c:=10) rfl (by decide) (kinds_ne (by decide)) hQ
theorem mark11(T0:TabP g0)(B:Bk kinds N Z pb R tB d g0 u h)(hQ:Q (.tuple ⟨[]⟩) h):F183.T (some ⟨pb,0,none⟩) h Q:=by
 unfold F183.T
 exact B.nilMark (s:=103) (c:=11) rfl (by decide) (kinds_ne (by decide)) hQ
theorem grow11(T0:TabP g0)(B:Bk kinds N Z pb R tB d g0 u h)(hQ:∀ h',Bk kinds N Z pb R tB d g0 u h'->Q (.tuple ⟨[]⟩) h'):F202.T (some ⟨pb,0,none⟩) h Q:=by
 unfold F202.T
 exact B.nilGrow (s:=103) (c:=11) rfl (by decide) (kinds_ne (by decide)) hQ
theorem hold11(B:Bk kinds N Z pb R tB d g0 u h)(hQ:Q (.bool true) h):F61.T (some ⟨pb,0,none⟩) h Q:=by
 unfold F61.T
 exact B.nilKeep (s:=103) (c:=11) rfl (by decide) (kinds_ne (by decide)) hQ
theorem mark12(T0:TabP g0)(B:Bk kinds N Z pb R tB d g0 u h)(hQ:Q (.tuple ⟨[]⟩) h):F184.T (some ⟨pb,0,none⟩) h Q:=by
 unfold F184.T
 exact B.nilMark (s:=112) (c:=12) rfl (by decide) (kinds_ne (by decide)) hQ
theorem grow12(T0:TabP g0)(B:Bk kinds N Z pb R tB d g0 u h)(hQ:∀ h',Bk kinds N Z pb R tB d g0 u h'->Q (.tuple ⟨[]⟩) h'):F203.T (some ⟨pb,0,none⟩) h Q:=by
 unfold F203.T
 exact B.nilGrow (s:=112) (c:=12) rfl (by decide) (kinds_ne (by decide)) hQ
theorem hold12(B:Bk kinds N Z pb R tB d g0 u h)(hQ:Q (.bool true) h):F62.T (some ⟨pb,0,none⟩) h Q:=by
 unfold F62.T
 exact B.nilKeep (s:=112) (c:=12) rfl (by decide) (kinds_ne (by decide)) hQ
theorem mark13(T0:TabP g0)(B:Bk kinds N Z pb R tB d g0 u h)(hQ:Q (.tuple ⟨[]⟩) h):F185.T (some ⟨pb,0,none⟩) h Q:=by
 unfold F185.T
 exact B.nilMark (s:=121) (c:=13) rfl (by decide) (kinds_ne (by decide)) hQ
theorem grow13(T0:TabP g0)(B:Bk kinds N Z pb R tB d g0 u h)(hQ:∀ h',Bk kinds N Z pb R tB d g0 u h'->Q (.tuple ⟨[]⟩) h'):F204.T (some ⟨pb,0,none⟩) h Q:=by
 unfold F204.T
 exact B.nilGrow (s:=121) (c:=13) rfl (by decide) (kinds_ne (by decide)) hQ
theorem hold13(B:Bk kinds N Z pb R tB d g0 u h)(hQ:Q (.bool true) h):F63.T (some ⟨pb,0,none⟩) h Q:=by
 unfold F63.T
 exact B.nilKeep (s:=121) (c:=13) rfl (by decide) (kinds_ne (by decide)) hQ
theorem mark14(T0:TabP g0)(B:Bk kinds N Z pb R tB d g0 u h)(hQ:Q (.tuple ⟨[]⟩) h):F186.T (some ⟨pb,0,none⟩) h Q:=by
 unfold F186.T
 exact B.nilMark (s:=130) (c:=14) rfl (by decide) (kinds_ne (by decide)) hQ
theorem grow14(T0:TabP g0)(B:Bk kinds N Z pb R tB d g0 u h)(hQ:∀ h',Bk kinds N Z pb R tB d g0 u h'->Q (.tuple ⟨[]⟩) h'):F205.T (some ⟨pb,0,none⟩) h Q:=by
 unfold F205.T
 exact B.nilGrow (s:=130) (c:=14) rfl (by decide) (kinds_ne (by decide)) hQ
theorem hold14(B:Bk kinds N Z pb R tB d g0 u h)(hQ:Q (.bool true) h):F64.T (some ⟨pb,0,none⟩) h Q:=by
 unfold F64.T
 exact B.nilKeep (s:=130) (c:=14) rfl (by decide) (kinds_ne (by decide)) hQ
theorem mark15(T0:TabP g0)(B:Bk kinds N Z pb R tB d g0 u h)(hQ:Q (.tuple ⟨[]⟩) h):F187.T (some ⟨pb,0,none⟩) h Q:=by
 unfold F187.T
 exact B.nilMark (s:=139) (c:=15) rfl (by decide) (kinds_ne (by decide)) hQ
theorem grow15(T0:TabP g0)(B:Bk kinds N Z pb R tB d g0 u h)(hQ:∀ h',Bk kinds N Z pb R tB d g0 u h'->Q (.tuple ⟨[]⟩) h'):F206.T (some ⟨pb,0,none⟩) h Q:=by
 unfold F206.T
 exact B.nilGrow (s:=139) (c:=15) rfl (by decide) (kinds_ne (by decide)) hQ
theorem hold15(B:Bk kinds N Z pb R tB d g0 u h)(hQ:Q (.bool true) h):F65.T (some ⟨pb,0,none⟩) h Q:=by
 unfold F65.T
 exact B.nilKeep (s:=139) (c:=15) rfl (by decide) (kinds_ne (by decide)) hQ
theorem mark16(T0:TabP g0)(B:Bk kinds N Z pb R tB d g0 u h)(hQ:Q (.tuple ⟨[]⟩) h):F188.T (some ⟨pb,0,none⟩) h Q:=by
 unfold F188.T
 exact B.nilMark (s:=148) (c:=16) rfl (by decide) (kinds_ne (by decide)) hQ
theorem grow16(T0:TabP g0)(B:Bk kinds N Z pb R tB d g0 u h)(hQ:∀ h',Bk kinds N Z pb R tB d g0 u h'->Q (.tuple ⟨[]⟩) h'):F207.T (some ⟨pb,0,none⟩) h Q:=by
 unfold F207.T
 exact B.nilGrow (s:=148) (c:=16) rfl (by decide) (kinds_ne (by decide)) hQ
theorem hold16(B:Bk kinds N Z pb R tB d g0 u h)(hQ:Q (.bool true) h):F66.T (some ⟨pb,0,none⟩) h Q:=by
 unfold F66.T
 exact B.nilKeep (s:=148) (c:=16) rfl (by decide) (kinds_ne (by decide)) hQ
theorem mark17(T0:TabP g0)(B:Bk kinds N Z pb R tB d g0 u h)(hQ:Q (.tuple ⟨[]⟩) h):F189.T (some ⟨pb,0,none⟩) h Q:=by
 unfold F189.T
 exact B.nilMark (s:=157) (c:=17) rfl (by decide) (kinds_ne (by decide)) hQ
theorem grow17(T0:TabP g0)(B:Bk kinds N Z pb R tB d g0 u h)(hQ:∀ h',Bk kinds N Z pb R tB d g0 u h'->Q (.tuple ⟨[]⟩) h'):F208.T (some ⟨pb,0,none⟩) h Q:=by
 unfold F208.T
 exact B.nilGrow (s:=157) (c:=17) rfl (by decide) (kinds_ne (by decide)) hQ
theorem hold17(B:Bk kinds N Z pb R tB d g0 u h)(hQ:Q (.bool true) h):F67.T (some ⟨pb,0,none⟩) h Q:=by
 unfold F67.T
 exact B.nilKeep (s:=157) (c:=17) rfl (by decide) (kinds_ne (by decide)) hQ
theorem mark18(T0:TabP g0)(B:Bk kinds N Z pb R tB d g0 u h)(hQ:Q (.tuple ⟨[]⟩) h):F190.T (some ⟨pb,0,none⟩) h Q:=by
 unfold F190.T
 exact B.nilMark (s:=166) (c:=18) rfl (by decide) (kinds_ne (by decide)) hQ
theorem grow18(T0:TabP g0)(B:Bk kinds N Z pb R tB d g0 u h)(hQ:∀ h',Bk kinds N Z pb R tB d g0 u h'->Q (.tuple ⟨[]⟩) h'):F209.T (some ⟨pb,0,none⟩) h Q:=by
 unfold F209.T
 exact B.nilGrow (s:=166) (c:=18) rfl (by decide) (kinds_ne (by decide)) hQ
theorem hold18(B:Bk kinds N Z pb R tB d g0 u h)(hQ:Q (.bool true) h):F68.T (some ⟨pb,0,none⟩) h Q:=by
 unfold F68.T
 exact B.nilKeep (s:=166) (c:=18) rfl (by decide) (kinds_ne (by decide)) hQ
theorem marks(T0:TabP g0)(B:Bk kinds N Z pb R tB d g0 u h)(hN:N<=500000)(hQ:∀ h',Bk kinds N (λ_=>False) pb R tB d g0 u h'->Q (.tuple ⟨[]⟩) h'):F146.T (some ⟨pb,0,none⟩) h Q:=by
 unfold F146.T F146.G
 replace B:=B.mono (Z':=λ_=>False) (λ_ _ q=>q.elim)
 refine mark0 T0 B ?_
 refine mark1 T0 B ?_
 refine mark2 T0 B hN λh B=>?_
 refine mark3 T0 B hN λh B=>?_
 refine mark4 T0 B ?_
 refine mark5 T0 B ?_
 refine mark6 T0 B ?_
 refine mark7 T0 B hN λh B=>?_
 refine mark8 T0 B ?_
 refine mark9 T0 B ?_
 refine mark10 T0 B ?_
 refine mark11 T0 B ?_
 refine mark12 T0 B ?_
 refine mark13 T0 B ?_
 refine mark14 T0 B ?_
 refine mark15 T0 B ?_
 refine mark16 T0 B ?_
 refine mark17 T0 B ?_
 refine mark18 T0 B ?_
 exact hQ _ B
theorem grows(T0:TabP g0)(B:Bk kinds N Z pb R tB d g0 u h)(hN:N<=500000)(hQ:∀ h',Bk kinds N (λc=>∃ k∈kinds,k.c=c) pb R tB d g0 u h'->Q (.tuple ⟨[]⟩) h'):F147.T (some ⟨pb,0,none⟩) h Q:=by
 unfold F147.T F147.G
 replace B:=B.mono (Z':=λ_=>False) (λ_ _ q=>q.elim)
 refine grow0 T0 B λh B=>?_
 refine grow1 T0 B λh B=>?_
 refine grow2 T0 B hN λh B=>?_
 refine grow3 T0 B hN λh B=>?_
 refine grow4 T0 B λh B=>?_
 refine grow5 T0 B λh B=>?_
 refine grow6 T0 B λh B=>?_
 refine grow7 T0 B hN λh B=>?_
 refine grow8 T0 B λh B=>?_
 refine grow9 T0 B λh B=>?_
 refine grow10 T0 B λh B=>?_
 refine grow11 T0 B λh B=>?_
 refine grow12 T0 B λh B=>?_
 refine grow13 T0 B λh B=>?_
 refine grow14 T0 B λh B=>?_
 refine grow15 T0 B λh B=>?_
 refine grow16 T0 B λh B=>?_
 refine grow17 T0 B λh B=>?_
 refine grow18 T0 B λh B=>?_
 refine hQ _ (B.mono λk hk _=>?_)
 simp only[kinds,mem_cons,List.not_mem_nil,or_false] at hk
 rcases hk with rfl|rfl|rfl<;>simp[kNums,kTexts,kTabs]
theorem done_{d1:Int}(T0:TabP g0)(B:Bk kinds N Z pb R tB d1 g0 u h)(hN:N<=500000)(hd:wrap .i64 (d1-1)=d)(hZ:¬ (0<d)->∀ k∈kinds,Z k.c)(hQ:∀ h',Bk kinds N Z pb R tB d g0 u h'->Q (.tuple ⟨[]⟩) h'):F82.T (some ⟨pb,0,none⟩) h Q:=by
 unfold F82.T F82.G
 refine Bk.done (A:=F146.T (some ⟨pb,0,none⟩)) (B:=F147.T (some ⟨pb,0,none⟩)) B hd hZ (λh Q B hQ=>marks T0 B hN hQ) (λh Q B hQ=>grows T0 B hN hQ) hQ
theorem due_{turn n:Int}{K:Value->Hp->Prop}(h0:h.at pb (0+0)=some (.bool false))(h2:h.at pb (0+2)=some (.int .i64 turn))(hK:∀ d:Int,K (.int .i64 d) h):F81.T (some ⟨pb,0,none⟩) n h K:=by
 unfold F81.T
 exact⟨pb,0,rfl,false,h0,λq=>Bool.noConfusion q,λ_=>⟨by decide,λ_=>⟨pb,0,rfl,turn,h2,hK _⟩,λ_=>⟨by decide,λ_=>⟨pb,0,rfl,turn,h2,by decide,by decide,hK _⟩,λ_=>⟨pb,0,rfl,turn,h2,hK _⟩⟩⟩⟩
theorem add2{a b:Nat}{l:Sl}{vs:List Value}{mark:Int}(T0:TabP g0)(B:Bk kinds N Z pb R tB d g0 u h)(hN:N<500000)(hd:0<=d/\d<100)(hZ:¬ (0<d)->∀ k∈kinds,Z k.c)(hu:u (kU a b)=some ⟨l,1,48,vs⟩)(hv:Cols kdU 1 vs)(hn:(l.n+30)*8<=140737488355328)(hQ:∀ h',Bk kinds (N+1) Z pb R tB d g0 (u.del (kU a b)) h'->Q (.tuple ⟨[]⟩) h'):F39.T (some ⟨pb,0,none⟩) l mark h Q:=by
 unfold F39.T F39.G
 exact Bk.add (s:=22) rfl (k:=kNums) (zs:=[.int .u64 0]) (U:=F81.T (some ⟨pb,0,none⟩)) (D:=F82.T (some ⟨pb,0,none⟩)) (by simp[kinds]) B (by omega) hu hv kdU_one rfl hn (λ_ _ _ _ h0 h2 hK=>due_ h0 h2 hK) (λh' Q' B' hQ'=>done_ T0 B' (by omega) (by rw[wrap_i64 (n:=d+1) (by omega) (by omega),wrap_i64 (by omega) (by omega)];omega) hZ hQ') hQ
theorem add3{a b:Nat}{l:Sl}{vs:List Value}{mark:Int}(T0:TabP g0)(B:Bk kinds N Z pb R tB d g0 u h)(hN:N<500000)(hd:0<=d/\d<100)(hZ:¬ (0<d)->∀ k∈kinds,Z k.c)(hu:u (kU a b)=some ⟨l,1,9,vs⟩)(hv:Cols kdS 1 vs)(hn:(l.n+30)*16<=140737488355328)(hQ:∀ h',Bk kinds (N+1) Z pb R tB d g0 (u.del (kU a b)) h'->Q (.tuple ⟨[]⟩) h'):F48.T (some ⟨pb,0,none⟩) l mark h Q:=by
 unfold F48.T F48.G
 exact Bk.add (s:=31) rfl (k:=kTexts) (zs:=[.string ⟨#[]⟩]) (U:=F81.T (some ⟨pb,0,none⟩)) (D:=F82.T (some ⟨pb,0,none⟩)) (by simp[kinds]) B (by omega) hu hv kdS_one rfl hn (λ_ _ _ _ h0 h2 hK=>due_ h0 h2 hK) (λh' Q' B' hQ'=>done_ T0 B' (by omega) (by rw[wrap_i64 (n:=d+1) (by omega) (by omega),wrap_i64 (by omega) (by omega)];omega) hZ hQ') hQ
theorem add7{a b:Nat}{l:Sl}{vs:List Value}{mark:Int}(T0:TabP g0)(B:Bk kinds N Z pb R tB d g0 u h)(hN:N<500000)(hd:0<=d/\d<100)(hZ:¬ (0<d)->∀ k∈kinds,Z k.c)(hu:u (kU a b)=some ⟨l,6,63,vs⟩)(hv:Cols kdT 6 vs)(hn:(l.n+30)*64<=140737488355328)(hQ:∀ h',Bk kinds (N+1) Z pb R tB d g0 (u.del (kU a b)) h'->Q (.tuple ⟨[]⟩) h'):F90.T (some ⟨pb,0,none⟩) l mark h Q:=by
 unfold F90.T F90.G
 exact Bk.add (s:=67) rfl (k:=kTabs) (zs:=[.int .u64 0,.int .i64 0,.int .i64 0,.int .i64 0,.string ⟨#[]⟩,.string ⟨#[]⟩]) (U:=F81.T (some ⟨pb,0,none⟩)) (D:=F82.T (some ⟨pb,0,none⟩)) (by simp[kinds]) B (by omega) hu hv kdT_one rfl hn (λ_ _ _ _ h0 h2 hK=>due_ h0 h2 hK) (λh' Q' B' hQ'=>done_ T0 B' (by omega) (by rw[wrap_i64 (n:=d+1) (by omega) (by omega),wrap_i64 (by omega) (by omega)];omega) hZ hQ') hQ
theorem hold_(B:Bk kinds N Z pb R tB d g0 u h)(hN:N<=500000)(hZ:∀ k∈kinds,Z k.c)(hQ:Q (.bool true) h):F10.T (some ⟨pb,0,none⟩) h Q:=by
 unfold F10.T F10.G
 obtain⟨g,m,cs,K,M⟩:=B
 refine⟨pb,0,rfl,false,M.O.cell M.hb M.c1,λq=>Bool.noConfusion q,λ_=>?_⟩
 have B:Bk kinds N Z pb R tB d g0 u h:=⟨g,m,cs,K,M⟩
 refine hold0 B ⟨true,rfl,λ_=>?_,λq=>Bool.noConfusion q⟩
 refine hold1 B ⟨true,rfl,λ_=>?_,λq=>Bool.noConfusion q⟩
 refine hold2 B hN (hZ kNums (by simp[kinds])) ⟨true,rfl,λ_=>?_,λq=>Bool.noConfusion q⟩
 refine hold3 B hN (hZ kTexts (by simp[kinds])) ⟨true,rfl,λ_=>?_,λq=>Bool.noConfusion q⟩
 refine hold4 B ⟨true,rfl,λ_=>?_,λq=>Bool.noConfusion q⟩
 refine hold5 B ⟨true,rfl,λ_=>?_,λq=>Bool.noConfusion q⟩
 refine hold6 B ⟨true,rfl,λ_=>?_,λq=>Bool.noConfusion q⟩
 refine hold7 B hN (hZ kTabs (by simp[kinds])) ⟨true,rfl,λ_=>?_,λq=>Bool.noConfusion q⟩
 refine hold8 B ⟨true,rfl,λ_=>?_,λq=>Bool.noConfusion q⟩
 refine hold9 B ⟨true,rfl,λ_=>?_,λq=>Bool.noConfusion q⟩
 refine hold10 B ⟨true,rfl,λ_=>?_,λq=>Bool.noConfusion q⟩
 refine hold11 B ⟨true,rfl,λ_=>?_,λq=>Bool.noConfusion q⟩
 refine hold12 B ⟨true,rfl,λ_=>?_,λq=>Bool.noConfusion q⟩
 refine hold13 B ⟨true,rfl,λ_=>?_,λq=>Bool.noConfusion q⟩
 refine hold14 B ⟨true,rfl,λ_=>?_,λq=>Bool.noConfusion q⟩
 refine hold15 B ⟨true,rfl,λ_=>?_,λq=>Bool.noConfusion q⟩
 refine hold16 B ⟨true,rfl,λ_=>?_,λq=>Bool.noConfusion q⟩
 refine hold17 B ⟨true,rfl,λ_=>?_,λq=>Bool.noConfusion q⟩
 refine hold18 B ⟨true,rfl,λ_=>?_,λq=>Bool.noConfusion q⟩
 exact hQ
end
end Go.Eng.YtbjnlacacapjiaaGreatDoor
end
section
namespace Go.Eng.YtbjnlacacapjiaaGreatDoor
open Go.Eng
def Mv(g h g' h':Hp):Prop:=Keep g' h'/\∀ b x,g b=none->h b=some x->kd x≠50->g' b=none/\h' b=some x
section
variable{g h g' h':Hp}{z:Lb}{i j b:Nat}
theorem Mv.inn:Mv emp (on h z i) (off h z i) h:=⟨off_k,λb x _ e _=>⟨off_i (on_s e).1,(on_s e).2⟩⟩
theorem Mv.out:Mv (off h z i) h' emp (on h' (lab h z i) i):=⟨λ_ _ e=>(by cases e),λb x n e _=>⟨rfl,by
 have:lab h z i b=i:=by
  cases e2:h b with
  |none=>exact lab_n e2
  |some w=>
   rw[lab_s e2]
   apply Classical.byContradiction
   intro hne
   rw[off_n hne,e2] at n;cases n
 rw[on_i this];exact e⟩⟩
theorem Mv.rl{o:Obj}(hb:h b=some o)(ho:kd o=50):Mv emp (on h z i) emp (on h (rl z b j) i):=⟨λ_ _ e=>(by cases e),λk x _ e hk=>⟨rfl,by
 obtain⟨e1,e2⟩:=on_s e
 have hne:k≠b:=by rintro rfl;rw[hb] at e2;cases e2;exact hk ho
 rw[on_i (by unfold Go.Eng.rl;rw[if_neg hne];exact e1)];exact e2⟩⟩
theorem Mv.keep(K:Keep h h'):Mv emp h emp h':=⟨λ_ _ e=>(by cases e),λb x _ e _=>⟨rfl,K _ _ e⟩⟩
theorem Mv.buf(M:Mv g h g' h'){s:Sl}{sz t:Nat}{vs:List Value}(N:NewN g s)(B:Buf h s sz t vs)(ht:t≠48):NewN g' s/\Buf h' s sz t vs:=by
 rcases B.own with⟨ha,hc⟩|⟨b,c,f,ha,hb,x⟩
 ·exact⟨.inl ha,B.len,B.cap,.inl ⟨ha,hc⟩⟩
 ·rcases N with n|⟨b',e,n⟩
  ·rw[ha] at n;cases n
  ·rw[ha] at e
   simp only[Option.some.injEq,Addr.mk.injEq,and_true] at e
   subst e
   obtain⟨n1,h1⟩:=M.2 b _ n hb (by show t+2≠50;omega)
   exact⟨.inr ⟨b,ha,n1⟩,B.len,B.cap,.inr ⟨b,c,f,ha,h1,x⟩⟩
theorem Lvs.mv{ls:Sl}{xs:List (Sl×List Tab)}(M:Mv g h g' h')(L:Lvs g h ls xs):Lvs g' h' ls xs:=
 ⟨M.1,(M.buf L.nl L.l (by decide)).1,(M.buf L.nl L.l (by decide)).2,λx hx=>(M.buf (L.n x hx) (L.t x hx) (by decide)).2,λx hx=>(M.buf (L.n x hx) (L.t x hx) (by decide)).1,L.d⟩
theorem Ver.mv{vb:Nat}{ls:Sl}{xs:List (Sl×List Tab)}(M:Mv g h g' h')(V:Ver g h vb ls xs):Ver g' h' vb ls xs:=
 ⟨V.L.mv M,(M.2 _ _ V.nv V.v (by simp[kd])).1,(M.2 _ _ V.nv V.v (by simp[kd])).2⟩
theorem VerO.mv{b:Nat}{lv:Lv}(M:Mv g h g' h')(V:VerO g h b lv):VerO g' h' b lv:=by
 obtain⟨ls,xs,V,e⟩:=V
 exact⟨ls,xs,V.mv M,e⟩
theorem DVer.mv{wb nm:Nat}{lv:Lv}(M:Mv g h g' h')(V:DVer g h wb nm lv):DVer g' h' wb nm lv:=by
 obtain⟨ls,xs,L,n,v,e⟩:=V
 have:=M.2 _ _ n v (by simp[kd])
 exact⟨ls,xs,L.mv M,this.1,this.2,e⟩
theorem SetP.mv{sb vb pm cm:Nat}{ps ls:Sl}{xs:List (Sl×List Tab)}{ptrs:List ByteArray}{L:List Pn}(M:Mv g h g' h')(S:SetP g h sb vb pm cm ps ls xs ptrs L):SetP g' h' sb vb pm cm ps ls xs ptrs L:=by
 have s:=M.2 _ _ S.ns S.s (by simp[kd])
 obtain⟨c,hc,hi⟩:=S.m
 have m:=M.2 _ _ S.nm hc (by simp[kd])
 obtain⟨es,c2,h2,h3⟩:=S.c
 have n:=M.2 _ _ S.nc h2 (by simp[kd])
 have p:=M.buf S.np S.p (by decide)
 exact⟨S.V.mv M,s.1,s.2,p.1,p.2,m.1,⟨c,m.2,hi⟩,S.ni,S.nb,λq hq=>(S.pv q hq).mv M,n.1,⟨es,c2,n.2,h3⟩,S.ne⟩
theorem SetD.mv{sb:Nat}{al pi ps:Sl}{D:List (Nat×Lv)}{pins:List Nat}{ptrs:List ByteArray}(M:Mv g h g' h')(S:SetD g h sb al pi ps D pins ptrs):SetD g' h' sb al pi ps D pins ptrs:=by
 obtain⟨d,e,hs⟩:=S.s
 have s:=M.2 _ _ S.ns hs (by simp[kd])
 have a:=M.buf S.na S.a (by decide)
 have i:=M.buf S.ni S.i (by decide)
 have p:=M.buf S.np S.p (by decide)
 exact⟨M.1,s.1,⟨d,e,s.2⟩,a.1,a.2,i.1,i.2,p.1,p.2,S.pl,λi d hd=>(S.v i d hd).mv M,S.nd⟩
theorem VerO.whole{b:Nat}{lv:Lv}(V:VerO emp (on h z i) b lv):VerO (off h z i) h b lv:=V.mv Mv.inn
theorem held_mem{now:Lv}{P P':List Lv}(hm:∀ v,v∈P↔v∈P')(k:Int):held now P k↔held now P' k:=by
 unfold held
 constructor
 ·rintro(h|⟨v,hv,h⟩)
  ·exact .inl h
  ·exact .inr ⟨v,(hm v).1 hv,h⟩
 ·rintro(h|⟨v,hv,h⟩)
  ·exact .inl h
  ·exact .inr ⟨v,(hm v).2 hv,h⟩
theorem goneM_mem{now:Lv}{P P':List Lv}(hm:∀ v,v∈P↔v∈P')(v:Lv):goneM now P v=goneM now P' v:=by
 unfold goneM
 have:(λk=>decide (¬ held now P k))=(λk=>decide (¬ held now P' k)):=by
  funext k
  have:=held_mem (now:=now) hm k
  simp only[this]
 simp only[this]
end
end Go.Eng.YtbjnlacacapjiaaGreatDoor
end
section
open Go.Proofs
namespace Go.Eng.YtbjnlacacapjiaaGreatDoor
def F167.T(n:Int):PT:=λh Q=>
 (2:Int)≠0/\par ((Int.tmod n 2)=0) (Q (.int .i64 (-7701)) h) (Q (.int .i64 (-7702)) h)
theorem F167.den(V n):denF Tryz.prog [] [] V [] Tryz.f167 [.v (.int .i64 n)]=F167.T n:=by kernel_rfl
def F167.W(T167:Int->PT)(args:List Value):PT:=match args with
 |[.int .i64 n]=>T167 n
 |_=>λ_ _=>False
def F167.V:List Value->PT:=F167.W F167.T
theorem F167.ok:FOk Tryz.prog 167 F167.V:=by
 refine⟨⟨_,Tryz.func167,rfl,rfl⟩,λ_=>?_⟩;unfold F167.V F167.W;split;exact denF_okE (GOk.nil) noV_ok Tryz.func167 (F167.den noV _);exact λ_ _ h=>h.elim
def F168.T(n:Int):PT:=λh Q=>
 (2:Int)≠0/\par ((Int.tmod n 2)=0) (Q (.string (ByteArray.mk #[60,111,110,101,62])) h) (Q (.string (ByteArray.mk #[60,116,119,111,62])) h)
theorem F168.den(V n):denF Tryz.prog [] [] V [] Tryz.f168 [.v (.int .i64 n)]=F168.T n:=by kernel_rfl
def F168.W(T168:Int->PT)(args:List Value):PT:=match args with
 |[.int .i64 n]=>T168 n
 |_=>λ_ _=>False
def F168.V:List Value->PT:=F168.W F168.T
theorem F168.ok:FOk Tryz.prog 168 F168.V:=by
 refine⟨⟨_,Tryz.func168,rfl,rfl⟩,λ_=>?_⟩;unfold F168.V F168.W;split;exact denF_okE (GOk.nil) noV_ok Tryz.func168 (F168.den noV _);exact λ_ _ h=>h.elim
@[reducible] def F150.G(T167:Int->PT)(p:Option Addr)(l:Sl)(n:Int):PT:=λh Q=>
 nw h (.cells ⟨[]⟩ 116 (0,0)) λb h1=>∃ vs,h1.row l.a (l.n*2) vs/\(∀ v∈vs,Value.oneCell' v=true)/\appendD ⟨(some ⟨b,0,none⟩),0,0⟩ 116 2 16 [.int .i64 0,.int .u64 0] l.n vs h1 λl1 h2=>∃ (I:Sl->Int->Hp->Prop) (m:Sl->Int->Hp->Nat),I l1 0 h2/\(∀ l2:Sl,∀ n1:Int,∀ h3:Hp,I l2 n1 h3->par (n1<n) (T167 n1 h3 λr h4=>retI .i64 r λn2=>appendD l2 116 2 16 [.int .i64 0,.int .u64 0] 1 [.int .i64 n2,.int .u64 0] h4 λl3 h5=>I l3 (wrap .i64 (n1+1)) h5/\m l3 (wrap .i64 (n1+1)) h5<m l2 n1 h3) (dr p λb1 o=>ldS h3 b1 (o+16) λl4=>appendD l4 49 1 24 [.slice none 0 0] 1 [.slice l2.a l2.n l2.c] h3 λl5 h6=>dr p λb2 o1=>st h6 b2 (o1+16) 1 [.slice l5.a l5.n l5.c] λh7=>dr p λb3 o2=>ldS h7 b3 (o2+17) λl6=>appendD l6 3 1 8 [.int .i64 0] 1 [.int .i64 (l.n:Int)] h7 λl7 h8=>dr p λb4 o3=>st h8 b4 (o3+17) 1 [.slice l7.a l7.n l7.c] λh9=>Sl.okCut l2 0 (l.n:Int) (l2.n:Int)/\Q (.slice (Sl.cut l2 2 0 (l.n:Int) (l2.n:Int)).a (Sl.cut l2 2 0 (l.n:Int) (l2.n:Int)).n (Sl.cut l2 2 0 (l.n:Int) (l2.n:Int)).c) h9))
def F150.T:=F150.G F167.T
theorem F150.gen(V T167 p l n):denF Tryz.prog [22,30,41] [(167,F167.W T167)] V [(122,.loop [(7,.sl),(8,.int .i64)] [])] Tryz.f150 [.v (.pointer p),.v (.slice l.a l.n l.c),.v (.int .i64 n)]=F150.G T167 p l n:=by kernel_rfl
def F150.W(T150:Option Addr->Sl->Int->PT)(args:List Value):PT:=match args with
 |[.pointer p,.slice l_a l_n l_c,.int .i64 n]=>T150 p ⟨l_a,l_n,l_c⟩ n
 |_=>λ_ _=>False
def F150.V:List Value->PT:=F150.W F150.T
theorem F150.ok:FOk Tryz.prog 150 F150.V:=by
 refine⟨⟨_,Tryz.func150,rfl,rfl⟩,λ_=>?_⟩;unfold F150.V F150.W;split;exact denF_okE (GOk.cons F167.ok (GOk.nil)) noV_ok Tryz.func150 (F150.gen noV F167.T _ ⟨_,_,_⟩ _);exact λ_ _ h=>h.elim
@[reducible] def F151.G(T167:Int->PT)(p:Option Addr)(l:Sl)(n:Int):PT:=λh Q=>
 nw h (.cells ⟨[]⟩ 65 (0,0)) λb h1=>∃ vs,h1.row l.a (l.n*7) vs/\(∀ v∈vs,Value.oneCell' v=true)/\appendD ⟨(some ⟨b,0,none⟩),0,0⟩ 65 7 72 [.int .i64 0,.int .u64 0,.int .i64 0,.int .i64 0,.int .i64 0,.string ⟨#[]⟩,.string ⟨#[]⟩] l.n vs h1 λl1 h2=>∃ (I:Sl->Int->Hp->Prop) (m:Sl->Int->Hp->Nat),I l1 0 h2/\(∀ l2:Sl,∀ n1:Int,∀ h3:Hp,I l2 n1 h3->par (n1<n) (T167 n1 h3 λr h4=>retI .i64 r λn2=>appendD l2 65 7 72 [.int .i64 0,.int .u64 0,.int .i64 0,.int .i64 0,.int .i64 0,.string ⟨#[]⟩,.string ⟨#[]⟩] 1 [.int .i64 n2,.int .u64 0,.int .i64 0,.int .i64 0,.int .i64 0,.string ⟨#[]⟩,.string ⟨#[]⟩] h4 λl3 h5=>I l3 (wrap .i64 (n1+1)) h5/\m l3 (wrap .i64 (n1+1)) h5<m l2 n1 h3) (dr p λb1 o=>ldS h3 b1 (o+18) λl4=>appendD l4 50 1 24 [.slice none 0 0] 1 [.slice l2.a l2.n l2.c] h3 λl5 h6=>dr p λb2 o1=>st h6 b2 (o1+18) 1 [.slice l5.a l5.n l5.c] λh7=>dr p λb3 o2=>ldS h7 b3 (o2+19) λl6=>appendD l6 3 1 8 [.int .i64 0] 1 [.int .i64 (l.n:Int)] h7 λl7 h8=>dr p λb4 o3=>st h8 b4 (o3+19) 1 [.slice l7.a l7.n l7.c] λh9=>Sl.okCut l2 0 (l.n:Int) (l2.n:Int)/\Q (.slice (Sl.cut l2 7 0 (l.n:Int) (l2.n:Int)).a (Sl.cut l2 7 0 (l.n:Int) (l2.n:Int)).n (Sl.cut l2 7 0 (l.n:Int) (l2.n:Int)).c) h9))
def F151.T:=F151.G F167.T
theorem F151.gen(V T167 p l n):denF Tryz.prog [22,30,41] [(167,F167.W T167)] V [(122,.loop [(7,.sl),(8,.int .i64)] [])] Tryz.f151 [.v (.pointer p),.v (.slice l.a l.n l.c),.v (.int .i64 n)]=F151.G T167 p l n:=by kernel_rfl
def F151.W(T151:Option Addr->Sl->Int->PT)(args:List Value):PT:=match args with
 |[.pointer p,.slice l_a l_n l_c,.int .i64 n]=>T151 p ⟨l_a,l_n,l_c⟩ n
 |_=>λ_ _=>False
def F151.V:List Value->PT:=F151.W F151.T
theorem F151.ok:FOk Tryz.prog 151 F151.V:=by
 refine⟨⟨_,Tryz.func151,rfl,rfl⟩,λ_=>?_⟩;unfold F151.V F151.W;split;exact denF_okE (GOk.cons F167.ok (GOk.nil)) noV_ok Tryz.func151 (F151.gen noV F167.T _ ⟨_,_,_⟩ _);exact λ_ _ h=>h.elim
@[reducible] def F152.G(T168:Int->PT)(p:Option Addr)(l:Sl)(n:Int):PT:=λh Q=>
 nw h (.cells ⟨[]⟩ 9 (0,0)) λb h1=>∃ vs,h1.row l.a (l.n*1) vs/\(∀ v∈vs,Value.oneCell' v=true)/\appendD ⟨(some ⟨b,0,none⟩),0,0⟩ 9 1 16 [.string ⟨#[]⟩] l.n vs h1 λl1 h2=>∃ (I:Sl->Int->Hp->Prop) (m:Sl->Int->Hp->Nat),I l1 0 h2/\(∀ l2:Sl,∀ n1:Int,∀ h3:Hp,I l2 n1 h3->par (n1<n) (T168 n1 h3 λr h4=>retT r λs=>appendD l2 9 1 16 [.string ⟨#[]⟩] 1 [.string s] h4 λl3 h5=>I l3 (wrap .i64 (n1+1)) h5/\m l3 (wrap .i64 (n1+1)) h5<m l2 n1 h3) (dr p λb1 o=>ldS h3 b1 (o+6) λl4=>appendD l4 51 1 24 [.slice none 0 0] 1 [.slice l2.a l2.n l2.c] h3 λl5 h6=>dr p λb2 o1=>st h6 b2 (o1+6) 1 [.slice l5.a l5.n l5.c] λh7=>dr p λb3 o2=>ldS h7 b3 (o2+7) λl6=>appendD l6 3 1 8 [.int .i64 0] 1 [.int .i64 (l.n:Int)] h7 λl7 h8=>dr p λb4 o3=>st h8 b4 (o3+7) 1 [.slice l7.a l7.n l7.c] λh9=>Sl.okCut l2 0 (l.n:Int) (l2.n:Int)/\Q (.slice (Sl.cut l2 1 0 (l.n:Int) (l2.n:Int)).a (Sl.cut l2 1 0 (l.n:Int) (l2.n:Int)).n (Sl.cut l2 1 0 (l.n:Int) (l2.n:Int)).c) h9))
def F152.T:=F152.G F168.T
theorem F152.gen(V T168 p l n):denF Tryz.prog [21,29,40] [(168,F168.W T168)] V [(122,.loop [(7,.sl),(8,.int .i64)] [])] Tryz.f152 [.v (.pointer p),.v (.slice l.a l.n l.c),.v (.int .i64 n)]=F152.G T168 p l n:=by kernel_rfl
def F152.W(T152:Option Addr->Sl->Int->PT)(args:List Value):PT:=match args with
 |[.pointer p,.slice l_a l_n l_c,.int .i64 n]=>T152 p ⟨l_a,l_n,l_c⟩ n
 |_=>λ_ _=>False
def F152.V:List Value->PT:=F152.W F152.T
theorem F152.ok:FOk Tryz.prog 152 F152.V:=by
 refine⟨⟨_,Tryz.func152,rfl,rfl⟩,λ_=>?_⟩;unfold F152.V F152.W;split;exact denF_okE (GOk.cons F168.ok (GOk.nil)) noV_ok Tryz.func152 (F152.gen noV F168.T _ ⟨_,_,_⟩ _);exact λ_ _ h=>h.elim
@[reducible] def F92.G(T150:Option Addr->Sl->Int->PT)(p:Option Addr)(l:Sl):PT:=λh Q=>
 T150 p l 40 h λr h1=>retS r λl1=>Q (.slice l1.a l1.n l1.c) h1
def F92.T:=F92.G F150.T
theorem F92.gen(V T150 p l):denF Tryz.prog [] [(150,F150.W T150)] V [] Tryz.f92 [.v (.pointer p),.v (.slice l.a l.n l.c)]=F92.G T150 p l:=by kernel_rfl
def F92.W(T92:Option Addr->Sl->PT)(args:List Value):PT:=match args with
 |[.pointer p,.slice l_a l_n l_c]=>T92 p ⟨l_a,l_n,l_c⟩
 |_=>λ_ _=>False
def F92.V:List Value->PT:=F92.W F92.T
theorem F92.ok:FOk Tryz.prog 92 F92.V:=by
 refine⟨⟨_,Tryz.func92,rfl,rfl⟩,λ_=>?_⟩;unfold F92.V F92.W;split;exact denF_okE (GOk.cons F150.ok (GOk.nil)) noV_ok Tryz.func92 (F92.gen noV F150.T _ ⟨_,_,_⟩);exact λ_ _ h=>h.elim
@[reducible] def F93.G(T151:Option Addr->Sl->Int->PT)(p:Option Addr)(l:Sl):PT:=λh Q=>
 T151 p l 40 h λr h1=>retS r λl1=>Q (.slice l1.a l1.n l1.c) h1
def F93.T:=F93.G F151.T
theorem F93.gen(V T151 p l):denF Tryz.prog [] [(151,F151.W T151)] V [] Tryz.f93 [.v (.pointer p),.v (.slice l.a l.n l.c)]=F93.G T151 p l:=by kernel_rfl
def F93.W(T93:Option Addr->Sl->PT)(args:List Value):PT:=match args with
 |[.pointer p,.slice l_a l_n l_c]=>T93 p ⟨l_a,l_n,l_c⟩
 |_=>λ_ _=>False
def F93.V:List Value->PT:=F93.W F93.T
theorem F93.ok:FOk Tryz.prog 93 F93.V:=by
 refine⟨⟨_,Tryz.func93,rfl,rfl⟩,λ_=>?_⟩;unfold F93.V F93.W;split;exact denF_okE (GOk.cons F151.ok (GOk.nil)) noV_ok Tryz.func93 (F93.gen noV F151.T _ ⟨_,_,_⟩);exact λ_ _ h=>h.elim
@[reducible] def F94.G(T152:Option Addr->Sl->Int->PT)(p:Option Addr)(l:Sl):PT:=λh Q=>
 T152 p l 40 h λr h1=>retS r λl1=>Q (.slice l1.a l1.n l1.c) h1
def F94.T:=F94.G F152.T
theorem F94.gen(V T152 p l):denF Tryz.prog [] [(152,F152.W T152)] V [] Tryz.f94 [.v (.pointer p),.v (.slice l.a l.n l.c)]=F94.G T152 p l:=by kernel_rfl
def F94.W(T94:Option Addr->Sl->PT)(args:List Value):PT:=match args with
 |[.pointer p,.slice l_a l_n l_c]=>T94 p ⟨l_a,l_n,l_c⟩
 |_=>λ_ _=>False
def F94.V:List Value->PT:=F94.W F94.T
theorem F94.ok:FOk Tryz.prog 94 F94.V:=by
 refine⟨⟨_,Tryz.func94,rfl,rfl⟩,λ_=>?_⟩;unfold F94.V F94.W;split;exact denF_okE (GOk.cons F152.ok (GOk.nil)) noV_ok Tryz.func94 (F94.gen noV F152.T _ ⟨_,_,_⟩);exact λ_ _ h=>h.elim
@[reducible] def F32.G(T92 T93 T94:Option Addr->Sl->PT)(p:Option Addr)(n n1 n2:Int)(l l1 l2:Sl):PT:=λh Q=>
 T92 p l h λr h1=>retS r λl3=>T93 p l1 h1 λr1 h2=>retS r1 λl4=>T94 p l2 h2 λr2 h3=>retS r2 λl5=>Q (.agg ⟨[.int .u64 n,.int .u64 n1,.int .u64 n2,.slice l3.a l3.n l3.c,.slice l4.a l4.n l4.c,.slice l5.a l5.n l5.c]⟩) h3
def F32.T:=F32.G F92.T F93.T F94.T
theorem F32.gen(V T92 T93 T94 p n n1 n2 l l1 l2):denF Tryz.prog [3,4] [(92,F92.W T92),(93,F93.W T93),(94,F94.W T94)] V [] Tryz.f32 [.v (.pointer p),.v (.agg ⟨[.int .u64 n,.int .u64 n1,.int .u64 n2,.slice l.a l.n l.c,.slice l1.a l1.n l1.c,.slice l2.a l2.n l2.c]⟩)]=F32.G T92 T93 T94 p n n1 n2 l l1 l2:=by kernel_rfl
def F32.W(T32:Option Addr->Int->Int->Int->Sl->Sl->Sl->PT)(args:List Value):PT:=match args with
 |[.pointer p,.agg ⟨[.int .u64 n,.int .u64 n1,.int .u64 n2,.slice l_a l_n l_c,.slice l1_a l1_n l1_c,.slice l2_a l2_n l2_c]⟩]=>T32 p n n1 n2 ⟨l_a,l_n,l_c⟩ ⟨l1_a,l1_n,l1_c⟩ ⟨l2_a,l2_n,l2_c⟩
 |_=>λ_ _=>False
def F32.V:List Value->PT:=F32.W F32.T
theorem F32.ok:FOk Tryz.prog 32 F32.V:=by
 refine⟨⟨_,Tryz.func32,rfl,rfl⟩,λ_=>?_⟩;unfold F32.V F32.W;split;exact denF_okE (GOk.cons F92.ok (GOk.cons F93.ok (GOk.cons F94.ok (GOk.nil)))) noV_ok Tryz.func32 (F32.gen noV F92.T F93.T F94.T _ _ _ _ ⟨_,_,_⟩ ⟨_,_,_⟩ ⟨_,_,_⟩);exact λ_ _ h=>h.elim
def F101.T(p:Option Addr):PT:=λh Q=>
 ∃ (I:Int->Hp->Prop) (m:Int->Hp->Nat),I 0 h/\(∀ n:Int,∀ h1:Hp,I n h1->dr p λb o=>ldS h1 b o λl=>par (n<(l.n:Int)) (False) (Q (.bool true) h1))
theorem F101.den(V p):denF Tryz.prog [] [] V [(26,.loop [(3,.int .i64)] []),(105,.cut)] Tryz.f101 [.v (.pointer p)]=F101.T p:=by kernel_rfl
def F101.W(T101:Option Addr->PT)(args:List Value):PT:=match args with
 |[.pointer p]=>T101 p
 |_=>λ_ _=>False
def F101.V:List Value->PT:=F101.W F101.T
theorem F101.ok:FOk Tryz.prog 101 F101.V:=by
 refine⟨⟨_,Tryz.func101,rfl,rfl⟩,λ_=>?_⟩;unfold F101.V F101.W;split;exact denF_okE (GOk.nil) noV_ok Tryz.func101 (F101.den noV _);exact λ_ _ h=>h.elim
def F102.T(p:Option Addr):PT:=λh Q=>
 ∃ (I:Int->Hp->Prop) (m:Int->Hp->Nat),I 0 h/\(∀ n:Int,∀ h1:Hp,I n h1->dr p λb o=>ldS h1 b (o+2) λl=>par (n<(l.n:Int)) (False) (Q (.bool true) h1))
theorem F102.den(V p):denF Tryz.prog [] [] V [(26,.loop [(3,.int .i64)] []),(105,.cut)] Tryz.f102 [.v (.pointer p)]=F102.T p:=by kernel_rfl
def F102.W(T102:Option Addr->PT)(args:List Value):PT:=match args with
 |[.pointer p]=>T102 p
 |_=>λ_ _=>False
def F102.V:List Value->PT:=F102.W F102.T
theorem F102.ok:FOk Tryz.prog 102 F102.V:=by
 refine⟨⟨_,Tryz.func102,rfl,rfl⟩,λ_=>?_⟩;unfold F102.V F102.W;split;exact denF_okE (GOk.nil) noV_ok Tryz.func102 (F102.den noV _);exact λ_ _ h=>h.elim
def F103.T(p:Option Addr):PT:=λh Q=>
 ∃ (I:Int->Hp->Prop) (m:Int->Hp->Nat),I 0 h/\(∀ n:Int,∀ h1:Hp,I n h1->dr p λb o=>ldS h1 b (o+4) λl=>par (n<(l.n:Int)) (False) (Q (.bool true) h1))
theorem F103.den(V p):denF Tryz.prog [] [] V [(26,.loop [(3,.int .i64)] []),(105,.cut)] Tryz.f103 [.v (.pointer p)]=F103.T p:=by kernel_rfl
def F103.W(T103:Option Addr->PT)(args:List Value):PT:=match args with
 |[.pointer p]=>T103 p
 |_=>λ_ _=>False
def F103.V:List Value->PT:=F103.W F103.T
theorem F103.ok:FOk Tryz.prog 103 F103.V:=by
 refine⟨⟨_,Tryz.func103,rfl,rfl⟩,λ_=>?_⟩;unfold F103.V F103.W;split;exact denF_okE (GOk.nil) noV_ok Tryz.func103 (F103.den noV _);exact λ_ _ h=>h.elim
@[reducible] def F104.G(T168:Int->PT)(p:Option Addr):PT:=λh Q=>
 ∃ (I:Int->Hp->Prop) (m:Int->Hp->Nat),I 0 h/\(∀ n:Int,∀ h1:Hp,I n h1->dr p λb o=>ldS h1 b (o+6) λl=>par (n<(l.n:Int)) (dr p λb1 o1=>ldS h1 b1 (o1+7) λl1=>ix l1.a n l1.n λb2 o2=>ldI .i64 h1 b2 (o2+n.toNat) λn1=>∃ (I1:Int->Hp->Prop) (m1:Int->Hp->Nat),I1 n1 h1/\(∀ n2:Int,∀ h2:Hp,I1 n2 h2->dr p λb3 o3=>ldS h2 b3 (o3+6) λl2=>ix l2.a n l2.n λb4 o4=>ldS h2 b4 (o4+n.toNat) λl3=>par (n2<(l3.n:Int)) (dr p λb5 o5=>ldS h2 b5 (o5+6) λl4=>ix l4.a n l4.n λb6 o6=>ldS h2 b6 (o6+n.toNat) λl5=>ix l5.a n2 l5.n λb7 o7=>ldT h2 b7 (o7+n2.toNat) λs=>T168 (wrap .i64 (n2-n1)) h2 λr h3=>retT r λs1=>par (s=s1) (I1 (wrap .i64 (n2+1)) h3/\m1 (wrap .i64 (n2+1)) h3<m1 n2 h2) (Q (.bool false) h3)) (I (wrap .i64 (n+1)) h2/\m (wrap .i64 (n+1)) h2<m n h1))) (Q (.bool true) h1))
def F104.T:=F104.G F168.T
theorem F104.gen(V T168 p):denF Tryz.prog [] [(168,F168.W T168)] V [(26,.loop [(3,.int .i64)] []),(3366,.loop [(5,.int .i64)] [])] Tryz.f104 [.v (.pointer p)]=F104.G T168 p:=by kernel_rfl
def F104.W(T104:Option Addr->PT)(args:List Value):PT:=match args with
 |[.pointer p]=>T104 p
 |_=>λ_ _=>False
def F104.V:List Value->PT:=F104.W F104.T
theorem F104.ok:FOk Tryz.prog 104 F104.V:=by
 refine⟨⟨_,Tryz.func104,rfl,rfl⟩,λ_=>?_⟩;unfold F104.V F104.W;split;exact denF_okE (GOk.cons F168.ok (GOk.nil)) noV_ok Tryz.func104 (F104.gen noV F168.T _);exact λ_ _ h=>h.elim
def F105.T(p:Option Addr):PT:=λh Q=>
 ∃ (I:Int->Hp->Prop) (m:Int->Hp->Nat),I 0 h/\(∀ n:Int,∀ h1:Hp,I n h1->dr p λb o=>ldS h1 b (o+8) λl=>par (n<(l.n:Int)) (False) (Q (.bool true) h1))
theorem F105.den(V p):denF Tryz.prog [6] [] V [(26,.loop [(3,.int .i64)] []),(105,.cut)] Tryz.f105 [.v (.pointer p)]=F105.T p:=by kernel_rfl
def F105.W(T105:Option Addr->PT)(args:List Value):PT:=match args with
 |[.pointer p]=>T105 p
 |_=>λ_ _=>False
def F105.V:List Value->PT:=F105.W F105.T
theorem F105.ok:FOk Tryz.prog 105 F105.V:=by
 refine⟨⟨_,Tryz.func105,rfl,rfl⟩,λ_=>?_⟩;unfold F105.V F105.W;split;exact denF_okE (GOk.nil) noV_ok Tryz.func105 (F105.den noV _);exact λ_ _ h=>h.elim
def F106.T(p:Option Addr):PT:=λh Q=>
 ∃ (I:Int->Hp->Prop) (m:Int->Hp->Nat),I 0 h/\(∀ n:Int,∀ h1:Hp,I n h1->dr p λb o=>ldS h1 b (o+10) λl=>par (n<(l.n:Int)) (False) (Q (.bool true) h1))
theorem F106.den(V p):denF Tryz.prog [6] [] V [(26,.loop [(3,.int .i64)] []),(105,.cut)] Tryz.f106 [.v (.pointer p)]=F106.T p:=by kernel_rfl
def F106.W(T106:Option Addr->PT)(args:List Value):PT:=match args with
 |[.pointer p]=>T106 p
 |_=>λ_ _=>False
def F106.V:List Value->PT:=F106.W F106.T
theorem F106.ok:FOk Tryz.prog 106 F106.V:=by
 refine⟨⟨_,Tryz.func106,rfl,rfl⟩,λ_=>?_⟩;unfold F106.V F106.W;split;exact denF_okE (GOk.nil) noV_ok Tryz.func106 (F106.den noV _);exact λ_ _ h=>h.elim
def F107.T(p:Option Addr):PT:=λh Q=>
 ∃ (I:Int->Hp->Prop) (m:Int->Hp->Nat),I 0 h/\(∀ n:Int,∀ h1:Hp,I n h1->dr p λb o=>ldS h1 b (o+12) λl=>par (n<(l.n:Int)) (False) (Q (.bool true) h1))
theorem F107.den(V p):denF Tryz.prog [6] [] V [(26,.loop [(3,.int .i64)] []),(105,.cut)] Tryz.f107 [.v (.pointer p)]=F107.T p:=by kernel_rfl
def F107.W(T107:Option Addr->PT)(args:List Value):PT:=match args with
 |[.pointer p]=>T107 p
 |_=>λ_ _=>False
def F107.V:List Value->PT:=F107.W F107.T
theorem F107.ok:FOk Tryz.prog 107 F107.V:=by
 refine⟨⟨_,Tryz.func107,rfl,rfl⟩,λ_=>?_⟩;unfold F107.V F107.W;split;exact denF_okE (GOk.nil) noV_ok Tryz.func107 (F107.den noV _);exact λ_ _ h=>h.elim
def F108.T(p:Option Addr):PT:=λh Q=>
 ∃ (I:Int->Hp->Prop) (m:Int->Hp->Nat),I 0 h/\(∀ n:Int,∀ h1:Hp,I n h1->dr p λb o=>ldS h1 b (o+14) λl=>par (n<(l.n:Int)) (False) (Q (.bool true) h1))
theorem F108.den(V p):denF Tryz.prog [6] [] V [(26,.loop [(3,.int .i64)] []),(105,.cut)] Tryz.f108 [.v (.pointer p)]=F108.T p:=by kernel_rfl
def F108.W(T108:Option Addr->PT)(args:List Value):PT:=match args with
 |[.pointer p]=>T108 p
 |_=>λ_ _=>False
def F108.V:List Value->PT:=F108.W F108.T
theorem F108.ok:FOk Tryz.prog 108 F108.V:=by
 refine⟨⟨_,Tryz.func108,rfl,rfl⟩,λ_=>?_⟩;unfold F108.V F108.W;split;exact denF_okE (GOk.nil) noV_ok Tryz.func108 (F108.den noV _);exact λ_ _ h=>h.elim
@[reducible] def F109.G(T167:Int->PT)(p:Option Addr):PT:=λh Q=>
 ∃ (I:Int->Hp->Prop) (m:Int->Hp->Nat),I 0 h/\(∀ n:Int,∀ h1:Hp,I n h1->dr p λb o=>ldS h1 b (o+16) λl=>par (n<(l.n:Int)) (dr p λb1 o1=>ldS h1 b1 (o1+17) λl1=>ix l1.a n l1.n λb2 o2=>ldI .i64 h1 b2 (o2+n.toNat) λn1=>∃ (I1:Int->Hp->Prop) (m1:Int->Hp->Nat),I1 n1 h1/\(∀ n2:Int,∀ h2:Hp,I1 n2 h2->dr p λb3 o3=>ldS h2 b3 (o3+16) λl2=>ix l2.a n l2.n λb4 o4=>ldS h2 b4 (o4+n.toNat) λl3=>par (n2<(l3.n:Int)) (dr p λb5 o5=>ldS h2 b5 (o5+16) λl4=>ix l4.a n l4.n λb6 o6=>ldS h2 b6 (o6+n.toNat) λl5=>ix l5.a n2 l5.n λb7 o7=>ldI .i64 h2 b7 (o7+n2.toNat*2) λn3=>ldI .u64 h2 b7 ((o7+n2.toNat*2)+1) λn4=>T167 (wrap .i64 (n2-n1)) h2 λr h3=>retI .i64 r λn5=>par (([.int .i64 n3,.int .u64 n4]:List Value)=[.int .i64 n5,.int .u64 0]) (I1 (wrap .i64 (n2+1)) h3/\m1 (wrap .i64 (n2+1)) h3<m1 n2 h2) (Q (.bool false) h3)) (I (wrap .i64 (n+1)) h2/\m (wrap .i64 (n+1)) h2<m n h1))) (Q (.bool true) h1))
def F109.T:=F109.G F167.T
theorem F109.gen(V T167 p):denF Tryz.prog [6] [(167,F167.W T167)] V [(26,.loop [(3,.int .i64)] []),(3366,.loop [(5,.int .i64)] []),(215442,.order [0,1,2,3,4,5,6])] Tryz.f109 [.v (.pointer p)]=F109.G T167 p:=by kernel_rfl
def F109.W(T109:Option Addr->PT)(args:List Value):PT:=match args with
 |[.pointer p]=>T109 p
 |_=>λ_ _=>False
def F109.V:List Value->PT:=F109.W F109.T
theorem F109.ok:FOk Tryz.prog 109 F109.V:=by
 refine⟨⟨_,Tryz.func109,rfl,rfl⟩,λ_=>?_⟩;unfold F109.V F109.W;split;exact denF_okE (GOk.cons F167.ok (GOk.nil)) noV_ok Tryz.func109 (F109.gen noV F167.T _);exact λ_ _ h=>h.elim
@[reducible] def F110.G(T167:Int->PT)(p:Option Addr):PT:=λh Q=>
 ∃ (I:Int->Hp->Prop) (m:Int->Hp->Nat),I 0 h/\(∀ n:Int,∀ h1:Hp,I n h1->dr p λb o=>ldS h1 b (o+18) λl=>par (n<(l.n:Int)) (dr p λb1 o1=>ldS h1 b1 (o1+19) λl1=>ix l1.a n l1.n λb2 o2=>ldI .i64 h1 b2 (o2+n.toNat) λn1=>∃ (I1:Int->Hp->Prop) (m1:Int->Hp->Nat),I1 n1 h1/\(∀ n2:Int,∀ h2:Hp,I1 n2 h2->dr p λb3 o3=>ldS h2 b3 (o3+18) λl2=>ix l2.a n l2.n λb4 o4=>ldS h2 b4 (o4+n.toNat) λl3=>par (n2<(l3.n:Int)) (dr p λb5 o5=>ldS h2 b5 (o5+18) λl4=>ix l4.a n l4.n λb6 o6=>ldS h2 b6 (o6+n.toNat) λl5=>ix l5.a n2 l5.n λb7 o7=>ldI .i64 h2 b7 (o7+n2.toNat*7) λn3=>ldI .u64 h2 b7 ((o7+n2.toNat*7)+1) λn4=>ldI .i64 h2 b7 ((o7+n2.toNat*7)+2) λn5=>ldI .i64 h2 b7 ((o7+n2.toNat*7)+3) λn6=>ldI .i64 h2 b7 ((o7+n2.toNat*7)+4) λn7=>ldT h2 b7 ((o7+n2.toNat*7)+5) λs=>ldT h2 b7 ((o7+n2.toNat*7)+6) λs1=>T167 (wrap .i64 (n2-n1)) h2 λr h3=>retI .i64 r λn8=>par (([.int .i64 n3,.int .u64 n4,.int .i64 n5,.int .i64 n6,.int .i64 n7,.string s,.string s1]:List Value)=[.int .i64 n8,.int .u64 0,.int .i64 0,.int .i64 0,.int .i64 0,.string ⟨#[]⟩,.string ⟨#[]⟩]) (I1 (wrap .i64 (n2+1)) h3/\m1 (wrap .i64 (n2+1)) h3<m1 n2 h2) (Q (.bool false) h3)) (I (wrap .i64 (n+1)) h2/\m (wrap .i64 (n+1)) h2<m n h1))) (Q (.bool true) h1))
def F110.T:=F110.G F167.T
theorem F110.gen(V T167 p):denF Tryz.prog [6] [(167,F167.W T167)] V [(26,.loop [(3,.int .i64)] []),(3366,.loop [(5,.int .i64)] []),(215442,.order [0,1,2,3,4,5,6])] Tryz.f110 [.v (.pointer p)]=F110.G T167 p:=by kernel_rfl
def F110.W(T110:Option Addr->PT)(args:List Value):PT:=match args with
 |[.pointer p]=>T110 p
 |_=>λ_ _=>False
def F110.V:List Value->PT:=F110.W F110.T
theorem F110.ok:FOk Tryz.prog 110 F110.V:=by
 refine⟨⟨_,Tryz.func110,rfl,rfl⟩,λ_=>?_⟩;unfold F110.V F110.W;split;exact denF_okE (GOk.cons F167.ok (GOk.nil)) noV_ok Tryz.func110 (F110.gen noV F167.T _);exact λ_ _ h=>h.elim
def F111.T(p:Option Addr):PT:=λh Q=>
 ∃ (I:Int->Hp->Prop) (m:Int->Hp->Nat),I 0 h/\(∀ n:Int,∀ h1:Hp,I n h1->dr p λb o=>ldS h1 b (o+20) λl=>par (n<(l.n:Int)) (False) (Q (.bool true) h1))
theorem F111.den(V p):denF Tryz.prog [] [] V [(26,.loop [(3,.int .i64)] []),(105,.cut)] Tryz.f111 [.v (.pointer p)]=F111.T p:=by kernel_rfl
def F111.W(T111:Option Addr->PT)(args:List Value):PT:=match args with
 |[.pointer p]=>T111 p
 |_=>λ_ _=>False
def F111.V:List Value->PT:=F111.W F111.T
theorem F111.ok:FOk Tryz.prog 111 F111.V:=by
 refine⟨⟨_,Tryz.func111,rfl,rfl⟩,λ_=>?_⟩;unfold F111.V F111.W;split;exact denF_okE (GOk.nil) noV_ok Tryz.func111 (F111.den noV _);exact λ_ _ h=>h.elim
def F112.T(p:Option Addr):PT:=λh Q=>
 ∃ (I:Int->Hp->Prop) (m:Int->Hp->Nat),I 0 h/\(∀ n:Int,∀ h1:Hp,I n h1->dr p λb o=>ldS h1 b (o+22) λl=>par (n<(l.n:Int)) (False) (Q (.bool true) h1))
theorem F112.den(V p):denF Tryz.prog [] [] V [(26,.loop [(3,.int .i64)] []),(105,.cut)] Tryz.f112 [.v (.pointer p)]=F112.T p:=by kernel_rfl
def F112.W(T112:Option Addr->PT)(args:List Value):PT:=match args with
 |[.pointer p]=>T112 p
 |_=>λ_ _=>False
def F112.V:List Value->PT:=F112.W F112.T
theorem F112.ok:FOk Tryz.prog 112 F112.V:=by
 refine⟨⟨_,Tryz.func112,rfl,rfl⟩,λ_=>?_⟩;unfold F112.V F112.W;split;exact denF_okE (GOk.nil) noV_ok Tryz.func112 (F112.den noV _);exact λ_ _ h=>h.elim
def F113.T(p:Option Addr):PT:=λh Q=>
 ∃ (I:Int->Hp->Prop) (m:Int->Hp->Nat),I 0 h/\(∀ n:Int,∀ h1:Hp,I n h1->dr p λb o=>ldS h1 b (o+24) λl=>par (n<(l.n:Int)) (False) (Q (.bool true) h1))
theorem F113.den(V p):denF Tryz.prog [6] [] V [(26,.loop [(3,.int .i64)] []),(105,.cut)] Tryz.f113 [.v (.pointer p)]=F113.T p:=by kernel_rfl
def F113.W(T113:Option Addr->PT)(args:List Value):PT:=match args with
 |[.pointer p]=>T113 p
 |_=>λ_ _=>False
def F113.V:List Value->PT:=F113.W F113.T
theorem F113.ok:FOk Tryz.prog 113 F113.V:=by
 refine⟨⟨_,Tryz.func113,rfl,rfl⟩,λ_=>?_⟩;unfold F113.V F113.W;split;exact denF_okE (GOk.nil) noV_ok Tryz.func113 (F113.den noV _);exact λ_ _ h=>h.elim
def F114.T(p:Option Addr):PT:=λh Q=>
 ∃ (I:Int->Hp->Prop) (m:Int->Hp->Nat),I 0 h/\(∀ n:Int,∀ h1:Hp,I n h1->dr p λb o=>ldS h1 b (o+26) λl=>par (n<(l.n:Int)) (False) (Q (.bool true) h1))
theorem F114.den(V p):denF Tryz.prog [6] [] V [(26,.loop [(3,.int .i64)] []),(105,.cut)] Tryz.f114 [.v (.pointer p)]=F114.T p:=by kernel_rfl
def F114.W(T114:Option Addr->PT)(args:List Value):PT:=match args with
 |[.pointer p]=>T114 p
 |_=>λ_ _=>False
def F114.V:List Value->PT:=F114.W F114.T
theorem F114.ok:FOk Tryz.prog 114 F114.V:=by
 refine⟨⟨_,Tryz.func114,rfl,rfl⟩,λ_=>?_⟩;unfold F114.V F114.W;split;exact denF_okE (GOk.nil) noV_ok Tryz.func114 (F114.den noV _);exact λ_ _ h=>h.elim
@[reducible] def F38.G(T101 T102 T103 T104 T105 T106 T107 T108 T109 T110 T111 T112 T113 T114:Option Addr->PT)(p:Option Addr):PT:=λh Q=>
 T101 p h λr h1=>retB r (T102 p h1 λr1 h2=>retB r1 (T103 p h2 λr2 h3=>retB r2 (T104 p h3 λr3 h4=>retB r3 (T105 p h4 λr4 h5=>retB r4 (T106 p h5 λr5 h6=>retB r5 (T107 p h6 λr6 h7=>retB r6 (T108 p h7 λr7 h8=>retB r7 (T109 p h8 λr8 h9=>retB r8 (T110 p h9 λr9 h10=>retB r9 (T111 p h10 λr10 h11=>retB r10 (T112 p h11 λr11 h12=>retB r11 (T113 p h12 λr12 h13=>retB r12 (T114 p h13 λr13 h14=>retB r13 (Q (.bool true) h14) (Q (.bool false) h14)) (Q (.bool false) h13)) (Q (.bool false) h12)) (Q (.bool false) h11)) (Q (.bool false) h10)) (Q (.bool false) h9)) (Q (.bool false) h8)) (Q (.bool false) h7)) (Q (.bool false) h6)) (Q (.bool false) h5)) (Q (.bool false) h4)) (Q (.bool false) h3)) (Q (.bool false) h2)) (Q (.bool false) h1)
def F38.T:=F38.G F101.T F102.T F103.T F104.T F105.T F106.T F107.T F108.T F109.T F110.T F111.T F112.T F113.T F114.T
theorem F38.gen(V T101 T102 T103 T104 T105 T106 T107 T108 T109 T110 T111 T112 T113 T114 p):denF Tryz.prog [] [(101,F101.W T101),(102,F102.W T102),(103,F103.W T103),(104,F104.W T104),(105,F105.W T105),(106,F106.W T106),(107,F107.W T107),(108,F108.W T108),(109,F109.W T109),(110,F110.W T110),(111,F111.W T111),(112,F112.W T112),(113,F113.W T113),(114,F114.W T114)] V [] Tryz.f38 [.v (.pointer p)]=F38.G T101 T102 T103 T104 T105 T106 T107 T108 T109 T110 T111 T112 T113 T114 p:=by kernel_rfl
def F38.W(T38:Option Addr->PT)(args:List Value):PT:=match args with
 |[.pointer p]=>T38 p
 |_=>λ_ _=>False
def F38.V:List Value->PT:=F38.W F38.T
theorem F38.ok:FOk Tryz.prog 38 F38.V:=by
 refine⟨⟨_,Tryz.func38,rfl,rfl⟩,λ_=>?_⟩;unfold F38.V F38.W;split;exact denF_okE (GOk.cons F101.ok (GOk.cons F102.ok (GOk.cons F103.ok (GOk.cons F104.ok (GOk.cons F105.ok (GOk.cons F106.ok (GOk.cons F107.ok (GOk.cons F108.ok (GOk.cons F109.ok (GOk.cons F110.ok (GOk.cons F111.ok (GOk.cons F112.ok (GOk.cons F113.ok (GOk.cons F114.ok (GOk.nil))))))))))))))) noV_ok Tryz.func38 (F38.gen noV F101.T F102.T F103.T F104.T F105.T F106.T F107.T F108.T F109.T F110.T F111.T F112.T F113.T F114.T _);exact λ_ _ h=>h.elim
end Go.Eng.YtbjnlacacapjiaaGreatDoor
end
section
open Go.Proofs
namespace Go.Eng.YtbjnlacacapjiaaGreatDoor
@[reducible] def F6.G(T25 T26:Int->PT)(T27 T28:Option Addr->PT)(n:Int):PT:=λh Q=>
 T25 n h λr h1=>retP r λp=>T26 n h1 λr1 h2=>retP r1 λp1=>nw h2 (.cells ⟨[.pointer p,.pointer p1,.slice none 0 0,.slice none 0 0]⟩ 95 (0,0)) λb h3=>ldP h3 b 0 λp2=>okPtr h3 p2 none/\par ((p2:Option Addr)=none) (Q (.pointer none) h3) (ldP h3 b 0 λp3=>T27 p3 h3 λr2 h4=>retP r2 λp4=>okPtr h4 p4 none/\par ((p4:Option Addr)=none) (Q (.pointer none) h4) (ldS h4 b 2 λl=>ldP h4 b 0 λp5=>T27 p5 h4 λr3 h5=>retP r3 λp6=>h5.at b 2=some (.slice l.a l.n l.c)/\h5.at b 2=some (.slice l.a l.n l.c)/\appendD l 71 1 8 [.pointer none] 1 [.pointer p6] h5 λl1 h6=>st h6 b 2 1 [.slice l1.a l1.n l1.c] λh7=>ldS h7 b 3 λl2=>ldP h7 b 1 λp7=>T28 p7 h7 λr4 h8=>retP r4 λp8=>h8.at b 3=some (.slice l2.a l2.n l2.c)/\h8.at b 3=some (.slice l2.a l2.n l2.c)/\appendD l2 97 1 8 [.pointer none] 1 [.pointer p8] h8 λl3 h9=>st h9 b 3 1 [.slice l3.a l3.n l3.c] λh10=>Q (.pointer (some ⟨b,0,none⟩)) h10))
def F6.T:=F6.G F25.T F26.T F27.T F28.T
theorem F6.gen(V T25 T26 T27 T28 n):denF Tryz.prog [33,47] [(25,F25.W T25),(26,F26.W T26),(27,F27.W T27),(28,F28.W T28)] V [(30,.order [0,1,2,3,4,5,6,7,8,9,10,11,12,13,14]),(62,.order [0,1,2,3,4,5,6,7,8,9,10,11,12,13,14])] Tryz.f6 [.v (.int .i64 n)]=F6.G T25 T26 T27 T28 n:=by kernel_rfl
def F6.W(T6:Int->PT)(args:List Value):PT:=match args with
 |[.int .i64 n]=>T6 n
 |_=>λ_ _=>False
def F6.V:List Value->PT:=F6.W F6.T
theorem F6.ok:FOk Tryz.prog 6 F6.V:=by
 refine⟨⟨_,Tryz.func6,rfl,rfl⟩,λ_=>?_⟩;unfold F6.V F6.W;split;exact denF_okE (GOk.cons F25.ok (GOk.cons F26.ok (GOk.cons F27.ok (GOk.cons F28.ok (GOk.nil))))) noV_ok Tryz.func6 (F6.gen noV F25.T F26.T F27.T F28.T _);exact λ_ _ h=>h.elim
@[reducible] def F9.G(T27 T28:Option Addr->PT)(p:Option Addr):PT:=λh Q=>
 dr p λb o=>ldP h b o λp1=>dr p λb1 o1=>ldP h b1 (o1+1) λp2=>T27 p1 h λr h1=>retP r λp3=>h1.at b1 (o1+1)=some (.pointer p2)/\T28 p2 h1 λr1 h2=>retP r1 λp4=>okPtr h2 p3 none/\par ((p3:Option Addr)=none) (Q (.bool false) h2) (dr p λb2 o2=>ldP h2 b2 o2 λp5=>T27 p5 h2 λr2 h3=>retP r2 λp6=>okPtr h3 p6 p3/\par ((p6:Option Addr)=p3) (∃ (I:Int->Hp->Prop) (m:Int->Hp->Nat),I 0 h3/\(∀ n:Int,∀ h4:Hp,I n h4->dr p λb3 o3=>ldS h4 b3 (o3+3) λl=>par (n<(l.n:Int)) (∃ J:Hp->Prop,(∀ h5:Hp,J h5->dr p λb4 o4=>ldS h5 b4 (o4+3) λl1=>ix l1.a n l1.n λb5 o5=>ldP h5 b5 (o5+n.toNat) λp7=>okPtr h5 p7 p4/\par ((p7:Option Addr)=p4) (Q (.bool true) h5) (I (wrap .i64 (n+1)) h5/\m (wrap .i64 (n+1)) h5<m n h4))/\(dr p λb6 o6=>ldS h4 b6 (o6+3) λl2=>ix l2.a n l2.n λb7 o7=>ldP h4 b7 (o7+n.toNat) λp8=>okPtr h4 p8 p4/\par ((p8:Option Addr)=p4) (dr p λb8 o8=>ldS h4 b8 (o8+2) λl3=>ix l3.a n l3.n λb9 o9=>ldP h4 b9 (o9+n.toNat) λp9=>okPtr h4 p9 p3/\par ((p9:Option Addr)=p3) (par ((true:Bool)=true) (J h4) (Q (.bool false) h4)) (par ((true:Bool)=false) (J h4) (Q (.bool false) h4))) (dr p λb10 o10=>ldS h4 b10 (o10+2) λl4=>ix l4.a n l4.n λb11 o11=>ldP h4 b11 (o11+n.toNat) λp10=>okPtr h4 p10 p3/\par ((p10:Option Addr)=p3) (par ((false:Bool)=true) (J h4) (Q (.bool false) h4)) (par ((false:Bool)=false) (J h4) (Q (.bool false) h4))))) (dr p λb12 o12=>ldS h4 b12 (o12+2) λl5=>appendD l5 71 1 8 [.pointer none] 1 [.pointer p3] h4 λl6 h6=>dr p λb13 o13=>st h6 b13 (o13+2) 1 [.slice l6.a l6.n l6.c] λh7=>dr p λb14 o14=>ldS h7 b14 (o14+3) λl7=>appendD l7 97 1 8 [.pointer none] 1 [.pointer p4] h7 λl8 h8=>dr p λb15 o15=>st h8 b15 (o15+3) 1 [.slice l8.a l8.n l8.c] λh9=>Q (.bool true) h9))) (Q (.bool false) h3))
def F9.T:=F9.G F27.T F28.T
theorem F9.gen(V T27 T28 p):denF Tryz.prog [70,80] [(27,F27.W T27),(28,F28.W T28)] V [(6,.order [0,1,2,3,5,6,7,8,4,9,10,11]),(122,.loop [(5,.int .i64)] []),(1956,.join [] []),(7824,.order [0,1,2,3,4,5,6,7,8,9,10,11,12,13,14,15,16,17,18])] Tryz.f9 [.v (.pointer p)]=F9.G T27 T28 p:=by kernel_rfl
def F9.W(T9:Option Addr->PT)(args:List Value):PT:=match args with
 |[.pointer p]=>T9 p
 |_=>λ_ _=>False
def F9.V:List Value->PT:=F9.W F9.T
theorem F9.ok:FOk Tryz.prog 9 F9.V:=by
 refine⟨⟨_,Tryz.func9,rfl,rfl⟩,λ_=>?_⟩;unfold F9.V F9.W;split;exact denF_okE (GOk.cons F27.ok (GOk.cons F28.ok (GOk.nil))) noV_ok Tryz.func9 (F9.gen noV F27.T F28.T _);exact λ_ _ h=>h.elim
def F42.T(p:Option Addr)(n:Int):PT:=λh Q=>
 dr p λb o=>ldS h b (o+2) λl=>(l.n:Int)≠0/\par ((Int.tmod n (l.n:Int))<0) (dr p λb1 o1=>ldS h b1 (o1+2) λl1=>Q (.int .i64 (wrap .i64 ((Int.tmod n (l.n:Int))+(l1.n:Int)))) h) (Q (.int .i64 (Int.tmod n (l.n:Int))) h)
theorem F42.den(V p n):denF Tryz.prog [] [] V [] Tryz.f42 [.v (.pointer p),.v (.int .i64 n)]=F42.T p n:=by kernel_rfl
def F42.W(T42:Option Addr->Int->PT)(args:List Value):PT:=match args with
 |[.pointer p,.int .i64 n]=>T42 p n
 |_=>λ_ _=>False
def F42.V:List Value->PT:=F42.W F42.T
theorem F42.ok:FOk Tryz.prog 42 F42.V:=by
 refine⟨⟨_,Tryz.func42,rfl,rfl⟩,λ_=>?_⟩;unfold F42.V F42.W;split;exact denF_okE (GOk.nil) noV_ok Tryz.func42 (F42.den noV _ _);exact λ_ _ h=>h.elim
def F46.T(l l1:Sl):PT:=λh Q=>
 par ((l.n:Int)=(l1.n:Int)) (∃ (I:Int->Hp->Prop) (m:Int->Hp->Nat),I 0 h/\(∀ n:Int,∀ h1:Hp,I n h1->par (n<(l.n:Int)) (ix l.a n l.n λb o=>ldT h1 b (o+n.toNat) λs=>ix l1.a n l1.n λb1 o1=>ldT h1 b1 (o1+n.toNat) λs1=>par (s=s1) (I (wrap .i64 (n+1)) h1/\m (wrap .i64 (n+1)) h1<m n h1) (Q (.bool false) h1)) (Q (.bool true) h1))) (Q (.bool false) h)
theorem F46.den(V l l1):denF Tryz.prog [] [] V [(58,.loop [(5,.int .i64)] []),(1864,.order [0,1,2,3,4,5,6,7,8])] Tryz.f46 [.v (.slice l.a l.n l.c),.v (.slice l1.a l1.n l1.c)]=F46.T l l1:=by kernel_rfl
def F46.W(T46:Sl->Sl->PT)(args:List Value):PT:=match args with
 |[.slice l_a l_n l_c,.slice l1_a l1_n l1_c]=>T46 ⟨l_a,l_n,l_c⟩ ⟨l1_a,l1_n,l1_c⟩
 |_=>λ_ _=>False
def F46.V:List Value->PT:=F46.W F46.T
theorem F46.ok:FOk Tryz.prog 46 F46.V:=by
 refine⟨⟨_,Tryz.func46,rfl,rfl⟩,λ_=>?_⟩;unfold F46.V F46.W;split;exact denF_okE (GOk.nil) noV_ok Tryz.func46 (F46.den noV ⟨_,_,_⟩ ⟨_,_,_⟩);exact λ_ _ h=>h.elim
@[reducible] def F37.G(T46:Sl->Sl->PT)(n n1 n2:Int)(l l1 l2:Sl)(n3 n4 n5:Int)(l3 l4 l5:Sl):PT:=λh Q=>
 par (n=n3) (par (n1=n4) (par (n2=n5) (par ((l.n:Int)=(l3.n:Int)) (par ((l1.n:Int)=(l4.n:Int)) (T46 l2 l5 h λr h1=>retB r (∃ (I:Int->Hp->Prop) (m:Int->Hp->Nat),I 0 h1/\(∀ n6:Int,∀ h2:Hp,I n6 h2->par (n6<(l.n:Int)) (ix l.a n6 l.n λb o=>ldI .i64 h2 b (o+n6.toNat*2) λn7=>ldI .u64 h2 b ((o+n6.toNat*2)+1) λn8=>ix l3.a n6 l3.n λb1 o1=>ldI .i64 h2 b1 (o1+n6.toNat*2) λn9=>ldI .u64 h2 b1 ((o1+n6.toNat*2)+1) λn10=>par (([.int .i64 n7,.int .u64 n8]:List Value)=[.int .i64 n9,.int .u64 n10]) (I (wrap .i64 (n6+1)) h2/\m (wrap .i64 (n6+1)) h2<m n6 h2) (Q (.bool false) h2)) (∃ (I1:Int->Hp->Prop) (m1:Int->Hp->Nat),I1 0 h2/\(∀ n11:Int,∀ h3:Hp,I1 n11 h3->par (n11<(l1.n:Int)) (ix l1.a n11 l1.n λb2 o2=>ldI .i64 h3 b2 (o2+n11.toNat*7) λn12=>ldI .u64 h3 b2 ((o2+n11.toNat*7)+1) λn13=>ldI .i64 h3 b2 ((o2+n11.toNat*7)+2) λn14=>ldI .i64 h3 b2 ((o2+n11.toNat*7)+3) λn15=>ldI .i64 h3 b2 ((o2+n11.toNat*7)+4) λn16=>ldT h3 b2 ((o2+n11.toNat*7)+5) λs=>ldT h3 b2 ((o2+n11.toNat*7)+6) λs1=>ix l4.a n11 l4.n λb3 o3=>ldI .i64 h3 b3 (o3+n11.toNat*7) λn17=>ldI .u64 h3 b3 ((o3+n11.toNat*7)+1) λn18=>ldI .i64 h3 b3 ((o3+n11.toNat*7)+2) λn19=>ldI .i64 h3 b3 ((o3+n11.toNat*7)+3) λn20=>ldI .i64 h3 b3 ((o3+n11.toNat*7)+4) λn21=>ldT h3 b3 ((o3+n11.toNat*7)+5) λs2=>ldT h3 b3 ((o3+n11.toNat*7)+6) λs3=>par (([.int .i64 n12,.int .u64 n13,.int .i64 n14,.int .i64 n15,.int .i64 n16,.string s,.string s1]:List Value)=[.int .i64 n17,.int .u64 n18,.int .i64 n19,.int .i64 n20,.int .i64 n21,.string s2,.string s3]) (I1 (wrap .i64 (n11+1)) h3/\m1 (wrap .i64 (n11+1)) h3<m1 n11 h3) (Q (.bool false) h3)) (Q (.bool true) h3))))) (Q (.bool false) h1)) (Q (.bool false) h)) (Q (.bool false) h)) (Q (.bool false) h)) (Q (.bool false) h)) (Q (.bool false) h)
def F37.T:=F37.G F46.T
theorem F37.gen(V T46 n n1 n2 l l1 l2 n3 n4 n5 l3 l4 l5):denF Tryz.prog [2,3] [(46,F46.W T46)] V [(58,.loop [(5,.int .i64)] []),(122,.loop [(6,.int .i64)] []),(1864,.order [0,1,2,3,4,5,6,7,8,9,10]),(3912,.order [0,1,2,3,4,5,6,7,8,9,10])] Tryz.f37 [.v (.agg ⟨[.int .u64 n,.int .u64 n1,.int .u64 n2,.slice l.a l.n l.c,.slice l1.a l1.n l1.c,.slice l2.a l2.n l2.c]⟩),.v (.agg ⟨[.int .u64 n3,.int .u64 n4,.int .u64 n5,.slice l3.a l3.n l3.c,.slice l4.a l4.n l4.c,.slice l5.a l5.n l5.c]⟩)]=F37.G T46 n n1 n2 l l1 l2 n3 n4 n5 l3 l4 l5:=by kernel_rfl
def F37.W(T37:Int->Int->Int->Sl->Sl->Sl->Int->Int->Int->Sl->Sl->Sl->PT)(args:List Value):PT:=match args with
 |[.agg ⟨[.int .u64 n,.int .u64 n1,.int .u64 n2,.slice l_a l_n l_c,.slice l1_a l1_n l1_c,.slice l2_a l2_n l2_c]⟩,.agg ⟨[.int .u64 n3,.int .u64 n4,.int .u64 n5,.slice l3_a l3_n l3_c,.slice l4_a l4_n l4_c,.slice l5_a l5_n l5_c]⟩]=>T37 n n1 n2 ⟨l_a,l_n,l_c⟩ ⟨l1_a,l1_n,l1_c⟩ ⟨l2_a,l2_n,l2_c⟩ n3 n4 n5 ⟨l3_a,l3_n,l3_c⟩ ⟨l4_a,l4_n,l4_c⟩ ⟨l5_a,l5_n,l5_c⟩
 |_=>λ_ _=>False
def F37.V:List Value->PT:=F37.W F37.T
theorem F37.ok:FOk Tryz.prog 37 F37.V:=by
 refine⟨⟨_,Tryz.func37,rfl,rfl⟩,λ_=>?_⟩;unfold F37.V F37.W;split;exact denF_okE (GOk.cons F46.ok (GOk.nil)) noV_ok Tryz.func37 (F37.gen noV F46.T _ _ _ ⟨_,_,_⟩ ⟨_,_,_⟩ ⟨_,_,_⟩ _ _ _ ⟨_,_,_⟩ ⟨_,_,_⟩ ⟨_,_,_⟩);exact λ_ _ h=>h.elim
def F115.T(l:Sl):PT:=λh Q=>
 par ((l.a:Option Addr)=none) (Q (.slice none 0 0) h) (nw h (.cells ⟨[]⟩ 9 (0,0)) λb h1=>∃ vs,h1.row l.a (l.n*1) vs/\(∀ v∈vs,Value.oneCell' v=true)/\appendD ⟨(some ⟨b,0,none⟩),0,0⟩ 9 1 16 [.string ⟨#[]⟩] l.n vs h1 λl1 h2=>Q (.slice l1.a l1.n l1.c) h2)
theorem F115.den(V l):denF Tryz.prog [] [] V [] Tryz.f115 [.v (.slice l.a l.n l.c)]=F115.T l:=by kernel_rfl
def F115.W(T115:Sl->PT)(args:List Value):PT:=match args with
 |[.slice l_a l_n l_c]=>T115 ⟨l_a,l_n,l_c⟩
 |_=>λ_ _=>False
def F115.V:List Value->PT:=F115.W F115.T
theorem F115.ok:FOk Tryz.prog 115 F115.V:=by
 refine⟨⟨_,Tryz.func115,rfl,rfl⟩,λ_=>?_⟩;unfold F115.V F115.W;split;exact denF_okE (GOk.nil) noV_ok Tryz.func115 (F115.den noV ⟨_,_,_⟩);exact λ_ _ h=>h.elim
@[reducible] def F45.G(T115:Sl->PT)(p:Option Addr):PT:=λh Q=>
 dr p λb o=>ldS h b (o+2) λl=>T115 l h λr h1=>retS r λl1=>Q (.slice l1.a l1.n l1.c) h1
def F45.T:=F45.G F115.T
theorem F45.gen(V T115 p):denF Tryz.prog [] [(115,F115.W T115)] V [] Tryz.f45 [.v (.pointer p)]=F45.G T115 p:=by kernel_rfl
def F45.W(T45:Option Addr->PT)(args:List Value):PT:=match args with
 |[.pointer p]=>T45 p
 |_=>λ_ _=>False
def F45.V:List Value->PT:=F45.W F45.T
theorem F45.ok:FOk Tryz.prog 45 F45.V:=by
 refine⟨⟨_,Tryz.func45,rfl,rfl⟩,λ_=>?_⟩;unfold F45.V F45.W;split;exact denF_okE (GOk.cons F115.ok (GOk.nil)) noV_ok Tryz.func45 (F45.gen noV F115.T _);exact λ_ _ h=>h.elim
@[reducible] def F49.G(T73 T76:Option Addr->Int->PT)(T84:Option Addr->Int->ByteArray->ByteArray->PT)(T90:Option Addr->Sl->Int->PT)(T91:Option Addr->PT)(T116:Option Addr->Int->ByteArray->PT)(T117:Option Addr->PT)(T118:Option Addr->Int->PT)(T119:Sl->Sl->PT)(T120:Option Addr->Int->PT)(T121:Option Addr->Int->ByteArray->ByteArray->PT)(T122:Option Addr->Int->ByteArray->PT)(p p1 p2:Option Addr)(n n1 n2:Int)(s s1:ByteArray)(n3 n4 n5:Int)(l l1 l2:Sl)(b:Bool)(n6:Int):PT:=λh Q=>
 T73 p1 n2 h λr h1=>retS r λl3=>T84 p1 n2 s s1 h1 λr1 h2=>retS r1 λl4=>T116 p1 n2 s h2 λr2 h3=>retS r2 λl5=>T91 p1 h3 λr3 h4=>retI .i64 r3 λn7=>T117 p2 h4 λr4 h5=>retI .i64 r4 λn8=>par (n7=n8) (T76 p1 n2 h5 λr5 h6=>retI .i64 r5 λn9=>T118 p2 n2 h6 λr6 h7=>retI .i64 r6 λn10=>par (n9=n10) (T120 p2 n2 h7 λr7 h8=>retS r7 λl6=>T119 l3 l6 h8 λr8 h9=>retB r8 (T121 p2 n2 s s1 h9 λr9 h10=>retS r9 λl7=>T119 l4 l7 h10 λr10 h11=>retB r10 (T122 p2 n2 s h11 λr11 h12=>retS r11 λl8=>T119 l5 l8 h12 λr12 h13=>retB r12 (T90 p l3 n6 h13 λr13 h14=>T90 p l4 (wrap .i64 (n6+1)) h14 λr14 h15=>T90 p l5 (wrap .i64 (n6+2)) h15 λr15 h16=>Q (.bool true) h16) (Q (.bool false) h13)) (Q (.bool false) h11)) (Q (.bool false) h9)) (Q (.bool false) h7)) (Q (.bool false) h5)
theorem F49.gen(V T73 T76 T84 T90 T91 T116 T117 T118 T119 T120 T121 T122 p p1 p2 n n1 n2 s s1 n3 n4 n5 l l1 l2 b n6):denF Tryz.prog [8] [(73,F73.W T73),(76,F76.W T76),(84,F84.W T84),(90,F90.W T90),(91,F91.W T91),(116,F116.W T116),(117,F117.W T117),(118,F118.W T118),(119,F119.W T119),(120,F120.W T120),(121,F121.W T121),(122,F122.W T122)] V [(6,.order [0,1,2,4,5,6,7,8,9,10,12,13,14,15,16,3,11,17,18,19,20]),(28,.order [0,2,1,3,4,5,6,7,8,10,11,12,9,13,14,15])] Tryz.f49 [.v (.pointer p),.v (.pointer p1),.v (.pointer p2),.v (.agg ⟨[.int .i64 n,.int .i64 n1,.int .i64 n2,.string s,.string s1,.int .u64 n3,.int .u64 n4,.int .u64 n5,.slice l.a l.n l.c,.slice l1.a l1.n l1.c,.slice l2.a l2.n l2.c,.bool b]⟩),.v (.int .i64 n6)]=F49.G T73 T76 T84 T90 T91 T116 T117 T118 T119 T120 T121 T122 p p1 p2 n n1 n2 s s1 n3 n4 n5 l l1 l2 b n6:=by kernel_rfl
def F49.W(T49:Option Addr->Option Addr->Option Addr->Int->Int->Int->ByteArray->ByteArray->Int->Int->Int->Sl->Sl->Sl->Bool->Int->PT)(args:List Value):PT:=match args with
 |[.pointer p,.pointer p1,.pointer p2,.agg ⟨[.int .i64 n,.int .i64 n1,.int .i64 n2,.string s,.string s1,.int .u64 n3,.int .u64 n4,.int .u64 n5,.slice l_a l_n l_c,.slice l1_a l1_n l1_c,.slice l2_a l2_n l2_c,.bool b]⟩,.int .i64 n6]=>T49 p p1 p2 n n1 n2 s s1 n3 n4 n5 ⟨l_a,l_n,l_c⟩ ⟨l1_a,l1_n,l1_c⟩ ⟨l2_a,l2_n,l2_c⟩ b n6
 |_=>λ_ _=>False
@[reducible] def F8.G(T27:Option Addr->PT)(T32 T33 T34:Option Addr->Int->Int->Int->Sl->Sl->Sl->PT)(T35:Sl->Sl->PT)(T36:Int->PT)(T37:Int->Int->Int->Sl->Sl->Sl->Int->Int->Int->Sl->Sl->Sl->PT)(T38:Option Addr->PT)(T39:Option Addr->Sl->Int->PT)(T40 T41:Option Addr->PT)(T42:Option Addr->Int->PT)(T43 T44:Option Addr->Option Addr->PT)(T45:Option Addr->PT)(T46:Sl->Sl->PT)(T47:Option Addr->PT)(T48:Option Addr->Sl->Int->PT)(T49:Option Addr->Option Addr->Option Addr->Int->Int->Int->ByteArray->ByteArray->Int->Int->Int->Sl->Sl->Sl->Bool->Int->PT)(p p1 p2:Option Addr)(n n1 n2:Int)(s s1:ByteArray)(n3 n4 n5:Int)(l l1 l2:Sl)(b:Bool)(n6:Int):PT:=λh Q=>
 par (n=1) (nw h (.cells ⟨[.slice none 0 0,.slice none 0 0,.slice none 0 0,.slice none 0 0,.slice none 0 0,.slice none 0 0,.slice none 0 0,.slice none 0 0,.slice none 0 0,.slice none 0 0,.slice none 0 0,.slice none 0 0,.slice none 0 0,.slice none 0 0,.slice none 0 0,.slice none 0 0,.slice none 0 0,.slice none 0 0,.slice none 0 0,.slice none 0 0,.slice none 0 0,.slice none 0 0,.slice none 0 0,.slice none 0 0,.slice none 0 0,.slice none 0 0,.slice none 0 0,.slice none 0 0]⟩ 104 (0,0)) λb1 h1=>T32 (some ⟨b1,0,none⟩) n3 n4 n5 l l1 l2 h1 λr h2=>∃ n7 n8 n9:Int,∃ l3 l4 l5:Sl,r=.agg ⟨[.int .u64 n7,.int .u64 n8,.int .u64 n9,.slice l3.a l3.n l3.c,.slice l4.a l4.n l4.c,.slice l5.a l5.n l5.c]⟩/\dr p λb2 o=>ldP h2 b2 o λp3=>T33 p3 n7 n8 n9 l3 l4 l5 h2 λr1 h3=>∃ l6:Sl,∃ n10:Int,r1=.tuple ⟨[.slice l6.a l6.n l6.c,.int .i64 n10]⟩/\dr p λb3 o1=>ldP h3 b3 (o1+1) λp4=>T34 p4 n3 n4 n5 l l1 l2 h3 λr2 h4=>∃ l7:Sl,∃ n11:Int,r2=.tuple ⟨[.slice l7.a l7.n l7.c,.int .i64 n11]⟩/\T35 l6 l7 h4 λr3 h5=>retB r3 (T36 n10 h5 λr4 h6=>retI .i64 r4 λn12=>par (n12=n11) (T37 n7 n8 n9 l3 l4 l5 n3 n4 n5 l l1 l2 h6 λr5 h7=>retB r5 (T38 (some ⟨b1,0,none⟩) h7 λr6 h8=>retB r6 (∃ (I:Int->Hp->Prop) (m:Int->Hp->Nat),I 0 h8/\(∀ n13:Int,∀ h9:Hp,I n13 h9->par (n13<(l4.n:Int)) (ix l4.a n13 l4.n λb4 o2=>st h9 b4 (o2+n13.toNat*7) 7 [.int .i64 77,.int .u64 0,.int .i64 0,.int .i64 0,.int .i64 0,.string ⟨#[]⟩,.string ⟨#[]⟩] λh10=>I (wrap .i64 (n13+1)) h10/\m (wrap .i64 (n13+1)) h10<m n13 h9) (∃ (I1:Int->Hp->Prop) (m1:Int->Hp->Nat),I1 0 h9/\(∀ n14:Int,∀ h11:Hp,I1 n14 h11->par (n14<(l3.n:Int)) (ix l3.a n14 l3.n λb5 o3=>st h11 b5 (o3+n14.toNat*2) 2 [.int .i64 77,.int .u64 0] λh12=>I1 (wrap .i64 (n14+1)) h12/\m1 (wrap .i64 (n14+1)) h12<m1 n14 h11) (∃ (I2:Int->Hp->Prop) (m2:Int->Hp->Nat),I2 0 h11/\(∀ n15:Int,∀ h13:Hp,I2 n15 h13->par (n15<(l5.n:Int)) (ix l5.a n15 l5.n λb6 o4=>st h13 b6 (o4+n15.toNat) 1 [.string (ByteArray.mk #[33])] λh14=>I2 (wrap .i64 (n15+1)) h14/\m2 (wrap .i64 (n15+1)) h14<m2 n15 h13) (T39 p1 l6 n6 h13 λr7 h15=>Q (.bool true) h15))))))) (Q (.bool false) h8)) (Q (.bool false) h7)) (Q (.bool false) h6)) (Q (.bool false) h5)) (par (n=2) (dr p λb7 o5=>ldP h b7 o5 λp5=>T40 p5 h λr8 h16=>retP r8 λp6=>dr p λb8 o6=>ldP h16 b8 (o6+1) λp7=>T41 p7 h16 λr9 h17=>retP r9 λp8=>dr p λb9 o7=>ldP h17 b9 o7 λp9=>T27 p9 h17 λr10 h18=>retP r10 λp10=>okPtr h18 p6 p10/\par ((p6:Option Addr)=p10) (Q (.bool true) h18) (Q (.bool false) h18)) (par (n=3) (T42 p n1 h λr11 h19=>retI .i64 r11 λn16=>dr p λb10 o8=>ldP h19 b10 o8 λp11=>dr p λb11 o9=>ldS h19 b11 (o9+2) λl8=>ix l8.a n16 l8.n λb12 o10=>ldP h19 b12 (o10+n16.toNat) λp12=>T43 p11 p12 h19 λr12 h20=>retS r12 λl9=>dr p λb13 o11=>ldP h20 b13 (o11+1) λp13=>dr p λb14 o12=>ldS h20 b14 (o12+3) λl10=>ix l10.a n16 l10.n λb15 o13=>ldP h20 b15 (o13+n16.toNat) λp14=>T44 p13 p14 h20 λr13 h21=>retS r13 λl11=>T35 l9 l11 h21 λr14 h22=>retB r14 (T39 p1 l9 n6 h22 λr15 h23=>Q (.bool true) h23) (Q (.bool false) h22)) (par (n=4) (dr p λb16 o14=>ldP h b16 o14 λp15=>T45 p15 h λr16 h24=>retS r16 λl12=>dr p λb17 o15=>ldP h24 b17 (o15+1) λp16=>T47 p16 h24 λr17 h25=>retS r17 λl13=>T46 l12 l13 h25 λr18 h26=>retB r18 (T48 p1 l12 n6 h26 λr19 h27=>Q (.bool true) h27) (Q (.bool false) h26)) (par (n=5) (T42 p n1 h λr20 h28=>retI .i64 r20 λn17=>dr p λb18 o16=>ldS h28 b18 (o16+2) λl14=>ix l14.a n17 l14.n λb19 o17=>ldP h28 b19 (o17+n17.toNat) λp17=>dr p λb20 o18=>ldS h28 b20 (o18+3) λl15=>ix l15.a n17 l15.n λb21 o19=>ldP h28 b21 (o19+n17.toNat) λp18=>T49 p1 p17 p18 n n1 n2 s s1 n3 n4 n5 l l1 l2 b n6 h28 λr21 h29=>retB r21 (Q (.bool true) h29) (Q (.bool false) h29)) (par (n=6) ((2:Int)≠0/\par ((Int.tmod n1 2)=0) (dr p λb22 o20=>ldP h b22 o20 λp19=>T43 p19 none h λr22 h30=>retS r22 λl16=>par ((l16.n:Int)=0) (Q (.bool true) h30) (Q (.bool false) h30)) (dr p λb23 o21=>ldP h b23 o21 λp20=>dr p2 λb24 o22=>ldS h b24 (o22+2) λl17=>T42 p2 n1 h λr23 h31=>retI .i64 r23 λn18=>h31.at b23 o21=some (.pointer p20)/\h31.at b24 (o22+2)=some (.slice l17.a l17.n l17.c)/\ix l17.a n18 l17.n λb25 o23=>ldP h31 b25 (o23+n18.toNat) λp21=>T43 p20 p21 h31 λr24 h32=>retS r24 λl18=>par ((l18.n:Int)=0) (Q (.bool true) h32) (Q (.bool false) h32))) (Q (.bool true) h))))))
theorem F8.gen(V T27 T32 T33 T34 T35 T36 T37 T38 T39 T40 T41 T42 T43 T44 T45 T46 T47 T48 T49 p p1 p2 n n1 n2 s s1 n3 n4 n5 l l1 l2 b n6):denF Tryz.prog [8,12] [(27,F27.W T27),(32,F32.W T32),(33,F33.W T33),(34,F34.W T34),(35,F35.W T35),(36,F36.W T36),(37,F37.W T37),(38,F38.W T38),(39,F39.W T39),(40,F40.W T40),(41,F41.W T41),(42,F42.W T42),(43,F43.W T43),(44,F44.W T44),(45,F45.W T45),(46,F46.W T46),(47,F47.W T47),(48,F48.W T48),(49,F49.W T49)] V [(854,.order [0,1,2,3,4,5,6,7,8,9,10]),(1710,.order [0,1,2,3,4,5,6,7,8,9,10,11]),(6906,.order [0,1,2,3,4,5,6,7,8,9,10,11,12]),(27386,.loop [(17,.int .i64)] []),(27628,.order [0,1,2,3,4,5,6,7,8,9,10,11,12,13,14]),(54778,.loop [(18,.int .i64)] []),(109562,.loop [(19,.int .i64)] []),(110586,.order [0,1,2,3,4,5,6,7,8,9,10,11,12,13,14,15,16,17,18]),(442362,.order [0,1,2,3,4,5,6,7,8,9,10,11,12,13,14,15,16,17])] Tryz.f8 [.v (.pointer p),.v (.pointer p1),.v (.pointer p2),.v (.agg ⟨[.int .i64 n,.int .i64 n1,.int .i64 n2,.string s,.string s1,.int .u64 n3,.int .u64 n4,.int .u64 n5,.slice l.a l.n l.c,.slice l1.a l1.n l1.c,.slice l2.a l2.n l2.c,.bool b]⟩),.v (.int .i64 n6)]=F8.G T27 T32 T33 T34 T35 T36 T37 T38 T39 T40 T41 T42 T43 T44 T45 T46 T47 T48 T49 p p1 p2 n n1 n2 s s1 n3 n4 n5 l l1 l2 b n6:=by kernel_rfl
def F8.W(T8:Option Addr->Option Addr->Option Addr->Int->Int->Int->ByteArray->ByteArray->Int->Int->Int->Sl->Sl->Sl->Bool->Int->PT)(args:List Value):PT:=match args with
 |[.pointer p,.pointer p1,.pointer p2,.agg ⟨[.int .i64 n,.int .i64 n1,.int .i64 n2,.string s,.string s1,.int .u64 n3,.int .u64 n4,.int .u64 n5,.slice l_a l_n l_c,.slice l1_a l1_n l1_c,.slice l2_a l2_n l2_c,.bool b]⟩,.int .i64 n6]=>T8 p p1 p2 n n1 n2 s s1 n3 n4 n5 ⟨l_a,l_n,l_c⟩ ⟨l1_a,l1_n,l1_c⟩ ⟨l2_a,l2_n,l2_c⟩ b n6
 |_=>λ_ _=>False
@[reducible] def F11.G(T49:Option Addr->Option Addr->Option Addr->Int->Int->Int->ByteArray->ByteArray->Int->Int->Int->Sl->Sl->Sl->Bool->Int->PT)(p p1:Option Addr)(n:Int):PT:=λh Q=>
 ∃ (I:Int->Hp->Prop) (m:Int->Hp->Nat),I 0 h/\(∀ n1:Int,∀ h1:Hp,I n1 h1->dr p λb o=>ldS h1 b (o+2) λl=>par (n1<(l.n:Int)) (∃ (I1:Int->Hp->Prop) (m1:Int->Hp->Nat),I1 (-1) h1/\(∀ n2:Int,∀ h2:Hp,I1 n2 h2->par (n2<=5) (dr p λb1 o1=>ldS h2 b1 (o1+2) λl1=>ix l1.a n1 l1.n λb2 o2=>ldP h2 b2 (o2+n1.toNat) λp2=>dr p λb3 o3=>ldS h2 b3 (o3+3) λl2=>ix l2.a n1 l2.n λb4 o4=>ldP h2 b4 (o4+n1.toNat) λp3=>T49 p1 p2 p3 0 0 n2 (ByteArray.mk #[98]) (ByteArray.mk #[102]) 0 0 0 ⟨none,0,0⟩ ⟨none,0,0⟩ ⟨none,0,0⟩ false n h2 λr h3=>retB r (I1 (wrap .i64 (n2+1)) h3/\m1 (wrap .i64 (n2+1)) h3<m1 n2 h2) (Q (.bool false) h3)) (I (wrap .i64 (n1+1)) h2/\m (wrap .i64 (n1+1)) h2<m n1 h1))) (Q (.bool true) h1))
theorem F11.gen(V T49 p p1 n):denF Tryz.prog [] [(49,F49.W T49)] V [(26,.loop [(7,.int .i64)] []),(1682,.loop [(8,.int .i64)] []),(53832,.order [0,1,2,3,4,5,6,7,8,9,10,11,12,13,14,15,16,17,18,19])] Tryz.f11 [.v (.pointer p),.v (.pointer p1),.v (.int .i64 n)]=F11.G T49 p p1 n:=by kernel_rfl
def F11.W(T11:Option Addr->Option Addr->Int->PT)(args:List Value):PT:=match args with
 |[.pointer p,.pointer p1,.int .i64 n]=>T11 p p1 n
 |_=>λ_ _=>False
@[reducible] def F4.G(T6:Int->PT)(T7:Int->Int->Int->Sl->Sl->Sl->PT)(T8:Option Addr->Option Addr->Option Addr->Int->Int->Int->ByteArray->ByteArray->Int->Int->Int->Sl->Sl->Sl->Bool->Int->PT)(T9 T10:Option Addr->PT)(T11:Option Addr->Option Addr->Int->PT)(n:Int)(l:Sl):PT:=λh Q=>
 par (n<0) (Q (.bool true) h) (par ((18:Int)<n) (Q (.bool true) h) (par ((300:Int)<(l.n:Int)) (Q (.bool true) h) (nw h (.cells ⟨[.bool false,.bool false,.int .i64 0,.int .i64 0,.slice none 0 0,.slice none 0 0,.slice none 0 0,.slice none 0 0,.slice none 0 0,.slice none 0 0,.slice none 0 0,.slice none 0 0,.int .i64 0,.slice none 0 0,.slice none 0 0,.slice none 0 0,.slice none 0 0,.slice none 0 0,.slice none 0 0,.slice none 0 0,.slice none 0 0,.int .i64 0,.slice none 0 0,.slice none 0 0,.slice none 0 0,.slice none 0 0,.slice none 0 0,.slice none 0 0,.slice none 0 0,.slice none 0 0,.int .i64 0,.slice none 0 0,.slice none 0 0,.slice none 0 0,.slice none 0 0,.slice none 0 0,.slice none 0 0,.slice none 0 0,.slice none 0 0,.int .i64 0,.slice none 0 0,.slice none 0 0,.slice none 0 0,.slice none 0 0,.slice none 0 0,.slice none 0 0,.slice none 0 0,.slice none 0 0,.int .i64 0,.slice none 0 0,.slice none 0 0,.slice none 0 0,.slice none 0 0,.slice none 0 0,.slice none 0 0,.slice none 0 0,.slice none 0 0,.int .i64 0,.slice none 0 0,.slice none 0 0,.slice none 0 0,.slice none 0 0,.slice none 0 0,.slice none 0 0,.slice none 0 0,.slice none 0 0,.int .i64 0,.slice none 0 0,.slice none 0 0,.slice none 0 0,.slice none 0 0,.slice none 0 0,.slice none 0 0,.slice none 0 0,.slice none 0 0,.int .i64 0,.slice none 0 0,.slice none 0 0,.slice none 0 0,.slice none 0 0,.slice none 0 0,.slice none 0 0,.slice none 0 0,.slice none 0 0,.int .i64 0,.slice none 0 0,.slice none 0 0,.slice none 0 0,.slice none 0 0,.slice none 0 0,.slice none 0 0,.slice none 0 0,.slice none 0 0,.int .i64 0,.slice none 0 0,.slice none 0 0,.slice none 0 0,.slice none 0 0,.slice none 0 0,.slice none 0 0,.slice none 0 0,.slice none 0 0,.int .i64 0,.slice none 0 0,.slice none 0 0,.slice none 0 0,.slice none 0 0,.slice none 0 0,.slice none 0 0,.slice none 0 0,.slice none 0 0,.int .i64 0,.slice none 0 0,.slice none 0 0,.slice none 0 0,.slice none 0 0,.slice none 0 0,.slice none 0 0,.slice none 0 0,.slice none 0 0,.int .i64 0,.slice none 0 0,.slice none 0 0,.slice none 0 0,.slice none 0 0,.slice none 0 0,.slice none 0 0,.slice none 0 0,.slice none 0 0,.int .i64 0,.slice none 0 0,.slice none 0 0,.slice none 0 0,.slice none 0 0,.slice none 0 0,.slice none 0 0,.slice none 0 0,.slice none 0 0,.int .i64 0,.slice none 0 0,.slice none 0 0,.slice none 0 0,.slice none 0 0,.slice none 0 0,.slice none 0 0,.slice none 0 0,.slice none 0 0,.int .i64 0,.slice none 0 0,.slice none 0 0,.slice none 0 0,.slice none 0 0,.slice none 0 0,.slice none 0 0,.slice none 0 0,.slice none 0 0,.int .i64 0,.slice none 0 0,.slice none 0 0,.slice none 0 0,.slice none 0 0,.slice none 0 0,.slice none 0 0,.slice none 0 0,.slice none 0 0,.int .i64 0,.slice none 0 0,.slice none 0 0,.slice none 0 0,.slice none 0 0,.slice none 0 0,.slice none 0 0,.slice none 0 0,.slice none 0 0,.int .i64 0]⟩ 45 (0,0)) λb h1=>∃ (I:Sl->Int->Hp->Prop) (m:Sl->Int->Hp->Nat),I ⟨none,0,0⟩ 0 h1/\(∀ l1:Sl,∀ n1:Int,∀ h2:Hp,I l1 n1 h2->par (n1<(wrap .i64 (n+2))) (T6 3 h2 λr h3=>retP r λp=>(3:Int)≠0/\nw h3 (.cells ⟨[.int .i64 (Int.tmod n1 3),.int .u64 (wrap .u64 (wrap .i64 (1000+n1))),.int .i64 n1,.int .i64 0,.int .i64 0,.string (ByteArray.mk #[107]),.string (ByteArray.mk #[109])]⟩ 65 (0,0)) λb1 h4=>nw h4 (.cells ⟨[.string ⟨#[]⟩,.string (ByteArray.mk #[112]),.string ⟨#[]⟩]⟩ 9 (0,0)) λb2 h5=>okPtr h5 p none/\par ((p:Option Addr)=none) (Q (.bool false) h5) (T8 p (some ⟨b,0,none⟩) p 1 0 0 (ByteArray.mk #[]) (ByteArray.mk #[]) 0 0 0 ⟨none,0,0⟩ ⟨(some ⟨b1,0,none⟩),1,1⟩ ⟨(some ⟨b2,0,none⟩),3,3⟩ false 1 h5 λr1 h6=>retB r1 (T9 p h6 λr2 h7=>retB r2 (appendD l1 46 1 8 [.pointer none] 1 [.pointer p] h7 λl2 h8=>I l2 (wrap .i64 (n1+1)) h8/\m l2 (wrap .i64 (n1+1)) h8<m l1 n1 h2) (Q (.bool false) h7)) (Q (.bool false) h6))) (∃ (I1:Int->Hp->Prop) (m1:Int->Hp->Nat),I1 0 h2/\(∀ n2:Int,∀ h9:Hp,I1 n2 h9->par (n2<(l.n:Int)) (ix l.a n2 l.n λb3 o=>ldI .u64 h9 b3 ((o+n2.toNat*12)+5) λn3=>ldI .u64 h9 b3 (((o+n2.toNat*12)+5)+1) λn4=>ldI .u64 h9 b3 (((o+n2.toNat*12)+5)+2) λn5=>ldS h9 b3 (((o+n2.toNat*12)+5)+3) λl3=>ldS h9 b3 (((o+n2.toNat*12)+5)+4) λl4=>ldS h9 b3 (((o+n2.toNat*12)+5)+5) λl5=>T7 n3 n4 n5 l3 l4 l5 h9 λr3 h10=>retB r3 ((wrap .i64 (n+2))≠0/\ix l1.a (Int.tmod (wrap .i64 (7*n2)) (wrap .i64 (n+2))) l1.n λb4 o1=>ldP h10 b4 (o1+((Int.tmod (wrap .i64 (7*n2)) (wrap .i64 (n+2)))).toNat) λp1=>(wrap .i64 (n+2))≠0/\ix l1.a (Int.tmod (wrap .i64 ((Int.tmod (wrap .i64 (7*n2)) (wrap .i64 (n+2)))+1)) (wrap .i64 (n+2))) l1.n λb5 o2=>ldP h10 b5 (o2+((Int.tmod (wrap .i64 ((Int.tmod (wrap .i64 (7*n2)) (wrap .i64 (n+2)))+1)) (wrap .i64 (n+2)))).toNat) λp2=>ix l.a n2 l.n λb6 o3=>ldI .i64 h10 b6 (o3+n2.toNat*12) λn6=>ldI .i64 h10 b6 ((o3+n2.toNat*12)+1) λn7=>ldI .i64 h10 b6 ((o3+n2.toNat*12)+2) λn8=>ldT h10 b6 ((o3+n2.toNat*12)+3) λs=>ldT h10 b6 ((o3+n2.toNat*12)+4) λs1=>ldI .u64 h10 b6 ((o3+n2.toNat*12)+5) λn9=>ldI .u64 h10 b6 ((o3+n2.toNat*12)+6) λn10=>ldI .u64 h10 b6 ((o3+n2.toNat*12)+7) λn11=>ldS h10 b6 ((o3+n2.toNat*12)+8) λl6=>ldS h10 b6 ((o3+n2.toNat*12)+9) λl7=>ldS h10 b6 ((o3+n2.toNat*12)+10) λl8=>∃ b7:Bool,parB b7 (h10.at b6 ((o3+n2.toNat*12)+11)=some (.bool true)/\T8 p1 (some ⟨b,0,none⟩) p2 n6 n7 n8 s s1 n9 n10 n11 l6 l7 l8 true (wrap .i64 (10*n2)) h10 λr4 h11=>retB r4 (T9 p1 h11 λr5 h12=>retB r5 (I1 (wrap .i64 (n2+1)) h12/\m1 (wrap .i64 (n2+1)) h12<m1 n2 h9) (Q (.bool false) h12)) (Q (.bool false) h11)) (h10.at b6 ((o3+n2.toNat*12)+11)=some (.bool false)/\T8 p1 (some ⟨b,0,none⟩) p2 n6 n7 n8 s s1 n9 n10 n11 l6 l7 l8 false (wrap .i64 (10*n2)) h10 λr6 h13=>retB r6 (T9 p1 h13 λr7 h14=>retB r7 (I1 (wrap .i64 (n2+1)) h14/\m1 (wrap .i64 (n2+1)) h14<m1 n2 h9) (Q (.bool false) h14)) (Q (.bool false) h13))) (Q (.bool true) h10)) (∃ (I2:Int->Hp->Prop) (m2:Int->Hp->Nat),I2 0 h9/\(∀ n12:Int,∀ h15:Hp,I2 n12 h15->par (n12<(l1.n:Int)) (ix l1.a n12 l1.n λb8 o4=>ldP h15 b8 (o4+n12.toNat) λp3=>T9 p3 h15 λr8 h16=>retB r8 (ix l1.a n12 l1.n λb9 o5=>ldP h16 b9 (o5+n12.toNat) λp4=>T11 p4 (some ⟨b,0,none⟩) (-5) h16 λr9 h17=>retB r9 (I2 (wrap .i64 (n12+1)) h17/\m2 (wrap .i64 (n12+1)) h17<m2 n12 h15) (Q (.bool false) h17)) (Q (.bool false) h16)) (T10 (some ⟨b,0,none⟩) h15 λr10 h18=>retB r10 (Q (.bool true) h18) (Q (.bool false) h18))))))))))
theorem F4.gen(V T6 T7 T8 T9 T10 T11 n l):denF Tryz.prog [9,63] [(6,F6.W T6),(7,F7.W T7),(8,F8.W T8),(9,F9.W T9),(10,F10.W T10),(11,F11.W T11)] V [(250,.loop [(6,.sl),(7,.int .i64)] []),(506,.loop [(10,.int .i64)] []),(1018,.loop [(13,.int .i64)] []),(129614,.order [0,1,2,3,4,5,6,7,8,9,10,11,12,13,14,15,16,17,18,19,20,21,22])] Tryz.f4 [.v (.int .i64 n),.v (.slice l.a l.n l.c)]=F4.G T6 T7 T8 T9 T10 T11 n l:=by kernel_rfl
def F4.W(T4:Int->Sl->PT)(args:List Value):PT:=match args with
 |[.int .i64 n,.slice l_a l_n l_c]=>T4 n ⟨l_a,l_n,l_c⟩
 |_=>λ_ _=>False
end Go.Eng.YtbjnlacacapjiaaGreatDoor
end
section
namespace Go.Eng.YtbjnlacacapjiaaGreatDoor
open Go.Eng
theorem nd_idx{T:List (Nat×Lv)}(nd:(T.map (·.1)).Nodup){i j:Nat}{a b:Nat×Lv}(ha:T[i]?=some a)(hb:T[j]?=some b)(e:a.1=b.1):i=j:=by
 obtain⟨hi,ea⟩:=List.getElem?_eq_some_iff.1 ha
 obtain⟨hj,eb⟩:=List.getElem?_eq_some_iff.1 hb
 have hp:=List.pairwise_iff_getElem.1 nd
 rcases Nat.lt_trichotomy i j with h|h|h
 ·exact absurd (by rw[List.getElem_map,List.getElem_map,ea,eb,e]) (hp i j (by rw[length_map];exact hi) (by rw[length_map];exact hj) h)
 ·exact h
 ·exact absurd (by rw[List.getElem_map,List.getElem_map,ea,eb,e]) (hp j i (by rw[length_map];exact hj) (by rw[length_map];exact hi) h)
def Tied(L:List Pn)(T:List (Nat×Lv))(pins:List Nat):Prop:=
 (∀ p∈L,∃ i:Nat,T[i]?=some (p.b,p.lv))/\∀ (i:Nat) (v:Nat×Lv) (m:Nat),T[i]?=some v->pins[i]?=some m->((∃ p∈L,p.b=v.1)↔0<m)/\∀ p∈L,p.b=v.1->p.n=(m:Int)
section
variable{L L':List Pn}{T:List (Nat×Lv)}{pins:List Nat}{vb:Nat}{lv:Lv}
theorem Tied.mem(t:Tied L T pins)(nd:(T.map (·.1)).Nodup)(pl:pins.length=T.length)(v:Lv):v∈L.map (·.lv)↔v∈pinL T pins:=by
 rw[mem_pinL,List.mem_map]
 constructor
 ·rintro⟨p,hp,rfl⟩
  obtain⟨i,hi⟩:=t.1 p hp
  have hl:=(List.getElem?_eq_some_iff.1 hi).1
  have hm:pins[i]?=some (pins[i]'(by omega)):=getElem?_eq_getElem (by omega)
  exact⟨i,_,_,hi,hm,(t.2 i _ _ hi hm).1.1 ⟨p,hp,rfl⟩,rfl⟩
 ·rintro⟨i,d,n,h1,h2,h3,rfl⟩
  obtain⟨p,hp,e⟩:=(t.2 i _ _ h1 h2).1.2 h3
  obtain⟨j,hj⟩:=t.1 p hp
  have:=nd_idx nd hj h1 e
  subst this
  rw[hj] at h1
  cases h1
  exact⟨p,hp,rfl⟩
theorem set_at{i j m n:Nat}(h:(pins.set i n)[j]?=some m):(j=i/\m=n)\/(j≠i/\pins[j]?=some m):=by
 rw[List.getElem?_set] at h
 by_cases e:i=j
 ·rw[if_pos e] at h
  split at h
  ·exact .inl ⟨e.symm,(Option.some.inj h).symm⟩
  ·cases h
 ·rw[if_neg e] at h
  exact .inr ⟨λq=>e q.symm,h⟩
theorem pinR_eff(nb:(L.map (·.b)).Nodup)(R:PinR L vb lv L'):(∀ q∈L,q.b≠vb->q∈L')/\(∀ q∈L',q.b≠vb->q∈L)/\(∃ q∈L',q.b=vb)/\∀ q∈L',q.b=vb->(∃ p∈L,p.b=vb/\q.n=p.n+1/\q.lv=p.lv)\/((∀ p∈L,p.b≠vb)/\q.n=1/\q.lv=lv):=by
 rcases R with⟨A,p,B,rfl,rfl,rfl⟩|⟨hno,i,rfl⟩
 ·have hA:∀ q∈A,q.b≠p.b:=nodup_ne nb rfl
  have hB:∀ q∈B,q.b≠p.b:=by
   rw[map_append,map_cons] at nb
   have:=(List.nodup_cons.1 (nodup_append.1 nb).2.1).1
   exact λq hq e=>this (e ▸ mem_map_of_mem hq)
  refine⟨λq hq hne=>?_,λq hq hne=>?_,⟨_,List.mem_append_right _ mem_cons_self,rfl⟩,λq hq e=>.inl ⟨p,by simp,rfl,?_⟩⟩
  ·simp only[mem_append,mem_cons] at hq ⊢
   rcases hq with hq|rfl|hq
   ·exact .inl hq
   ·exact absurd rfl hne
   ·exact .inr (.inr hq)
  ·simp only[mem_append,mem_cons] at hq ⊢
   rcases hq with hq|rfl|hq
   ·exact .inl hq
   ·exact absurd rfl hne
   ·exact .inr (.inr hq)
  ·simp only[mem_append,mem_cons] at hq
   rcases hq with hq|rfl|hq
   ·exact absurd e (hA q hq)
   ·exact⟨rfl,rfl⟩
   ·exact absurd e (hB q hq)
 ·refine⟨λq hq _=>List.mem_append_left _ hq,λq hq hne=>?_,⟨_,List.mem_append_right _ mem_cons_self,rfl⟩,λq hq e=>.inr ⟨hno,?_⟩⟩
  ·rw[mem_append,mem_singleton] at hq
   rcases hq with hq|rfl
   ·exact hq
   ·exact absurd rfl hne
  ·rw[mem_append,mem_singleton] at hq
   rcases hq with hq|rfl
   ·exact absurd e (hno q hq)
   ·exact⟨rfl,rfl⟩
theorem Tied.pin(t:Tied L T pins)(nd:(T.map (·.1)).Nodup)(nb:(L.map (·.b)).Nodup){i m:Nat}(hT:T[i]?=some (vb,lv))(hm:pins[i]?=some m)(R:PinR L vb lv L'):Tied L' T (pins.set i (m+1)):=by
 obtain⟨a,b,c,d⟩:=pinR_eff nb R
 refine⟨λq hq=>?_,λj v n hv hn=>?_⟩
 ·by_cases e:q.b=vb
  ·rcases d q hq e with⟨p,hp,e1,e2,e3⟩|⟨_,_,e3⟩
   ·obtain⟨k,hk⟩:=t.1 p hp
    exact⟨k,by rw[hk,e,e3,e1]⟩
   ·exact⟨i,by rw[hT,e,e3]⟩
  ·exact t.1 q (b q hq e)
 ·rcases set_at hn with⟨rfl,rfl⟩|⟨hne,hn'⟩
  ·rw[hT] at hv
   cases hv
   have t2:=t.2 _ _ _ hT hm
   refine⟨⟨λ_=>by omega,λ_=>c⟩,λq hq e=>?_⟩
   rcases d q hq e with⟨p,hp,e1,e2,_⟩|⟨hno,e2,_⟩
   ·rw[e2,t2.2 p hp e1];omega
   ·have:¬ 0<m:=λh=>by
     obtain⟨p,hp,e1⟩:=t2.1.2 h
     exact hno p hp e1
    omega
  ·have hvb:v.1≠vb:=λe=>hne (nd_idx nd hv hT e)
   have t2:=t.2 _ _ _ hv hn'
   refine⟨⟨?_,λh=>?_⟩,λq hq e=>t2.2 q (b q hq (by rw[e];exact hvb)) e⟩
   ·rintro⟨q,hq,e⟩
    exact t2.1.1 ⟨q,b q hq (by rw[e];exact hvb),e⟩
   ·obtain⟨p,hp,e⟩:=t2.1.2 h
    exact⟨p,a p hp (by rw[e];exact hvb),e⟩
theorem unpinR_eff(nb:(L.map (·.b)).Nodup)(R:UnpinR L vb L'):(∀ q∈L,q.b≠vb->q∈L')/\(∀ q∈L',q.b≠vb->q∈L)/\∃ p∈L,p.b=vb/\((p.n=1/\∀ q∈L',q.b≠vb)\/(1<p.n/\(∃ q∈L',q.b=vb)/\∀ q∈L',q.b=vb->q.n=p.n-1/\q.lv=p.lv)):=by
 obtain⟨A,p,B,rfl,rfl,R⟩:=R
 have hA:∀ q∈A,q.b≠p.b:=nodup_ne nb rfl
 have hB:∀ q∈B,q.b≠p.b:=by
  rw[map_append,map_cons] at nb
  have:=(List.nodup_cons.1 (nodup_append.1 nb).2.1).1
  exact λq hq e=>this (e ▸ mem_map_of_mem hq)
 rcases R with⟨h1,rfl⟩|⟨h1,rfl⟩
 ·refine⟨λq hq hne=>?_,λq hq hne=>?_,p,by simp,rfl,.inl ⟨h1,λq hq=>?_⟩⟩
  ·simp only[mem_append,mem_cons] at hq ⊢
   rcases hq with hq|rfl|hq
   ·exact .inl hq
   ·exact absurd rfl hne
   ·exact .inr hq
  ·simp only[mem_append,mem_cons] at hq ⊢
   rcases hq with hq|hq
   ·exact .inl hq
   ·exact .inr (.inr hq)
  ·rcases mem_append.1 hq with hq|hq
   ·exact hA q hq
   ·exact hB q hq
 ·refine⟨λq hq hne=>?_,λq hq hne=>?_,p,by simp,rfl,.inr ⟨h1,⟨_,List.mem_append_right _ mem_cons_self,rfl⟩,λq hq e=>?_⟩⟩
  ·simp only[mem_append,mem_cons] at hq ⊢
   rcases hq with hq|rfl|hq
   ·exact .inl hq
   ·exact absurd rfl hne
   ·exact .inr (.inr hq)
  ·simp only[mem_append,mem_cons] at hq ⊢
   rcases hq with hq|rfl|hq
   ·exact .inl hq
   ·exact absurd rfl hne
   ·exact .inr (.inr hq)
  ·simp only[mem_append,mem_cons] at hq
   rcases hq with hq|rfl|hq
   ·exact absurd e (hA q hq)
   ·exact⟨rfl,rfl⟩
   ·exact absurd e (hB q hq)
theorem Tied.unpin(t:Tied L T pins)(nd:(T.map (·.1)).Nodup)(nb:(L.map (·.b)).Nodup)(pl:pins.length=T.length){i:Nat}(hT:T[i]?=some (vb,lv))(R:UnpinR L vb L'):∃ m,pins[i]?=some (m+1)/\Tied L' T (pins.set i m):=by
 obtain⟨a,b,p,hp,hpb,d⟩:=unpinR_eff nb R
 have hl:=(List.getElem?_eq_some_iff.1 hT).1
 obtain⟨m0,hm⟩:∃ m0,pins[i]?=some m0:=⟨_,getElem?_eq_getElem (by omega)⟩
 have t2:=t.2 _ _ _ hT hm
 have h0:=t2.1.1 ⟨p,hp,hpb⟩
 have hn:=t2.2 p hp hpb
 obtain⟨m,rfl⟩:∃ m,m0=m+1:=⟨m0-1,by omega⟩
 refine⟨m,hm,λq hq=>?_,λj v n hv hn'=>?_⟩
 ·by_cases e:q.b=vb
  ·rcases d with⟨_,d⟩|⟨_,_,d⟩
   ·exact absurd e (d q hq)
   ·obtain⟨k,hk⟩:=t.1 p hp
    exact⟨k,by rw[hk,e,(d q hq e).2,hpb]⟩
  ·exact t.1 q (b q hq e)
 ·rcases set_at hn' with⟨rfl,rfl⟩|⟨hne,hn2⟩
  ·rw[hT] at hv
   cases hv
   rcases d with⟨h1,d⟩|⟨h1,d0,d⟩
   ·refine⟨⟨?_,λh=>by omega⟩,λq hq e=>absurd e (d q hq)⟩
    rintro⟨q,hq,e⟩
    exact absurd e (d q hq)
   ·exact⟨⟨λ_=>by omega,λ_=>d0⟩,λq hq e=>by rw[(d q hq e).1,hn];omega⟩
  ·have hvb:v.1≠vb:=λe=>hne (nd_idx nd hv hT e)
   have t3:=t.2 _ _ _ hv hn2
   refine⟨⟨?_,λh=>?_⟩,λq hq e=>t3.2 q (b q hq (by rw[e];exact hvb)) e⟩
   ·rintro⟨q,hq,e⟩
    exact t3.1.1 ⟨q,b q hq (by rw[e];exact hvb),e⟩
   ·obtain⟨p,hp,e⟩:=t3.1.2 h
    exact⟨p,a p hp (by rw[e];exact hvb),e⟩
theorem Tied.snoc(t:Tied L T pins)(pl:pins.length=T.length)(hb:vb∉T.map (·.1)):Tied L (T++[(vb,lv)]) (pins++[0]):=by
 refine⟨λq hq=>?_,λj v n hv hn=>?_⟩
 ·obtain⟨i,hi⟩:=t.1 q hq
  exact⟨i,by rw[List.getElem?_append_left (List.getElem?_eq_some_iff.1 hi).1];exact hi⟩
 ·by_cases hj:j<T.length
  ·rw[List.getElem?_append_left hj] at hv
   rw[List.getElem?_append_left (by omega)] at hn
   exact t.2 j v n hv hn
  ·have hl:=(List.getElem?_eq_some_iff.1 hv).1
   rw[length_append,List.length_singleton] at hl
   have:j=T.length:=by omega
   subst this
   rw[List.getElem?_append_right (Nat.le_refl _),Nat.sub_self] at hv
   rw[List.getElem?_append_right (by omega),show T.length-pins.length=0 by omega] at hn
   cases hv
   cases hn
   have no:∀ p∈L,p.b≠vb:=λp hp e=>by
    obtain⟨i,hi⟩:=t.1 p hp
    exact hb (by rw[<- e];exact mem_map_of_mem (f:=λx:Nat×Lv=>x.1) (mem_of_getElem? hi))
   refine⟨⟨?_,λh=>absurd h (by decide)⟩,λp hp e=>absurd e (no p hp)⟩
   rintro⟨p,hp,e⟩
   exact absurd e (no p hp)
theorem Tied.len(t:Tied L T pins)(nb:(L.map (·.b)).Nodup):L.length<=T.length:=by
 have:=List.Nodup.length_le_of_subset nb (l₂:=T.map (·.1)) (λb hb=>by
  obtain⟨p,hp,rfl⟩:=List.mem_map.1 hb
  obtain⟨i,hi⟩:=t.1 p hp
  exact mem_map_of_mem (f:=λx:Nat×Lv=>x.1) (mem_of_getElem? hi))
 rwa [length_map,length_map] at this
end
structure Sz(k n:Nat)(T:List (Nat×Lv))(pins:List Nat)(ptrs:List ByteArray):Prop where
 kk:k<=400
 n5:1<=n/\n<=5
 t:∀ v∈T,totL v.2<=8192*k/\v.2.length=n
 l:T.length<=k+1
 p:∀ m∈pins,m<=k
 q:ptrs.length=n
 ok:∀ v∈T,AllT kOk v.2
 hu:∀ v∈T,Hulls v.2
structure PGx(g h:Hp)(sb vb pm cm:Nat)(ps ls:Sl)(xs:List (Sl×List Tab))(ptrs:List ByteArray)(L:List Pn)(T:List (Nat×Lv))(pins:List Nat):Prop where
 S:SetP g h sb vb pm cm ps ls xs ptrs L
 cur:T.getLast?=some (vb,xs.map (·.2))
 v:∀ v∈T,VerO g h v.1 v.2
 nd:(T.map (·.1)).Nodup
 pl:pins.length=T.length
 t:Tied L T pins
def PG(g h:Hp)(sb:Nat)(T:List (Nat×Lv))(pins:List Nat)(ptrs:List ByteArray):Prop:=∃ vb pm cm ps ls xs L,PGx g h sb vb pm cm ps ls xs ptrs L T pins
section
variable{g h g' h':Hp}{sb:Nat}{T:List (Nat×Lv)}{pins:List Nat}{ptrs:List ByteArray}{Q:Value->Hp->Prop}{k n:Nat}
theorem PG.mv(M:Mv g h g' h')(P:PG g h sb T pins ptrs):PG g' h' sb T pins ptrs:=by
 obtain⟨vb,pm,cm,ps,ls,xs,L,X⟩:=P
 exact⟨vb,pm,cm,ps,ls,xs,L,X.S.mv M,X.cur,λv hv=>(X.v v hv).mv M,X.nd,X.pl,X.t⟩
theorem PG.kp(P:PG g h sb T pins ptrs):Keep g h:=by
 obtain⟨vb,pm,cm,ps,ls,xs,L,X⟩:=P
 exact X.S.V.L.k
theorem PG.ver(P:PG g h sb T pins ptrs){v:Nat×Lv}(hv:v∈T):VerO g h v.1 v.2:=by
 obtain⟨vb,pm,cm,ps,ls,xs,L,X⟩:=P
 exact X.v v hv
theorem PG.keep(P:PG g h sb T pins ptrs)(K:Keep h h'):PG g h' sb T pins ptrs:=by
 obtain⟨vb,pm,cm,ps,ls,xs,L,X⟩:=P
 exact⟨vb,pm,cm,ps,ls,xs,L,X.S.keep K,X.cur,λv hv=>(X.v v hv).keep K,X.nd,X.pl,X.t⟩
theorem curD_eq{D:List (Nat×Lv)}{d:Nat×Lv}(h:D.getLast?=some d):curD D=d.2:=by unfold curD;rw[h]
theorem PGx.sm{vb pm cm:Nat}{ps ls:Sl}{xs:List (Sl×List Tab)}{L:List Pn}(X:PGx g h sb vb pm cm ps ls xs ptrs L T pins)(Z:Sz k n T pins ptrs):SmP xs L/\(∀ p∈L,1<=p.n/\p.n<=1000000)/\xs.length=n/\totL (xs.map (·.2))<=8192*k:=by
 have hk:=Z.kk
 have h5:=Z.n5
 have hl:=X.t.len X.S.nb
 have hl2:=Z.l
 obtain⟨c1,c2⟩:=Z.t _ (List.mem_of_getLast? X.cur)
 dsimp only at c1 c2
 rw[length_map] at c2
 have pv:∀ p∈L,totL p.lv<=8192*k/\p.lv.length=n:=λp hp=>by
  obtain⟨i,hi⟩:=X.t.1 p hp
  exact Z.t _ (mem_of_getElem? hi)
 refine⟨⟨by omega,by omega,by omega,λp hp=>by have:=pv p hp;omega⟩,λp hp=>?_,c2,c1⟩
 obtain⟨i,hi⟩:=X.t.1 p hp
 have hil:=(List.getElem?_eq_some_iff.1 hi).1
 have pl:=X.pl
 have hm:pins[i]?=some (pins[i]'(by omega)):=getElem?_eq_getElem (by omega)
 have t2:=X.t.2 _ _ _ hi hm
 have a:=t2.1.1 ⟨p,hp,rfl⟩
 have b:=t2.2 p hp rfl
 have c:=Z.p _ (mem_of_getElem? hm)
 omega
theorem cur_q(P:PG g h sb T pins ptrs)(hQ:∀ v,T.getLast?=some v->Q (.pointer (some ⟨v.1,0,none⟩)) h):F27.T (some ⟨sb,0,none⟩) h Q:=by
 obtain⟨vb,pm,cm,ps,ls,xs,L,X⟩:=P
 exact⟨sb,0,rfl,some ⟨vb,0,none⟩,at_of X.S.s 0,hQ _ X.cur⟩
theorem pin_q(P:PG g h sb T pins ptrs)(Z:Sz k n T pins ptrs)(hQ:∀ h' v m,T.getLast?=some v->pins[T.length-1]?=some m->PG g h' sb T (pins.set (T.length-1) (m+1)) ptrs->Q (.pointer (some ⟨v.1,0,none⟩)) h'):F40.T (some ⟨sb,0,none⟩) h Q:=by
 obtain⟨vb,pm,cm,ps,ls,xs,L,X⟩:=P
 obtain⟨_,hn,_,_⟩:=X.sm Z
 have hc:=X.cur
 rw[List.getLast?_eq_getElem?] at hc
 have hl:=(List.getElem?_eq_some_iff.1 hc).1
 have pl:=X.pl
 have hm:pins[T.length-1]?=some (pins[T.length-1]'(by omega)):=getElem?_eq_getElem (by omega)
 refine pin_p X.S hn λh' L' O S' R=>hQ h' _ _ X.cur hm ?_
 obtain⟨c,hpm,_⟩:=X.S.m
 exact⟨vb,pm,cm,ps,ls,xs,L',S',X.cur,λv hv=>(X.v v hv).ck (O.ck hpm) S'.V.L.k (by simp[kd]) (by simp[kd]) (by simp[kd]),X.nd,by rw[length_set];exact pl,X.t.pin X.nd X.S.nb hc hm R⟩
theorem unpin_q(P:PG g h sb T pins ptrs)(Z:Sz k n T pins ptrs){j:Nat}{v:Nat×Lv}(hv:T[j]?=some v)(h0:pins[j]?=some 0->Q (.slice none 0 0) h)
  (hQ:∀ h' (l:Sl) m,pins[j]?=some (m+1)->PG g h' sb T (pins.set j m) ptrs->Buf h' l 1 48 (uvs (goneM (curD T) (pinL T (pins.set j m)) v.2))->NewN g l->Q (.slice l.a l.n l.c) h'):F43.T (some ⟨sb,0,none⟩) (some ⟨v.1,0,none⟩) h Q:=by
 obtain⟨vb,pm,cm,ps,ls,xs,L,X⟩:=P
 obtain⟨sm,hn,_,_⟩:=X.sm Z
 have hk:=Z.kk
 have hvt:=Z.t v (mem_of_getElem? hv)
 have h5:=Z.n5
 have pl:=X.pl
 have hjl:=(List.getElem?_eq_some_iff.1 hv).1
 have hm:pins[j]?=some (pins[j]'(by omega)):=getElem?_eq_getElem (by omega)
 refine unpin_p X.S (X.v v (mem_of_getElem? hv)) sm hn (by omega) (by omega) (λhno=>h0 ?_) λh' L' l C S' R B N V'=>?_
 ·have:¬ 0<pins[j]:=λhp=>by
   obtain⟨p,hp,e⟩:=(X.t.2 _ _ _ hv hm).1.2 hp
   exact hno p hp e
  rw[hm];congr 1;omega
 ·obtain⟨m,hm',t'⟩:=X.t.unpin X.nd X.S.nb pl hv R
  have Cc:Ck [152,0,11] h h':=C.ck λk x hd hk=>X.S.dp k x (hd.elim (λe=>.inr (.inr (.inr e))) (λe=>.inr (.inl e))) hk
  have pl':(pins.set j m).length=T.length:=by rw[length_set];exact pl
  have ec:curD T=xs.map (·.2):=curD_eq X.cur
  rw[<- ec,goneM_mem (t'.mem X.nd pl') v.2] at B
  exact hQ h' l m hm' ⟨vb,pm,cm,ps,ls,xs,L',S',X.cur,λv hv=>(X.v v hv).ck Cc S'.V.L.k (by simp) (by simp) (by simp),X.nd,pl',t'⟩ B (N.mono X.S.V.L.k.dom)
theorem unpin_no{b:Nat}{x:Value}(P:PG g h sb T pins ptrs)(hb:h b=some (.cells ⟨[x]⟩ 146 (0,0)))(hno:b∉T.map (·.1))(hQ:Q (.slice none 0 0) h):F43.T (some ⟨sb,0,none⟩) (some ⟨b,0,none⟩) h Q:=by
 obtain⟨vb,pm,cm,ps,ls,xs,L,X⟩:=P
 have no:∀ p∈L,p.b≠b:=λp hp e=>by
  obtain⟨i,hi⟩:=X.t.1 p hp
  exact hno (by rw[<- e];exact mem_map_of_mem (f:=λx:Nat×Lv=>x.1) (mem_of_getElem? hi))
 obtain⟨c,hc,hi⟩:=X.S.m
 unfold F43.T F43.G
 exact⟨sb,0,rfl,some pm,at_of X.S.s 1,ents L,c,hc,X.S.keys hb,0,pin_get0 no,λ_=>hQ,λq=>absurd rfl q⟩
end
end Go.Eng.YtbjnlacacapjiaaGreatDoor
end
section
namespace Go.Eng.YtbjnlacacapjiaaGreatDoor
open Go.Eng
theorem Res.all{p:Tab->Prop}{lv lw:Lv}{e:Edit}(h:Res lv e 0 lw)(H:AllT p lv)(hi:∀ q∈e.inn,p q.tab):AllT p lw:=by
 unfold Res at h
 split at h
 ·split at h
  ·split at h
   ·rcases h with⟨h,_⟩|⟨_,h⟩
    ·exact absurd h (by decide)
    ·exact h.all (inM_all _ _ hi (outM_all _ _ H))
   ·next h3=>exact absurd h.symm h3
  ·next h2=>exact absurd h.symm h2
 ·exact absurd h (by decide)
theorem fits_k{e:Edit}(z:e.fits):∀ q∈e.inn,kOk q.tab:=λq hq=>by
 have:=z.1 q hq
 exact⟨Nat.le_trans this.1 (by decide),Nat.le_trans this.2 (by decide)⟩
section
variable{g h g' h':Hp}{sb:Nat}{T:List (Nat×Lv)}{pins:List Nat}{ptrs:List ByteArray}{Q:Value->Hp->Prop}{k n:Nat}
theorem Sz.mono{k':Nat}(Z:Sz k n T pins ptrs)(h:k<=k')(h4:k'<=400):Sz k' n T pins ptrs:=by
 have hm:8192*k<=8192*k':=Nat.mul_le_mul_left _ h
 exact⟨h4,Z.n5,λv hv=>⟨Nat.le_trans (Z.t v hv).1 hm,(Z.t v hv).2⟩,Nat.le_trans Z.l (by omega),λm hm=>Nat.le_trans (Z.p m hm) h,Z.q,Z.ok,Z.hu⟩
theorem Sz.set{j m:Nat}(Z:Sz k n T pins ptrs)(hm:m<=k):Sz k n T (pins.set j m) ptrs:=
 ⟨Z.kk,Z.n5,Z.t,Z.l,λm' hm'=>by
  rcases List.mem_or_eq_of_mem_set hm' with h|rfl
  ·exact Z.p _ h
  ·exact hm,Z.q,Z.ok,Z.hu⟩
theorem Sz.snoc{e:Edit}{vb:Nat}{lv:Lv}(Z:Sz k n T pins ptrs){d:Nat×Lv}(hd:T.getLast?=some d)(R:Res d.2 e 0 lv)(hi:e.inn.length<=8192)(z:e.fits)(h4:k+1<=400):Sz (k+1) n (T++[(vb,lv)]) (pins++[0]) e.ptr:=by
 have hdm:=List.mem_of_getLast? hd
 obtain⟨t1,t2⟩:=Z.t d hdm
 obtain⟨hpl,l2,hS,hT2,hl2,hH⟩:=R.ok
 have hl:=hS.1
 have Z':=Z.mono (Nat.le_succ k) h4
 have each:∀ {P:Nat×Lv->Prop},(∀ v∈T,P v)->P (vb,lv)->∀ v∈T++[(vb,lv)],P v:=λh1 h2 v hv=>by
  rw[mem_append,mem_singleton] at hv
  rcases hv with hv|rfl
  ·exact h1 v hv
  ·exact h2
 refine⟨h4,Z.n5,each Z'.t ⟨?_,?_⟩,?_,λm hm=>?_,by omega,each Z.ok (R.all (Z.ok d hdm) (fits_k z)),each Z.hu (hS.hulls (hH (Z.hu d hdm)))⟩
 ·show totL lv<=_
  rw[hS.totL];omega
 ·show lv.length=n
  omega
 ·rw[length_append,List.length_singleton];have:=Z.l;omega
 ·rw[mem_append,mem_singleton] at hm
  rcases hm with hm|rfl
  ·exact Z'.p m hm
  ·omega
theorem apply_q{l l1 l2:Sl}{e:Edit}{a b c:Int}(P:PG g h sb T pins ptrs)(Z:Sz k n T pins ptrs)(E:EdAt g e l l1 l2)(ho:e.out.length<=8192)(hi:e.inn.length<=8192)
  (hQ:∀ h' c (r:Sl) T' pins' ptrs',PG g h' sb T' pins' ptrs'->(c=0->∃ vb lv',T'=T++[(vb,lv')]/\pins'=pins++[0]/\ptrs'=e.ptr/\Res (curD T) e 0 lv'/\Buf h' r 1 48 (uvs (goneM lv' (pinL T pins) (curD T)))/\NewN g r)->(c≠0->T'=T/\pins'=pins/\ptrs'=ptrs/\r=⟨none,0,0⟩/\∃ lw,Res (curD T) e c lw)->Q (.tuple ⟨[.slice r.a r.n r.c,.int .i64 c]⟩) h'):F33.T (some ⟨sb,0,none⟩) a b c l l1 l2 h Q:=by
 obtain⟨vb,pm,cm,ps,ls,xs,L,X⟩:=P
 obtain⟨sm,hn,hx,ht⟩:=X.sm Z
 have S:=X.S
 have hk:=Z.kk
 have h5:=Z.n5
 have hq:=Z.q
 have hcur:curD T=xs.map (·.2):=curD_eq X.cur
 refine apply_p S (E.keep S.V.L.k) (λh9 K9=>?_) (by omega) (by omega) (by omega) (by omega) (by omega) sm.l sm.p λh1 c r vb' ls' xs' ptrs' C1 S1 R1 g1 n1=>?_
 ·have K:Keep g h9:=λk x e=>K9 k x (ne_of e S.ns) (S.V.L.k k x e)
  exact K.row E.ptr
 have Cc:Ck [152,0,11] h h1:=C1.ck S.dp
 have V1:∀ v∈T,VerO g h1 v.1 v.2:=λv hv=>(X.v v hv).ck Cc S1.V.L.k (by simp) (by simp) (by simp)
 by_cases hc:c=0
 ·subst hc
  obtain⟨ep,en,Br,Nr⟩:=g1 rfl
  have hvb:vb'∉T.map (·.1):=λhm=>by
   obtain⟨v,hv,rfl⟩:=List.mem_map.1 hm
   obtain⟨x,hx⟩:=(X.v v hv).solid
   rw[en] at hx;cases hx
  refine hQ h1 0 r (T++[(vb',xs'.map (·.2))]) (pins++[0]) ptrs' ⟨vb',pm,cm,ps,ls',xs',L,S1,by simp,λv hv=>?_,?_,by rw[length_append,length_append,X.pl];rfl,X.t.snoc X.pl hvb⟩ (λ_=>⟨vb',_,rfl,rfl,ep,by rw[hcur];exact R1,?_,Nr.mono S.V.L.k.dom⟩) (λq=>absurd rfl q)
  ·rw[mem_append,mem_singleton] at hv
   rcases hv with hv|rfl
   ·exact V1 v hv
   ·exact⟨ls',xs',S1.V,rfl⟩
  ·rw[map_append,nodup_append]
   refine⟨X.nd,by simp,λa ha b hb=>?_⟩
   rw[map_cons,List.map_nil,mem_singleton] at hb
   subst hb
   exact λe=>hvb (e ▸ ha)
  ·rw[hcur,<- goneM_mem (X.t.mem X.nd X.pl)];exact Br
 ·obtain⟨e1,e2,e3,K,e4⟩:=n1 hc
  subst e1 e2 e3 e4
  exact hQ h1 c _ T pins ptrs' ⟨vb',pm,cm,ps,ls',xs',L,S1,X.cur,V1,X.nd,X.pl,X.t⟩ (λq=>absurd q hc) (λ_=>⟨rfl,rfl,rfl,rfl,_,by rw[hcur];exact R1⟩)
theorem new_q{h:Hp}{n:Int}{k:Nat}(hk:(k:Int)=iMin (iMax n 1) 5)(hQ:∀ h' sb vb,PG h h' sb [(vb,List.replicate k [])] [0] (List.replicate k ⟨#[]⟩)->Q (.pointer (some ⟨sb,0,none⟩)) h'):F25.T n h Q:=by
 refine new_p hk λh' sb vb pm cm ps ls xs S e=>hQ h' sb vb ⟨vb,pm,cm,ps,ls,xs,[],S,by rw[e];rfl,λv hv=>?_,by simp,rfl,⟨λp hp=>(by cases hp),λi v m hv hm=>?_⟩⟩
 ·rw[mem_singleton] at hv
  subst hv
  exact⟨ls,xs,S.V,e⟩
 ·have:m=0:=by
   match i,hm with
   |0,hm=>exact(Option.some.inj hm).symm
   |i+1,hm=>simp at hm
  subst this
  refine⟨⟨?_,λh=>absurd h (by decide)⟩,λp hp=>by cases hp⟩
  rintro⟨p,hp,_⟩
  cases hp
theorem sz_new{n:Int}{k:Nat}(hk:(k:Int)=iMin (iMax n 1) 5)(vb:Nat):Sz 0 k [(vb,List.replicate k [])] [0] (List.replicate k ⟨#[]⟩):=by
 have k1:1<=k/\k<=5:=by unfold iMin iMax at hk;split at hk<;>split at hk<;>omega
 have ht:∀ m:Nat,totL (List.replicate m ([]:List Tab))=0:=λm=>by
  unfold totL
  induction m with
  |zero=>rfl
  |succ m ih=>simp[List.replicate_succ]
 have each:∀ {P:Nat×Lv->Prop},P (vb,List.replicate k [])->∀ v∈[(vb,List.replicate k ([]:List Tab))],P v:=λh v hv=>by
  rw[mem_singleton] at hv;subst hv;exact h
 refine⟨by decide,k1,each ⟨by show totL (List.replicate k [])<=_;rw[ht];exact Nat.zero_le _,by show(List.replicate k []).length=k;simp⟩,by simp,λm hm=>by rw[mem_singleton] at hm;subst hm;decide,by simp,each λl hl=>?_,each λl hl=>?_⟩
 ·rw[List.eq_of_mem_replicate hl];exact λt ht=>by cases ht
 ·rw[List.eq_of_mem_replicate hl];exact λt ht=>by cases ht
theorem clone_s{l:Sl}{v:List ByteArray}(B:Buf h l 1 9 (ptrV v))(hs:v.length<=1000000000)(hQ:∀ h' r,Keep h h'->Buf h' r 1 9 (ptrV v)->NewN h r->Q (.slice r.a r.n r.c) h'):F115.T l h Q:=by
 have hn:l.n=v.length:=by have:=B.len;rw[ptrV_length] at this;omega
 refine⟨λhz=>?_,λ_ b hb=>?_⟩
 ·have h0:v=[]:=by
   rcases B.own with⟨_,hc⟩|⟨b,c,f,ha,_⟩
   ·have:=B.cap
    exact List.eq_nil_of_length_eq_zero (by omega)
   ·rw[hz] at ha;cases ha
  subst h0
  exact hQ h ⟨none,0,0⟩ (Keep.refl h) (Buf.nil _ _ _) (NewN.nil _)
 ·have K0:=Keep.new hb (.cells ⟨[]⟩ 9 (0,0))
  have B0:=buf_new (h:=h) (b:=b) (t:=9) (sz:=1) (n:=0) [] (by simp)
  refine⟨ptrV v,K0.row B.row,ptr_one _,append_buf B0 rfl (by rw[ptrV_length];omega) (by dsimp only;omega) λr h2 B2 _ U2=>?_⟩
  obtain⟨K2,N2⟩:=NewN.upd K0 (.inr ⟨b,rfl,hb⟩) U2
  exact hQ h2 r K2 (by simpa using B2) N2
theorem pointers_q(P:PG g h sb T pins ptrs)(Z:Sz k n T pins ptrs)(hQ:∀ h' r,Keep h h'->Buf h' r 1 9 (ptrV ptrs)->NewN h r->Q (.slice r.a r.n r.c) h'):F45.T (some ⟨sb,0,none⟩) h Q:=by
 obtain⟨vb,pm,cm,ps,ls,xs,L,X⟩:=P
 have hq:=Z.q
 have h5:=Z.n5
 exact⟨sb,0,rfl,ps,at_of X.S.s 2,clone_s X.S.p (by omega) λh' r K B N=>⟨r,rfl,hQ h' r K B N⟩⟩
end
end Go.Eng.YtbjnlacacapjiaaGreatDoor
end
section
namespace Go.Eng
def kR:Key:=(0,0,0)
def rF(pb tr:Nat)(cs:List Value):Bf:=⟨⟨some ⟨pb,0,none⟩,1,1⟩,28,tr,cs⟩
structure RN(m:Mem)(cs:List Value)(c slot tw:Nat):Prop where
 w:m (1,c,0)=some ⟨⟨none,0,0⟩,1,tw,[]⟩
 n:m (2,c,0)=some ⟨⟨none,0,0⟩,1,3,[]⟩
 d:m (3,c,0)=none
 cw:cs[slot]?=some (.slice none 0 0)
 cn:cs[slot+1]?=some (.slice none 0 0)
def RL(m:Mem)(cs:List Value)(c slot tw sz t:Nat)(s:Sl)(vs:List Value)(n:Nat):Prop:=∃ w nn:Sl,m (1,c,0)=some ⟨w,1,tw,[.slice s.a s.n s.c]⟩/\m (2,c,0)=some ⟨nn,1,3,[.int .i64 (n:Int)]⟩/\m (3,c,0)=some ⟨s,sz,t,vs⟩/\cs[slot]?=some (.slice w.a w.n w.c)/\cs[slot+1]?=some (.slice nn.a nn.n nn.c)/\s.n=n+40/\s.n<=s.c
theorem RN.cong{m m':Mem}{cs cs':List Value}{c slot tw:Nat}(R:RN m cs c slot tw)(hm:∀ k:Key,k≠kR->k.2.1=c->m' k=m k)(h0:cs'[slot]?=cs[slot]?)(h1:cs'[slot+1]?=cs[slot+1]?):RN m' cs' c slot tw:=
 ⟨by rw[hm _ (by unfold kR;simp) rfl];exact R.w,by rw[hm _ (by unfold kR;simp) rfl];exact R.n,by rw[hm _ (by unfold kR;simp) rfl];exact R.d,by rw[h0];exact R.cw,by rw[h1];exact R.cn⟩
theorem RL.cong{m m':Mem}{cs cs':List Value}{c slot tw sz t:Nat}{s:Sl}{vs:List Value}{n:Nat}(R:RL m cs c slot tw sz t s vs n)(hm:∀ k:Key,k≠kR->k.2.1=c->m' k=m k)(h0:cs'[slot]?=cs[slot]?)(h1:cs'[slot+1]?=cs[slot+1]?):RL m' cs' c slot tw sz t s vs n:=by
 obtain⟨w,nn,a,b,d,e,f,x⟩:=R
 exact⟨w,nn,by rw[hm _ (by unfold kR;simp) rfl];exact a,by rw[hm _ (by unfold kR;simp) rfl];exact b,by rw[hm _ (by unfold kR;simp) rfl];exact d,by rw[h0];exact e,by rw[h1];exact f,x⟩
theorem cut00(s:Sl)(sz:Nat)(k c:Int):Sl.cut s sz 0 k c=⟨s.a,k.toNat,c.toNat⟩:=by
 unfold Sl.cut
 have h0:(0:Int).toNat*sz=0:=by simp
 have ha:(s.a.map λx=>x.add 0)=s.a:=by
  cases h:s.a with
  |none=>rfl
  |some x=>simp[Addr.add]
 rw[h0]
 simp[ha]
theorem lay_room{h0 h:Hp}{m:Mem}{c pb slot tr tw t sz bytes:Nat}{mk:Nat->List Value}{z us cs:List Value}{G:Int->Hp->(List Value->Hp->Prop)->Prop}{l:Sl}{Q:Value->Hp->Prop}
  (hG:∀ (j:Nat) h K,K (mk j) h->G (j:Int) h K) (hmk:∀ j,(mk j).length=sz) (hz:z.length=sz) (hone:∀ v∈us,Value.oneCell' v=true)
  (O:Mine h0 h m) (er:m kR=some (rF pb tr cs)) (N:RN m cs c slot tw) (hslot:slot+1<28) (hr:h.row l.a (l.n*sz) us) (hb:(l.n+40)*bytes<=140737488355328) (hb0:0<bytes)
  (hQ:∀ h' m' cs' (s:Sl),Mine h0 h' m'->m' kR=some (rF pb tr cs')->RL m' cs' c slot tw sz t s (us++markL mk 40) l.n->(∀ k:Key,k≠kR->k.2.1≠c->m' k=m k)->(∀ f,f≠slot->f≠slot+1->cs'[f]?=cs[f]?)->Q (.slice s.a l.n s.n) h') :
  nw h (.cells ⟨[]⟩ t (0,0)) λb h1=>∃ vs,h1.row l.a (l.n*sz) vs/\(∀ v∈vs,Value.oneCell' v=true)/\appendD ⟨(some ⟨b,0,none⟩),0,0⟩ t sz bytes z l.n vs h1 λl1 h2=>∃ (I:Sl->Int->Hp->Prop) (m:Sl->Int->Hp->Nat),I l1 0 h2/\(∀ l2:Sl,∀ n1:Int,∀ h3:Hp,I l2 n1 h3->par (n1<(40:Int)) (G n1 h3 λus h4=>appendD l2 t sz bytes z 1 us h4 λl3 h5=>I l3 (wrap .i64 (n1+1)) h5/\m l3 (wrap .i64 (n1+1)) h5<m l2 n1 h3) (dr (some ⟨pb,0,none⟩) λb1 o=>ldS h3 b1 (o+slot) λl4=>appendD l4 tw 1 24 [.slice none 0 0] 1 [.slice l2.a l2.n l2.c] h3 λl5 h6=>dr (some ⟨pb,0,none⟩) λb2 o1=>st h6 b2 (o1+slot) 1 [.slice l5.a l5.n l5.c] λh7=>dr (some ⟨pb,0,none⟩) λb3 o2=>ldS h7 b3 (o2+(slot+1)) λl6=>appendD l6 3 1 8 [.int .i64 0] 1 [.int .i64 (l.n:Int)] h7 λl7 h8=>dr (some ⟨pb,0,none⟩) λb4 o3=>st h8 b4 (o3+(slot+1)) 1 [.slice l7.a l7.n l7.c] λh9=>Sl.okCut l2 0 (l.n:Int) (l2.n:Int)/\Q (.slice (Sl.cut l2 sz 0 (l.n:Int) (l2.n:Int)).a (Sl.cut l2 sz 0 (l.n:Int) (l2.n:Int)).n (Sl.cut l2 sz 0 (l.n:Int) (l2.n:Int)).c) h9)):=by
 have hcl:cs.length=28:=by have:=(O.buf kR _ er).len;simpa[rF] using this
 refine lay_own (kr:=kR) (kw:=(1,c,0)) (kn:=(2,c,0)) (kd:=(3,c,0)) (slot:=slot) (R:=28) (tr:=tr) (tw:=tw) (ti:=3) (t:=t) (sz:=sz) (bytes:=bytes) (M:=40) (mk:=mk) (us:=us) (w:=⟨none,0,0⟩) (n:=⟨none,0,0⟩) (ws:=[]) (ns:=[]) (cs:=cs) (G:=G) (Q:=Q) hG hmk hz hone O er N.w N.n N.d (by unfold kR;simp) (by unfold kR;simp) (by simp) hslot N.cw N.cn hr hb (by decide) hb0 (by decide) (by decide) (λh' w' n' s Ms hs1 hs2 _=>?_)
 have:=hQ h' _ ((cs.set slot (.slice w'.a w'.n w'.c)).set (slot+1) (.slice n'.a n'.n n'.c)) s Ms (put_self _ _ _) ⟨w',n',?_,?_,?_,?_,?_,hs1,hs2⟩ (λk h1 h2=>?_) (λf h1 h2=>?_)
 ·rw[cut00,Int.toNat_natCast,Int.toNat_natCast];exact this
 ·rw[put_ne _ _ (by unfold kR;simp),put_ne _ _ (by simp),put_self];rfl
 ·rw[put_ne _ _ (by unfold kR;simp),put_self];rfl
 ·rw[put_ne _ _ (by unfold kR;simp),put_ne _ _ (by simp),put_ne _ _ (by simp),put_self]
 ·rw[List.getElem?_set_ne (by omega),List.getElem?_set_self (by omega)]
 ·rw[List.getElem?_set_self (by rw[length_set];omega)]
 ·have ne:∀ a,k≠(a,c,0):=λa e=>h2 (by rw[e])
  rw[put_ne _ _ h1,put_ne _ _ (ne 2),put_ne _ _ (ne 1),put_ne _ _ (ne 3)]
 ·rw[List.getElem?_set_ne (by omega),List.getElem?_set_ne (by omega)]
theorem hold_room{h0 h:Hp}{m:Mem}{c pb slot tr tw t sz n0:Nat}{cs vs:List Value}{s:Sl}{Q:Value->Hp->Prop}{BODY:Nat->Nat->Int->Int->Hp->(Hp->Prop)->Prop}
  (O:Mine h0 h m) (er:m kR=some (rF pb tr cs)) (R:RL m cs c slot tw sz t s vs n0) (hslot:slot+1<28) (hl:n0<=140737488355328)
  (hB:∀ j,j<40->∀ P:Hp->Prop,P h->∃ b o,s.a=some ⟨b,o,none⟩/\BODY b o ((n0+j:Nat):Int) (n0:Int) h P)
  (hQ:Q (.bool true) h):∃ (I:Int->Hp->Prop) (m:Int->Hp->Nat),I 0 h/\(∀ n:Int,∀ h1:Hp,I n h1->dr (some ⟨pb,0,none⟩) λb o=>ldS h1 b (o+slot) λl=>par (n<(l.n:Int)) (dr (some ⟨pb,0,none⟩) λb1 o1=>ldS h1 b1 (o1+(slot+1)) λl1=>ix l1.a n l1.n λb2 o2=>ldI .i64 h1 b2 (o2+n.toNat) λn1=>∃ (I1:Int->Hp->Prop) (m1:Int->Hp->Nat),I1 n1 h1/\(∀ n2:Int,∀ h2:Hp,I1 n2 h2->dr (some ⟨pb,0,none⟩) λb3 o3=>ldS h2 b3 (o3+slot) λl2=>ix l2.a n l2.n λb4 o4=>ldS h2 b4 (o4+n.toNat) λl3=>par (n2<(l3.n:Int)) (dr (some ⟨pb,0,none⟩) λb5 o5=>ldS h2 b5 (o5+slot) λl4=>ix l4.a n l4.n λb6 o6=>ldS h2 b6 (o6+n.toNat) λl5=>ix l5.a n2 l5.n λb7 o7=>BODY b7 o7 n2 n1 h2 λh3=>I1 (wrap .i64 (n2+1)) h3/\m1 (wrap .i64 (n2+1)) h3<m1 n2 h2) (I (wrap .i64 (n+1)) h2/\m (wrap .i64 (n+1)) h2<m n h1))) (Q (.bool true) h1)):=by
 obtain⟨w,nn,a,b,d,e,f,x1,x2⟩:=R
 refine hold_own (M:=40) (slot:=slot) (R:=28) (tr:=tr) (tw:=tw) (ti:=3) (cs:=cs) (w:=w) (n:=nn) (ls:=[(s,n0)]) (BODY:=BODY) (O.buf kR _ er) (O.buf _ _ a) (O.buf _ _ b) hslot e f ?_ (by simp) ?_ hQ
 ·intro x hx;rw[mem_singleton] at hx;subst hx;exact⟨x1,by show s.n<_;omega⟩
 ·intro x hx j hj K hK
  rw[mem_singleton] at hx;subst hx
  exact hB j hj K hK
theorem room_new{h:Hp}{pb tr:Nat}{cs:List Value}(hb:h pb=none)(hc:cs.length=28):Mine h (h.new pb (.cells ⟨cs⟩ tr (0,0))) (Mem.put (λ_=>none) kR (rF pb tr cs)):=
 (Mine.start h).add (k:=kR) rfl (Keep.new hb _) (.inr ⟨pb,rfl,hb⟩) (buf_new (n:=1) cs (by rw[hc]))
end Go.Eng
end
section
namespace Go.Eng.YtbjnlacacapjiaaGreatDoor
open Go.Eng
section
variable{g h h':Hp}{Q:Value->Hp->Prop}{l l1 l2 l3 l4 l5:Sl}{e:Edit}
theorem sameS_s{A:List ByteArray}(RA:h.row l.a l.n (ptrV A))(RB:h.row l1.a l1.n (ptrV A))(hA:A.length<=5000000)(hQ:Q (.bool true) h):F46.T l l1 h Q:=by
 have n1:l.n=A.length:=by have:=RA.1;rw[ptrV_length] at this;omega
 have n2:l1.n=A.length:=by have:=RB.1;rw[ptrV_length] at this;omega
 unfold F46.T
 refine⟨λ_=>⟨λn h1=>∃ i:Nat,n=(i:Int)/\i<=A.length/\h1=h,λn _=>A.length-n.toNat,⟨0,rfl,Nat.zero_le _,rfl⟩,?_⟩,λq=>absurd (by rw[n1,n2]) q⟩
 rintro n h1 ⟨i,rfl,hi,rfl⟩
 refine⟨λhlt=>?_,λ_=>hQ⟩
 have hi':i<A.length:=by omega
 obtain⟨b,o,ha,hat⟩:=row_get RA (i:=i) (by omega)
 obtain⟨b1,o1,ha1,hat1⟩:=row_get RB (i:=i) (by omega)
 have c:(ptrV A)[i]?=some (.string A[i]):=by unfold ptrV;rw[getElem?_map,getElem?_eq_getElem hi'];rfl
 refine⟨b,o,ha,⟨by omega,by omega⟩,_,by rw[Int.toNat_natCast,hat _ (by omega)];exact c,b1,o1,ha1,⟨by omega,by omega⟩,_,by rw[Int.toNat_natCast,hat1 _ (by omega)];exact c,λ_=>?_,λq=>absurd rfl q⟩
 rw[nx_i hi' (by omega)]
 exact⟨⟨i+1,rfl,hi',rfl⟩,by dsimp only;omega⟩
theorem el_rd{α:Type}{f:α->List Value}{sz:Nat}(hf:∀ x,(f x).length=sz){A:List α}{h:Hp}{l:Sl}(R:h.row l.a (l.n*sz) (A.flatMap f))(hsz:0<sz){i:Nat}(hi:i<A.length):l.n=A.length/\∃ b o,l.a=some ⟨b,o,none⟩/\∀ c,c<sz->h.at b (o+i*sz+c)=(f A[i])[c]?:=by
 have hl:A.length*sz=l.n*sz:=by have:=R.1;rw[flatL f sz hf] at this;exact this
 have hn:l.n=A.length:=Nat.eq_of_mul_eq_mul_right hsz hl.symm
 have hlt:∀ c,c<sz->i*sz+c<l.n*sz:=λc hc=>by
  have:(i+1)*sz<=l.n*sz:=Nat.mul_le_mul_right _ (by omega)
  rw[Nat.add_mul] at this;omega
 obtain⟨b,o,ha,hat⟩:=row_get R (i:=i*sz+0) (hlt 0 hsz)
 refine⟨hn,b,o,ha,λc hc=>?_⟩
 rw[Nat.add_assoc,hat _ (hlt c hc)]
 exact flatG f sz hf A i c hi hc
theorem sameE_s{a b c:Int}(E:EdAt h e l l1 l2)(E':EdAt h e l3 l4 l5)(ho:e.out.length<=5000000)(hi:e.inn.length<=5000000)(hp:e.ptr.length<=5000000)(hQ:Q (.bool true) h):F37.T a b c l l1 l2 a b c l3 l4 l5 h Q:=by
 have n0:l.n=e.out.length:=by have:=E.out.1;rw[outV_len] at this;omega
 have n3:l3.n=e.out.length:=by have:=E'.out.1;rw[outV_len] at this;omega
 have n1:l1.n=e.inn.length:=by have:=E.inn.1;rw[inV_len] at this;omega
 have n4:l4.n=e.inn.length:=by have:=E'.inn.1;rw[inV_len] at this;omega
 unfold F37.T F37.G
 refine⟨λ_=>⟨λ_=>⟨λ_=>⟨λ_=>⟨λ_=>?_,λq=>absurd (by rw[n1,n4]) q⟩,λq=>absurd (by rw[n0,n3]) q⟩,λq=>absurd rfl q⟩,λq=>absurd rfl q⟩,λq=>absurd rfl q⟩
 refine sameS_s E.ptr E'.ptr hp ⟨true,rfl,λ_=>?_,λq=>Bool.noConfusion q⟩
 refine⟨λn h1=>∃ i:Nat,n=(i:Int)/\i<=e.out.length/\h1=h,λn _=>e.out.length-n.toNat,⟨0,rfl,Nat.zero_le _,rfl⟩,?_⟩
 rintro n h1 ⟨i,rfl,hil,rfl⟩
 refine⟨λhlt=>?_,λ_=>?_⟩
 ·have hi':i<e.out.length:=by omega
  obtain⟨_,b,o,ha,hat⟩:=el_rd (f:=Place.cells) (λ_=>rfl) E.out (by decide) hi'
  obtain⟨_,b1,o1,ha1,hat1⟩:=el_rd (f:=Place.cells) (λ_=>rfl) E'.out (by decide) hi'
  refine⟨b,o,ha,⟨by omega,by omega⟩,_,hat 0 (by decide),_,hat 1 (by decide),b1,o1,ha1,⟨by omega,by omega⟩,_,hat1 0 (by decide),_,hat1 1 (by decide),λ_=>?_,λq=>absurd rfl q⟩
  rw[nx_i hi' (by omega)]
  exact⟨⟨i+1,rfl,hi',rfl⟩,by dsimp only;omega⟩
 refine⟨λn h2=>∃ i:Nat,n=(i:Int)/\i<=e.inn.length/\h2=h1,λn _=>e.inn.length-n.toNat,⟨0,rfl,Nat.zero_le _,rfl⟩,?_⟩
 rintro n h2 ⟨i,rfl,hil,rfl⟩
 refine⟨λhlt=>?_,λ_=>hQ⟩
 have hi':i<e.inn.length:=by omega
 obtain⟨_,b,o,ha,hat⟩:=el_rd (f:=Placed.cells) (λ_=>rfl) E.inn (by decide) hi'
 obtain⟨_,b1,o1,ha1,hat1⟩:=el_rd (f:=Placed.cells) (λ_=>rfl) E'.inn (by decide) hi'
 refine⟨b,o,ha,⟨by omega,by omega⟩,_,hat 0 (by decide),_,hat 1 (by decide),_,hat 2 (by decide),_,hat 3 (by decide),_,hat 4 (by decide),_,hat 5 (by decide),_,hat 6 (by decide),b1,o1,ha1,⟨by omega,by omega⟩,_,hat1 0 (by decide),_,hat1 1 (by decide),_,hat1 2 (by decide),_,hat1 3 (by decide),_,hat1 4 (by decide),_,hat1 5 (by decide),_,hat1 6 (by decide),λ_=>?_,λq=>absurd rfl q⟩
 rw[nx_i hi' (by omega)]
 exact⟨⟨i+1,rfl,hi',rfl⟩,by dsimp only;omega⟩
end
def Mw(g h g' h':Hp):Prop:=Keep g' h'/\∀ b x,g b=none->h b=some x->g' b=none/\h' b=some x
theorem Mw.inn{h:Hp}{z:Lb}{i:Nat}:Mw emp (on h z i) (off h z i) h:=⟨off_k,λb x _ e=>⟨off_i (on_s e).1,(on_s e).2⟩⟩
theorem Mw.out{h h':Hp}{z:Lb}{i:Nat}:Mw (off h z i) h' emp (on h' (lab h z i) i):=⟨λ_ _ e=>(by cases e),λb x n e=>⟨rfl,by
 have:lab h z i b=i:=by
  cases e2:h b with
  |none=>exact lab_n e2
  |some w=>
   rw[lab_s e2]
   apply Classical.byContradiction
   intro hne
   rw[off_n hne,e2] at n;cases n
 rw[on_i this];exact e⟩⟩
theorem Mw.fresh{h h':Hp}{z:Lb}{i:Nat}:Mw h h' emp (on h' (lab h z i) i):=⟨λ_ _ e=>(by cases e),λb x n e=>⟨rfl,by rw[on_i (lab_n n)];exact e⟩⟩
def lotI(j:Nat):Int:=if j % 2=0 then -7701 else -7702
def wordB(j:Nat):ByteArray:=if j % 2=0 then ByteArray.mk #[60,111,110,101,62] else ByteArray.mk #[60,116,119,111,62]
def mk1(j:Nat):List Value:=[.string (wordB j)]
def mk2(j:Nat):List Value:=[.int .i64 (lotI j),.int .u64 0]
def mk7(j:Nat):List Value:=[.int .i64 (lotI j),.int .u64 0,.int .i64 0,.int .i64 0,.int .i64 0,.string ⟨#[]⟩,.string ⟨#[]⟩]
def noC(cs:List Value):Prop:=∀ f,f<28->f≠6->f≠7->f≠16->f≠17->f≠18->f≠19->cs[f]?=some (.slice none 0 0)
def RmS(g h:Hp)(pb:Nat)(s2 s7 s1:Sl)(e:Edit):Prop:=∃ m cs,Mine g h m/\m kR=some (rF pb 104 cs)/\RL m cs 1 16 49 2 116 s2 (outV e.out++markL mk2 40) e.out.length/\RL m cs 2 18 50 7 65 s7 (inV e.inn++markL mk7 40) e.inn.length/\RL m cs 3 6 51 1 9 s1 (ptrV e.ptr++markL mk1 40) e.ptr.length/\noC cs
section
variable{g h h':Hp}{pb:Nat}{s2 s7 s1:Sl}{Q:Value->Hp->Prop}{l l1 l2:Sl}{e:Edit}
theorem lot_s{j:Nat}(hQ:Q (.int .i64 (lotI j)) h):F167.T (j:Int) h Q:=by
 have e:Int.tmod (j:Int) 2=((j % 2:Nat):Int):=by rw[Int.tmod_eq_emod_of_nonneg (by omega)];omega
 refine⟨by decide,λh0=>?_,λh0=>?_⟩
 ·unfold lotI at hQ;rw[if_pos (by omega)] at hQ;exact hQ
 ·unfold lotI at hQ;rw[if_neg (by omega)] at hQ;exact hQ
theorem word_s{j:Nat}(hQ:Q (.string (wordB j)) h):F168.T (j:Int) h Q:=by
 have e:Int.tmod (j:Int) 2=((j % 2:Nat):Int):=by rw[Int.tmod_eq_emod_of_nonneg (by omega)];omega
 refine⟨by decide,λh0=>?_,λh0=>?_⟩
 ·unfold wordB at hQ;rw[if_pos (by omega)] at hQ;exact hQ
 ·unfold wordB at hQ;rw[if_neg (by omega)] at hQ;exact hQ
theorem row_pre{s:Sl}{sz t n:Nat}{A B:List Value}(Bf:Buf h s sz t (A++B))(hA:A.length=n*sz):h.row s.a (n*sz) A:=by
 have r:=Bf.row
 refine⟨hA,?_⟩
 have hl:=r.1
 rw[length_append] at hl
 rcases Nat.eq_zero_or_pos (n*sz) with h0|h0
 ·exact .inl h0
 ·obtain⟨b,o,ha,hat⟩:=row_get r (i:=0) (by omega)
  refine .inr ⟨b,o,ha,λj hj=>?_⟩
  rw[hat j (by omega),List.getElem?_append_left (by omega)]
theorem RmS.ed(R:RmS g h pb s2 s7 s1 e):EdAt h e ⟨s2.a,e.out.length,s2.n⟩ ⟨s7.a,e.inn.length,s7.n⟩ ⟨s1.a,e.ptr.length,s1.n⟩:=by
 obtain⟨m,cs,O,kr,⟨w2,n2,_,_,d2,_⟩,⟨w7,n7,_,_,d7,_⟩,⟨w1,n1,_,_,d1,_⟩,no⟩:=R
 have a:=row_pre (n:=e.out.length) (O.buf _ _ d2) (outV_len _)
 have b:=row_pre (n:=e.inn.length) (O.buf _ _ d7) (inV_len _)
 have c:=row_pre (n:=e.ptr.length) (O.buf _ _ d1) (by rw[ptrV_length,Nat.mul_one])
 rw[Nat.mul_one] at c
 exact⟨a,b,c⟩
theorem mine_mw{g h g' h':Hp}{m:Mem}(M:Mw g h g' h')(O:Mine g h m):Mine g' h' m:=by
 have key:∀ k x,m k=some x->NewB g' x.s/\Buf h' x.s x.sz x.t x.vs:=λk x hk=>by
  have B:=O.buf k x hk
  rcases B.own with⟨ha,hc⟩|⟨b,c,f,ha,hb,y⟩
  ·exact⟨.inl ha,B.len,B.cap,.inl ⟨ha,hc⟩⟩
  ·rcases O.new k x hk with n|⟨b',e,n⟩
   ·rw[ha] at n;cases n
   ·rw[ha] at e
    simp only[Option.some.injEq,Addr.mk.injEq,and_true] at e
    subst e
    obtain⟨n1,h1⟩:=M.2 b _ n hb
    exact⟨.inr ⟨b,ha,n1⟩,B.len,B.cap,.inr ⟨b,c,f,ha,h1,y⟩⟩
 exact⟨M.1,λk x hk=>(key k x hk).2,λk x hk=>(key k x hk).1,O.off⟩
theorem RmS.mw{g':Hp}(M:Mw g h g' h')(R:RmS g h pb s2 s7 s1 e):RmS g' h' pb s2 s7 s1 e:=by
 obtain⟨m,cs,O,x⟩:=R
 exact⟨m,cs,mine_mw M O,x⟩
theorem RmS.kp(R:RmS g h pb s2 s7 s1 e):Keep g h:=by
 obtain⟨m,cs,O,x⟩:=R
 exact O.keep
theorem outV_one(o:List Place):∀ v∈outV o,Value.oneCell' v=true:=λv hv=>by
 obtain⟨p,_,hp⟩:=List.mem_flatMap.1 hv
 simp only[Place.cells,mem_cons,List.not_mem_nil,or_false] at hp
 rcases hp with rfl|rfl<;>rfl
theorem inV_one(o:List Placed):∀ v∈inV o,Value.oneCell' v=true:=λv hv=>by
 obtain⟨p,_,hp⟩:=List.mem_flatMap.1 hv
 simp only[Placed.cells,mem_cons,List.not_mem_nil,or_false] at hp
 rcases hp with rfl|rfl|rfl|rfl|rfl|rfl|rfl<;>rfl
theorem edit_r{cs:List Value}{a b c:Int}(hp:h pb=none)(hc:cs.length=28)(hz:∀ f,f<28->cs[f]?=some (.slice none 0 0))(E:EdAt h e l l1 l2)(ho:e.out.length<=5000000)(hi:e.inn.length<=5000000)(hpt:e.ptr.length<=5000000)
  (hQ:∀ h' s2 s7 s1,RmS h h' pb s2 s7 s1 e->Q (.agg ⟨[.int .u64 a,.int .u64 b,.int .u64 c,.slice s2.a e.out.length s2.n,.slice s7.a e.inn.length s7.n,.slice s1.a e.ptr.length s1.n]⟩) h'):F32.T (some ⟨pb,0,none⟩) a b c l l1 l2 (h.new pb (.cells ⟨cs⟩ 104 (0,0))) Q:=by
 have n0:l.n=e.out.length:=by have:=E.out.1;rw[outV_len] at this;omega
 have n1:l1.n=e.inn.length:=by have:=E.inn.1;rw[inV_len] at this;omega
 have n2:l2.n=e.ptr.length:=by have:=E.ptr.1;rw[ptrV_length] at this;omega
 have O0:=room_new (tr:=104) hp hc
 have E0:=E.keep (Keep.new hp (.cells ⟨cs⟩ 104 (0,0)))
 generalize h.new pb (.cells ⟨cs⟩ 104 (0,0))=h0 at O0 E0 ⊢
 have e0:=put_self (λ_=>none) kR (rF pb 104 cs)
 have v0:∀ k:Key,k≠kR->(Mem.put (λ_=>none) kR (rF pb 104 cs)) k=none:=λk hk=>by rw[put_ne _ _ hk]
 generalize (Mem.put (λ_=>none) kR (rF pb 104 cs))=m0 at O0 e0 v0
 obtain⟨m1,O1,e1,N2,N7,N1⟩:∃ m1,Mine h h0 m1/\m1 kR=some (rF pb 104 cs)/\RN m1 cs 1 16 49/\RN m1 cs 2 18 50/\RN m1 cs 3 6 51:=by
  have kne:∀ a c,0<a->((a,c,0):Key)≠kR:=λa c ha e=>by unfold kR at e;simp only[Prod.mk.injEq] at e;omega
  have O1:=O0.nil (k:=(1,1,0)) (v0 _ (kne _ _ (by decide))) 1 49
  have O2:=O1.nil (k:=(2,1,0)) (by rw[put_ne _ _ (by simp)];exact v0 _ (kne _ _ (by decide))) 1 3
  have O3:=O2.nil (k:=(1,2,0)) (by rw[put_ne _ _ (by simp),put_ne _ _ (by simp)];exact v0 _ (kne _ _ (by decide))) 1 50
  have O4:=O3.nil (k:=(2,2,0)) (by rw[put_ne _ _ (by simp),put_ne _ _ (by simp),put_ne _ _ (by simp)];exact v0 _ (kne _ _ (by decide))) 1 3
  have O5:=O4.nil (k:=(1,3,0)) (by rw[put_ne _ _ (by simp),put_ne _ _ (by simp),put_ne _ _ (by simp),put_ne _ _ (by simp)];exact v0 _ (kne _ _ (by decide))) 1 51
  have O6:=O5.nil (k:=(2,3,0)) (by rw[put_ne _ _ (by simp),put_ne _ _ (by simp),put_ne _ _ (by simp),put_ne _ _ (by simp),put_ne _ _ (by simp)];exact v0 _ (kne _ _ (by decide))) 1 3
  refine⟨_,O6,?_,⟨?_,?_,?_,hz _ (by decide),hz _ (by decide)⟩,⟨?_,?_,?_,hz _ (by decide),hz _ (by decide)⟩,⟨?_,?_,?_,hz _ (by decide),hz _ (by decide)⟩⟩
  ·simp only[Mem.put,kR,Prod.mk.injEq];exact e0
  all_goals (simp[Mem.put]<;>exact v0 _ (kne _ _ (by decide)))
 have ml1:∀ j,(mk1 j).length=1:=λ_=>rfl
 unfold F32.T F32.G F92.T F92.G F150.T F150.G
 refine lay_room (mk:=mk2) (us:=outV e.out) (sz:=2) (c:=1) (slot:=16) (bytes:=16) (G:=λn1 h3 K=>F167.T n1 h3 λr h4=>retI .i64 r λn2=>K [.int .i64 n2,.int .u64 0] h4) (Q:=λv h1=>retS v λl1'=>retS (.slice l1'.a l1'.n l1'.c) λl3=>F93.T (some ⟨pb,0,none⟩) l1 h1 λr1 h2=>retS r1 λl4=>F94.T (some ⟨pb,0,none⟩) l2 h2 λr2 h3=>retS r2 λl5=>Q (.agg ⟨[.int .u64 a,.int .u64 b,.int .u64 c,.slice l3.a l3.n l3.c,.slice l4.a l4.n l4.c,.slice l5.a l5.n l5.c]⟩) h3) (λj h K hK=>lot_s ⟨_,rfl,hK⟩) (λ_=>rfl) rfl (outV_one _) O1 e1 N2 (by decide) E0.out (by omega) (by decide) λh2 m2 cs2 s2 O2 e2 R2 c2 d2=>⟨⟨s2.a,l.n,s2.n⟩,rfl,⟨s2.a,l.n,s2.n⟩,rfl,?_⟩
 have N7':=N7.cong (m':=m2) (cs':=cs2) (λk hk e=>c2 k hk (by rw[e];decide)) (d2 18 (by decide) (by decide)) (d2 19 (by decide) (by decide))
 have N1':=N1.cong (m':=m2) (cs':=cs2) (λk hk e=>c2 k hk (by rw[e];decide)) (d2 6 (by decide) (by decide)) (d2 7 (by decide) (by decide))
 have E2:=E.keep O2.keep
 unfold F93.T F93.G F151.T F151.G
 refine lay_room (mk:=mk7) (us:=inV e.inn) (sz:=7) (c:=2) (slot:=18) (bytes:=72) (G:=λn1 h3 K=>F167.T n1 h3 λr h4=>retI .i64 r λn2=>K [.int .i64 n2,.int .u64 0,.int .i64 0,.int .i64 0,.int .i64 0,.string ⟨#[]⟩,.string ⟨#[]⟩] h4) (Q:=λv h1=>retS v λl1'=>retS (.slice l1'.a l1'.n l1'.c) λl4=>F94.T (some ⟨pb,0,none⟩) l2 h1 λr2 h3=>retS r2 λl5=>Q (.agg ⟨[.int .u64 a,.int .u64 b,.int .u64 c,.slice s2.a l.n s2.n,.slice l4.a l4.n l4.c,.slice l5.a l5.n l5.c]⟩) h3) (λj h K hK=>lot_s ⟨_,rfl,hK⟩) (λ_=>rfl) rfl (inV_one _) O2 e2 N7' (by decide) E2.inn (by omega) (by decide) λh3 m3 cs3 s7 O3 e3 R7 c3 d3=>⟨⟨s7.a,l1.n,s7.n⟩,rfl,⟨s7.a,l1.n,s7.n⟩,rfl,?_⟩
 have N1'':=N1'.cong (m':=m3) (cs':=cs3) (λk hk e=>c3 k hk (by rw[e];decide)) (d3 6 (by decide) (by decide)) (d3 7 (by decide) (by decide))
 have R2':=R2.cong (m':=m3) (cs':=cs3) (λk hk e=>c3 k hk (by rw[e];decide)) (d3 16 (by decide) (by decide)) (d3 17 (by decide) (by decide))
 have E3:=E.keep O3.keep
 unfold F94.T F94.G F152.T F152.G
 refine lay_room (mk:=mk1) (us:=ptrV e.ptr) (sz:=1) (c:=3) (slot:=6) (bytes:=16) (G:=λn1 h3 K=>F168.T n1 h3 λr h4=>retT r λs=>K [.string s] h4) (Q:=λv h1=>retS v λl1'=>retS (.slice l1'.a l1'.n l1'.c) λl5=>Q (.agg ⟨[.int .u64 a,.int .u64 b,.int .u64 c,.slice s2.a l.n s2.n,.slice s7.a l1.n s7.n,.slice l5.a l5.n l5.c]⟩) h1) (λj h K hK=>word_s ⟨_,rfl,hK⟩) (λ_=>rfl) rfl (ptr_one _) O3 e3 N1'' (by decide) (by rw[Nat.mul_one];exact E3.ptr) (by omega) (by decide) λh4 m4 cs4 s1 O4 e4 R1 c4 d4=>⟨⟨s1.a,l2.n,s1.n⟩,rfl,⟨s1.a,l2.n,s1.n⟩,rfl,?_⟩
 have R2'':=R2'.cong (m':=m4) (cs':=cs4) (λk hk e=>c4 k hk (by rw[e];decide)) (d4 16 (by decide) (by decide)) (d4 17 (by decide) (by decide))
 have R7':=R7.cong (m':=m4) (cs':=cs4) (λk hk e=>c4 k hk (by rw[e];decide)) (d4 18 (by decide) (by decide)) (d4 19 (by decide) (by decide))
 rw[n0,n1,n2]
 rw[n0] at R2''
 rw[n1] at R7'
 rw[n2] at R1
 exact hQ h4 s2 s7 s1 ⟨m4,cs4,O4,e4,R2'',R7',R1,λf hf a6 a7 b6 b7 x8 x9=>by rw[d4 f a6 a7,d3 f x8 x9,d2 f b6 b7];exact hz f hf⟩
end
end Go.Eng.YtbjnlacacapjiaaGreatDoor
end
section
namespace Go.Eng.YtbjnlacacapjiaaGreatDoor
open Go.Eng
section
variable{g h h':Hp}{pb:Nat}{s2 s7 s1:Sl}{Q:Value->Hp->Prop}{l l1 l2:Sl}{e:Edit}
theorem nil101_s(hc:h.at pb (0+0)=some (.slice none 0 0))(hQ:Q (.bool true) h):F101.T (some ⟨pb,0,none⟩) h Q:=by
 unfold F101.T
 exact hold_nil hc hQ
theorem nil102_s(hc:h.at pb (0+2)=some (.slice none 0 0))(hQ:Q (.bool true) h):F102.T (some ⟨pb,0,none⟩) h Q:=by
 unfold F102.T
 exact hold_nil hc hQ
theorem nil103_s(hc:h.at pb (0+4)=some (.slice none 0 0))(hQ:Q (.bool true) h):F103.T (some ⟨pb,0,none⟩) h Q:=by
 unfold F103.T
 exact hold_nil hc hQ
theorem nil105_s(hc:h.at pb (0+8)=some (.slice none 0 0))(hQ:Q (.bool true) h):F105.T (some ⟨pb,0,none⟩) h Q:=by
 unfold F105.T
 exact hold_nil hc hQ
theorem nil106_s(hc:h.at pb (0+10)=some (.slice none 0 0))(hQ:Q (.bool true) h):F106.T (some ⟨pb,0,none⟩) h Q:=by
 unfold F106.T
 exact hold_nil hc hQ
theorem nil107_s(hc:h.at pb (0+12)=some (.slice none 0 0))(hQ:Q (.bool true) h):F107.T (some ⟨pb,0,none⟩) h Q:=by
 unfold F107.T
 exact hold_nil hc hQ
theorem nil108_s(hc:h.at pb (0+14)=some (.slice none 0 0))(hQ:Q (.bool true) h):F108.T (some ⟨pb,0,none⟩) h Q:=by
 unfold F108.T
 exact hold_nil hc hQ
theorem nil111_s(hc:h.at pb (0+20)=some (.slice none 0 0))(hQ:Q (.bool true) h):F111.T (some ⟨pb,0,none⟩) h Q:=by
 unfold F111.T
 exact hold_nil hc hQ
theorem nil112_s(hc:h.at pb (0+22)=some (.slice none 0 0))(hQ:Q (.bool true) h):F112.T (some ⟨pb,0,none⟩) h Q:=by
 unfold F112.T
 exact hold_nil hc hQ
theorem nil113_s(hc:h.at pb (0+24)=some (.slice none 0 0))(hQ:Q (.bool true) h):F113.T (some ⟨pb,0,none⟩) h Q:=by
 unfold F113.T
 exact hold_nil hc hQ
theorem nil114_s(hc:h.at pb (0+26)=some (.slice none 0 0))(hQ:Q (.bool true) h):F114.T (some ⟨pb,0,none⟩) h Q:=by
 unfold F114.T
 exact hold_nil hc hQ
theorem hold104_s{m:Mem}{cs:List Value}(O:Mine g h m)(kr:m kR=some (rF pb 104 cs))(R:RL m cs 3 6 51 1 9 s1 (ptrV e.ptr++markL mk1 40) e.ptr.length)(hl:e.ptr.length<=5000000)(hQ:Q (.bool true) h):F104.T (some ⟨pb,0,none⟩) h Q:=by
 unfold F104.T F104.G
 have BB:=R
 obtain⟨_,_,_,_,d,_,_,x1,x2⟩:=BB
 have Bf:=O.buf _ _ d
 dsimp only at Bf
 refine hold_room (slot:=6) (BODY:=λb o n2 n1 h P=>ldT h b (o+n2.toNat) λs=>F168.T (wrap .i64 (n2-n1)) h λr h3=>retT r λs1=>par (s=s1) (P h3) (Q (.bool false) h3)) O kr R (by decide) (by omega) (λj hj K hK=>?_) hQ
 have hjl:(e.ptr.length+j)*1+(1-1)<(ptrV e.ptr++markL mk1 40).length:=by
  rw[length_append,ptrV_length,Nat.mul_one,markL_len (mk:=mk1) (sz:=1) (λ_=>rfl)];omega
 have m0:=λc hc=>mark_at (mk:=mk1) (sz:=1) (λ_=>rfl) (us:=ptrV e.ptr) (n:=e.ptr.length) (by rw[ptrV_length,Nat.mul_one]) (m:=40) hj (c:=c) hc
 have rd:∀ c,c<1->∃ b,s1.a=some ⟨b,0,none⟩/\h.at b (0+((e.ptr.length+j)*1+c))=(mk1 j)[c]?:=λc hc=>by
  obtain⟨b,ha,hat⟩:=buf_at Bf (k:=(e.ptr.length+j)*1+c) (by omega)
  exact⟨b,ha,by rw[hat,m0 c hc]⟩
 obtain⟨b,ha,h0⟩:=rd 0 (by decide)
 have rd':∀ c,c<1->h.at b (0+((e.ptr.length+j)*1+c))=(mk1 j)[c]?:=λc hc=>by
  obtain⟨b',ha',h'⟩:=rd c hc
  rw[ha] at ha';cases ha';exact h'
 have w:wrap .i64 (((e.ptr.length+j:Nat):Int)-(e.ptr.length:Int))=(j:Int):=by rw[wrap_i64 (by omega) (by omega)];omega
 refine⟨b,0,ha,?_⟩
 rw[w,Int.toNat_natCast]
 exact⟨_,by have:=rd' 0 (by decide);rw[Nat.mul_one,Nat.add_zero] at this;exact this,word_s ⟨_,rfl,λ_=>hK,λq=>absurd rfl q⟩⟩
theorem hold109_s{m:Mem}{cs:List Value}(O:Mine g h m)(kr:m kR=some (rF pb 104 cs))(R:RL m cs 1 16 49 2 116 s2 (outV e.out++markL mk2 40) e.out.length)(hl:e.out.length<=5000000)(hQ:Q (.bool true) h):F109.T (some ⟨pb,0,none⟩) h Q:=by
 unfold F109.T F109.G
 have BB:=R
 obtain⟨_,_,_,_,d,_,_,x1,x2⟩:=BB
 have Bf:=O.buf _ _ d
 dsimp only at Bf
 refine hold_room (slot:=16) (BODY:=λb o n2 n1 h P=>ldI .i64 h b (o+n2.toNat*2) λn3=>ldI .u64 h b ((o+n2.toNat*2)+1) λn4=>F167.T (wrap .i64 (n2-n1)) h λr h3=>retI .i64 r λn5=>par (([.int .i64 n3,.int .u64 n4]:List Value)=[.int .i64 n5,.int .u64 0]) (P h3) (Q (.bool false) h3)) O kr R (by decide) (by omega) (λj hj K hK=>?_) hQ
 have hjl:(e.out.length+j)*2+(2-1)<(outV e.out++markL mk2 40).length:=by
  rw[length_append,outV_len,markL_len (mk:=mk2) (sz:=2) (λ_=>rfl)];omega
 have m0:=λc hc=>mark_at (mk:=mk2) (sz:=2) (λ_=>rfl) (us:=outV e.out) (n:=e.out.length) (by rw[outV_len]) (m:=40) hj (c:=c) hc
 have rd:∀ c,c<2->∃ b,s2.a=some ⟨b,0,none⟩/\h.at b (0+((e.out.length+j)*2+c))=(mk2 j)[c]?:=λc hc=>by
  obtain⟨b,ha,hat⟩:=buf_at Bf (k:=(e.out.length+j)*2+c) (by omega)
  exact⟨b,ha,by rw[hat,m0 c hc]⟩
 obtain⟨b,ha,h0⟩:=rd 0 (by decide)
 have rd':∀ c,c<2->h.at b (0+((e.out.length+j)*2+c))=(mk2 j)[c]?:=λc hc=>by
  obtain⟨b',ha',h'⟩:=rd c hc
  rw[ha] at ha';cases ha';exact h'
 have w:wrap .i64 (((e.out.length+j:Nat):Int)-(e.out.length:Int))=(j:Int):=by rw[wrap_i64 (by omega) (by omega)];omega
 refine⟨b,0,ha,?_⟩
 rw[w,Int.toNat_natCast]
 exact⟨_,rd' 0 (by decide),_,rd' 1 (by decide),lot_s ⟨_,rfl,λ_=>hK,λq=>absurd rfl q⟩⟩
theorem hold110_s{m:Mem}{cs:List Value}(O:Mine g h m)(kr:m kR=some (rF pb 104 cs))(R:RL m cs 2 18 50 7 65 s7 (inV e.inn++markL mk7 40) e.inn.length)(hl:e.inn.length<=5000000)(hQ:Q (.bool true) h):F110.T (some ⟨pb,0,none⟩) h Q:=by
 unfold F110.T F110.G
 have BB:=R
 obtain⟨_,_,_,_,d,_,_,x1,x2⟩:=BB
 have Bf:=O.buf _ _ d
 dsimp only at Bf
 refine hold_room (slot:=18) (BODY:=λb o n2 n1 h P=>ldI .i64 h b (o+n2.toNat*7) λn3=>ldI .u64 h b ((o+n2.toNat*7)+1) λn4=>ldI .i64 h b ((o+n2.toNat*7)+2) λn5=>ldI .i64 h b ((o+n2.toNat*7)+3) λn6=>ldI .i64 h b ((o+n2.toNat*7)+4) λn7=>ldT h b ((o+n2.toNat*7)+5) λs=>ldT h b ((o+n2.toNat*7)+6) λs1=>F167.T (wrap .i64 (n2-n1)) h λr h3=>retI .i64 r λn8=>par (([.int .i64 n3,.int .u64 n4,.int .i64 n5,.int .i64 n6,.int .i64 n7,.string s,.string s1]:List Value)=[.int .i64 n8,.int .u64 0,.int .i64 0,.int .i64 0,.int .i64 0,.string ⟨#[]⟩,.string ⟨#[]⟩]) (P h3) (Q (.bool false) h3)) O kr R (by decide) (by omega) (λj hj K hK=>?_) hQ
 have hjl:(e.inn.length+j)*7+(7-1)<(inV e.inn++markL mk7 40).length:=by
  rw[length_append,inV_len,markL_len (mk:=mk7) (sz:=7) (λ_=>rfl)];omega
 have m0:=λc hc=>mark_at (mk:=mk7) (sz:=7) (λ_=>rfl) (us:=inV e.inn) (n:=e.inn.length) (by rw[inV_len]) (m:=40) hj (c:=c) hc
 have rd:∀ c,c<7->∃ b,s7.a=some ⟨b,0,none⟩/\h.at b (0+((e.inn.length+j)*7+c))=(mk7 j)[c]?:=λc hc=>by
  obtain⟨b,ha,hat⟩:=buf_at Bf (k:=(e.inn.length+j)*7+c) (by omega)
  exact⟨b,ha,by rw[hat,m0 c hc]⟩
 obtain⟨b,ha,h0⟩:=rd 0 (by decide)
 have rd':∀ c,c<7->h.at b (0+((e.inn.length+j)*7+c))=(mk7 j)[c]?:=λc hc=>by
  obtain⟨b',ha',h'⟩:=rd c hc
  rw[ha] at ha';cases ha';exact h'
 have w:wrap .i64 (((e.inn.length+j:Nat):Int)-(e.inn.length:Int))=(j:Int):=by rw[wrap_i64 (by omega) (by omega)];omega
 refine⟨b,0,ha,?_⟩
 rw[w,Int.toNat_natCast]
 exact⟨_,rd' 0 (by decide),_,rd' 1 (by decide),_,rd' 2 (by decide),_,rd' 3 (by decide),_,rd' 4 (by decide),_,rd' 5 (by decide),_,rd' 6 (by decide),lot_s ⟨_,rfl,λ_=>hK,λq=>absurd rfl q⟩⟩
theorem hold_r(R:RmS g h pb s2 s7 s1 e)(ho:e.out.length<=5000000)(hi:e.inn.length<=5000000)(hp:e.ptr.length<=5000000)(hQ:Q (.bool true) h):F38.T (some ⟨pb,0,none⟩) h Q:=by
 obtain⟨m,cs,O,kr,R2,R7,R1,no⟩:=R
 have B:=O.buf kR _ kr
 have hl:cs.length=28:=by have:=B.len;simpa[rF] using this
 have c:∀ f,f<28->f≠6->f≠7->f≠16->f≠17->f≠18->f≠19->h.at pb (0+f)=some (.slice none 0 0):=λf hf a b c d e1 e2=>by
  obtain⟨b',hb,hat⟩:=buf_at B (k:=f) (by show f<cs.length;omega)
  cases hb
  rw[hat];exact no f hf a b c d e1 e2
 unfold F38.T F38.G
 refine nil101_s (c 0 (by decide) (by decide) (by decide) (by decide) (by decide) (by decide) (by decide)) ⟨true,rfl,λ_=>?_,λq=>Bool.noConfusion q⟩
 refine nil102_s (c 2 (by decide) (by decide) (by decide) (by decide) (by decide) (by decide) (by decide)) ⟨true,rfl,λ_=>?_,λq=>Bool.noConfusion q⟩
 refine nil103_s (c 4 (by decide) (by decide) (by decide) (by decide) (by decide) (by decide) (by decide)) ⟨true,rfl,λ_=>?_,λq=>Bool.noConfusion q⟩
 refine hold104_s O kr R1 hp ⟨true,rfl,λ_=>?_,λq=>Bool.noConfusion q⟩
 refine nil105_s (c 8 (by decide) (by decide) (by decide) (by decide) (by decide) (by decide) (by decide)) ⟨true,rfl,λ_=>?_,λq=>Bool.noConfusion q⟩
 refine nil106_s (c 10 (by decide) (by decide) (by decide) (by decide) (by decide) (by decide) (by decide)) ⟨true,rfl,λ_=>?_,λq=>Bool.noConfusion q⟩
 refine nil107_s (c 12 (by decide) (by decide) (by decide) (by decide) (by decide) (by decide) (by decide)) ⟨true,rfl,λ_=>?_,λq=>Bool.noConfusion q⟩
 refine nil108_s (c 14 (by decide) (by decide) (by decide) (by decide) (by decide) (by decide) (by decide)) ⟨true,rfl,λ_=>?_,λq=>Bool.noConfusion q⟩
 refine hold109_s O kr R2 ho ⟨true,rfl,λ_=>?_,λq=>Bool.noConfusion q⟩
 refine hold110_s O kr R7 hi ⟨true,rfl,λ_=>?_,λq=>Bool.noConfusion q⟩
 refine nil111_s (c 20 (by decide) (by decide) (by decide) (by decide) (by decide) (by decide) (by decide)) ⟨true,rfl,λ_=>?_,λq=>Bool.noConfusion q⟩
 refine nil112_s (c 22 (by decide) (by decide) (by decide) (by decide) (by decide) (by decide) (by decide)) ⟨true,rfl,λ_=>?_,λq=>Bool.noConfusion q⟩
 refine nil113_s (c 24 (by decide) (by decide) (by decide) (by decide) (by decide) (by decide) (by decide)) ⟨true,rfl,λ_=>?_,λq=>Bool.noConfusion q⟩
 exact nil114_s (c 26 (by decide) (by decide) (by decide) (by decide) (by decide) (by decide) (by decide)) ⟨true,rfl,λ_=>hQ,λq=>Bool.noConfusion q⟩
def Sp(g h:Hp)(s2 s7 s1:Sl):Prop:=∃ m v2 v7 v1,Mine g h m/\m (3,1,0)=some ⟨s2,2,116,v2⟩/\m (3,2,0)=some ⟨s7,7,65,v7⟩/\m (3,3,0)=some ⟨s1,1,9,v1⟩
theorem wr_el{m:Mem}{k:Key}{s:Sl}{sz t i:Nat}{vs V:List Value}(O:Mine g h m)(hk:m k=some ⟨s,sz,t,vs⟩)(hi:i<s.n)(hV:V.length=sz)(hsz:0<sz):∃ b vs',s.a=some ⟨b,0,none⟩/\h.canW b (i*sz) sz/\Mine g (h.wr b (i*sz) V) (m.put k ⟨s,sz,t,vs'⟩):=by
 have B:=O.buf _ _ hk
 dsimp only at B
 have hl:=B.len
 have h1:(i+1)*sz<=s.n*sz:=Nat.mul_le_mul_right _ hi
 rw[Nat.add_mul] at h1
 have e:vs=vs.take (i*sz)++((vs.drop (i*sz)).take sz++vs.drop (i*sz+sz)):=by
  rw[<- List.drop_drop,List.take_append_drop,List.take_append_drop]
 have l1:(vs.take (i*sz)).length=i*sz:=by rw[length_take];omega
 have l2:((vs.drop (i*sz)).take sz).length=sz:=by rw[length_take,List.length_drop];omega
 rw[e] at B
 obtain⟨b,ha,hc,U,B'⟩:=buf_wr (V:=V) B (by rw[l2,hV]) (by rw[l2];exact hsz)
 rw[l1] at hc U B'
 rw[hV] at hc
 exact⟨b,_,ha,hc,O.write hk U B'⟩
theorem RmS.sp(R:RmS g h pb s2 s7 s1 e):Sp g h s2 s7 s1/\e.out.length<=s2.n/\e.inn.length<=s7.n/\e.ptr.length<=s1.n:=by
 obtain⟨m,cs,O,kr,⟨_,_,_,_,a,_,_,x,_⟩,⟨_,_,_,_,b,_,_,y,_⟩,⟨_,_,_,_,c,_,_,z,_⟩,no⟩:=R
 exact⟨⟨m,_,_,_,O,a,b,c⟩,by omega,by omega,by omega⟩
theorem Sp.w7{i:Nat}{V:List Value}(S:Sp g h s2 s7 s1)(hi:i<s7.n)(hV:V.length=7):∃ b,s7.a=some ⟨b,0,none⟩/\h.canW b (i*7) 7/\Sp g (h.wr b (i*7) V) s2 s7 s1:=by
 obtain⟨m,v2,v7,v1,O,a,b,c⟩:=S
 obtain⟨bb,vs',ha,hc,O'⟩:=wr_el O b hi hV (by decide)
 exact⟨bb,ha,hc,_,v2,vs',v1,O',by rw[put_ne _ _ (by simp)];exact a,put_self _ _ _,by rw[put_ne _ _ (by simp)];exact c⟩
theorem Sp.w2{i:Nat}{V:List Value}(S:Sp g h s2 s7 s1)(hi:i<s2.n)(hV:V.length=2):∃ b,s2.a=some ⟨b,0,none⟩/\h.canW b (i*2) 2/\Sp g (h.wr b (i*2) V) s2 s7 s1:=by
 obtain⟨m,v2,v7,v1,O,a,b,c⟩:=S
 obtain⟨bb,vs',ha,hc,O'⟩:=wr_el O a hi hV (by decide)
 exact⟨bb,ha,hc,_,vs',v7,v1,O',put_self _ _ _,by rw[put_ne _ _ (by simp)];exact b,by rw[put_ne _ _ (by simp)];exact c⟩
theorem Sp.w1{i:Nat}{V:List Value}(S:Sp g h s2 s7 s1)(hi:i<s1.n)(hV:V.length=1):∃ b,s1.a=some ⟨b,0,none⟩/\h.canW b (i*1) 1/\Sp g (h.wr b (i*1) V) s2 s7 s1:=by
 obtain⟨m,v2,v7,v1,O,a,b,c⟩:=S
 obtain⟨bb,vs',ha,hc,O'⟩:=wr_el O c hi hV (by decide)
 exact⟨bb,ha,hc,_,v2,v7,vs',O',by rw[put_ne _ _ (by simp)];exact a,by rw[put_ne _ _ (by simp)];exact b,put_self _ _ _⟩
theorem Sp.kp(S:Sp g h s2 s7 s1):Keep g h:=by
 obtain⟨m,v2,v7,v1,O,_⟩:=S
 exact O.keep
end
end Go.Eng.YtbjnlacacapjiaaGreatDoor
end
section
namespace Go.Eng.YtbjnlacacapjiaaGreatDoor
open Go.Proofs
def F39.TF:=λ(x0) (x1) (x2)=>Fr (F39.T x0 x1 x2)
theorem F39.okF:FOk Tryz.prog 39 (F39.W F39.TF):=by
 refine⟨F39.ok.1,λargs=>?_⟩
 unfold F39.W
 split
 ·exact(F39.ok.2 _).fr
 ·exact λ_ _ h=>h.elim
def F48.TF:=λ(x0) (x1) (x2)=>Fr (F48.T x0 x1 x2)
theorem F48.okF:FOk Tryz.prog 48 (F48.W F48.TF):=by
 refine⟨F48.ok.1,λargs=>?_⟩
 unfold F48.W
 split
 ·exact(F48.ok.2 _).fr
 ·exact λ_ _ h=>h.elim
def F90.TF:=λ(x0) (x1) (x2)=>Fr (F90.T x0 x1 x2)
theorem F90.okF:FOk Tryz.prog 90 (F90.W F90.TF):=by
 refine⟨F90.ok.1,λargs=>?_⟩
 unfold F90.W
 split
 ·exact(F90.ok.2 _).fr
 ·exact λ_ _ h=>h.elim
def F10.TF:=λ(x0)=>Fr (F10.T x0)
theorem F10.okF:FOk Tryz.prog 10 (F10.W F10.TF):=by
 refine⟨F10.ok.1,λargs=>?_⟩
 unfold F10.W
 split
 ·exact(F10.ok.2 _).fr
 ·exact λ_ _ h=>h.elim
def F49.TF:=F49.G F73.T F76.T F84.T F90.TF F91.T F116.T F117.T F118.T F119.T F120.T F121.T F122.T
theorem F49.okF:FOk Tryz.prog 49 (F49.W F49.TF):=by
 refine⟨⟨_,Tryz.func49,rfl,rfl⟩,λ_=>?_⟩;unfold F49.W;split;exact denF_okE (GOk.cons F73.ok (GOk.cons F76.ok (GOk.cons F84.ok (GOk.cons F90.okF (GOk.cons F91.ok (GOk.cons F116.ok (GOk.cons F117.ok (GOk.cons F118.ok (GOk.cons F119.ok (GOk.cons F120.ok (GOk.cons F121.ok (GOk.cons F122.ok (GOk.nil))))))))))))) noV_ok Tryz.func49 (F49.gen noV F73.T F76.T F84.T F90.TF F91.T F116.T F117.T F118.T F119.T F120.T F121.T F122.T _ _ _ _ _ _ _ _ _ _ _ ⟨_,_,_⟩ ⟨_,_,_⟩ ⟨_,_,_⟩ _ _);exact λ_ _ h=>h.elim
def F8.TF:=F8.G F27.T F32.T F33.T F34.T F35.T F36.T F37.T F38.T F39.TF F40.T F41.T F42.T F43.T F44.T F45.T F46.T F47.T F48.TF F49.TF
theorem F8.okF:FOk Tryz.prog 8 (F8.W F8.TF):=by
 refine⟨⟨_,Tryz.func8,rfl,rfl⟩,λ_=>?_⟩;unfold F8.W;split;exact denF_okE (GOk.cons F27.ok (GOk.cons F32.ok (GOk.cons F33.ok (GOk.cons F34.ok (GOk.cons F35.ok (GOk.cons F36.ok (GOk.cons F37.ok (GOk.cons F38.ok (GOk.cons F39.okF (GOk.cons F40.ok (GOk.cons F41.ok (GOk.cons F42.ok (GOk.cons F43.ok (GOk.cons F44.ok (GOk.cons F45.ok (GOk.cons F46.ok (GOk.cons F47.ok (GOk.cons F48.okF (GOk.cons F49.okF (GOk.nil)))))))))))))))))))) noV_ok Tryz.func8 (F8.gen noV F27.T F32.T F33.T F34.T F35.T F36.T F37.T F38.T F39.TF F40.T F41.T F42.T F43.T F44.T F45.T F46.T F47.T F48.TF F49.TF _ _ _ _ _ _ _ _ _ _ _ ⟨_,_,_⟩ ⟨_,_,_⟩ ⟨_,_,_⟩ _ _);exact λ_ _ h=>h.elim
def F11.TF:=F11.G F49.TF
theorem F11.okF:FOk Tryz.prog 11 (F11.W F11.TF):=by
 refine⟨⟨_,Tryz.func11,rfl,rfl⟩,λ_=>?_⟩;unfold F11.W;split;exact denF_okE (GOk.cons F49.okF (GOk.nil)) noV_ok Tryz.func11 (F11.gen noV F49.TF _ _ _);exact λ_ _ h=>h.elim
def F4.TF:=F4.G F6.T F7.T F8.TF F9.T F10.TF F11.TF
theorem F4.okF:FOk Tryz.prog 4 (F4.W F4.TF):=by
 refine⟨⟨_,Tryz.func4,rfl,rfl⟩,λ_=>?_⟩;unfold F4.W;split;exact denF_okE (GOk.cons F6.ok (GOk.cons F7.ok (GOk.cons F8.okF (GOk.cons F9.ok (GOk.cons F10.okF (GOk.cons F11.okF (GOk.nil))))))) noV_ok Tryz.func4 (F4.gen noV F6.T F7.T F8.TF F9.T F10.TF F11.TF _ ⟨_,_,_⟩);exact λ_ _ h=>h.elim
end Go.Eng.YtbjnlacacapjiaaGreatDoor
end
section
namespace Go.Eng.YtbjnlacacapjiaaGreatDoor
open Go.Eng
section
variable{gb:Hp}{h h':Hp}{z:Lb}{i j:Nat}{s l:Sl}{sz t N kb a b:Nat}{vs:List Value}{u:Mem}{Q:Value->Hp->Prop}{mark:Int}
theorem keep_lab(K:Keep h h')(hi:i≠j):on h' (lab h z j) i=on h z i:=on_lab (off_k.trans K) hi
theorem keep_on(K:Keep (off h z i) h')(K2:Keep (on h z i) h'):Keep (on h z i) (on h' (lab h z i) i):=λb x e=>by
 obtain⟨e1,e2⟩:=on_s e
 rw[on_i (by rw[lab_s e2];exact e1)]
 exact K2 _ _ e
theorem buf_on(B:Buf h' s sz t vs)(N:NewN (off h z i) s):Buf (on h' (lab h z i) i) s sz t vs:=by
 rcases B.own with⟨ha,hc⟩|⟨b,c,f,ha,hb,x⟩
 ·exact⟨B.len,B.cap,.inl ⟨ha,hc⟩⟩
 ·rcases N with n|⟨b',e,n⟩
  ·rw[ha] at n;cases n
  ·rw[ha] at e
   simp only[Option.some.injEq,Addr.mk.injEq,and_true] at e
   subst e
   exact⟨B.len,B.cap,.inr ⟨b,c,f,ha,(Mw.out.2 b _ n hb).2,x⟩⟩
theorem newN_mono{g:Hp}(K:Keep g h)(N:NewN h s):NewN g s:=N.mono K.dom
def BkS(gb h:Hp)(z:Lb)(N kb:Nat)(u:Mem):Prop:=∃ g0,Keep gb g0/\TabP g0/\Bk kinds N (λ_=>True) kb 175 45 0 g0 u (on h z 1)
theorem BkS.eq{z':Lb}(B:BkS gb h z N kb u)(e:on h' z' 1=on h z 1):BkS gb h' z' N kb u:=by
 unfold BkS;rw[e];exact B
theorem BkS.lab1(B:BkS gb h z N kb u)(K:Keep h h'):BkS gb h' (lab h z 1) N kb u:=by
 obtain⟨g0,K0,T0,B⟩:=B
 exact⟨g0,K0,T0,B.keepH (keep_on (off_k.trans K) (on_k.trans K))⟩
theorem BkS.own(B:BkS gb h z N kb u)(hu:u (kU a b)=none)(K:Keep h h')(hN:NewN h s)(hB:Buf h' s sz t vs):BkS gb h' (lab h z 1) N kb (u.put (kU a b) ⟨s,sz,t,vs⟩):=by
 obtain⟨g0,K0,T0,B⟩:=B
 exact⟨g0,K0,T0,B.own hu (keep_on (off_k.trans K) (on_k.trans K)) (newN_mono on_k hN) (buf_on hB (newN_mono off_k hN))⟩
theorem add7S(B:BkS gb h z N kb u)(hN:N<500000)(hu:u (kU a b)=some ⟨l,6,63,vs⟩)(hv:Cols kdT 6 vs)(hn:l.n<=5000000)(hQ:∀ h' z',(∀ i,i≠1->on h' z' i=on h z i)->BkS gb h' z' (N+1) kb (u.del (kU a b))->Q (.tuple ⟨[]⟩) h'):F90.TF (some ⟨kb,0,none⟩) l mark h Q:=by
 obtain⟨g0,K0,T0,B⟩:=B
 refine Fr.part h z 1 (λv hb=>v=.tuple ⟨[]⟩/\Bk kinds (N+1) (λ_=>True) kb 175 45 0 g0 (u.del (kU a b)) hb) (add7 T0 B hN (by decide) (λ_ _ _=>trivial) hu hv (by omega) λh' B'=>⟨rfl,B'⟩) λv h' K hq=>?_
 obtain⟨rfl,B'⟩:=hq
 exact hQ h' _ (λi hi=>on_lab K hi) ⟨g0,K0,T0,B'⟩
theorem add2S(B:BkS gb h z N kb u)(hN:N<500000)(hu:u (kU a b)=some ⟨l,1,48,vs⟩)(hv:Cols kdU 1 vs)(hn:l.n<=5000000)(hQ:∀ h' z',(∀ i,i≠1->on h' z' i=on h z i)->BkS gb h' z' (N+1) kb (u.del (kU a b))->Q (.tuple ⟨[]⟩) h'):F39.TF (some ⟨kb,0,none⟩) l mark h Q:=by
 obtain⟨g0,K0,T0,B⟩:=B
 refine Fr.part h z 1 (λv hb=>v=.tuple ⟨[]⟩/\Bk kinds (N+1) (λ_=>True) kb 175 45 0 g0 (u.del (kU a b)) hb) (add2 T0 B hN (by decide) (λ_ _ _=>trivial) hu hv (by omega) λh' B'=>⟨rfl,B'⟩) λv h' K hq=>?_
 obtain⟨rfl,B'⟩:=hq
 exact hQ h' _ (λi hi=>on_lab K hi) ⟨g0,K0,T0,B'⟩
theorem add3S(B:BkS gb h z N kb u)(hN:N<500000)(hu:u (kU a b)=some ⟨l,1,9,vs⟩)(hv:Cols kdS 1 vs)(hn:l.n<=5000000)(hQ:∀ h' z',(∀ i,i≠1->on h' z' i=on h z i)->BkS gb h' z' (N+1) kb (u.del (kU a b))->Q (.tuple ⟨[]⟩) h'):F48.TF (some ⟨kb,0,none⟩) l mark h Q:=by
 obtain⟨g0,K0,T0,B⟩:=B
 refine Fr.part h z 1 (λv hb=>v=.tuple ⟨[]⟩/\Bk kinds (N+1) (λ_=>True) kb 175 45 0 g0 (u.del (kU a b)) hb) (add3 T0 B hN (by decide) (λ_ _ _=>trivial) hu hv (by omega) λh' B'=>⟨rfl,B'⟩) λv h' K hq=>?_
 obtain⟨rfl,B'⟩:=hq
 exact hQ h' _ (λi hi=>on_lab K hi) ⟨g0,K0,T0,B'⟩
theorem holdS(B:BkS gb h z N kb u)(hN:N<=500000)(hQ:∀ h' z',(∀ i,i≠1->on h' z' i=on h z i)->BkS gb h' z' N kb u->Q (.bool true) h'):F10.TF (some ⟨kb,0,none⟩) h Q:=by
 obtain⟨g0,K0,T0,B⟩:=B
 refine Fr.part h z 1 (λv hb=>v=.bool true/\Bk kinds N (λ_=>True) kb 175 45 0 g0 u hb) (hold_ B hN (λ_ _=>trivial) ⟨rfl,B⟩) λv h' K hq=>?_
 obtain⟨rfl,B'⟩:=hq
 exact hQ h' _ (λi hi=>on_lab K hi) ⟨g0,K0,T0,B'⟩
theorem looks_s{pa pb vb wb nm:Nat}{lv:Lv}{n n1 n2 n3 n4 n5 n6:Int}{s s1:ByteArray}{l l1 l2:Sl}{bl:Bool}(VP:VerO emp (on h z pa) vb lv)(VD:DVer emp (on h z pb) wb nm lv)(hs:totL lv<=4000000)(hk:AllT kOk lv)(zs:s.size<=9223372036854775807)(zs1:s1.size<=9223372036854775807)(B:BkS gb h z N kb (λ_=>none))(hN:N+3<=500000)
  (hQ:∀ h' z',(∀ i,i≠1->on h' z' i=on h z i)->BkS gb h' z' (N+3) kb (λ_=>none)->Q (.bool true) h'):F49.TF (some ⟨kb,0,none⟩) (some ⟨vb,0,none⟩) (some ⟨wb,0,none⟩) n n1 n2 s s1 n3 n4 n5 l l1 l2 bl n6 h Q:=by
 have VD0:DVer (off h z pb) h wb nm lv:=VD.mv Mv.inn
 obtain⟨ls,xs,V0,e⟩:=VP.whole
 have hx:∀ x∈xs,x.2.length<=5000000:=λx hx=>Nat.le_trans (totL_mem (mem_map_of_mem (f:=λx:Sl×List Tab=>x.2) hx)) (by rw[e];omega)
 have et:∀ n,tabsI xs n=tabsD lv n:=λn=>by rw[tabsD_I,e]
 have ht:∀ n,(tabsI xs n).length<=5000000:=λn=>by rw[et];exact Nat.le_trans tabsD_le (by omega)
 have hxl:xs.length=lv.length:=by rw[<- e,length_map]
 unfold F49.TF F49.G
 refine tables_s V0 hx λh1 l3 K1 B3 N3=>⟨l3,rfl,?_⟩
 rw[et] at B3
 have V1:=V0.keep K1
 refine over_s V1 hx (ht _) λh2 l4 K2 B4 N4=>⟨l4,rfl,?_⟩
 rw[et] at B4
 have V2:=V1.keep K2
 refine holds_s V2 hx (ht _) λh3 l5 K3 B5 N5=>⟨l5,rfl,?_⟩
 rw[et] at B5
 have V3:=V2.keep K3
 have VD3:=VD0.keep (K1.trans (K2.trans K3))
 refine levels_spec V3 ⟨_,rfl,?_⟩
 refine levels_d VD3 ⟨_,rfl,λ_=>?_,λq=>absurd (by rw[hxl]) q⟩
 refine weight_s V3 hx (ht _) λh6 K6=>⟨_,rfl,?_⟩
 refine weight_d (VD3.keep K6) hs λh7 K7=>⟨_,rfl,λ_=>?_,λq=>absurd (by rw[et]) q⟩
 have hA:=tabsD_le (lv:=lv) (n:=n2)
 have hO:∀ a b,(overM a b (tabsD lv n2)).length<=4000000:=λa b=>Nat.le_trans (List.length_filter_le _ _) (Nat.le_trans hA hs)
 have hH:∀ a,(holdsM n2 a (tabsD lv n2)).length<=4000000:=λa=>by
  unfold holdsM
  split
  ·rw[List.length_reverse];exact hO _ _
  ·exact hO _ _
 have K37:=K6.trans K7
 refine tables_d ((VD3.keep K37)) hs λh8 l6 K8 B6 _=>⟨l6,rfl,?_⟩
 refine sameT_s ((B3.keep (K2.trans (K3.trans (K37.trans K8)))).row) B6.row (by omega) (λ_=>⟨true,rfl,λ_=>?_,λq=>Bool.noConfusion q⟩) (λq=>absurd rfl q)
 refine over_d (VD3.keep (K37.trans K8)) hs hk zs zs1 λh10 l7 K10 B7 _=>⟨l7,rfl,?_⟩
 refine sameT_s ((B4.keep (K3.trans (K37.trans (K8.trans K10)))).row) B7.row (Nat.le_trans (hO _ _) (by decide)) (λ_=>⟨true,rfl,λ_=>?_,λq=>Bool.noConfusion q⟩) (λq=>absurd rfl q)
 refine holds_d (VD3.keep (K37.trans (K8.trans K10))) hs hk zs λh12 l8 K12 B8 _=>⟨l8,rfl,?_⟩
 refine sameT_s ((B5.keep (K37.trans (K8.trans (K10.trans K12)))).row) B8.row (Nat.le_trans (hH _) (by decide)) (λ_=>⟨true,rfl,λ_=>?_,λq=>Bool.noConfusion q⟩) (λq=>absurd rfl q)
 have K3e:=K37.trans (K8.trans (K10.trans K12))
 have S1:=B.own (a:=0) (b:=0) rfl K1 N3 B3
 have S2:=S1.own (a:=0) (b:=1) (by rw[put_ne _ _ (by unfold kU;simp)]) K2 N4 B4
 have S3:=S2.own (a:=0) (b:=2) (by rw[put_ne _ _ (by unfold kU;simp),put_ne _ _ (by unfold kU;simp)]) K3 N5 B5
 have S4:=S3.lab1 K3e
 have fx:∀ i,i≠1->on h12 (lab h3 (lab h2 (lab h1 (lab h z 1) 1) 1) 1) i=on h z i:=λi hi=>by
  rw[keep_lab K3e hi,keep_lab K3 hi,keep_lab K2 hi,keep_lab K1 hi]
 generalize (lab h3 (lab h2 (lab h1 (lab h z 1) 1) 1) 1)=z4 at S4 fx
 have n3:=tb_new B3
 have n4:=tb_new B4
 have n5:=tb_new B5
 have hO1:=hO s s1
 have hH1:=hH s
 refine add7S S4 (a:=0) (b:=0) (by omega) (by rw[put_ne _ _ (by unfold kU;simp),put_ne _ _ (by unfold kU;simp),put_self]) (cols_tabV _) (by omega) λh14 z14 f14 S14=>?_
 refine add7S S14 (a:=0) (b:=1) (by omega) (by rw[del_ne _ (by unfold kU;simp),put_ne _ _ (by unfold kU;simp),put_self]) (cols_tabV _) (by omega) λh15 z15 f15 S15=>?_
 refine add7S S15 (a:=0) (b:=2) (by omega) (by rw[del_ne _ (by unfold kU;simp),del_ne _ (by unfold kU;simp),put_self]) (cols_tabV _) (by omega) λh16 z16 f16 S16=>?_
 refine hQ h16 z16 (λi hi=>by rw[f16 i hi,f15 i hi,f14 i hi,fx i hi]) ?_
 have:(λ_=>none:Mem)=(((((Mem.put (λ_=>none) (kU 0 0) ⟨l3,6,63,tabV (tabsD lv n2)⟩).put (kU 0 1) ⟨l4,6,63,tabV (overM s s1 (tabsD lv n2))⟩).put (kU 0 2) ⟨l5,6,63,tabV (holdsM n2 s (tabsD lv n2))⟩).del (kU 0 0)).del (kU 0 1)).del (kU 0 2):=by
  funext k
  unfold Mem.del Mem.put
  by_cases a2:k=kU 0 2
  ·rw[if_pos a2]
  ·rw[if_neg a2]
   by_cases a1:k=kU 0 1
   ·rw[if_pos a1]
   ·rw[if_neg a1]
    by_cases a0:k=kU 0 0
    ·rw[if_pos a0]
    ·rw[if_neg a0,if_neg a2,if_neg a1,if_neg a0]
 rw[this]
 exact S16
end
end Go.Eng.YtbjnlacacapjiaaGreatDoor
end
section
namespace Go.Eng.YtbjnlacacapjiaaGreatDoor
open Go.Eng
theorem take_last{l:List Nat}{j x:Nat}(h:l[j]?=some x)(hl:l.length=j+1):l.take j++[x]=l:=by
 obtain⟨hj,e⟩:=List.getElem?_eq_some_iff.1 h
 have h1:=List.take_append_drop j l
 rw[List.drop_eq_getElem_cons hj,e,List.drop_eq_nil_of_le (by omega)] at h1
 exact h1
structure PLx(g h:Hp)(pb sp sd:Nat)(v w:Sl)(A B:List Nat)(m:Mem):Prop where
 O:Mine g h m
 r:m kR=some ⟨⟨some ⟨pb,0,none⟩,1,1⟩,4,95,[pk sp,pk sd,.slice v.a v.n v.c,.slice w.a w.n w.c]⟩
 v:m (1,0,0)=some ⟨v,1,71,A.map pk⟩
 w:m (2,0,0)=some ⟨w,1,97,B.map pk⟩
def PL(g h:Hp)(pb sp sd:Nat)(A B:List Nat):Prop:=∃ v w m,PLx g h pb sp sd v w A B m
section
variable{g h g' h':Hp}{pb sp sd:Nat}{v w:Sl}{A B:List Nat}{m:Mem}{Q:Value->Hp->Prop}
theorem PL.mw(M:Mw g h g' h')(L:PL g h pb sp sd A B):PL g' h' pb sp sd A B:=by
 obtain⟨v,w,m,L⟩:=L
 exact⟨v,w,m,mine_mw M L.O,L.r,L.v,L.w⟩
theorem PLx.cell(L:PLx g h pb sp sd v w A B m){i:Nat}{x:Value}(hi:i<4)(hx:([pk sp,pk sd,.slice v.a v.n v.c,.slice w.a w.n w.c]:List Value)[i]?=some x):h.at pb (0+i)=some x:=by
 obtain⟨b,hb,hat⟩:=buf_at (L.O.buf _ _ L.r) (k:=i) hi
 cases hb
 rw[hat];exact hx
theorem PLx.rdV(L:PLx g h pb sp sd v w A B m){i x:Nat}(hx:A[i]?=some x):v.n=A.length/\i<A.length/\∃ b,v.a=some ⟨b,0,none⟩/\h.at b (0+i)=some (pk x):=by
 have Bv:=L.O.buf _ _ L.v
 have hn:v.n=A.length:=by have:=Bv.len;simp only[length_map,Nat.mul_one] at this;omega
 have hi:i<A.length:=(List.getElem?_eq_some_iff.1 hx).1
 obtain⟨b,hb,hat⟩:=buf_at Bv (k:=i) (by rw[length_map];exact hi)
 exact⟨hn,hi,b,hb,by rw[hat,getElem?_map,hx];rfl⟩
theorem PLx.rdW(L:PLx g h pb sp sd v w A B m){i x:Nat}(hx:B[i]?=some x):w.n=B.length/\i<B.length/\∃ b,w.a=some ⟨b,0,none⟩/\h.at b (0+i)=some (pk x):=by
 have Bw:=L.O.buf _ _ L.w
 have hn:w.n=B.length:=by have:=Bw.len;simp only[length_map,Nat.mul_one] at this;omega
 have hi:i<B.length:=(List.getElem?_eq_some_iff.1 hx).1
 obtain⟨b,hb,hat⟩:=buf_at Bw (k:=i) (by rw[length_map];exact hi)
 exact⟨hn,hi,b,hb,by rw[hat,getElem?_map,hx];rfl⟩
theorem PLx.vn(L:PLx g h pb sp sd v w A B m):v.n=A.length/\w.n=B.length:=by
 have Bv:=L.O.buf _ _ L.v
 have Bw:=L.O.buf _ _ L.w
 have h1:=Bv.len
 have h2:=Bw.len
 simp only[length_map,Nat.mul_one] at h1 h2
 exact⟨h1.symm,h2.symm⟩
theorem PLx.pushV(L:PLx g h pb sp sd v w A B m)(x:Nat)(hA:A.length<=1000000){R:Sl->Hp->Prop}(hK:∀ l6 h6 m',h6.canW pb (0+2) 1->PLx g (h6.wr pb (0+2) [.slice l6.a l6.n l6.c]) pb sp sd l6 w (A++[x]) B m'->R l6 h6):appendD v 71 1 8 [.pointer none] 1 [.pointer (some ⟨x,0,none⟩)] h R:=by
 have hn:=L.vn
 refine append_buf (L.O.buf _ _ L.v) rfl rfl (by(try dsimp only);omega) λl6 h6 B6 _ U6=>?_
 have O6:Mine g h6 (m.put (1,0,0) ⟨l6,1,71,A.map pk++[pk x]⟩):=L.O.write L.v U6 B6
 have r6:(m.put (1,0,0) ⟨l6,1,71,A.map pk++[pk x]⟩) kR=some ⟨⟨some ⟨pb,0,none⟩,1,1⟩,4,95,[pk sp,pk sd,.slice v.a v.n v.c,.slice w.a w.n w.c]⟩:=by rw[put_ne _ _ (by unfold kR;simp)];exact L.r
 obtain⟨b,hb,c7,U7,B7⟩:=buf_wr1 (O6.buf _ _ r6) (k:=2) (by simp) (.slice l6.a l6.n l6.c)
 cases hb
 have O7:=O6.write r6 U7 B7
 refine hK l6 h6 _ c7 ⟨O7,put_self _ _ _,?_,?_⟩
 ·rw[put_ne _ _ (by unfold kR;simp),put_self,map_append];rfl
 ·rw[put_ne _ _ (by unfold kR;simp),put_ne _ _ (by simp)];exact L.w
theorem PLx.pushW(L:PLx g h pb sp sd v w A B m)(x:Nat)(hB:B.length<=1000000){R:Sl->Hp->Prop}(hK:∀ l6 h6 m',h6.canW pb (0+3) 1->PLx g (h6.wr pb (0+3) [.slice l6.a l6.n l6.c]) pb sp sd v l6 A (B++[x]) m'->R l6 h6):appendD w 97 1 8 [.pointer none] 1 [.pointer (some ⟨x,0,none⟩)] h R:=by
 have hn:=L.vn
 refine append_buf (L.O.buf _ _ L.w) rfl rfl (by(try dsimp only);omega) λl6 h6 B6 _ U6=>?_
 have O6:Mine g h6 (m.put (2,0,0) ⟨l6,1,97,B.map pk++[pk x]⟩):=L.O.write L.w U6 B6
 have r6:(m.put (2,0,0) ⟨l6,1,97,B.map pk++[pk x]⟩) kR=some ⟨⟨some ⟨pb,0,none⟩,1,1⟩,4,95,[pk sp,pk sd,.slice v.a v.n v.c,.slice w.a w.n w.c]⟩:=by rw[put_ne _ _ (by unfold kR;simp)];exact L.r
 obtain⟨b,hb,c7,U7,B7⟩:=buf_wr1 (O6.buf _ _ r6) (k:=3) (by simp) (.slice l6.a l6.n l6.c)
 cases hb
 have O7:=O6.write r6 U7 B7
 refine hK l6 h6 _ c7 ⟨O7,put_self _ _ _,?_,?_⟩
 ·rw[put_ne _ _ (by unfold kR;simp),put_ne _ _ (by simp)];exact L.v
 ·rw[put_ne _ _ (by unfold kR;simp),put_self,map_append];rfl
theorem at_s(L:PLx g h pb sp sd v w A B m)(h0:0<A.length)(hA:A.length<=1000000){n:Int}(hQ:∀ j:Nat,j<A.length->Q (.int .i64 (j:Int)) h):F42.T (some ⟨pb,0,none⟩) n h Q:=by
 have hn:=L.vn.1
 have c2:=L.cell (i:=2) (by decide) rfl
 have lt:=Int.tmod_lt_of_pos n (show(0:Int)<(v.n:Int) by omega)
 have gt:=Int.lt_tmod_of_pos n (show(0:Int)<(v.n:Int) by omega)
 refine⟨pb,0,rfl,v,c2,by omega,λhlt=>⟨pb,0,rfl,v,c2,?_⟩,λhge=>?_⟩
 ·dsimp only
  rw[wrap_i64 (by omega) (by omega)]
  have:=hQ (Int.tmod n v.n+v.n).toNat (by omega)
  rwa [Int.toNat_of_nonneg (by omega)] at this
 ·have:=hQ (Int.tmod n v.n).toNat (by omega)
  rwa [Int.toNat_of_nonneg (by omega)] at this
end
def DG(g h:Hp)(sd:Nat)(D:List (Nat×Lv))(pins:List Nat)(ptrs:List ByteArray):Prop:=∃ al pi ps,SetD g h sd al pi ps D pins ptrs
structure PairX(h:Hp)(z:Lb)(a b c pb sp sd n k:Nat)(A B:List Nat)(T D:List (Nat×Lv))(pins:List Nat)(ptrs:List ByteArray):Prop where
 P:PG emp (on h z a) sp T pins ptrs
 G:DG emp (on h z b) sd D pins ptrs
 e:D.map (·.2)=T.map (·.2)
 Z:Sz k n T pins ptrs
 L:PL emp (on h z c) pb sp sd A B
def PairI(h:Hp)(z:Lb)(a b c pb n k:Nat)(A B:List Nat)(T D:List (Nat×Lv))(pins:List Nat)(ptrs:List ByteArray):Prop:=∃ sp sd,PairX h z a b c pb sp sd n k A B T D pins ptrs
def PairS(h:Hp)(z:Lb)(a b c pb n k:Nat)(T D:List (Nat×Lv))(pins:List Nat)(ptrs:List ByteArray):Prop:=PairI h z a b c pb n k (T.map (·.1)) (D.map (·.1)) T D pins ptrs
section
variable{h h':Hp}{z z':Lb}{a b c pb sp sd n k:Nat}{A B:List Nat}{T D:List (Nat×Lv)}{pins:List Nat}{ptrs:List ByteArray}{Q:Value->Hp->Prop}
theorem PairX.fx(X:PairX h z a b c pb sp sd n k A B T D pins ptrs)(ha:on h' z' a=on h z a)(hb:on h' z' b=on h z b)(hc:on h' z' c=on h z c):PairX h' z' a b c pb sp sd n k A B T D pins ptrs:=
 ⟨by rw[ha];exact X.P,by rw[hb];exact X.G,X.e,X.Z,by rw[hc];exact X.L⟩
theorem DG.ver{g h:Hp}{sd:Nat}(G:DG g h sd D pins ptrs){i:Nat}{d:Nat×Lv}(hd:D[i]?=some d):DVer g h d.1 i d.2:=by
 obtain⟨al,pi,ps,S⟩:=G
 exact S.v i d hd
theorem DG.nd{g h:Hp}{sd:Nat}(G:DG g h sd D pins ptrs):(D.map (·.1)).Nodup:=by
 obtain⟨al,pi,ps,S⟩:=G
 exact S.nd
theorem PG.nd{g h:Hp}{sb:Nat}(G:PG g h sb T pins ptrs):(T.map (·.1)).Nodup:=by
 obtain⟨vb,pm,cm,ps,ls,xs,L,X⟩:=G
 exact X.nd
theorem PG.ne{g h:Hp}{sb:Nat}(G:PG g h sb T pins ptrs):∃ v,T.getLast?=some v:=by
 obtain⟨vb,pm,cm,ps,ls,xs,L,X⟩:=G
 exact⟨_,X.cur⟩
theorem PairX.len(X:PairX h z a b c pb sp sd n k A B T D pins ptrs):D.length=T.length:=by
 have:=congrArg List.length X.e
 rwa [length_map,length_map] at this
theorem ok_ver{g h:Hp}{x y:Nat}{lv lv':Lv}(Vx:VerO g h x lv)(Vy:VerO g h y lv'):okPtr h (some ⟨x,0,none⟩) (some ⟨y,0,none⟩):=by
 intro p q e1 e2 _
 cases e1
 cases e2
 obtain⟨_,hx⟩:=Vx.solid
 obtain⟨_,hy⟩:=Vy.solid
 exact⟨⟨_,_,hx,by simp⟩,⟨_,_,hy,by simp⟩⟩
theorem ok_dver{g h:Hp}{x y i j:Nat}{lv lv':Lv}(Vx:DVer g h x i lv)(Vy:DVer g h y j lv'):okPtr h (some ⟨x,0,none⟩) (some ⟨y,0,none⟩):=by
 intro p q e1 e2 _
 cases e1
 cases e2
 obtain⟨_,_,_,_,hx,_⟩:=Vx
 obtain⟨_,_,_,_,hy,_⟩:=Vy
 exact⟨⟨_,_,hx,by simp⟩,⟨_,_,hy,by simp⟩⟩
theorem ok_nil(h:Hp)(p:Option Addr):okPtr h p none:=λ_ _ _ e=>by cases e
theorem ptr_eq{x y:Nat}:((some ⟨x,0,none⟩:Option Addr)=some ⟨y,0,none⟩)↔x=y:=by simp
theorem now_s{q:Nat}(X:PairX h z a b c pb sp sd n k ((T.map (·.1)).take q) ((D.map (·.1)).take q) T D pins ptrs)(hq:q<=T.length)(hq1:T.length<=q+1)(hac:a≠c)(hbc:b≠c)
  (hQ:∀ h' z',(∀ i,i≠c->on h' z' i=on h z i)->PairX h' z' a b c pb sp sd n k (T.map (·.1)) (D.map (·.1)) T D pins ptrs->Q (.bool true) h'):F9.T (some ⟨pb,0,none⟩) h Q:=by
 have hlen:=X.len
 have hT:=X.Z.l
 have hk4:=X.Z.kk
 have G0:=X.P.mv Mv.inn
 obtain⟨al,pi,ps,S0⟩:=X.G
 have S0:=S0.mv Mv.inn
 have L0:PL (off h z c) h pb sp sd _ _:=X.L.mw Mw.inn
 obtain⟨v,w,m,L⟩:=L0
 have c0:=L.cell (i:=0) (by decide) rfl
 have c1:=L.cell (i:=1) (by decide) rfl
 have c2:=L.cell (i:=2) (by decide) rfl
 have c3:=L.cell (i:=3) (by decide) rfl
 obtain⟨hvn,hwn⟩:=L.vn
 rw[length_take,length_map] at hvn hwn
 refine⟨pb,0,rfl,some ⟨sp,0,none⟩,c0,pb,0,rfl,some ⟨sd,0,none⟩,c1,?_⟩
 refine cur_q G0 λx hx=>⟨_,rfl,c1,?_⟩
 refine cur_d S0 λd hd=>⟨_,rfl,ok_nil _ _,λq=>(by cases q),λ_=>⟨pb,0,rfl,some ⟨sp,0,none⟩,c0,?_⟩⟩
 refine cur_q G0 λx' hx'=>⟨_,rfl,?_⟩
 rw[hx] at hx'
 cases hx'
 have hxm:=List.mem_of_getLast? hx
 have hxe:T[T.length-1]?=some x:=by rw[<- List.getLast?_eq_getElem?];exact hx
 have hde:D[D.length-1]?=some d:=by rw[<- List.getLast?_eq_getElem?];exact hd
 have hT0:0<T.length:=List.length_pos_of_mem hxm
 refine⟨ok_ver (G0.ver hxm) (G0.ver hxm),λ_=>?_,λq=>absurd rfl q⟩
 refine⟨λi h1=>∃ j:Nat,i=(j:Int)/\j<=q/\h1=h/\(0<j->j<T.length),λi _=>q-i.toNat,⟨0,rfl,Nat.zero_le _,rfl,λq=>absurd q (by decide)⟩,?_⟩
 rintro i h1 ⟨j,rfl,hj,rfl,hjT⟩
 refine⟨pb,0,rfl,w,c3,λhlt=>?_,λhge=>?_⟩
 ·have hjq:j<q:=by omega
  have hjT2:j<T.length:=by omega
  obtain⟨xj,hxj⟩:∃ xj,T[j]?=some xj:=⟨_,getElem?_eq_getElem hjT2⟩
  obtain⟨dj,hdj⟩:∃ dj,D[j]?=some dj:=⟨_,getElem?_eq_getElem (by omega)⟩
  have eA:((T.map (·.1)).take q)[j]?=some xj.1:=by rw[List.getElem?_take,if_pos hjq,getElem?_map,hxj];rfl
  have eB:((D.map (·.1)).take q)[j]?=some dj.1:=by rw[List.getElem?_take,if_pos hjq,getElem?_map,hdj];rfl
  obtain⟨_,_,bw,hbw,aw⟩:=L.rdW eB
  obtain⟨_,_,bv,hbv,av⟩:=L.rdV eA
  have okd:okPtr h1 (some ⟨dj.1,0,none⟩) (some ⟨d.1,0,none⟩):=ok_dver (S0.v _ _ hdj) (S0.v _ _ hde)
  have okv:okPtr h1 (some ⟨xj.1,0,none⟩) (some ⟨x.1,0,none⟩):=ok_ver (G0.ver (mem_of_getElem? hxj)) (G0.ver hxm)
  have iffD:dj.1=d.1↔j=T.length-1:=⟨λe=>by have:=nd_idx X.G.nd hdj hde e;omega,λe=>by
   rw[e,show T.length-1=D.length-1 by omega,hde] at hdj;cases hdj;rfl⟩
  have iffT:xj.1=x.1↔j=T.length-1:=⟨λe=>nd_idx X.P.nd hxj hxe e,λe=>by
   rw[e,hxe] at hxj;cases hxj;rfl⟩
  have rdw:∃ b,w.a=some ⟨b,0,none⟩/\h1.at b (0+((j:Int)).toNat)=some (.pointer (some ⟨dj.1,0,none⟩)):=⟨bw,hbw,by rw[Int.toNat_natCast];exact aw⟩
  have rdv:∃ b,v.a=some ⟨b,0,none⟩/\h1.at b (0+((j:Int)).toNat)=some (.pointer (some ⟨xj.1,0,none⟩)):=⟨bv,hbv,by rw[Int.toNat_natCast];exact av⟩
  obtain⟨bw,hbw,aw⟩:=rdw
  obtain⟨bv,hbv,av⟩:=rdv
  have ir:(0:Int)<=(j:Int)/\(j:Int)<(w.n:Int):=⟨by omega,by omega⟩
  have irv:(0:Int)<=(j:Int)/\(j:Int)<(v.n:Int):=⟨by omega,by omega⟩
  refine⟨λh5=>h5=h1,λh5 e5=>?_,pb,0,rfl,w,c3,bw,0,hbw,ir,_,aw,okd,λhp=>?_,λhp=>?_⟩
  ·subst e5
   refine⟨pb,0,rfl,w,c3,bw,0,hbw,ir,_,aw,okd,λhp=>?_,λhp=>?_⟩
   ·have hjl:=iffD.1 (ptr_eq.1 hp)
    have hqT:q=T.length:=by omega
    refine hQ h5 z (λ_ _=>rfl) ?_
    have e1:(T.map (·.1)).take q=T.map (·.1):=List.take_of_length_le (by rw[length_map];omega)
    have e2:(D.map (·.1)).take q=D.map (·.1):=List.take_of_length_le (by rw[length_map];omega)
    rw[e1,e2] at X
    exact X
   ·have hjl:¬ j=T.length-1:=λe=>hp (ptr_eq.2 (iffD.2 e))
    rw[nx_i hjq (by omega)]
    exact⟨⟨j+1,rfl,by omega,rfl,λ_=>by omega⟩,by dsimp only;omega⟩
  ·have hjl:=iffD.1 (ptr_eq.1 hp)
   refine⟨pb,0,rfl,v,c2,bv,0,hbv,irv,_,av,okv,λ_=>⟨λ_=>rfl,λq=>absurd rfl q⟩,λq=>absurd (ptr_eq.2 (iffT.2 hjl)) q⟩
  ·have hjl:¬ j=T.length-1:=λe=>hp (ptr_eq.2 (iffD.2 e))
   refine⟨pb,0,rfl,v,c2,bv,0,hbv,irv,_,av,okv,λq=>absurd (iffT.1 (ptr_eq.1 q)) hjl,λ_=>⟨λ_=>rfl,λq=>absurd rfl q⟩⟩
 ·have hjq:j=q:=by omega
  subst hjq
  have hqT:T.length=j+1:=by
   rcases Nat.eq_zero_or_pos j with h0|h0
   ·omega
   ·have:=hjT h0;omega
  refine⟨pb,0,rfl,v,c2,?_⟩
  refine L.pushV x.1 (by rw[length_take,length_map];omega) λl6 h6 m6 cw6 L6=>?_
  refine⟨pb,0,rfl,cw6,?_⟩
  refine⟨pb,0,rfl,w,L6.cell (i:=3) (by decide) rfl,?_⟩
  refine L6.pushW d.1 (by rw[length_take,length_map];omega) λl8 h8 m8 cw8 L8=>?_
  refine⟨pb,0,rfl,cw8,?_⟩
  have eA:(T.map (·.1)).take j++[x.1]=T.map (·.1):=take_last (by rw[getElem?_map,show j=T.length-1 by omega,hxe];rfl) (by rw[length_map];omega)
  have eB:(D.map (·.1)).take j++[d.1]=D.map (·.1):=take_last (by rw[getElem?_map,show j=D.length-1 by omega,hde];rfl) (by rw[length_map];omega)
  rw[eA,eB] at L8
  have fx:∀ i,i≠c->on (h8.wr pb (0+3) [.slice l8.a l8.n l8.c]) (lab h1 z c) i=on h1 z i:=λi hi=>on_lab L8.O.keep hi
  refine hQ _ (lab h1 z c) fx ⟨by rw[fx a hac];exact X.P,by rw[fx b hbc];exact X.G,X.e,X.Z,?_⟩
  exact PL.mw Mw.out ⟨_,_,_,L8⟩
end
end Go.Eng.YtbjnlacacapjiaaGreatDoor
end
