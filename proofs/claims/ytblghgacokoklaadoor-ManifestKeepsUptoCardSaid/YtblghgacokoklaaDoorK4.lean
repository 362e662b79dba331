/-
  JOINED.
-/
import Derived.Test.YtblghgacokoklaaDoorK3
set_option linter.unusedSimpArgs false
set_option linter.unusedVariables false
set_option maxRecDepth 100000
open Go.IntKind (wrap)
open List (length_append length_map length_cons mem_cons_self mem_cons_of_mem length_singleton length_take length_drop take_of_length_le length_nil mem_cons mem_append mem_singleton append_nil)
section
namespace Go.Eng.YtblghgacokoklaaDoor
def nx(i:Nat)(n c:Int):Int:=bitsI .or .u64 n (shlI .u64 (wrap .u64 (bitsI .and .u8 c 127)) (7*(i:Int)))
def uR:Nat->Int->List Int->Int×Nat×Int
 |_,_,[]=>(0,0,20)
 |i,n,c::l=>
  if (c=0/\0<i)\/(i=9/\c≠1) then(0,0,21)
  else if c<128 then(nx i n c,i+1,0) else uR (i+1) (nx i n c) l
theorem wrapU_ok(n:Int):okU (wrap .u64 n):=by
 unfold okU
 simp only[IntKind.wrap,IntKind.signed,IntKind.bits]
 have h1:=Int.emod_nonneg n (b:=2 ^ 64) (by decide)
 have h2:=Int.emod_lt_of_pos n (b:=2 ^ 64) (by decide)
 constructor
 ·simpa using h1
 ·simpa using h2
theorem nx_ok(i:Nat)(n c:Int):okU (nx i n c):=by
 unfold nx bitsI
 exact wrapU_ok _
theorem uR_ok:∀ (l:List Int) (i:Nat) (n:Int),okU (uR i n l).1
 |[],i,n=>by unfold uR;exact⟨by decide,by decide⟩
 |c::l,i,n=>by
  unfold uR
  split
  ·exact⟨by decide,by decide⟩
  ·split
   ·exact nx_ok _ _ _
   ·exact uR_ok l _ _
theorem uR_take:∀ (l:List Int) (i:Nat) (n:Int),(uR i n l).2.2=0->i<(uR i n l).2.1/\(uR i n l).2.1<=i+l.length
 |[],i,n=>by unfold uR;intro h;exact absurd h (by decide)
 |c::l,i,n=>by
  unfold uR
  split
  ·intro h;exact absurd h (by decide)
  ·split
   ·intro _
    simp only[length_cons]
    omega
   ·intro h
    have:=uR_take l (i+1) _ h
    simp only[length_cons]
    omega
theorem uint_spec{h:Hp}{l:Sl}{bs:List Int}{Q:Value->Hp->Prop}(hr:h.row l.a l.n (bv bs))
  (hQ:Q (.tuple ⟨[.int .u64 (uR 0 0 bs).1,.int .i64 ((uR 0 0 bs).2.1:Int),.int .i64 (uR 0 0 bs).2.2]⟩) h):F86.T l h Q:=by
 have hln:l.n=bs.length:=by have:=hr.1;rw[bv_length] at this;exact this.symm
 refine⟨λn n1 h1=>h1=h/\∃ i:Nat,n1=(i:Int)/\i<=bs.length/\i<=9/\uR i n (bs.drop i)=uR 0 0 bs,λ_ n1 _=>bs.length-n1.toNat,⟨rfl,0,rfl,Nat.zero_le _,by decide,rfl⟩,?_⟩
 rintro n n1 h1 ⟨rfl,i,rfl,hi,hi9,hu⟩
 refine⟨λhlt=>?_,λhge=>?_⟩
 ·have hi1:i<bs.length:=by omega
  obtain⟨b,o,ha,hat⟩:=row_get hr (i:=i) (by omega)
  have hv:(bv bs)[i]?=some (Value.int .u8 bs[i]):=by simp[bv,hi1]
  have hw:wrap .i64 (7*(i:Int))=7*(i:Int):=wrap_i64 (by omega) (by omega)
  have hw1:wrap .i64 ((i:Int)+1)=((i+1:Nat):Int):=by rw[wrap_i64 (by omega) (by omega)];omega
  rw[List.drop_eq_getElem_cons hi1,uR] at hu
  have bad:((bs[i]=0/\0<i)\/(i=9/\bs[i]≠1))->Q (.tuple ⟨[.int .u64 0,.int .i64 0,.int .i64 21]⟩) h1:=λhb=>by
   rw[if_pos hb] at hu;rw[<- hu] at hQ;exact hQ
  refine⟨b,o,ha,⟨by omega,hlt⟩,bs[i],by rw[Int.toNat_natCast,hat i (by omega),hv],λh2=>h2=h1/\¬ ((bs[i]=0/\0<i)\/(i=9/\bs[i]≠1)),?_,?_⟩
  ·rintro h2 ⟨rfl,hn⟩
   rw[if_neg hn] at hu
   rw[hw,hw1]
   refine⟨by omega,λhc=>?_,λhc=>⟨⟨rfl,i+1,rfl,hi1,?_,?_⟩,?_⟩⟩
   ·rw[if_pos hc] at hu;rw[<- hu] at hQ;exact hQ
   ·by_cases h9:i=9
    ·exact absurd (.inr ⟨h9,λh1=>hc (by rw[h1];decide)⟩) hn
    ·omega
   ·rw[if_neg hc] at hu;exact hu
   ·show bs.length-((i+1:Nat):Int).toNat<bs.length-(i:Int).toNat
    omega
  ·refine⟨λh0=>⟨λhi0=>bad (.inl ⟨h0,by omega⟩),λhi0=>⟨λh9=>⟨λh1=>⟨rfl,by omega⟩,λh1=>bad (.inr ⟨by omega,h1⟩)⟩,λh9=>⟨rfl,by omega⟩⟩⟩,λh0=>⟨λh9=>⟨λh1=>⟨rfl,by omega⟩,λh1=>bad (.inr ⟨by omega,h1⟩)⟩,λh9=>⟨rfl,by omega⟩⟩⟩
 ·have hi2:bs.length<=i:=by omega
  rw[List.drop_of_length_le hi2,uR] at hu
  rw[<- hu] at hQ
  exact hQ
structure RS where
 b:List Int
 bad:Bool
def RS.skip(s:RS)(k:Nat)(e:Int):RS:=if e=0 then⟨s.b.drop k,s.bad⟩ else⟨[],true⟩
def rU(s:RS):Int×RS:=((uR 0 0 s.b).1,s.skip (uR 0 0 s.b).2.1 (uR 0 0 s.b).2.2)
def rW(m:Int)(s:RS):Int×RS:=if m<(rU s).1 then(0,⟨(rU s).2.b,true⟩) else rU s
def toB(l:List Int):ByteArray:=⟨(l.map λn=>UInt8.ofNat n.toNat).toArray⟩
def tR(l:List Int):ByteArray×Nat×Int:=
 if (uR 0 0 l).2.2=0 then
  (if 64<(uR 0 0 l).1 then(⟨#[]⟩,0,22)
  else if ((l.length-(uR 0 0 l).2.1:Nat):Int)<(uR 0 0 l).1 then(⟨#[]⟩,0,20)
  else(toB ((l.drop (uR 0 0 l).2.1).take (uR 0 0 l).1.toNat),(uR 0 0 l).2.1+(uR 0 0 l).1.toNat,0))
 else(⟨#[]⟩,0,(uR 0 0 l).2.2)
def rT(s:RS):ByteArray×RS:=((tR s.b).1,s.skip (tR s.b).2.1 (tR s.b).2.2)
theorem skip_le(s:RS)(k:Nat)(e:Int):(s.skip k e).b.length<=s.b.length:=by
 unfold RS.skip
 split
 ·simp
 ·simp
theorem skip_len{s:RS}{k:Nat}{e:Int}(hk:e=0->0<k/\k<=s.b.length)(h:(s.skip k e).bad=false):s.bad=false/\(s.skip k e).b.length+1<=s.b.length:=by
 unfold RS.skip at h ⊢
 split
 ·rename_i h0
  rw[if_pos h0] at h
  have:=hk h0
  refine⟨h,?_⟩
  simp only[length_drop]
  omega
 ·rename_i h0
  rw[if_neg h0] at h
  cases h
theorem rU_ok(s:RS):okU (rU s).1:=uR_ok _ _ _
theorem rU_le(s:RS):(rU s).2.b.length<=s.b.length:=skip_le _ _ _
theorem rU_take(s:RS)(h:(uR 0 0 s.b).2.2=0):0<(uR 0 0 s.b).2.1/\(uR 0 0 s.b).2.1<=s.b.length:=by
 have:=uR_take s.b 0 0 h
 omega
theorem rU_len{s:RS}(h:(rU s).2.bad=false):s.bad=false/\(rU s).2.b.length+1<=s.b.length:=skip_len (rU_take s) h
theorem rW_ok(m:Int)(s:RS)(hm:0<=m):0<=(rW m s).1/\(rW m s).1<=m:=by
 unfold rW
 split
 ·exact⟨Int.le_refl 0,hm⟩
 ·have:=(rU_ok s).1
  omega
theorem rW_le(m:Int)(s:RS):(rW m s).2.b.length<=s.b.length:=by
 unfold rW
 split
 ·exact rU_le s
 ·exact rU_le s
theorem rW_len{m:Int}{s:RS}(h:(rW m s).2.bad=false):s.bad=false/\(rW m s).2.b.length+1<=s.b.length:=by
 unfold rW at h ⊢
 split
 ·rename_i h0
  rw[if_pos h0] at h;cases h
 ·rename_i h0
  rw[if_neg h0] at h;exact rU_len h
theorem tR_take(l:List Int)(h:(tR l).2.2=0):0<(tR l).2.1/\(tR l).2.1<=l.length:=by
 unfold tR at h ⊢
 split
 ·rename_i h0
  rw[if_pos h0] at h
  have h1:=uR_take l 0 0 h0
  have h2:=uR_ok l 0 0
  split
  ·rename_i h3;rw[if_pos h3] at h;exact absurd h (by decide)
  ·rename_i h3
   rw[if_neg h3] at h
   split
   ·rename_i h4;rw[if_pos h4] at h;exact absurd h (by decide)
   ·rename_i h4
    have:=h2.1
    simp only
    omega
 ·rename_i h0
  rw[if_neg h0] at h
  exact absurd h h0
theorem rT_le(s:RS):(rT s).2.b.length<=s.b.length:=skip_le _ _ _
theorem rT_len{s:RS}(h:(rT s).2.bad=false):s.bad=false/\(rT s).2.b.length+1<=s.b.length:=skip_len (tR_take s.b) h
theorem toB_V{l:List Int}(h:∀ c∈l,0<=c/\c<256):bytesV (toB l)=bv l:=by
 unfold toB bytesV bv
 simp only[List.map_map,List.toList_toArray]
 refine List.map_congr_left λc hc=>?_
 have:=h c hc
 simp only[Function.comp]
 congr 1
 have h1:(UInt8.ofNat c.toNat).toNat=c.toNat:=by
  rw[UInt8.toNat_ofNat']
  omega
 rw[h1]
 omega
theorem cut_mid{h:Hp}{s:Sl}{vs:List Value}(hr:h.row s.a s.n vs){i j m:Nat}(hi:i<=j)(hj:j<=s.n)(hm:s.n<=m):h.row (Sl.cut s 1 (i:Int) (j:Int) (m:Int)).a (Sl.cut s 1 (i:Int) (j:Int) (m:Int)).n ((vs.drop i).take (j-i)):=by
 have h1:=row_take (row_drop hr (Nat.le_trans hi hj)) (k:=j-i) (by omega)
 have hn:(Sl.cut s 1 (i:Int) (j:Int) (m:Int)).n=j-i:=by simp[Sl.cut]
 rw[hn]
 refine row_congr h1 ?_
 unfold Sl.cut
 simp only[Int.toNat_natCast,Nat.mul_one]
 by_cases hk:m=i
 ·left;omega
 ·right;rw[if_neg hk]
theorem codec_text_spec{h:Hp}{l:Sl}{bs:List Int}{Q:Value->Hp->Prop}(hr:h.row l.a l.n (bv bs))(hc:l.n<=l.c)(hok:∀ c∈bs,0<=c/\c<256)(hs:bs.length<=1000000000000)
  (hQ:Q (.tuple ⟨[.string (tR bs).1,.int .i64 ((tR bs).2.1:Int),.int .i64 (tR bs).2.2]⟩) h):F134.T l 64 h Q:=by
 unfold F134.T F134.G
 have hln:l.n=bs.length:=by have:=hr.1;rw[bv_length] at this;exact this.symm
 have h2:=uR_ok bs 0 0
 refine uint_spec hr ⟨_,_,_,rfl,λh0=>⟨λhb=>absurd hb (by decide),λ_=>⟨λh3=>?_,λh3=>⟨λh4=>?_,λh4=>?_⟩⟩⟩,λh0=>?_⟩
 ·have h3':64<(uR 0 0 bs).1:=by
   rw[wrap_u64 (by decide) (by decide)] at h3;exact h3
  unfold tR at hQ
  rw[if_pos h0,if_pos h3'] at hQ
  exact hQ
 ·have h1:=uR_take bs 0 0 h0
  have h3':¬ 64<(uR 0 0 bs).1:=by
   rw[wrap_u64 (by decide) (by decide)] at h3;exact h3
  have h4':((bs.length-(uR 0 0 bs).2.1:Nat):Int)<(uR 0 0 bs).1:=by
   rw[wrap_i64 (by omega) (by omega),wrap_u64 (by omega) (by omega)] at h4
   omega
  unfold tR at hQ
  rw[if_pos h0,if_neg h3',if_pos h4'] at hQ
  exact hQ
 ·have h1:=uR_take bs 0 0 h0
  have h3':¬ 64<(uR 0 0 bs).1:=by
   rw[wrap_u64 (by decide) (by decide)] at h3;exact h3
  have h4':¬ ((bs.length-(uR 0 0 bs).2.1:Nat):Int)<(uR 0 0 bs).1:=by
   rw[wrap_i64 (by omega) (by omega),wrap_u64 (by omega) (by omega)] at h4
   omega
  have hn:=h2.1
  have w1:wrap .i64 (uR 0 0 bs).1=(uR 0 0 bs).1:=wrap_i64 (by omega) (by omega)
  have w2:wrap .i64 (((uR 0 0 bs).2.1:Int)+(uR 0 0 bs).1)=(((uR 0 0 bs).2.1+(uR 0 0 bs).1.toNat:Nat):Int):=by rw[wrap_i64 (by omega) (by omega)];omega
  rw[w1,w2]
  unfold tR at hQ
  rw[if_pos h0,if_neg h3',if_neg h4'] at hQ
  refine⟨⟨by omega,by omega,by omega,by omega⟩,_,?_,hQ⟩
  have hm:=cut_mid hr (i:=(uR 0 0 bs).2.1) (j:=(uR 0 0 bs).2.1+(uR 0 0 bs).1.toNat) (m:=l.c) (by omega) (by omega) hc
  rw[toB_V (λc hc=>hok c (List.mem_of_mem_drop (List.mem_of_mem_take hc)))]
  have e:bv ((bs.drop (uR 0 0 bs).2.1).take (uR 0 0 bs).1.toNat)=((bv bs).drop (uR 0 0 bs).2.1).take ((uR 0 0 bs).2.1+(uR 0 0 bs).1.toNat-(uR 0 0 bs).2.1):=by
   rw[Nat.add_sub_cancel_left]
   unfold bv
   rw[List.map_take,List.map_drop]
  rw[e]
  exact hm
 ·unfold tR at hQ
  rw[if_neg h0] at hQ
  exact hQ
def rb(b:Nat):Sl:=⟨some ⟨b,0,none⟩,1,1⟩
structure RdAt(h0 h:Hp)(b:Nat)(s:RS):Prop where
 cell:∃ l:Sl,h b=some (.cells ⟨[.slice l.a l.n l.c,.bool s.bad]⟩ 188 (0,0))/\h0.row l.a l.n (bv s.b)/\l.n<=l.c
 new:h0 b=none
 keep:Keep h0 h
 ok:∀ c∈s.b,0<=c/\c<256
 small:s.b.length<=1000000000000
theorem wr_at{h:Hp}{b o t:Nat}{c:Array Value}{f:Nat×Nat}{vs:List Value}(hb:h b=some (.cells c t f)):(h.wr b o vs) b=some (.cells (setL c.toList o vs).toArray t f):=by
 unfold Hp.wr;rw[if_pos rfl,hb]
theorem upd_wr{h:Hp}{b o t:Nat}{c:Array Value}{f:Nat×Nat}{vs:List Value}(hb:h b=some (.cells c t f)):Upd h (h.wr b o vs) (rb b) (rb b):=by
 refine⟨λk x hk e=>?_,.inl rfl,λk e=>?_⟩
 ·have hkb:k≠b:=λq=>hk 0 (by rw[q];rfl)
  unfold Hp.wr
  rw[if_neg hkb]
  exact e
 ·unfold Hp.wr at e
  by_cases hkb:k=b
  ·rw[if_pos hkb,hb] at e;cases e
  ·rw[if_neg hkb] at e;exact e
theorem rb_new{h0:Hp}{b:Nat}(hb:h0 b=none):New h0 (rb b):=⟨b,rfl,hb⟩
theorem RdAt.wr{h0 h:Hp}{b:Nat}{s s':RS}(R:RdAt h0 h b s){l:Sl}{h':Hp}(U:Upd h h' (rb b) (rb b))(hc:h' b=some (.cells ⟨[.slice l.a l.n l.c,.bool s'.bad]⟩ 188 (0,0)))(hr:h0.row l.a l.n (bv s'.b))(hl:l.n<=l.c)(hs:∀ c∈s'.b,c∈s.b)(hle:s'.b.length<=s.b.length):RdAt h0 h' b s':=
 ⟨⟨l,hc,hr,hl⟩,R.new,(keep_grow R.keep (.inr (rb_new R.new)) U).1,λc hc=>R.ok c (hs c hc),Nat.le_trans hle R.small⟩
theorem RdAt.buf{h0 h:Hp}{b:Nat}{s:RS}(R:RdAt h0 h b s):∃ vs,Buf h (rb b) 2 188 vs:=by
 obtain⟨l,hb,_,_⟩:=R.cell
 exact⟨[.slice l.a l.n l.c,.bool s.bad],rfl,Nat.le_refl _,.inr ⟨b,_,(0,0),rfl,hb,Nat.le_refl _,λj _=>by simp,rfl⟩⟩
theorem RdAt.off{h0 h:Hp}{b:Nat}{s:RS}(R:RdAt h0 h b s){l:Sl}{sz t:Nat}{vs:List Value}(B:Buf h l sz t vs)(ht:t≠188):Off l (rb b):=by
 obtain⟨us,B2⟩:=R.buf
 exact buf_off B B2 ht
theorem RdAt.grow{h0 h h':Hp}{b:Nat}{s:RS}(R:RdAt h0 h b s){l l':Sl}{sz t:Nat}{vs:List Value}(B:Buf h l sz t vs)(ht:t≠188)(N:l.a=none\/New h0 l)(U:Upd h h' l l'):RdAt h0 h' b s:=by
 obtain⟨us,B2⟩:=R.buf
 obtain⟨r,hb,hr,hl⟩:=R.cell
 have ho:=buf_off B2 B (Ne.symm ht)
 exact⟨⟨r,U.keep b _ (λo=>ho b 0 o rfl) hb,hr,hl⟩,R.new,(keep_grow R.keep N U).1,R.ok,R.small⟩
theorem skip_spec{h0 h:Hp}{b:Nat}{s:RS}{n e:Int}{Q:Value->Hp->Prop}(R:RdAt h0 h b s)(hn:e=0->0<=n/\n.toNat<=s.b.length)
  (hQ:∀ h',Upd h h' (rb b) (rb b)->RdAt h0 h' b (s.skip n.toNat e)->Q (.tuple ⟨[]⟩) h'):F133.T (some ⟨b,0,none⟩) n e h Q:=by
 obtain⟨l,hb,hr,hlc⟩:=R.cell
 have hln:l.n=s.b.length:=by have:=hr.1;rw[bv_length] at this;exact this.symm
 have a0:h.at b 0=some (.slice l.a l.n l.c):=by unfold Hp.at;rw[hb];rfl
 unfold F133.T
 refine⟨λh0'=>?_,λh0'=>?_⟩
 ·obtain⟨n0,n1⟩:=hn h0'
  obtain⟨k,rfl⟩:∃ k:Nat,n=(k:Int):=⟨n.toNat,by omega⟩
  rw[Int.toNat_natCast] at n1 hQ
  have hs:s.skip k e=⟨s.b.drop k,s.bad⟩:=by unfold RS.skip;rw[if_pos h0']
  rw[hs] at hQ
  refine⟨b,0,rfl,l,a0,b,0,rfl,l,a0,b,0,rfl,l,a0,⟨by omega,by omega,by omega,by omega⟩,b,0,rfl,⟨_,_,_,hb,Nat.le_of_ble_eq_true rfl,λj _ _=>by simp⟩,?_⟩
  refine hQ _ (upd_wr hb) (R.wr (l:=Sl.cut l 1 (k:Int) (l.n:Int) (l.n:Int)) (upd_wr hb) (wr_at hb) ?_ ?_ (λc hc=>List.mem_of_mem_drop hc) (by simp))
  ·have:=cut_mid hr (i:=k) (j:=l.n) (m:=l.n) (by omega) (Nat.le_refl _) (Nat.le_refl _)
   have e:bv (s.b.drop k)=((bv s.b).drop k).take (l.n-k):=by
    rw[take_of_length_le (by rw[length_drop,bv_length];omega)]
    unfold bv
    rw[List.map_drop]
   show h0.row _ _ (bv (s.b.drop k))
   rw[e];exact this
  ·simp[Sl.cut]
 ·have hs:s.skip n.toNat e=⟨[],true⟩:=by unfold RS.skip;rw[if_neg h0']
  rw[hs] at hQ
  have hb2:(h.wr b (0+1) [.bool true]) b=some (.cells ⟨[.slice l.a l.n l.c,.bool true]⟩ 188 (0,0)):=wr_at hb
  have a2:(h.wr b (0+1) [.bool true]).at b 0=some (.slice l.a l.n l.c):=by unfold Hp.at;rw[hb2];rfl
  refine⟨b,0,rfl,l,a0,b,0,rfl,⟨_,_,_,hb,Nat.le_of_ble_eq_true rfl,λj _ _=>by simp⟩,b,0,rfl,l,a2,b,0,rfl,l,a2,b,0,rfl,l,a2,⟨by omega,by omega,by omega,by omega⟩,b,0,rfl,⟨_,_,_,hb2,Nat.le_of_ble_eq_true rfl,λj _ _=>by simp⟩,?_⟩
  refine hQ _ ((upd_wr hb).trans (upd_wr hb2)) (R.wr (l:=Sl.cut l 1 (l.n:Int) (l.n:Int) (l.n:Int)) ((upd_wr hb).trans (upd_wr hb2)) (wr_at hb2) ?_ ?_ (λc hc=>by cases hc) (Nat.zero_le _))
  ·refine⟨by simp[Sl.cut,bv],.inl (by simp[Sl.cut])⟩
  ·simp[Sl.cut]
theorem uint_r{h0 h:Hp}{b:Nat}{s:RS}{Q:Value->Hp->Prop}(R:RdAt h0 h b s)
  (hQ:∀ h',Upd h h' (rb b) (rb b)->RdAt h0 h' b (rU s).2->Q (.int .u64 (rU s).1) h'):F123.T (some ⟨b,0,none⟩) h Q:=by
 unfold F123.T F123.G
 obtain⟨l,hb,hr,hlc⟩:=R.cell
 have a0:h.at b 0=some (.slice l.a l.n l.c):=by unfold Hp.at;rw[hb];rfl
 refine⟨b,0,rfl,l,a0,uint_spec (R.keep.row hr) ⟨_,_,_,rfl,skip_spec R (λh0'=>⟨by omega,?_⟩) λh' U R'=>hQ h' U R'⟩⟩
 rw[Int.toNat_natCast]
 exact(rU_take s h0').2
theorem within_r{h0 h:Hp}{b:Nat}{s:RS}{m:Int}{Q:Value->Hp->Prop}(R:RdAt h0 h b s)(hm:m<9223372036854775808)
  (hQ:∀ h',Upd h h' (rb b) (rb b)->RdAt h0 h' b (rW m s).2->Q (.int .i64 (rW m s).1) h'):F124.T (some ⟨b,0,none⟩) m h Q:=by
 unfold F124.T F124.G
 refine uint_r R λh1 U1 R1=>⟨_,rfl,λhlt=>?_,λhge=>?_⟩
 ·have hw:rW m s=(0,⟨(rU s).2.b,true⟩):=by unfold rW;rw[if_pos hlt]
  rw[hw] at hQ
  obtain⟨l,hb,hr,hlc⟩:=R1.cell
  refine⟨b,0,rfl,⟨_,_,_,hb,Nat.le_of_ble_eq_true rfl,λj _ _=>by simp⟩,?_⟩
  exact hQ _ (U1.trans (upd_wr hb)) (R1.wr (l:=l) (upd_wr hb) (wr_at hb) hr hlc (λc hc=>hc) (Nat.le_refl _))
 ·have hw:rW m s=rU s:=by unfold rW;rw[if_neg hge]
  rw[hw] at hQ
  rw[wrap_i64 (by have:=(rU_ok s).1;omega) (by omega)]
  exact hQ h1 U1 R1
theorem text_r{h0 h:Hp}{b:Nat}{s:RS}{Q:Value->Hp->Prop}(R:RdAt h0 h b s)
  (hQ:∀ h',Upd h h' (rb b) (rb b)->RdAt h0 h' b (rT s).2->Q (.string (rT s).1) h'):F125.T (some ⟨b,0,none⟩) h Q:=by
 unfold F125.T F125.G
 obtain⟨l,hb,hr,hlc⟩:=R.cell
 have a0:h.at b 0=some (.slice l.a l.n l.c):=by unfold Hp.at;rw[hb];rfl
 refine⟨b,0,rfl,l,a0,codec_text_spec (R.keep.row hr) hlc R.ok R.small ⟨_,_,_,rfl,skip_spec R (λh0'=>⟨by omega,?_⟩) λh' U R'=>hQ h' U R'⟩⟩
 rw[Int.toNat_natCast]
 exact(tR_take s.b h0').2
end Go.Eng.YtblghgacokoklaaDoor
end
section
namespace Go.Eng.YtblghgacokoklaaDoor
def maxI:Int:=9223372036854775807
def outR:Nat->List Place->RS->Option (List Place×RS)
 |0,acc,s=>some (acc,s)
 |f+1,acc,s=>if (rU (rW 4 s).2).2.bad=true then none else outR f (acc++[⟨(rW 4 s).1,(rU (rW 4 s).2).1⟩]) (rU (rW 4 s).2).2
def plS(s:RS):Placed×RS:=
 let a:=rW 4 s
 let b:=rU a.2
 let c:=rW 9223372036854775807 b.2
 let d:=rW 9223372036854775807 c.2
 let e:=rW 9223372036854775807 d.2
 let x:=rT e.2
 let y:=rT x.2
 (⟨a.1,b.1,c.1,d.1,e.1,x.1,y.1⟩,y.2)
def inR:Nat->List Placed->RS->Option (List Placed×RS)
 |0,acc,s=>some (acc,s)
 |f+1,acc,s=>if (plS s).2.bad=true then none else inR f (acc++[(plS s).1]) (plS s).2
def ptR:Nat->List ByteArray->RS->Option (List ByteArray×RS)
 |0,acc,s=>some (acc,s)
 |f+1,acc,s=>if (rT s).2.bad=true then none else ptR f (acc++[(rT s).1]) (rT s).2
def rdP(c a b d:Int)(o:List Place)(i:List Placed)(s:RS):Option (Edit×Bool):=
 match ptR (rU s).1.toNat [] (rU s).2 with
 |none=>none
 |some x=>if x.2.bad=true then none else if x.2.b.length=0 then some (⟨a,b,d,o,i,x.1⟩,decide (c=1)) else none
def rdI(c a b d:Int)(o:List Place)(s:RS):Option (Edit×Bool):=
 match inR (rU s).1.toNat [] (rU s).2 with
 |none=>none
 |some x=>rdP c a b d o x.1 x.2
def rdO(c a b d:Int)(s:RS):Option (Edit×Bool):=
 match outR (rU s).1.toNat [] (rU s).2 with
 |none=>none
 |some x=>rdI c a b d x.1 x.2
def rd:List Int->Option (Edit×Bool)
 |[]=>none
 |c::l=>if 1<c then none else rdO c (rU ⟨l,false⟩).1 (rU (rU ⟨l,false⟩).2).1 (rU (rU (rU ⟨l,false⟩).2).2).1 (rU (rU (rU ⟨l,false⟩).2).2).2
theorem rd_cons(c:Int)(l:List Int):rd (c::l)=if 1<c then none else rdO c (rU ⟨l,false⟩).1 (rU (rU ⟨l,false⟩).2).1 (rU (rU (rU ⟨l,false⟩).2).2).1 (rU (rU (rU ⟨l,false⟩).2).2).2:=rfl
def Place.val(p:Place):Prop:=p.lv<9223372036854775808/\okU p.num
def Placed.val(p:Placed):Prop:=p.lv<9223372036854775808/\okU p.num/\p.weight<9223372036854775808/\p.bytes<9223372036854775808/\p.entries<9223372036854775808
structure St(h0 h:Hp)(b:Nat)(s:RS)(l1 l2 l3:Sl)(o:List Place)(i:List Placed)(p:List ByteArray)(N:Nat):Prop where
 rd:RdAt h0 h b s
 out:Buf h l1 2 104 (outV o)
 inn:Buf h l2 7 108 (inV i)
 ptr:Buf h l3 1 9 (ptrV p)
 n1:l1.a=none\/New h0 l1
 n2:l2.a=none\/New h0 l2
 n3:l3.a=none\/New h0 l3
 room:o.length+i.length+p.length+s.b.length<=N
 vo:∀ x∈o,x.val
 vi:∀ x∈i,x.val
theorem out_n{h:Hp}{l:Sl}{o:List Place}(B:Buf h l 2 104 (outV o)):l.n=o.length:=by
 have h1:=B.len
 unfold outV at h1
 rw[flat_length Place.cells 2 (λ_=>rfl)] at h1
 omega
theorem in_n{h:Hp}{l:Sl}{o:List Placed}(B:Buf h l 7 108 (inV o)):l.n=o.length:=by
 have h1:=B.len
 unfold inV at h1
 rw[flat_length Placed.cells 7 (λ_=>rfl)] at h1
 omega
theorem pt_n{h:Hp}{l:Sl}{o:List ByteArray}(B:Buf h l 1 9 (ptrV o)):l.n=o.length:=by
 have h1:=B.len
 unfold ptrV at h1
 rw[length_map] at h1
 omega
theorem St.step{h0 h h':Hp}{b:Nat}{s s':RS}{l1 l2 l3:Sl}{o:List Place}{i:List Placed}{p:List ByteArray}{N:Nat}(S:St h0 h b s l1 l2 l3 o i p N)(U:Upd h h' (rb b) (rb b))(R:RdAt h0 h' b s')(hle:s'.b.length<=s.b.length):St h0 h' b s' l1 l2 l3 o i p N:=
 ⟨R,S.out.upd U (S.rd.off S.out (by decide)),S.inn.upd U (S.rd.off S.inn (by decide)),S.ptr.upd U (S.rd.off S.ptr (by decide)),S.n1,S.n2,S.n3,by have:=S.room;omega,S.vo,S.vi⟩
theorem RdAt.bad_at{h0 h:Hp}{b:Nat}{s:RS}(R:RdAt h0 h b s):h.at b 1=some (.bool s.bad):=by
 obtain⟨l,hb,_,_⟩:=R.cell
 unfold Hp.at;rw[hb];rfl
theorem RdAt.b_at{h0 h:Hp}{b:Nat}{s:RS}(R:RdAt h0 h b s):∃ l:Sl,h.at b 0=some (.slice l.a l.n l.c)/\l.n=s.b.length:=by
 obtain⟨l,hb,hr,_⟩:=R.cell
 refine⟨l,by unfold Hp.at;rw[hb];rfl,?_⟩
 have:=hr.1
 rw[bv_length] at this
 exact this.symm
theorem St.addO{h0 h h':Hp}{b:Nat}{s:RS}{l1 l1' l2 l3:Sl}{o:List Place}{i:List Placed}{p:List ByteArray}{N:Nat}(S:St h0 h b s l1 l2 l3 o i p N)(U:Upd h h' l1 l1'){x:Place}(B:Buf h' l1' 2 104 (outV o++x.cells))(hx:x.val)(hr:o.length+i.length+p.length+s.b.length+1<=N):St h0 h' b s l1' l2 l3 (o++[x]) i p N:=
 ⟨S.rd.grow S.out (by decide) S.n1 U,by simpa[outV] using B,S.inn.upd U (buf_off S.inn S.out (by decide)),S.ptr.upd U (buf_off S.ptr S.out (by decide)),(keep_grow S.rd.keep S.n1 U).2,S.n2,S.n3,
  by rw[length_append,length_singleton];omega,λy hy=>by rcases mem_append.1 hy with h|h;exact S.vo y h;rw[mem_singleton] at h;rw[h];exact hx,S.vi⟩
theorem St.addI{h0 h h':Hp}{b:Nat}{s:RS}{l1 l2 l2' l3:Sl}{o:List Place}{i:List Placed}{p:List ByteArray}{N:Nat}(S:St h0 h b s l1 l2 l3 o i p N)(U:Upd h h' l2 l2'){x:Placed}(B:Buf h' l2' 7 108 (inV i++x.cells))(hx:x.val)(hr:o.length+i.length+p.length+s.b.length+1<=N):St h0 h' b s l1 l2' l3 o (i++[x]) p N:=
 ⟨S.rd.grow S.inn (by decide) S.n2 U,S.out.upd U (buf_off S.out S.inn (by decide)),by simpa[inV] using B,S.ptr.upd U (buf_off S.ptr S.inn (by decide)),S.n1,(keep_grow S.rd.keep S.n2 U).2,S.n3,
  by rw[length_append,length_singleton];omega,S.vo,λy hy=>by rcases mem_append.1 hy with h|h;exact S.vi y h;rw[mem_singleton] at h;rw[h];exact hx⟩
theorem St.addP{h0 h h':Hp}{b:Nat}{s:RS}{l1 l2 l3 l3':Sl}{o:List Place}{i:List Placed}{p:List ByteArray}{N:Nat}(S:St h0 h b s l1 l2 l3 o i p N)(U:Upd h h' l3 l3'){x:ByteArray}(B:Buf h' l3' 1 9 (ptrV p++[.string x]))(hr:o.length+i.length+p.length+s.b.length+1<=N):St h0 h' b s l1 l2 l3' o i (p++[x]) N:=
 ⟨S.rd.grow S.ptr (by decide) S.n3 U,S.out.upd U (buf_off S.out S.ptr (by decide)),S.inn.upd U (buf_off S.inn S.ptr (by decide)),by simpa[ptrV] using B,S.n1,S.n2,(keep_grow S.rd.keep S.n3 U).2,
  by rw[length_append,length_singleton];omega,S.vo,S.vi⟩
@[reducible] def noneV:Value:=.tuple ⟨[.agg ⟨[.int .u64 0,.int .u64 0,.int .u64 0,.slice none 0 0,.slice none 0 0,.slice none 0 0]⟩,.bool false,.bool false]⟩
theorem rd_out{h0 h:Hp}{b1:Nat}{s:RS}{l1 l2 l3:Sl}{N:Nat}{n a c d:Int}{Q:Value->Hp->Prop}{R:Int->Int->Int->Int->Sl->Sl->Sl->Hp->Prop}(S:St h0 h b1 s l1 l2 l3 [] [] [] N)(hN:N<=1000000000000)(hn:okU n)
  (hB:∀ h',Keep h0 h'->outR n.toNat [] s=none->Q noneV h')
  (hR:∀ n5 l1' o s' h',outR n.toNat [] s=some (o,s')->St h0 h' b1 s' l1' l2 l3 o [] [] N->R n5 a c d l1' l2 l3 h') :
  ∃ (I:Int->Int->Int->Int->Sl->Sl->Sl->Hp->Prop) (m:Int->Int->Int->Int->Sl->Sl->Sl->Hp->Nat),I n a c d l1 l2 l3 h/\(∀ n5 n6:Int,∀ n7 n8:Int,∀ l1 l2 l3:Sl,∀ h5:Hp,I n5 n6 n7 n8 l1 l2 l3 h5->par ((0:Int)<n5) (F124.T (some ⟨b1,0,none⟩) 4 h5 λr4 h6=>∃ n9:Int,r4=.int .i64 n9/\F123.T (some ⟨b1,0,none⟩) h6 λr5 h7=>∃ n10:Int,r5=.int .u64 n10/\appendD l1 104 2 16 [.int .i64 0,.int .u64 0] 1 [.int .i64 n9,.int .u64 n10] h7 λl4 h8=>∃ b2:Bool,h8.at b1 1=some (.bool b2)/\parB b2 (Q noneV h8) (I (wrap .u64 (n5-1)) n6 n7 n8 l4 l2 l3 h8/\m (wrap .u64 (n5-1)) n6 n7 n8 l4 l2 l3 h8<m n5 n6 n7 n8 l1 l2 l3 h5)) (R n5 n6 n7 n8 l1 l2 l3 h5)):=by
 refine⟨λn5 x y z k1 k2 k3 h5=>x=a/\y=c/\z=d/\k2=l2/\k3=l3/\okU n5/\∃ o s',outR n5.toNat o s'=outR n.toNat [] s/\St h0 h5 b1 s' k1 l2 l3 o [] [] N,λn5 _ _ _ _ _ _ _=>n5.toNat,⟨rfl,rfl,rfl,rfl,rfl,hn,[],s,rfl,S⟩,?_⟩
 rintro n5 x y z k1 k2 k3 h5 ⟨rfl,rfl,rfl,rfl,rfl,hn5,o,s',hE,S'⟩
 refine⟨λhpos=>?_,λhz=>?_⟩
 ·obtain⟨f,hf⟩:∃ f,n5.toNat=f+1:=⟨n5.toNat-1,by omega⟩
  have hf':(n5-1).toNat=f:=by omega
  have hn52:=hn5.2
  rw[hf,outR] at hE
  have hw:wrap .u64 (n5-1)=n5-1:=wrap_u64 (by omega) (by omega)
  refine within_r S'.rd (by decide) λh6 U6 R6=>⟨_,rfl,?_⟩
  have S6:=S'.step U6 R6 (rW_le _ _)
  refine uint_r S6.rd λh7 U7 R7=>⟨_,rfl,?_⟩
  have S7:=S6.step U7 R7 (rU_le _)
  have r7:=S7.room
  have m7:=out_n S7.out
  refine append_buf S7.out rfl rfl (by omega) λl4 h8 B8 hn8 U8=>⟨_,(S7.rd.grow S7.out (by decide) S7.n1 U8).bad_at,λhb=>?_,λhb=>?_⟩
  ·rw[if_pos hb] at hE
   exact hB h8 (S7.rd.grow S7.out (by decide) S7.n1 U8).keep hE.symm
  ·rw[if_neg (by rw[hb];decide)] at hE
   rw[hw]
   have q1:=rU_len hb
   have q2:=rW_len q1.1
   have r0:=S'.room
   have v1:=rW_ok 4 s' (by decide)
   refine⟨⟨rfl,rfl,rfl,rfl,rfl,⟨by omega,by omega⟩,o++[⟨(rW 4 s').1,(rU (rW 4 s').2).1⟩],(rU (rW 4 s').2).2,by rw[hf'];exact hE,?_⟩,by dsimp only;omega⟩
   refine S7.addO U8 (x:=⟨(rW 4 s').1,(rU (rW 4 s').2).1⟩) B8 ⟨by show(rW 4 s').1<_;omega,rU_ok _⟩ (by omega)
 ·have h0':n5.toNat=0:=by omega
  rw[h0',outR] at hE
  exact hR _ _ _ _ _ hE.symm S'
theorem rd_in{h0 h:Hp}{b1:Nat}{s:RS}{l1 l2 l3:Sl}{N:Nat}{n a c d:Int}{o:List Place}{Q:Value->Hp->Prop}{R:Int->Int->Int->Int->Sl->Sl->Sl->Hp->Prop}(S:St h0 h b1 s l1 l2 l3 o [] [] N)(hN:N<=1000000000000)(hn:okU n)
  (hB:∀ h',Keep h0 h'->inR n.toNat [] s=none->Q noneV h')
  (hR:∀ n5 l2' i s' h',inR n.toNat [] s=some (i,s')->St h0 h' b1 s' l1 l2' l3 o i [] N->R n5 a c d l1 l2' l3 h') :
  ∃ (I1:Int->Int->Int->Int->Sl->Sl->Sl->Hp->Prop) (m1:Int->Int->Int->Int->Sl->Sl->Sl->Hp->Nat),I1 n a c d l1 l2 l3 h/\(∀ n12 n13:Int,∀ n14 n15:Int,∀ l5 l6 l7:Sl,∀ h10:Hp,I1 n12 n13 n14 n15 l5 l6 l7 h10->par ((0:Int)<n12) (F124.T (some ⟨b1,0,none⟩) 4 h10 λr7 h11=>∃ n16:Int,r7=.int .i64 n16/\F123.T (some ⟨b1,0,none⟩) h11 λr8 h12=>∃ n17:Int,r8=.int .u64 n17/\F124.T (some ⟨b1,0,none⟩) 9223372036854775807 h12 λr9 h13=>∃ n18:Int,r9=.int .i64 n18/\F124.T (some ⟨b1,0,none⟩) 9223372036854775807 h13 λr10 h14=>∃ n19:Int,r10=.int .i64 n19/\F124.T (some ⟨b1,0,none⟩) 9223372036854775807 h14 λr11 h15=>∃ n20:Int,r11=.int .i64 n20/\F125.T (some ⟨b1,0,none⟩) h15 λr12 h16=>∃ s:ByteArray,r12=.string s/\F125.T (some ⟨b1,0,none⟩) h16 λr13 h17=>∃ s1:ByteArray,r13=.string s1/\appendD l6 108 7 72 [.int .i64 0,.int .u64 0,.int .i64 0,.int .i64 0,.int .i64 0,.string ⟨#[]⟩,.string ⟨#[]⟩] 1 [.int .i64 n16,.int .u64 n17,.int .i64 n18,.int .i64 n19,.int .i64 n20,.string s,.string s1] h17 λl8 h18=>∃ b3:Bool,h18.at b1 1=some (.bool b3)/\parB b3 (Q noneV h18) (I1 (wrap .u64 (n12-1)) n13 n14 n15 l5 l8 l7 h18/\m1 (wrap .u64 (n12-1)) n13 n14 n15 l5 l8 l7 h18<m1 n12 n13 n14 n15 l5 l6 l7 h10)) (R n12 n13 n14 n15 l5 l6 l7 h10)):=by
 refine⟨λn5 x y z k1 k2 k3 h5=>x=a/\y=c/\z=d/\k1=l1/\k3=l3/\okU n5/\∃ i s',inR n5.toNat i s'=inR n.toNat [] s/\St h0 h5 b1 s' l1 k2 l3 o i [] N,λn5 _ _ _ _ _ _ _=>n5.toNat,⟨rfl,rfl,rfl,rfl,rfl,hn,[],s,rfl,S⟩,?_⟩
 rintro n5 x y z k1 k2 k3 h5 ⟨rfl,rfl,rfl,rfl,rfl,hn5,i,s',hE,S'⟩
 refine⟨λhpos=>?_,λhz=>?_⟩
 ·obtain⟨f,hf⟩:∃ f,n5.toNat=f+1:=⟨n5.toNat-1,by omega⟩
  have hf':(n5-1).toNat=f:=by omega
  have hn52:=hn5.2
  rw[hf,inR] at hE
  have hx:plS s'=(⟨(rW 4 s').1,(rU (rW 4 s').2).1,(rW 9223372036854775807 (rU (rW 4 s').2).2).1,(rW 9223372036854775807 (rW 9223372036854775807 (rU (rW 4 s').2).2).2).1,(rW 9223372036854775807 (rW 9223372036854775807 (rW 9223372036854775807 (rU (rW 4 s').2).2).2).2).1,(rT (rW 9223372036854775807 (rW 9223372036854775807 (rW 9223372036854775807 (rU (rW 4 s').2).2).2).2).2).1,(rT (rT (rW 9223372036854775807 (rW 9223372036854775807 (rW 9223372036854775807 (rU (rW 4 s').2).2).2).2).2).2).1⟩,(rT (rT (rW 9223372036854775807 (rW 9223372036854775807 (rW 9223372036854775807 (rU (rW 4 s').2).2).2).2).2).2).2):=rfl
  have hw:wrap .u64 (n5-1)=n5-1:=wrap_u64 (by omega) (by omega)
  refine within_r S'.rd (by decide) λh6 U6 R6=>⟨_,rfl,?_⟩
  have S6:=S'.step U6 R6 (rW_le _ _)
  refine uint_r S6.rd λh7 U7 R7=>⟨_,rfl,?_⟩
  have S7:=S6.step U7 R7 (rU_le _)
  refine within_r S7.rd (by decide) λh8 U8 R8=>⟨_,rfl,?_⟩
  have S8:=S7.step U8 R8 (rW_le _ _)
  refine within_r S8.rd (by decide) λh9 U9 R9=>⟨_,rfl,?_⟩
  have S9:=S8.step U9 R9 (rW_le _ _)
  refine within_r S9.rd (by decide) λh10 U10 R10=>⟨_,rfl,?_⟩
  have S10:=S9.step U10 R10 (rW_le _ _)
  refine text_r S10.rd λh11 U11 R11=>⟨_,rfl,?_⟩
  have S11:=S10.step U11 R11 (rT_le _)
  refine text_r S11.rd λh12 U12 R12=>⟨_,rfl,?_⟩
  have S12:=S11.step U12 R12 (rT_le _)
  have r7:=S12.room
  have m7:=in_n S12.inn
  refine append_buf S12.inn rfl rfl (by omega) λl4 h13 B8 hn8 U8=>⟨_,(S12.rd.grow S12.inn (by decide) S12.n2 U8).bad_at,λhb=>?_,λhb=>?_⟩
  ·rw[hx] at hE
   simp only at hE
   rw[if_pos hb] at hE
   exact hB h13 (S12.rd.grow S12.inn (by decide) S12.n2 U8).keep hE.symm
  ·rw[hx] at hE
   simp only at hE
   rw[if_neg (by rw[hb];decide)] at hE
   rw[hw]
   have q1:=rT_len hb
   have q2:=rT_len q1.1
   have q3:=rW_len q2.1
   have q4:=rW_len q3.1
   have q5:=rW_len q4.1
   have q6:=rU_len q5.1
   have q7:=rW_len q6.1
   have r0:=S'.room
   have v1:=rW_ok 4 s' (by decide)
   have v2:=rW_ok 9223372036854775807 (rU (rW 4 s').2).2 (by decide)
   have v3:=rW_ok 9223372036854775807 (rW 9223372036854775807 (rU (rW 4 s').2).2).2 (by decide)
   have v4:=rW_ok 9223372036854775807 (rW 9223372036854775807 (rW 9223372036854775807 (rU (rW 4 s').2).2).2).2 (by decide)
   refine⟨⟨rfl,rfl,rfl,rfl,rfl,⟨by omega,by omega⟩,i++[⟨(rW 4 s').1,(rU (rW 4 s').2).1,(rW 9223372036854775807 (rU (rW 4 s').2).2).1,(rW 9223372036854775807 (rW 9223372036854775807 (rU (rW 4 s').2).2).2).1,(rW 9223372036854775807 (rW 9223372036854775807 (rW 9223372036854775807 (rU (rW 4 s').2).2).2).2).1,(rT (rW 9223372036854775807 (rW 9223372036854775807 (rW 9223372036854775807 (rU (rW 4 s').2).2).2).2).2).1,(rT (rT (rW 9223372036854775807 (rW 9223372036854775807 (rW 9223372036854775807 (rU (rW 4 s').2).2).2).2).2).2).1⟩],(rT (rT (rW 9223372036854775807 (rW 9223372036854775807 (rW 9223372036854775807 (rU (rW 4 s').2).2).2).2).2).2).2,by rw[hf'];exact hE,?_⟩,by dsimp only;omega⟩
   refine S12.addI U8 (x:=⟨(rW 4 s').1,(rU (rW 4 s').2).1,(rW 9223372036854775807 (rU (rW 4 s').2).2).1,(rW 9223372036854775807 (rW 9223372036854775807 (rU (rW 4 s').2).2).2).1,(rW 9223372036854775807 (rW 9223372036854775807 (rW 9223372036854775807 (rU (rW 4 s').2).2).2).2).1,(rT (rW 9223372036854775807 (rW 9223372036854775807 (rW 9223372036854775807 (rU (rW 4 s').2).2).2).2).2).1,(rT (rT (rW 9223372036854775807 (rW 9223372036854775807 (rW 9223372036854775807 (rU (rW 4 s').2).2).2).2).2).2).1⟩) (by simp only[Placed.cells];exact B8) ?_ (by omega)
   simp only[Placed.val]
   exact⟨by omega,rU_ok _,by omega,by omega,by omega⟩
 ·have h0':n5.toNat=0:=by omega
  rw[h0',inR] at hE
  exact hR _ _ _ _ _ hE.symm S'
theorem rd_ptr{h0 h:Hp}{b1:Nat}{s:RS}{l1 l2 l3:Sl}{N:Nat}{n a c d:Int}{o:List Place}{i:List Placed}{Q:Value->Hp->Prop}{R:Int->Int->Int->Int->Sl->Sl->Sl->Hp->Prop}(S:St h0 h b1 s l1 l2 l3 o i [] N)(hN:N<=1000000000000)(hn:okU n)
  (hB:∀ h',Keep h0 h'->ptR n.toNat [] s=none->Q noneV h')
  (hR:∀ n5 l3' p s' h',ptR n.toNat [] s=some (p,s')->St h0 h' b1 s' l1 l2 l3' o i p N->R n5 a c d l1 l2 l3' h') :
  ∃ (I2:Int->Int->Int->Int->Sl->Sl->Sl->Hp->Prop) (m2:Int->Int->Int->Int->Sl->Sl->Sl->Hp->Nat),I2 n a c d l1 l2 l3 h/\(∀ n22 n23:Int,∀ n24 n25:Int,∀ l9 l10 l11:Sl,∀ h20:Hp,I2 n22 n23 n24 n25 l9 l10 l11 h20->par ((0:Int)<n22) (F125.T (some ⟨b1,0,none⟩) h20 λr15 h21=>∃ s2:ByteArray,r15=.string s2/\appendD l11 9 1 16 [.string ⟨#[]⟩] 1 [.string s2] h21 λl12 h22=>∃ b4:Bool,h22.at b1 1=some (.bool b4)/\parB b4 (Q noneV h22) (I2 (wrap .u64 (n22-1)) n23 n24 n25 l9 l10 l12 h22/\m2 (wrap .u64 (n22-1)) n23 n24 n25 l9 l10 l12 h22<m2 n22 n23 n24 n25 l9 l10 l11 h20)) (R n22 n23 n24 n25 l9 l10 l11 h20)):=by
 refine⟨λn5 x y z k1 k2 k3 h5=>x=a/\y=c/\z=d/\k1=l1/\k2=l2/\okU n5/\∃ p s',ptR n5.toNat p s'=ptR n.toNat [] s/\St h0 h5 b1 s' l1 l2 k3 o i p N,λn5 _ _ _ _ _ _ _=>n5.toNat,⟨rfl,rfl,rfl,rfl,rfl,hn,[],s,rfl,S⟩,?_⟩
 rintro n5 x y z k1 k2 k3 h5 ⟨rfl,rfl,rfl,rfl,rfl,hn5,p,s',hE,S'⟩
 refine⟨λhpos=>?_,λhz=>?_⟩
 ·obtain⟨f,hf⟩:∃ f,n5.toNat=f+1:=⟨n5.toNat-1,by omega⟩
  have hf':(n5-1).toNat=f:=by omega
  have hn52:=hn5.2
  rw[hf,ptR] at hE
  have hw:wrap .u64 (n5-1)=n5-1:=wrap_u64 (by omega) (by omega)
  refine text_r S'.rd λh6 U6 R6=>⟨_,rfl,?_⟩
  have S6:=S'.step U6 R6 (rT_le _)
  have r7:=S6.room
  have m7:=pt_n S6.ptr
  refine append_buf S6.ptr rfl rfl (by omega) λl4 h8 B8 hn8 U8=>⟨_,(S6.rd.grow S6.ptr (by decide) S6.n3 U8).bad_at,λhb=>?_,λhb=>?_⟩
  ·rw[if_pos hb] at hE
   exact hB h8 (S6.rd.grow S6.ptr (by decide) S6.n3 U8).keep hE.symm
  ·rw[if_neg (by rw[hb];decide)] at hE
   rw[hw]
   have q1:=rT_len hb
   have r0:=S'.room
   refine⟨⟨rfl,rfl,rfl,rfl,rfl,⟨by omega,by omega⟩,p++[(rT s').1],(rT s').2,by rw[hf'];exact hE,?_⟩,by dsimp only;omega⟩
   exact S6.addP U8 B8 (by omega)
 ·have h0':n5.toNat=0:=by omega
  rw[h0',ptR] at hE
  exact hR _ _ _ _ _ hE.symm S'
structure EdB(h0 h:Hp)(e:Edit)(l1 l2 l3:Sl):Prop where
 out:Buf h l1 2 104 (outV e.out)
 inn:Buf h l2 7 108 (inV e.inn)
 ptr:Buf h l3 1 9 (ptrV e.ptr)
 n1:l1.a=none\/New h0 l1
 n2:l2.a=none\/New h0 l2
 n3:l3.a=none\/New h0 l3
theorem read_spec{h:Hp}{l:Sl}{bs:List Int}{Q:Value->Hp->Prop}(hr:h.row l.a l.n (bv bs))(hc:l.n<=l.c)(hok:∀ c∈bs,0<=c/\c<256)(hs:bs.length<=1000000000)
  (hN:∀ h',Keep h h'->rd bs=none->Q noneV h')
  (hS:∀ h' e last l1 l2 l3,rd bs=some (e,last)->Keep h h'->EdB h h' e l1 l2 l3->e.valid->e.out.length+e.inn.length+e.ptr.length<=bs.length ->
   Q (.tuple ⟨[.agg ⟨[.int .u64 e.log,.int .u64 e.next,.int .u64 e.seq,.slice l1.a l1.n l1.c,.slice l2.a l2.n l2.c,.slice l3.a l3.n l3.c]⟩,.bool last,.bool true]⟩) h'):F102.T l h Q:=by
 have hln:l.n=bs.length:=by have:=hr.1;rw[bv_length] at this;exact this.symm
 unfold F102.T F102.G
 rcases bs with _|⟨c,rest⟩
 ·simp only[length_nil] at hln
  exact⟨λ_=>hN h (Keep.refl h) rfl,λh0=>absurd (by omega) h0⟩
 simp only[length_cons] at hln hs
 obtain⟨b,o,ha,hat⟩:=row_get hr (i:=0) (by omega)
 have a0:h.at b (o+(0:Int).toNat)=some (.int .u8 c):=hat 0 (by omega)
 refine⟨λh0=>absurd h0 (by omega),λ_=>⟨b,o,ha,⟨by decide,by omega⟩,c,a0,λhc1=>hN h (Keep.refl h) (by rw[rd_cons,if_pos hc1]),λhc1=>⟨⟨by decide,by omega,by omega,by omega⟩,λb1 hb1=>?_⟩⟩⟩
 have hb2:(h.new b1 (.cells ⟨[.slice (Sl.cut l 1 1 (l.n:Int) (l.c:Int)).a (Sl.cut l 1 1 (l.n:Int) (l.c:Int)).n (Sl.cut l 1 1 (l.n:Int) (l.c:Int)).c,.bool false]⟩ 188 (0,0))) b1=some (.cells ⟨[.slice (Sl.cut l 1 1 (l.n:Int) (l.c:Int)).a (Sl.cut l 1 1 (l.n:Int) (l.c:Int)).n (Sl.cut l 1 1 (l.n:Int) (l.c:Int)).c,.bool false]⟩ 188 (0,0)):=by unfold Hp.new;rw[if_pos rfl]
 have hrow:=cut_mid hr (i:=1) (j:=l.n) (m:=l.c) (by omega) (Nat.le_refl _) hc
 have hrow':h.row (Sl.cut l 1 1 (l.n:Int) (l.c:Int)).a (Sl.cut l 1 1 (l.n:Int) (l.c:Int)).n (bv rest):=by
  rw[take_of_length_le (by rw[length_drop,bv_length,length_cons];omega)] at hrow
  exact hrow
 have S0:St h (h.new b1 (.cells ⟨[.slice (Sl.cut l 1 1 (l.n:Int) (l.c:Int)).a (Sl.cut l 1 1 (l.n:Int) (l.c:Int)).n (Sl.cut l 1 1 (l.n:Int) (l.c:Int)).c,.bool false]⟩ 188 (0,0))) b1 ⟨rest,false⟩ ⟨none,0,0⟩ ⟨none,0,0⟩ ⟨none,0,0⟩ [] [] [] rest.length:=
  ⟨⟨⟨_,hb2,hrow',by simp[Sl.cut];omega⟩,hb1,Keep.new hb1 _,λx hx=>hok x (mem_cons_of_mem _ hx),by show rest.length<=_;omega⟩,Buf.nil _ 2 104,Buf.nil _ 7 108,Buf.nil _ 1 9,.inl rfl,.inl rfl,.inl rfl,by simp,λx hx=>(by cases hx),λx hx=>(by cases hx)⟩
 refine uint_r S0.rd λh1 U1 R1=>⟨_,rfl,?_⟩
 have S1:=S0.step U1 R1 (rU_le _)
 refine uint_r S1.rd λh2 U2 R2=>⟨_,rfl,?_⟩
 have S2:=S1.step U2 R2 (rU_le _)
 refine uint_r S2.rd λh3 U3 R3=>⟨_,rfl,?_⟩
 have S3:=S2.step U3 R3 (rU_le _)
 refine uint_r S3.rd λh4 U4 R4=>⟨_,rfl,?_⟩
 have S4:=S3.step U4 R4 (rU_le _)
 refine rd_out S4 (by omega) (rU_ok _) (λh' K hno=>hN h' K ?_) (λn5 l1 o1 s5 h5 hso S5=>?_)
 ·rw[rd_cons,if_neg hc1];unfold rdO;rw[hno]
 refine uint_r S5.rd λh6 U6 R6=>⟨_,rfl,?_⟩
 have S6:=S5.step U6 R6 (rU_le _)
 refine rd_in S6 (by omega) (rU_ok _) (λh' K hno=>hN h' K ?_) (λn7 l2 i1 s7 h7 hsi S7=>?_)
 ·rw[rd_cons,if_neg hc1];unfold rdO;rw[hso];show rdI _ _ _ _ _ _=none;unfold rdI;rw[hno]
 refine uint_r S7.rd λh8 U8 R8=>⟨_,rfl,?_⟩
 have S8:=S7.step U8 R8 (rU_le _)
 have hrd:rd (c::rest)=rdP c (rU ⟨rest,false⟩).1 (rU (rU ⟨rest,false⟩).2).1 (rU (rU (rU ⟨rest,false⟩).2).2).1 o1 i1 s7:=by
  rw[rd_cons,if_neg hc1];unfold rdO;rw[hso];show rdI _ _ _ _ _ _=_;unfold rdI;rw[hsi]
 refine rd_ptr S8 (by omega) (rU_ok _) (λh' K hno=>hN h' K ?_) (λn9 l3 p1 s9 h9 hsp S9=>?_)
 ·rw[hrd];unfold rdP;rw[hno]
 have hrd2:rd (c::rest)=if s9.bad=true then none else if s9.b.length=0 then some (⟨(rU ⟨rest,false⟩).1,(rU (rU ⟨rest,false⟩).2).1,(rU (rU (rU ⟨rest,false⟩).2).2).1,o1,i1,p1⟩,decide (c=1)) else none:=by
  rw[hrd];unfold rdP;rw[hsp]
 have K9:=S9.rd.keep
 refine⟨_,S9.rd.bad_at,λhb=>hN h9 K9 (by rw[hrd2,if_pos hb]),λhb=>?_⟩
 rw[if_neg (by rw[hb];decide)] at hrd2
 obtain⟨q,hq,hqn⟩:=S9.rd.b_at
 refine⟨q,hq,λh0=>?_,λh0=>hN h9 K9 (by rw[hrd2,if_neg (by omega)])⟩
 rw[if_pos (by omega)] at hrd2
 have room:=S9.room
 have hE:EdB h h9 ⟨(rU ⟨rest,false⟩).1,(rU (rU ⟨rest,false⟩).2).1,(rU (rU (rU ⟨rest,false⟩).2).2).1,o1,i1,p1⟩ l1 l2 l3:=⟨S9.out,S9.inn,S9.ptr,S9.n1,S9.n2,S9.n3⟩
 refine⟨b,o,ha,⟨by decide,by omega⟩,c,K9.at a0,λh1=>⟨K9.at a0,?_⟩,λh1=>⟨K9.at a0,?_⟩⟩
 ·refine hS h9 _ true l1 l2 l3 ?_ K9 hE ⟨rU_ok _,rU_ok _,rU_ok _,S9.vo,S9.vi⟩ ?_
  ·rw[hrd2,decide_eq_true h1]
  ·show o1.length+i1.length+p1.length<=rest.length+1;omega
 ·refine hS h9 _ false l1 l2 l3 ?_ K9 hE ⟨rU_ok _,rU_ok _,rU_ok _,S9.vo,S9.vi⟩ ?_
  ·rw[hrd2,decide_eq_false h1]
  ·show o1.length+i1.length+p1.length<=rest.length+1;omega
end Go.Eng.YtblghgacokoklaaDoor
end
section
namespace Go.Eng.YtblghgacokoklaaDoor
theorem take_step{α:Type}{a b:List α}{i:Nat}(ha:i<a.length)(hb:i<b.length)(h:a.take i=b.take i)(he:a[i]=b[i]):a.take (i+1)=b.take (i+1):=by
 rw[List.take_succ_eq_append_getElem ha,List.take_succ_eq_append_getElem hb,h,he]
theorem ne_at{α:Type}{a b:List α}{i:Nat}(ha:i<a.length)(hb:i<b.length)(he:a[i]≠b[i]):a≠b:=by
 intro h
 subst h
 exact he rfl
theorem all_take{α:Type}{a b:List α}(hl:a.length=b.length)(h:a.take a.length=b.take a.length):a=b:=by
 rw[List.take_length] at h
 rw[hl,List.take_length] at h
 exact h
theorem all_take2{α:Type}{a b:List α}{i:Nat}(hl:a.length=b.length)(hi:i=a.length)(h:a.take i=b.take i):a=b:=by
 subst hi
 exact all_take hl h
theorem bytes_eq{h:Hp}{l l1:Sl}{a b:List Int}{Q:Value->Hp->Prop}(ha:h.row l.a l.n (bv a))(hb:h.row l1.a l1.n (bv b))(hs:b.length<=1000000000000)
  (hT:a=b->Q (.bool true) h) (hF:a≠b->Q (.bool false) h):F127.T l l1 h Q:=by
 have hla:l.n=a.length:=by have:=ha.1;rw[bv_length] at this;exact this.symm
 have hlb:l1.n=b.length:=by have:=hb.1;rw[bv_length] at this;exact this.symm
 unfold F127.T
 refine⟨λhe=>?_,λhne=>hF λe=>hne (by rw[hla,hlb,e])⟩
 have hl:a.length=b.length:=by omega
 refine⟨λn h1=>h1=h/\∃ i:Nat,n=(i:Int)/\i<=a.length/\a.take i=b.take i,λn _=>a.length-n.toNat,⟨rfl,0,rfl,Nat.zero_le _,by simp⟩,?_⟩
 rintro n h1 ⟨rfl,i,rfl,hi,ht⟩
 refine⟨λhlt=>?_,λhge=>hT (all_take2 hl (by omega) ht)⟩
 have ia:i<a.length:=by omega
 have ib:i<b.length:=by omega
 obtain⟨b0,o0,ha0,hat⟩:=row_get ha (i:=i) (by omega)
 obtain⟨b1,o1,hb1,hbt⟩:=row_get hb (i:=i) (by omega)
 refine⟨b0,o0,ha0,⟨by omega,hlt⟩,a[i],?_,b1,o1,hb1,⟨by omega,by omega⟩,b[i],?_,λe=>⟨⟨rfl,i+1,next_i ia (by omega),ia,take_step ia ib ht e⟩,?_⟩,λe=>hF (ne_at ia ib e)⟩
 ·rw[Int.toNat_natCast,hat i (by omega)];simp[bv,ia]
 ·rw[Int.toNat_natCast,hbt i (by omega)];simp[bv,ib]
 ·rw[next_i ia (by omega)]
  show a.length-((i+1:Nat):Int).toNat<a.length-(i:Int).toNat
  omega
theorem sameBytes_eq{h:Hp}{l l1:Sl}{a b:List Int}{Q:Value->Hp->Prop}(ha:h.row l.a l.n (bv a))(hb:h.row l1.a l1.n (bv b))(hs:b.length<=1000000000000)
  (hT:a=b->Q (.bool true) h) (hF:a≠b->Q (.bool false) h):F10.T l l1 h Q:=bytes_eq ha hb hs hT hF
def Rows(h:Hp)(ss:List Sl)(bs:List (List Int)):Prop:=ss.length=bs.length/\∀ (i:Nat) (hi:i<ss.length) (hj:i<bs.length),h.row ss[i].a ss[i].n (bv bs[i])
theorem RowsAt.rows{h:Hp}{ss:List Sl}{bs:List (List Int)}(R:RowsAt h ss bs):Rows h ss bs:=⟨R.1,λi hi hj=>by have:=(R.2 i hi hj).row;rw[Nat.mul_one] at this;exact this⟩
theorem Rows.keep{h h':Hp}(k:Keep h h'){ss:List Sl}{bs:List (List Int)}(R:Rows h ss bs):Rows h' ss bs:=⟨R.1,λi hi hj=>k.row (R.2 i hi hj)⟩
theorem Rows.mid{h:Hp}{ss:List Sl}{bs:List (List Int)}(R:Rows h ss bs)(i k:Nat):Rows h ((ss.drop i).take k) ((bs.drop i).take k):=by
 refine⟨by simp[R.1],λj hj hk=>?_⟩
 simp only[length_take,length_drop] at hj hk
 have:=R.2 (i+j) (by omega) (by omega)
 simpa using this
theorem eqF_spec{h:Hp}{l l1:Sl}{ss ts:List Sl}{xs ys:List (List Int)}{Q:Value->Hp->Prop}(hl:h.row l.a l.n (slV ss))(R1:Rows h ss xs)(hl1:h.row l1.a l1.n (slV ts))(R2:Rows h ts ys)(hs:ys.length<=1000000000000)(hy:∀ y∈ys,y.length<=1000000000000)
  (hT:xs=ys->Q (.bool true) h) (hF:xs≠ys->Q (.bool false) h):F126.T l l1 h Q:=by
 have n1:l.n=xs.length:=by have:=hl.1;rw[slV_length,R1.1] at this;exact this.symm
 have n2:l1.n=ys.length:=by have:=hl1.1;rw[slV_length,R2.1] at this;exact this.symm
 have s1:ss.length=xs.length:=R1.1
 have s2:ts.length=ys.length:=R2.1
 unfold F126.T F126.G
 refine⟨λhe=>?_,λhne=>hF λe=>hne (by rw[n1,n2,e])⟩
 have hl2:xs.length=ys.length:=by omega
 refine⟨λn h1=>h1=h/\∃ i:Nat,n=(i:Int)/\i<=xs.length/\xs.take i=ys.take i,λn _=>xs.length-n.toNat,⟨rfl,0,rfl,Nat.zero_le _,by simp⟩,?_⟩
 rintro n h1 ⟨rfl,i,rfl,hi,ht⟩
 refine⟨λhlt=>?_,λhge=>hT (all_take2 hl2 (by omega) ht)⟩
 have ia:i<xs.length:=by omega
 have ib:i<ys.length:=by omega
 obtain⟨b0,o0,ha0,hat⟩:=row_get hl (i:=i) (by omega)
 obtain⟨b1,o1,hb1,hbt⟩:=row_get hl1 (i:=i) (by omega)
 refine⟨b0,o0,ha0,⟨by omega,hlt⟩,ss[i],?_,b1,o1,hb1,⟨by omega,by omega⟩,ts[i],?_,?_⟩
 ·rw[Int.toNat_natCast,hat i (by omega)];simp[slV,s1,ia]
 ·rw[Int.toNat_natCast,hbt i (by omega)];simp[slV,s2,ib]
 refine bytes_eq (R1.2 i (by omega) ia) (R2.2 i (by omega) ib) (hy _ (List.getElem_mem ib)) (λe=>⟨true,rfl,λ_=>⟨⟨rfl,i+1,next_i ia (by omega),ia,take_step ia ib ht e⟩,?_⟩,λh0=>(by cases h0)⟩) (λe=>⟨false,rfl,λh0=>(by cases h0),λ_=>hF (ne_at ia ib e)⟩)
 rw[next_i ia (by omega)]
 show xs.length-((i+1:Nat):Int).toNat<xs.length-(i:Int).toNat
 omega
def sameP(e:Edit)(recs:List (List Int))(whole:Bool):Bool:=
 if (putS e).length<recs.length then false else if whole=true/\(putS e).length≠recs.length then false else decide ((putS e).take recs.length=recs)
theorem cut_row{h:Hp}{l:Sl}{ss:List Sl}(hr:h.row l.a l.n (slV ss)){i j m:Nat}(hi:i<=j)(hj:j<=l.n)(hm:l.n<=m):h.row (Sl.cut l 1 (i:Int) (j:Int) (m:Int)).a (Sl.cut l 1 (i:Int) (j:Int) (m:Int)).n (slV ((ss.drop i).take (j-i))):=by
 have:=cut_mid hr hi hj hm
 have e:slV ((ss.drop i).take (j-i))=((slV ss).drop i).take (j-i):=by unfold slV;rw[List.map_take,List.map_drop]
 rw[e];exact this
theorem same_end{h:Hp}{e:Edit}{l3 l4:Sl}{ss ts:List Sl}{recs:List (List Int)}{Q:Value->Hp->Prop}{w:Bool}(B:Buf h l4 1 23 (slV ts))(R4:RowsAt h ts (putS e))(hl:h.row l3.a l3.n (slV ss))(R:Rows h ss recs)(hs:recs.length<=1000000000000)(hy:∀ y∈recs,y.length<=1000000000000)
  (h1:¬ (putS e).length<recs.length) (h2:w=true->(putS e).length=recs.length) (hQ:Q (.bool (sameP e recs w)) h) :
  Sl.okCut l4 0 (l3.n:Int) (l4.c:Int)/\F126.T (Sl.cut l4 1 0 (l3.n:Int) (l4.c:Int)) l3 h λr1 h2=>∃ b:Bool,r1=.bool b/\parB b (Q (.bool true) h2) (Q (.bool false) h2):=by
 have n3:l3.n=recs.length:=by have:=hl.1;rw[slV_length,R.1] at this;exact this.symm
 have n4:l4.n=(putS e).length:=by have:=B.len;rw[slV_length,R4.1] at this;omega
 have hc:=B.cap
 have hp:sameP e recs w=decide ((putS e).take recs.length=recs):=by
  unfold sameP
  rw[if_neg h1,if_neg (λhh=>hh.2 (h2 hh.1))]
 rw[hp] at hQ
 have hB:=B.row
 rw[Nat.mul_one] at hB
 have hrow:=cut_row hB (i:=0) (j:=l3.n) (m:=l4.c) (Nat.zero_le _) (by omega) hc
 have hR:Rows h ((ts.drop 0).take (l3.n-0)) ((putS e).take recs.length):=by
  have:=R4.rows.mid 0 (l3.n-0)
  rw[n3] at this ⊢
  exact this
 refine⟨⟨by decide,by omega,by omega,by omega⟩,?_⟩
 refine eqF_spec hrow hR hl R hs hy (λhe=>⟨true,rfl,λ_=>?_,λh0=>(by cases h0)⟩) (λhe=>⟨false,rfl,λh0=>(by cases h0),λ_=>?_⟩)
 ·rw[decide_eq_true he] at hQ;exact hQ
 ·rw[decide_eq_false he] at hQ;exact hQ
theorem same_t{h:Hp}{e:Edit}{l l1 l2 l3:Sl}{ss:List Sl}{recs:List (List Int)}{Q:Value->Hp->Prop}(E:EdAt h e l l1 l2)(c1:l.n<=l.c)(c2:l1.n<=l1.c)(V:e.valid)(n1:e.out.length+e.inn.length<=1000000000000)(n3:e.ptr.length<9223372036854775807)
  (hl:h.row l3.a l3.n (slV ss)) (R:Rows h ss recs) (hs:recs.length<=1000000000000) (hy:∀ y∈recs,y.length<=1000000000000) (hQ:∀ h',Keep h h'->Q (.bool (sameP e recs true)) h'):F103.Tt e.log e.next e.seq l l1 l2 l3 h Q:=by
 unfold F103.Tt
 have m3:l3.n=recs.length:=by have:=hl.1;rw[slV_length,R.1] at this;exact this.symm
 refine put_spec E c1 c2 V n1 n3 λl4 h1 ts B R4 K N=>⟨l4,rfl,λhlt=>?_,λhge=>⟨λheq=>?_,λhne=>?_⟩⟩
 all_goals have n4:l4.n=(putS e).length:=by have:=B.len;rw[slV_length,R4.1] at this;omega
 ·have:=hQ h1 K
  unfold sameP at this
  rw[if_pos (by omega)] at this
  exact this
 ·exact same_end B R4 (K.row hl) (R.keep K) hs hy (by omega) (λ_=>by omega) (hQ h1 K)
 ·have:=hQ h1 K
  unfold sameP at this
  rw[if_neg (by omega),if_pos ⟨rfl,by omega⟩] at this
  exact this
theorem same_f{h:Hp}{e:Edit}{l l1 l2 l3:Sl}{ss:List Sl}{recs:List (List Int)}{Q:Value->Hp->Prop}(E:EdAt h e l l1 l2)(c1:l.n<=l.c)(c2:l1.n<=l1.c)(V:e.valid)(n1:e.out.length+e.inn.length<=1000000000000)(n3:e.ptr.length<9223372036854775807)
  (hl:h.row l3.a l3.n (slV ss)) (R:Rows h ss recs) (hs:recs.length<=1000000000000) (hy:∀ y∈recs,y.length<=1000000000000) (hQ:∀ h',Keep h h'->Q (.bool (sameP e recs false)) h'):F103.Tf e.log e.next e.seq l l1 l2 l3 h Q:=by
 unfold F103.Tf
 have m3:l3.n=recs.length:=by have:=hl.1;rw[slV_length,R.1] at this;exact this.symm
 refine put_spec E c1 c2 V n1 n3 λl4 h1 ts B R4 K N=>⟨l4,rfl,λhlt=>?_,λhge=>?_⟩
 all_goals have n4:l4.n=(putS e).length:=by have:=B.len;rw[slV_length,R4.1] at this;omega
 ·have:=hQ h1 K
  unfold sameP at this
  rw[if_pos (by omega)] at this
  exact this
 ·exact same_end B R4 (K.row hl) (R.keep K) hs hy (by omega) (λh0=>by cases h0) (hQ h1 K)
end Go.Eng.YtblghgacokoklaaDoor
end
section
namespace Go.Eng.YtblghgacokoklaaDoor
def zE:Edit:=⟨0,0,0,[],[],[]⟩
def pl0:Placed:=⟨0,0,0,0,0,⟨#[]⟩,⟨#[]⟩⟩
def joinE(cur x:Edit)(part:List (List Int)):Edit:=if part.length=0 then x else⟨x.log,x.next,x.seq,cur.out++x.out,cur.inn++x.inn,x.ptr⟩
def withP(e:Edit):Edit:=⟨e.log,e.next,e.seq,e.out,e.inn++[pl0],e.ptr⟩
def getR:List (List Int)->List Edit->Edit->List (List Int)->Option (List Edit)
 |[],acc,cur,part=>if part.length=0 then some acc else if sameP (withP cur) part false=true then some acc else none
 |r::rs,acc,cur,part=>
  match rd r with
  |none=>none
  |some x=>if x.2=true then(if sameP (joinE cur x.1 part) (part++[r]) true=true then getR rs (acc++[joinE cur x.1 part]) zE [] else none) else getR rs acc (joinE cur x.1 part) (part++[r])
theorem getR_none{r:List Int}{rs part:List (List Int)}{acc:List Edit}{cur:Edit}(h:rd r=none):getR (r::rs) acc cur part=none:=by
 unfold getR;rw[h]
theorem getR_some{r:List Int}{rs part:List (List Int)}{acc:List Edit}{cur:Edit}{x:Edit×Bool}(h:rd r=some x):getR (r::rs) acc cur part=if x.2=true then(if sameP (joinE cur x.1 part) (part++[r]) true=true then getR rs (acc++[joinE cur x.1 part]) zE [] else none) else getR rs acc (joinE cur x.1 part) (part++[r]):=by
 conv=>lhs;unfold getR
 rw[h]
def tot(l:List (List Int)):Nat:=(l.map λr=>r.length+1).sum
theorem tot_append(a b:List (List Int)):tot (a++b)=tot a+tot b:=by simp[tot]
theorem tot_take_succ{l:List (List Int)}{i:Nat}(h:i<l.length):tot (l.take (i+1))=tot (l.take i)+(l[i].length+1):=by
 rw[List.take_succ_eq_append_getElem h,tot_append]
 simp[tot]
theorem tot_mem{l:List (List Int)}{r:List Int}(h:r∈l):r.length+1<=tot l:=by
 induction l with
 |nil=>cases h
 |cons a l ih=>
  have e:tot (a::l)=a.length+1+tot l:=by simp[tot]
  rcases mem_cons.1 h with rfl|h
  ·omega
  ·have:=ih h;omega
theorem tot_len(l:List (List Int)):l.length<=tot l:=by
 induction l with
 |nil=>simp
 |cons a l ih=>
  have e:tot (a::l)=a.length+1+tot l:=by simp[tot]
  rw[e,length_cons];omega
theorem tot_take(l:List (List Int))(i:Nat):tot (l.take i)<=tot l:=by
 have:=tot_append (l.take i) (l.drop i)
 rw[List.take_append_drop] at this
 omega
structure EdS where
 e:Edit
 a:Sl
 b:Sl
 c:Sl
def EdS.cells(x:EdS):List Value:=[.int .u64 x.e.log,.int .u64 x.e.next,.int .u64 x.e.seq,.slice x.a.a x.a.n x.a.c,.slice x.b.a x.b.n x.b.c,.slice x.c.a x.c.n x.c.c]
def edV(l:List EdS):List Value:=l.flatMap EdS.cells
theorem ed_n{h:Hp}{l:Sl}{t:Nat}{o:List EdS}(B:Buf h l 6 t (edV o)):l.n=o.length:=by
 have h1:=B.len
 unfold edV at h1
 rw[flat_length EdS.cells 6 (λ_=>rfl)] at h1
 omega
structure EdOk(h:Hp)(x:EdS):Prop where
 out:Buf h x.a 2 104 (outV x.e.out)
 inn:Buf h x.b 7 108 (inV x.e.inn)
 ptr:Buf h x.c 1 9 (ptrV x.e.ptr)
 val:x.e.valid
 size:x.e.out.length+x.e.inn.length<=400000000000
 nptr:x.e.ptr.length<=1000000000
theorem EdOk.at{h:Hp}{x:EdS}(E:EdOk h x):EdAt h x.e x.a x.b x.c:=⟨E.out.row,E.inn.row,by have:=E.ptr.row;rw[Nat.mul_one] at this;exact this⟩
theorem EdOk.keep{h h':Hp}(k:Keep h h'){x:EdS}(E:EdOk h x):EdOk h' x:=⟨E.out.keep k,E.inn.keep k,E.ptr.keep k,E.val,E.size,E.nptr⟩
theorem EdOk.upd{h h':Hp}{s s':Sl}{sz t:Nat}{vs:List Value}(U:Upd h h' s s')(B:Buf h s sz t vs)(t1:104≠t)(t2:108≠t)(t3:9≠t){x:EdS}(E:EdOk h x):EdOk h' x:=
 ⟨E.out.upd U (buf_off E.out B t1),E.inn.upd U (buf_off E.inn B t2),E.ptr.upd U (buf_off E.ptr B t3),E.val,E.size,E.nptr⟩
theorem EdB.at{h0 h:Hp}{e:Edit}{l1 l2 l3:Sl}(E:EdB h0 h e l1 l2 l3):EdAt h e l1 l2 l3:=⟨E.out.row,E.inn.row,by have:=E.ptr.row;rw[Nat.mul_one] at this;exact this⟩
theorem EdB.keep{h0 h h':Hp}(k:Keep h h'){e:Edit}{l1 l2 l3:Sl}(E:EdB h0 h e l1 l2 l3):EdB h0 h' e l1 l2 l3:=⟨E.out.keep k,E.inn.keep k,E.ptr.keep k,E.n1,E.n2,E.n3⟩
theorem EdB.upd{h0 h h':Hp}{s s':Sl}{sz t:Nat}{vs:List Value}(U:Upd h h' s s')(B:Buf h s sz t vs)(t1:104≠t)(t2:108≠t)(t3:9≠t){e:Edit}{l1 l2 l3:Sl}(E:EdB h0 h e l1 l2 l3):EdB h0 h' e l1 l2 l3:=
 ⟨E.out.upd U (buf_off E.out B t1),E.inn.upd U (buf_off E.inn B t2),E.ptr.upd U (buf_off E.ptr B t3),E.n1,E.n2,E.n3⟩
theorem new_mono{h h1:Hp}(k:Keep h h1){s:Sl}(N:s.a=none\/New h1 s):s.a=none\/New h s:=by
 rcases N with h0|⟨b,hb,hn⟩
 ·exact .inl h0
 ·exact .inr ⟨b,hb,k.dom b hn⟩
theorem EdB.mono{h0 h1 h:Hp}(k:Keep h0 h1){e:Edit}{l1 l2 l3:Sl}(E:EdB h1 h e l1 l2 l3):EdB h0 h e l1 l2 l3:=⟨E.out,E.inn,E.ptr,new_mono k E.n1,new_mono k E.n2,new_mono k E.n3⟩
theorem zE_b(h:Hp):EdB h h zE ⟨none,0,0⟩ ⟨none,0,0⟩ ⟨none,0,0⟩:=⟨Buf.nil h 2 104,Buf.nil h 7 108,Buf.nil h 1 9,.inl rfl,.inl rfl,.inl rfl⟩
theorem zE_valid:zE.valid:=⟨⟨by decide,by decide⟩,⟨by decide,by decide⟩,⟨by decide,by decide⟩,λp hp=>(by cases hp),λp hp=>(by cases hp)⟩
theorem out_one(o:List Place):∀ v∈outV o,Value.oneCell' v=true:=by
 intro v hv
 obtain⟨p,_,hp⟩:=List.mem_flatMap.1 hv
 simp only[Place.cells,mem_cons,List.not_mem_nil,or_false] at hp
 rcases hp with rfl|rfl<;>rfl
theorem in_one(o:List Placed):∀ v∈inV o,Value.oneCell' v=true:=by
 intro v hv
 obtain⟨p,_,hp⟩:=List.mem_flatMap.1 hv
 simp only[Placed.cells,mem_cons,List.not_mem_nil,or_false] at hp
 rcases hp with rfl|rfl|rfl|rfl|rfl|rfl|rfl<;>rfl
theorem outV_append(a b:List Place):outV (a++b)=outV a++outV b:=by simp[outV]
theorem inV_append(a b:List Placed):inV (a++b)=inV a++inV b:=by simp[inV]
theorem part_succ{α:Type}{l:List α}{f i:Nat}(hf:f<=i)(hi:i<l.length):(l.drop f).take (i+1-f)=(l.drop f).take (i-f)++[l[i]]:=by
 have h1:i-f<(l.drop f).length:=by rw[length_drop];omega
 rw[show i+1-f=(i-f)+1 by omega,List.take_succ_eq_append_getElem h1]
 congr 2
 rw[List.getElem_drop]
 congr 1
 omega
structure Recs(h:Hp)(l:Sl)(ss:List Sl)(recs:List (List Int)):Prop where
 row:h.row l.a l.n (slV ss)
 cap:l.n<=l.c
 rows:Rows h ss recs
 caps:∀ s∈ss,s.n<=s.c
 ok:∀ r∈recs,∀ c∈r,0<=c/\c<256
 each:∀ r∈recs,r.length<=1000000000
 tot:tot recs<=200000000000
theorem get_spec{h:Hp}{l:Sl}{ss:List Sl}{recs:List (List Int)}{Q:Value->Hp->Prop}(A:Recs h l ss recs)
  (hN:∀ h',Keep h h'->getR recs [] zE []=none->Q (.tuple ⟨[.slice none 0 0,.int .i64 140]⟩) h')
  (hS:∀ h' l1 (L:List EdS),Keep h h'->getR recs [] zE []=some (L.map EdS.e)->Buf h' l1 6 65 (edV L)->(∀ x∈L,EdOk h' x)->(l1.a=none\/New h l1)->L.length<=200000000000->Q (.tuple ⟨[.slice l1.a l1.n l1.c,.int .i64 0]⟩) h'):F69.T l h Q:=by
 have hss:ss.length=recs.length:=A.rows.1
 have hln:l.n=recs.length:=by have:=A.row.1;rw[slV_length,hss] at this;exact this.symm
 have hrl:=tot_len recs
 have htot:=A.tot
 have hy:∀ y∈recs,y.length<=1000000000000:=λy hy=>by have:=tot_mem hy;omega
 have hcap:=A.cap
 unfold F69.T
 refine⟨λl1 n n1 n2 n3 n4 l2 l3 l4 h1=>∃ (i f:Nat) (L:List EdS) (cur:Edit) (hs:Hp),n=(f:Int)/\n1=(i:Int)/\f<=i/\i<=recs.length/\n2=cur.log/\n3=cur.next/\n4=cur.seq/\Keep h hs/\Keep hs h1/\(l1.a=none\/New h l1)/\Buf h1 l1 6 65 (edV L)/\(∀ x∈L,EdOk hs x)/\EdB hs h1 cur l2 l3 l4/\cur.valid/\cur.out.length+cur.inn.length<=tot (recs.take i)/\cur.ptr.length<=1000000000/\L.length<=i/\getR (recs.drop i) (L.map EdS.e) cur ((recs.drop f).take (i-f))=getR recs [] zE [],
  λ_ _ n1 _ _ _ _ _ _ _=>recs.length-n1.toNat,⟨0,0,[],zE,h,rfl,rfl,Nat.le_refl _,Nat.zero_le _,rfl,rfl,rfl,Keep.refl h,Keep.refl h,.inl rfl,Buf.nil h 6 65,λx hx=>(by cases hx),zE_b h,zE_valid,Nat.zero_le _,Nat.zero_le _,Nat.zero_le _,rfl⟩,?_⟩
 rintro l1 n n1 n2 n3 n4 l2 l3 l4 h1 ⟨i,f,L,cur,hs,rfl,rfl,hfi,hi,rfl,rfl,rfl,K0,K1,N1,B1,hL,E,V,hsz,hpt,hLn,hG⟩
 refine⟨λhlt=>?_,λhge=>?_⟩
 ·have hi1:i<recs.length:=by omega
  have hi2:i<ss.length:=by omega
  obtain⟨b,o,ha,hat⟩:=row_get ((K0.trans K1).row A.row) (i:=i) (by omega)
  have hv:(slV ss)[i]?=some (.slice ss[i].a ss[i].n ss[i].c):=by simp[slV,hi2]
  refine⟨b,o,ha,⟨by omega,hlt⟩,ss[i],by rw[Int.toNat_natCast,hat i (by omega),hv],?_⟩
  have hrow:=(K0.trans K1).row (A.rows.2 i hi2 hi1)
  have hri:=List.getElem_mem hi1
  have hrm:=tot_mem hri
  have hre:=A.each _ hri
  have hti:=tot_take_succ hi1
  have htl:=tot_take recs (i+1)
  have hpart:=part_succ hfi hi1
  have hplen:((recs.drop f).take (i-f)).length=i-f:=by rw[length_take,length_drop];omega
  rw[List.drop_eq_getElem_cons hi1] at hG
  refine read_spec hrow (A.caps _ (List.getElem_mem hi2)) (A.ok _ hri) (by omega) (λh2 K2 hno=>?_) (λh2 x last k1 k2 k3 hso K2 E2 V2 hx=>?_)
  ·rw[getR_none hno] at hG
   exact⟨0,0,0,⟨none,0,0⟩,⟨none,0,0⟩,⟨none,0,0⟩,false,λh0=>(by cases h0),λ_=>⟨false,λh0=>(by cases h0),λ_=>⟨rfl,hN h2 ((K0.trans K1).trans K2) hG.symm⟩⟩⟩
  rw[getR_some hso] at hG
  simp only at hG
  have hw:wrap .i64 ((i:Int)+1)=((i+1:Nat):Int):=next_i hi1 (by omega)
  have next:∀ h4 q1 q2 J,J=joinE cur x ((recs.drop f).take (i-f))->Keep hs h4->Buf h4 l1 6 65 (edV L)->EdB hs h4 J q1 q2 k3->J.valid->J.log=x.log->J.next=x.next->J.seq=x.seq->J.ptr=x.ptr->J.out.length+J.inn.length<=tot (recs.take (i+1)) ->
    (last=false->(∃ (i' f':Nat) (L':List EdS) (cur:Edit) (hs:Hp),(f:Int)=(f':Int)/\((i+1:Nat):Int)=(i':Int)/\f'<=i'/\i'<=recs.length/\x.log=cur.log/\x.next=cur.next/\x.seq=cur.seq/\Keep h hs/\Keep hs h4/\(l1.a=none\/New h l1)/\Buf h4 l1 6 65 (edV L')/\(∀ x∈L',EdOk hs x)/\EdB hs h4 cur q1 q2 k3/\cur.valid/\cur.out.length+cur.inn.length<=tot (recs.take i')/\cur.ptr.length<=1000000000/\L'.length<=i'/\getR (recs.drop i') (L'.map EdS.e) cur ((recs.drop f').take (i'-f'))=getR recs [] zE [])/\recs.length-(((i+1:Nat):Int)).toNat<recs.length-((i:Int)).toNat) /\
    (last=true->Sl.okCut l (f:Int) ((i+1:Nat):Int) (l.c:Int)/\F103.Tt x.log x.next x.seq q1 q2 k3 (Sl.cut l 1 (f:Int) ((i+1:Nat):Int) (l.c:Int)) h4 λr1 h5=>∃ b3:Bool,r1=.bool b3/\parB b3 (appendD l1 65 6 96 [.int .u64 0,.int .u64 0,.int .u64 0,.slice none 0 0,.slice none 0 0,.slice none 0 0] 1 [.int .u64 x.log,.int .u64 x.next,.int .u64 x.seq,.slice q1.a q1.n q1.c,.slice q2.a q2.n q2.c,.slice k3.a k3.n k3.c] h5 λl11 h6=>(∃ (i' f':Nat) (L':List EdS) (cur:Edit) (hs:Hp),((i+1:Nat):Int)=(f':Int)/\((i+1:Nat):Int)=(i':Int)/\f'<=i'/\i'<=recs.length/\(0:Int)=cur.log/\(0:Int)=cur.next/\(0:Int)=cur.seq/\Keep h hs/\Keep hs h6/\(l11.a=none\/New h l11)/\Buf h6 l11 6 65 (edV L')/\(∀ x∈L',EdOk hs x)/\EdB hs h6 cur ⟨none,0,0⟩ ⟨none,0,0⟩ ⟨none,0,0⟩/\cur.valid/\cur.out.length+cur.inn.length<=tot (recs.take i')/\cur.ptr.length<=1000000000/\L'.length<=i'/\getR (recs.drop i') (L'.map EdS.e) cur ((recs.drop f').take (i'-f'))=getR recs [] zE [])/\recs.length-(((i+1:Nat):Int)).toNat<recs.length-((i:Int)).toNat) (Q (.tuple ⟨[.slice none 0 0,.int .i64 140]⟩) h5)):=by
   intro h4 q1 q2 J hJ K4 B4 EJ VJ j1 j2 j3 j4 hJs
   have hm:recs.length-(((i+1:Nat):Int)).toNat<recs.length-((i:Int)).toNat:=by omega
   have hJp:J.ptr.length<=1000000000:=by rw[j4];omega
   refine⟨λhl0=>⟨⟨i+1,f,L,J,hs,rfl,rfl,by omega,hi1,j1.symm,j2.symm,j3.symm,K0,K4,N1,B4,hL,EJ,VJ,hJs,hJp,by omega,?_⟩,hm⟩,λhl1=>?_⟩
   ·rw[hl0,if_neg (by decide),<- hJ] at hG
    rw[hpart];exact hG
   ·rw[hl1,if_pos rfl,<- hJ] at hG
    refine⟨⟨by omega,by omega,by omega,by omega⟩,?_⟩
    have hcut:=cut_row A.row (i:=f) (j:=i+1) (m:=l.c) (by omega) (by omega) hcap
    have hR:=A.rows.mid f (i+1-f)
    rw[<- j1,<- j2,<- j3]
    refine same_t EJ.at EJ.out.cap EJ.inn.cap VJ (by omega) (by omega) ((K0.trans K4).row hcut) (hR.keep (K0.trans K4)) (by rw[length_take,length_drop];omega) (λy hym=>hy y (List.mem_of_mem_drop (List.mem_of_mem_take hym))) λh5 K5=>⟨_,rfl,λhT=>?_,λhF=>?_⟩
    ·rw[hpart] at hT
     rw[if_pos hT] at hG
     have hLl:=ed_n B4
     refine append_buf (B4.keep K5) rfl rfl (by omega) λl11 h6 B6 hn6 U6=>⟨⟨i+1,i+1,L++[⟨J,q1,q2,k3⟩],zE,h6,rfl,rfl,Nat.le_refl _,hi1,rfl,rfl,rfl,?_,Keep.refl h6,?_,?_,?_,zE_b h6,zE_valid,Nat.zero_le _,Nat.zero_le _,?_,?_⟩,hm⟩
     ·exact(keep_grow ((K0.trans K4).trans K5) N1 U6).1
     ·exact(keep_grow ((K0.trans K4).trans K5) N1 U6).2
     ·unfold edV at B6 ⊢
      rw[List.flatMap_append]
      simpa[EdS.cells] using B6
     ·intro y hym
      rcases mem_append.1 hym with hym|hym
      ·exact((hL y hym).keep (K4.trans K5)).upd U6 (B4.keep K5) (by decide) (by decide) (by decide)
      ·rw[mem_singleton] at hym
       subst hym
       have EJ':=(EJ.keep K5).upd U6 (B4.keep K5) (by decide) (by decide) (by decide)
       exact⟨EJ'.out,EJ'.inn,EJ'.ptr,VJ,by show J.out.length+J.inn.length<=400000000000;omega,by show J.ptr.length<=1000000000;omega⟩
     ·rw[length_append,length_singleton];omega
     ·rw[List.map_append,Nat.sub_self,List.take_zero]
      exact hG
    ·rw[hpart] at hF
     rw[if_neg (by rw[hF];decide)] at hG
     exact hN h5 ((K0.trans K4).trans K5) hG.symm
  have go:∀ Kf:Sl->Sl->Hp->Prop,(∀ h4 q1 q2 J,J=joinE cur x ((recs.drop f).take (i-f))->Keep hs h4->Buf h4 l1 6 65 (edV L)->EdB hs h4 J q1 q2 k3->J.valid->J.log=x.log->J.next=x.next->J.seq=x.seq->J.ptr=x.ptr->J.out.length+J.inn.length<=tot (recs.take (i+1))->Kf q1 q2 h4) ->
    par ((f:Int)<(i:Int)) (∃ vs,h2.row k1.a (k1.n*2) vs/\(∀ v∈vs,Value.oneCell' v=true)/\appendD l2 104 2 16 [.int .i64 0,.int .u64 0] k1.n vs h2 λl9 h3=>∃ vs1,h3.row k2.a (k2.n*7) vs1/\(∀ v∈vs1,Value.oneCell' v=true)/\appendD l3 108 7 72 [.int .i64 0,.int .u64 0,.int .i64 0,.int .i64 0,.int .i64 0,.string ⟨#[]⟩,.string ⟨#[]⟩] k2.n vs1 h3 λl10 h4=>Kf l9 l10 h4) (Kf k1 k2 h2):=by
   intro Kf next
   refine⟨λhlt2=>?_,λhge2=>?_⟩
   ·have hpn:¬ ((recs.drop f).take (i-f)).length=0:=by omega
    refine⟨_,E2.out.row,out_one _,?_⟩
    have o2:=out_n E2.out
    have o1:=out_n E.out
    have p1:=in_n E.inn
    have p2:=in_n E2.inn
    have Ek:=E.keep K2
    refine append_buf Ek.out rfl E2.out.len (by omega) λl9 h3 B3 hn3 U3=>?_
    have E3:=(EdOk.mk (x:=⟨x,k1,k2,k3⟩) E2.out E2.inn E2.ptr V2 (by show x.out.length+x.inn.length<=400000000000;omega) (by show x.ptr.length<=1000000000;omega))
    have i3:Buf h3 k2 7 108 (inV x.inn):=E2.inn.upd U3 (buf_off E2.inn Ek.out (by decide))
    have q3:Buf h3 k3 1 9 (ptrV x.ptr):=E2.ptr.upd U3 (buf_off E2.ptr Ek.out (by decide))
    have ci3:Buf h3 l3 7 108 (inV cur.inn):=Ek.inn.upd U3 (buf_off Ek.inn Ek.out (by decide))
    have b3:Buf h3 l1 6 65 (edV L):=(B1.keep K2).upd U3 (buf_off (B1.keep K2) Ek.out (by decide))
    obtain⟨K3,N3⟩:=keep_grow (K1.trans K2) E.n1 U3
    refine⟨_,i3.row,in_one _,?_⟩
    refine append_buf ci3 rfl i3.len (by omega) λl10 h4 B4 hn4 U4=>?_
    have o4:Buf h4 l9 2 104 (outV cur.out++outV x.out):=B3.upd U4 (buf_off B3 ci3 (by decide))
    have q4:Buf h4 k3 1 9 (ptrV x.ptr):=q3.upd U4 (buf_off q3 ci3 (by decide))
    have b4:Buf h4 l1 6 65 (edV L):=b3.upd U4 (buf_off b3 ci3 (by decide))
    obtain⟨K4,N4⟩:=keep_grow K3 E.n2 U4
    have nn:=next h4 l9 l10 (joinE cur x ((recs.drop f).take (i-f))) rfl K4 b4
    have hJe:joinE cur x ((recs.drop f).take (i-f))=⟨x.log,x.next,x.seq,cur.out++x.out,cur.inn++x.inn,x.ptr⟩:=by unfold joinE;rw[if_neg hpn]
    rw[hJe] at nn
    have nn:=nn ⟨by rw[outV_append];exact o4,by rw[inV_append];exact B4,q4,N3,N4,new_mono K1 E2.n3⟩
     ⟨V2.log,V2.next,V2.seq,λp hp=>by rcases mem_append.1 hp with hp|hp;exact V.out p hp;exact V2.out p hp,λp hp=>by rcases mem_append.1 hp with hp|hp;exact V.inn p hp;exact V2.inn p hp⟩ rfl rfl rfl rfl
     (by show(cur.out++x.out).length+(cur.inn++x.inn).length<=_;simp only[length_append];omega)
    exact nn
   ·have hpn:((recs.drop f).take (i-f)).length=0:=by omega
    have hJe:joinE cur x ((recs.drop f).take (i-f))=x:=by unfold joinE;rw[if_pos hpn]
    have nn:=next h2 k1 k2 (joinE cur x ((recs.drop f).take (i-f))) rfl (K1.trans K2) (B1.keep K2)
    rw[hJe] at nn
    have nn:=nn (E2.mono K1) V2 rfl rfl rfl rfl (by omega)
    exact nn
  refine⟨x.log,x.next,x.seq,k1,k2,k3,last,λhl=>⟨true,λ_=>⟨by rw[hl],?_⟩,λh0=>(by cases h0)⟩,λhl=>⟨true,λ_=>⟨by rw[hl],?_⟩,λh0=>(by cases h0)⟩⟩
  ·rw[hw]
   exact go _ (λh4 q1 q2 J a1 a2 a3 a4 a5 a6 a7 a8 a9 a10=>(next h4 q1 q2 J a1 a2 a3 a4 a5 a6 a7 a8 a9 a10).2 hl)
  ·rw[hw]
   exact go _ (λh4 q1 q2 J a1 a2 a3 a4 a5 a6 a7 a8 a9 a10=>(next h4 q1 q2 J a1 a2 a3 a4 a5 a6 a7 a8 a9 a10).1 hl)
 ·have hie:i=recs.length:=by omega
  subst hie
  rw[List.drop_length,getR] at hG
  have hplen:((recs.drop f).take (recs.length-f)).length=recs.length-f:=by rw[length_take,length_drop];omega
  rw[hplen] at hG
  have p1:=in_n E.inn
  have htl:=tot_take recs recs.length
  refine append_buf E.inn rfl rfl (by omega) λl13 h9 B9 hn9 U9=>?_
  obtain⟨K9,N9⟩:=keep_grow K1 E.n2 U9
  have o9:Buf h9 l2 2 104 (outV cur.out):=E.out.upd U9 (buf_off E.out E.inn (by decide))
  have q9:Buf h9 l4 1 9 (ptrV cur.ptr):=E.ptr.upd U9 (buf_off E.ptr E.inn (by decide))
  have b9:Buf h9 l1 6 65 (edV L):=B1.upd U9 (buf_off B1 E.inn (by decide))
  have fin:∀ h',Keep h9 h'->getR recs [] zE []=some (L.map EdS.e)->Q (.tuple ⟨[.slice l1.a l1.n l1.c,.int .i64 0]⟩) h':=λh' K' hg=>
   hS h' l1 L ((K0.trans K9).trans K') hg (b9.keep K') (λx hx=>(hL x hx).keep (K9.trans K')) N1 (by omega)
  refine⟨λhlt=>⟨⟨by omega,by omega,by omega,by omega⟩,?_⟩,λhge2=>fin h9 (Keep.refl h9) ?_⟩
  ·have hcut:=cut_row A.row (i:=f) (j:=l.n) (m:=l.c) (by omega) (Nat.le_refl _) hcap
   have hR:=A.rows.mid f (l.n-f)
   rw[if_neg (by omega)] at hG
   have hpv:∀ p∈(withP cur).inn,p.lv<9223372036854775808/\okU p.num/\p.weight<9223372036854775808/\p.bytes<9223372036854775808/\p.entries<9223372036854775808:=λp hp=>by
    rcases mem_append.1 hp with hp|hp
    ·exact V.inn p hp
    ·rw[mem_singleton] at hp
     subst hp
     exact⟨by decide,⟨by decide,by decide⟩,by decide,by decide,by decide⟩
   have EW:EdB hs h9 (withP cur) l2 l13 l4:=⟨o9,by show Buf h9 l13 7 108 (inV (cur.inn++[pl0]));rw[inV_append];exact B9,q9,E.n1,N9,E.n3⟩
   refine same_f (e:=withP cur) EW.at EW.out.cap EW.inn.cap ⟨V.log,V.next,V.seq,V.out,hpv⟩ ?_ (by show cur.ptr.length<_;omega) ((K0.trans K9).row hcut) (hR.keep (K0.trans K9)) (by rw[length_take,length_drop];omega) (λy hym=>hy y (List.mem_of_mem_drop (List.mem_of_mem_take hym))) λh5 K5=>⟨_,rfl,λhT=>?_,λhF=>?_⟩
   ·show cur.out.length+(cur.inn++[pl0]).length<=1000000000000
    rw[length_append,length_singleton];omega
   ·rw[hln] at hT
    rw[if_pos hT] at hG
    exact fin h5 K5 hG.symm
   ·rw[hln] at hF
    rw[if_neg (by rw[hF];decide)] at hG
    exact hN h5 ((K0.trans K9).trans K5) hG.symm
  ·rw[if_pos (by omega)] at hG
   exact hG.symm
end Go.Eng.YtblghgacokoklaaDoor
end
section
namespace Go.Eng.YtblghgacokoklaaDoor
theorem texts_eq{h:Hp}{l l1:Sl}{a b:List ByteArray}{Q:Value->Hp->Prop}(ha:h.row l.a l.n (ptrV a))(hb:h.row l1.a l1.n (ptrV b))(hs:b.length<=1000000000000)
  (hT:a=b->Q (.bool true) h) (hF:a≠b->Q (.bool false) h):F37.T l l1 h Q:=by
 have hla:l.n=a.length:=by have:=ha.1;unfold ptrV at this;rw[length_map] at this;exact this.symm
 have hlb:l1.n=b.length:=by have:=hb.1;unfold ptrV at this;rw[length_map] at this;exact this.symm
 unfold F37.T
 refine⟨λhe=>?_,λhne=>hF λe=>hne (by rw[hla,hlb,e])⟩
 have hl:a.length=b.length:=by omega
 refine⟨λn h1=>h1=h/\∃ i:Nat,n=(i:Int)/\i<=a.length/\a.take i=b.take i,λn _=>a.length-n.toNat,⟨rfl,0,rfl,Nat.zero_le _,by simp⟩,?_⟩
 rintro n h1 ⟨rfl,i,rfl,hi,ht⟩
 refine⟨λhlt=>?_,λhge=>hT (all_take2 hl (by omega) ht)⟩
 have ia:i<a.length:=by omega
 have ib:i<b.length:=by omega
 obtain⟨b0,o0,ha0,hat⟩:=row_get ha (i:=i) (by omega)
 obtain⟨b1,o1,hb1,hbt⟩:=row_get hb (i:=i) (by omega)
 refine⟨b0,o0,ha0,⟨by omega,hlt⟩,a[i],?_,b1,o1,hb1,⟨by omega,by omega⟩,b[i],?_,λe=>⟨⟨rfl,i+1,next_i ia (by omega),ia,take_step ia ib ht e⟩,?_⟩,λe=>hF (ne_at ia ib e)⟩
 ·rw[Int.toNat_natCast,hat i (by omega)];simp[ptrV,ia]
 ·rw[Int.toNat_natCast,hbt i (by omega)];simp[ptrV,ib]
 ·rw[next_i ia (by omega)]
  show a.length-((i+1:Nat):Int).toNat<a.length-(i:Int).toNat
  omega
theorem place_inj{p q:Place}(h:p.cells=q.cells):p=q:=by
 cases p;cases q
 simp only[Place.cells,List.cons.injEq,Value.int.injEq,true_and,and_true] at h
 rw[h.1,h.2]
theorem placed_inj{p q:Placed}(h:p.cells=q.cells):p=q:=by
 cases p;cases q
 simp only[Placed.cells,List.cons.injEq,Value.int.injEq,Value.string.injEq,true_and,and_true] at h
 obtain⟨h1,h2,h3,h4,h5,h6,h7⟩:=h
 rw[h1,h2,h3,h4,h5,h6,h7]
theorem edit_eq{h:Hp}{e g:Edit}{l l1 l2 m m1 m2:Sl}{Q:Value->Hp->Prop}(E:EdAt h e l l1 l2)(G:EdAt h g m m1 m2)(n1:g.out.length<=1000000000000)(n2:g.inn.length<=1000000000000)(n3:g.ptr.length<=1000000000000)
  (hT:e=g->Q (.bool true) h) (hF:e≠g->Q (.bool false) h):F68.T e.log e.next e.seq l l1 l2 g.log g.next g.seq m m1 m2 h Q:=by
 have e1:=E.nout;have e2:=E.ninn;have g1:=G.nout;have g2:=G.ninn
 unfold F68.T F68.G
 refine⟨λh1=>⟨λh2=>⟨λh3=>⟨λh4=>⟨λh5=>?_,λh5=>hF λq=>h5 (by rw[e2,g2,q])⟩,λh4=>hF λq=>h4 (by rw[e1,g1,q])⟩,λh3=>hF λq=>h3 (by rw[q])⟩,λh2=>hF λq=>h2 (by rw[q])⟩,λh1=>hF λq=>h1 (by rw[q])⟩
 refine texts_eq E.ptr G.ptr n3 (λhp=>⟨true,rfl,λ_=>?_,λh0=>(by cases h0)⟩) (λhp=>⟨false,rfl,λh0=>(by cases h0),λ_=>hF λq=>hp (by rw[q])⟩)
 have lo:e.out.length=g.out.length:=by omega
 have li:e.inn.length=g.inn.length:=by omega
 refine⟨λn h1=>h1=h/\∃ i:Nat,n=(i:Int)/\i<=e.out.length/\e.out.take i=g.out.take i,λn _=>e.out.length-n.toNat,⟨rfl,0,rfl,Nat.zero_le _,by simp⟩,?_⟩
 rintro n h1 ⟨rfl,i,rfl,hi,ht⟩
 refine⟨λhlt=>?_,λhge=>?_⟩
 ·have ia:i<e.out.length:=by omega
  have ib:i<g.out.length:=by omega
  obtain⟨b0,o0,ha0,hat⟩:=row_get E.out (i:=i*2) (by omega)
  obtain⟨b1,o1,hb1,hbt⟩:=row_get G.out (i:=i*2) (by omega)
  have cc:∀ j,j<2->h1.at b0 ((o0+i*2)+j)=(Place.cells e.out[i])[j]?:=λj hj=>by
   rw[Nat.add_assoc,hat _ (by omega)]
   exact flat_get Place.cells 2 (λ_=>rfl) e.out i j ia hj
  have dd:∀ j,j<2->h1.at b1 ((o1+i*2)+j)=(Place.cells g.out[i])[j]?:=λj hj=>by
   rw[Nat.add_assoc,hbt _ (by omega)]
   exact flat_get Place.cells 2 (λ_=>rfl) g.out i j ib hj
  rw[Int.toNat_natCast,next_i ia (by omega)]
  refine⟨b0,o0,ha0,⟨by omega,hlt⟩,e.out[i].lv,cc 0 (by decide),e.out[i].num,cc 1 (by decide),b1,o1,hb1,⟨by omega,by omega⟩,g.out[i].lv,dd 0 (by decide),g.out[i].num,dd 1 (by decide),λq=>⟨⟨rfl,i+1,rfl,ia,take_step ia ib ht (place_inj q)⟩,by dsimp only;omega⟩,λq=>hF λr=>?_⟩
  have hne:e.out[i]≠g.out[i]:=λt=>q (show Place.cells e.out[i]=Place.cells g.out[i] by rw[t])
  exact ne_at ia ib hne (by rw[r])
 have heo:e.out=g.out:=all_take2 lo (by omega) ht
 refine⟨λn h2=>h2=h1/\∃ i:Nat,n=(i:Int)/\i<=e.inn.length/\e.inn.take i=g.inn.take i,λn _=>e.inn.length-n.toNat,⟨rfl,0,rfl,Nat.zero_le _,by simp⟩,?_⟩
 rintro n h2 ⟨rfl,i,rfl,hi,ht⟩
 refine⟨λhlt=>?_,λhge=>?_⟩
 ·have ia:i<e.inn.length:=by omega
  have ib:i<g.inn.length:=by omega
  obtain⟨b0,o0,ha0,hat⟩:=row_get E.inn (i:=i*7) (by omega)
  obtain⟨b1,o1,hb1,hbt⟩:=row_get G.inn (i:=i*7) (by omega)
  have cc:∀ j,j<7->h2.at b0 ((o0+i*7)+j)=(Placed.cells e.inn[i])[j]?:=λj hj=>by
   rw[Nat.add_assoc,hat _ (by omega)]
   exact flat_get Placed.cells 7 (λ_=>rfl) e.inn i j ia hj
  have dd:∀ j,j<7->h2.at b1 ((o1+i*7)+j)=(Placed.cells g.inn[i])[j]?:=λj hj=>by
   rw[Nat.add_assoc,hbt _ (by omega)]
   exact flat_get Placed.cells 7 (λ_=>rfl) g.inn i j ib hj
  rw[Int.toNat_natCast,next_i ia (by omega)]
  refine⟨b0,o0,ha0,⟨by omega,hlt⟩,_,cc 0 (by decide),_,cc 1 (by decide),_,cc 2 (by decide),_,cc 3 (by decide),_,cc 4 (by decide),_,cc 5 (by decide),_,cc 6 (by decide),b1,o1,hb1,⟨by omega,by omega⟩,_,dd 0 (by decide),_,dd 1 (by decide),_,dd 2 (by decide),_,dd 3 (by decide),_,dd 4 (by decide),_,dd 5 (by decide),_,dd 6 (by decide),λq=>⟨⟨rfl,i+1,rfl,ia,take_step ia ib ht (placed_inj q)⟩,by dsimp only;omega⟩,λq=>hF λr=>?_⟩
  have hne:e.inn[i]≠g.inn[i]:=λt=>q (show Placed.cells e.inn[i]=Placed.cells g.inn[i] by rw[t])
  exact ne_at ia ib hne (by rw[r])
 have hei:e.inn=g.inn:=all_take2 li (by omega) ht
 refine hT ?_
 cases e;cases g
 simp only at h1 h2 h3 hp heo hei
 rw[h1,h2,h3,hp,heo,hei]
theorem keep_wr_new{h h1:Hp}{b:Nat}(hb:h b=none)(K:Keep h h1)(o:Nat)(vs:List Value):Keep h (h1.wr b o vs):=by
 intro k x e
 unfold Hp.wr
 by_cases hk:k=b
 ·rw[hk,hb] at e;cases e
 ·rw[if_neg hk];exact K k x e
theorem new_self(h:Hp)(b:Nat)(o:Obj):(h.new b o) b=some o:=by unfold Hp.new;rw[if_pos rfl]
theorem name_known{h:Hp}{Q:Value->Hp->Prop}(hQ:∀ h',Keep h h'->Q (.string ⟨#[116,45,48,48,48,48,48,48,48,48,48,48,48,55]⟩) h'):F8.T 116 7 h Q:=by
 unfold F8.T F8.G
 have f78:∀ Q':Value->Hp->Prop,Q' (.bool true) h->F38.T 116 h Q':=λQ' hq=>⟨λ_=>hq,λ_=>⟨λ_=>hq,λ_=>⟨λ_=>hq,λh0=>absurd rfl h0⟩⟩⟩
 refine f78 _ ⟨true,rfl,λ_=>⟨λh0=>absurd h0 (by decide),λ_ b1 hb1=>?_⟩,λh0=>(by cases h0)⟩
 have K0:Keep h (h.new b1 (.cells ⟨[.int .u8 63,.int .u8 45,.int .u8 48,.int .u8 48,.int .u8 48,.int .u8 48,.int .u8 48,.int .u8 48,.int .u8 48,.int .u8 48,.int .u8 48,.int .u8 48,.int .u8 48,.int .u8 48]⟩ 5 (0,0))):=Keep.new hb1 _
 refine⟨_,_,new_self _ _ _,b1,0,rfl,by decide,⟨_,_,_,new_self _ _ _,Nat.le_of_ble_eq_true rfl,?_⟩,?_⟩
 ·intro j h1 h2 h3
  have h4:(14:Nat)<=j:=h3.1
  have h5:j<1:=h2
  omega
 have hc:(((h.new b1 (.cells ⟨[.int .u8 63,.int .u8 45,.int .u8 48,.int .u8 48,.int .u8 48,.int .u8 48,.int .u8 48,.int .u8 48,.int .u8 48,.int .u8 48,.int .u8 48,.int .u8 48,.int .u8 48,.int .u8 48]⟩ 5 (0,0))).new b1 (.cells ⟨[.int .u8 63,.int .u8 45,.int .u8 48,.int .u8 48,.int .u8 48,.int .u8 48,.int .u8 48,.int .u8 48,.int .u8 48,.int .u8 48,.int .u8 48,.int .u8 48,.int .u8 48,.int .u8 48]⟩ 5 (14,15))).wr b1 (0+(0:Int).toNat) [.int .u8 116]) b1=some (.cells ⟨[.int .u8 116,.int .u8 45,.int .u8 48,.int .u8 48,.int .u8 48,.int .u8 48,.int .u8 48,.int .u8 48,.int .u8 48,.int .u8 48,.int .u8 48,.int .u8 48,.int .u8 48,.int .u8 48]⟩ 5 (14,15)):=wr_at (new_self _ _ _)
 have hk:Keep h (((h.new b1 (.cells ⟨[.int .u8 63,.int .u8 45,.int .u8 48,.int .u8 48,.int .u8 48,.int .u8 48,.int .u8 48,.int .u8 48,.int .u8 48,.int .u8 48,.int .u8 48,.int .u8 48,.int .u8 48,.int .u8 48]⟩ 5 (0,0))).new b1 (.cells ⟨[.int .u8 63,.int .u8 45,.int .u8 48,.int .u8 48,.int .u8 48,.int .u8 48,.int .u8 48,.int .u8 48,.int .u8 48,.int .u8 48,.int .u8 48,.int .u8 48,.int .u8 48,.int .u8 48]⟩ 5 (14,15))).wr b1 (0+(0:Int).toNat) [.int .u8 116]):=by
  refine keep_wr_new hb1 ?_ _ _
  intro k x e
  have hkb:k≠b1:=λq=>by rw[q,hb1] at e;cases e
  unfold Hp.new
  rw[if_neg hkb,if_neg hkb]
  exact e
 refine⟨λn2 n3 h2=>Keep h h2/\((n2=7/\n3=13/\h2 b1=some (.cells ⟨[.int .u8 116,.int .u8 45,.int .u8 48,.int .u8 48,.int .u8 48,.int .u8 48,.int .u8 48,.int .u8 48,.int .u8 48,.int .u8 48,.int .u8 48,.int .u8 48,.int .u8 48,.int .u8 48]⟩ 5 (14,15)))\/(n2=0/\n3=12/\h2 b1=some (.cells ⟨[.int .u8 116,.int .u8 45,.int .u8 48,.int .u8 48,.int .u8 48,.int .u8 48,.int .u8 48,.int .u8 48,.int .u8 48,.int .u8 48,.int .u8 48,.int .u8 48,.int .u8 48,.int .u8 55]⟩ 5 (14,15)))),λn2 _ _=>n2.toNat,⟨hk,.inl ⟨rfl,by decide,hc⟩⟩,?_⟩
 rintro n2 n3 h2 ⟨K2,⟨rfl,rfl,hc2⟩|⟨rfl,rfl,hc2⟩⟩
 ·refine⟨λ_=>?_,λh0=>absurd (by decide) h0⟩
  refine⟨b1,0,rfl,by decide,48,by unfold Hp.at;rw[hc2];rfl,by decide,b1,0,rfl,by decide,⟨_,_,_,hc2,Nat.le_of_ble_eq_true rfl,?_⟩,by decide,⟨keep_wr_new hb1 K2 _ _,.inr ⟨by decide,by decide,?_⟩⟩,(by decide:(wrap .u64 (Int.tdiv 7 10)).toNat<(7:Int).toNat)⟩
  ·intro j h1 h2 h3
   have h4:(14:Nat)<=j:=h3.1
   have h5:j<14:=h2
   omega
  ·exact wr_at hc2
 ·refine⟨λh0=>absurd h0 (by decide),λ_=>⟨⟨#[116,45,48,48,48,48,48,48,48,48,48,48,48,55]⟩,⟨rfl,.inr ⟨b1,0,rfl,λj hj=>?_⟩⟩,hQ h2 K2⟩⟩
  unfold Hp.at
  rw[hc2,Nat.zero_add]
  have e:bytesV ⟨#[116,45,48,48,48,48,48,48,48,48,48,48,48,55]⟩=[.int .u8 116,.int .u8 45,.int .u8 48,.int .u8 48,.int .u8 48,.int .u8 48,.int .u8 48,.int .u8 48,.int .u8 48,.int .u8 48,.int .u8 48,.int .u8 48,.int .u8 48,.int .u8 55]:=rfl
  rw[e]
  simp
def totS(l:List Sl):Nat:=(l.map λs=>s.n+1).sum
theorem ok_q{h:Hp}{b:Nat}{c:Int}{Q:Value->Hp->Prop}(hb:h b=some (.cells ⟨[.int .i64 c]⟩ 159 (0,0)))(hT:0<=c->Q (.bool true) h)(hF:¬ 0<=c->Q (.bool false) h):F60.T (some ⟨b,0,none⟩) h Q:=
 ⟨b,0,rfl,c,by unfold Hp.at;rw[hb];rfl,hT,hF⟩
end Go.Eng.YtblghgacokoklaaDoor
end
section
namespace Go.Eng.YtblghgacokoklaaDoor
def eK:Edit:=⟨2,9,300,[⟨0,4⟩],[⟨1,8,455,90,1,⟨#[97]⟩,⟨#[97]⟩⟩],[]⟩
def rK:List Int:=[1,2,9,172,2,1,0,4,1,1,8,199,3,90,1,1,97,1,97,0]
theorem put_K:putS eK=[rK]:=by kernel_rfl
theorem get_K:getR [rK] [] zE []=some [eK]:=by kernel_rfl
theorem okK:eK.valid:=⟨⟨by decide,by decide⟩,⟨by decide,by decide⟩,⟨by decide,by decide⟩,λp hp=>by
  simp only[eK,mem_cons,List.not_mem_nil,or_false] at hp
  subst hp
  exact⟨by decide,by decide,by decide⟩,λp hp=>by
  simp only[eK,mem_cons,List.not_mem_nil,or_false] at hp
  subst hp
  exact⟨by decide,⟨by decide,by decide⟩,by decide,by decide,by decide⟩⟩
theorem known_spec{h:Hp}{Q:Value->Hp->Prop}(hQ:∀ h',Keep h h'->Q (.bool true) h'):F27.T h Q:=by
 unfold F27.T F27.G
 intro b hb b1 hb1
 have K0:=Keep.new hb (.cells ⟨[.int .i64 0,.int .u64 4]⟩ 104 (0,0))
 have K1:=Keep.new hb1 (.cells ⟨[.int .i64 1,.int .u64 8,.int .i64 455,.int .i64 90,.int .i64 1,.string (ByteArray.mk #[97]),.string (ByteArray.mk #[97])]⟩ 108 (0,0))
 have E:EdAt ((h.new b (.cells ⟨[.int .i64 0,.int .u64 4]⟩ 104 (0,0))).new b1 (.cells ⟨[.int .i64 1,.int .u64 8,.int .i64 455,.int .i64 90,.int .i64 1,.string (ByteArray.mk #[97]),.string (ByteArray.mk #[97])]⟩ 108 (0,0))) eK ⟨some ⟨b,0,none⟩,1,1⟩ ⟨some ⟨b1,0,none⟩,1,1⟩ ⟨none,0,0⟩:=
  ⟨K1.row (row_new h b 104 (outV eK.out) 2 rfl),row_new _ b1 108 (inV eK.inn) 7 rfl,⟨rfl,.inl rfl⟩⟩
 refine put_spec (e:=eK) E (Nat.le_refl _) (Nat.le_refl _) okK (by decide) (by decide) λl h1 ss B R K N=>⟨l,rfl,?_⟩
 rw[put_K] at R
 obtain⟨s0,rfl⟩:∃ s0,ss=[s0]:=List.length_eq_one_iff.1 R.1
 have B0:Buf h1 s0 1 5 (bv rK):=R.2 0 (Nat.zero_lt_one) (Nat.zero_lt_one)
 have hl1:l.n=1:=by have:=B.len;rw[slV_length] at this;simp only[length_singleton] at this;omega
 have hrow:=B.row
 rw[Nat.mul_one] at hrow
 have KK:=(K0.trans K1).trans K
 have A:Recs h1 l [s0] [rK]:=⟨hrow,B.cap,R.rows,λs hs=>by rw[mem_singleton] at hs;subst hs;exact B0.cap,λr hr=>by
  rw[mem_singleton] at hr;subst hr;decide,λr hr=>by
  rw[mem_singleton] at hr;subst hr;decide,by decide⟩
 refine get_spec A (λh2 K2 hno=>?_) (λh2 l1 L K2 hso BL hL NL hn=>?_)
 ·rw[get_K] at hno;cases hno
 rw[get_K] at hso
 obtain⟨x,rfl,hx⟩:∃ x,L=[x]/\x.e=eK:=by
  have hsm:L.map EdS.e=[eK]:=(Option.some.inj hso).symm
  rcases L with _|⟨x,_|⟨y,L⟩⟩
  ·cases hsm
  ·exact⟨x,rfl,by simpa using hsm⟩
  ·simp at hsm
 have hn1:l1.n=1:=ed_n BL
 have X:=hL x mem_cons_self
 obtain⟨b2,o,ha,hat⟩:=row_get (K2.row hrow) (i:=0) (by omega)
 have hat0:h2.at b2 (o+(0:Int).toNat)=some (.slice s0.a s0.n s0.c):=hat 0 (by omega)
 refine⟨l1,0,rfl,λ_=>⟨b2,o,ha,⟨by decide,by omega⟩,s0,hat0,λb3 hb3=>?_⟩,λh0=>absurd (by omega) h0⟩
 have K3:=Keep.new hb3 (.cells ⟨bv rK⟩ 5 (0,0))
 refine⟨K3.at hat0,?_⟩
 have r0:=B0.row
 rw[Nat.mul_one] at r0
 refine sameBytes_eq (K3.row (K2.row r0)) (row_new h2 b3 5 (bv rK) 20 rfl) (by decide) (λ_=>⟨true,rfl,λ_=>⟨λ_=>⟨λ_=>?_,λh0=>absurd (by omega) h0⟩,λh0=>absurd rfl h0⟩,λh0=>(by cases h0)⟩) (λh0=>absurd rfl h0)
 obtain⟨b5,o1,ha5,hat5⟩:=row_get (K3.row BL.row) (i:=0) (by omega)
 have cc:∀ j,j<6->(h2.new b3 (.cells ⟨bv rK⟩ 5 (0,0))).at b5 ((o1+(0:Int).toNat*6)+j)=(EdS.cells x)[j]?:=λj hj=>by
  have h7:=hat5 j (by omega)
  have h8:(edV [x])[j]?=(EdS.cells x)[j]?:=by simp[edV]
  rw[<- h8,<- h7]
  simp
 refine⟨b5,o1,ha5,⟨by decide,by omega⟩,x.e.log,cc 0 (by decide),x.e.next,cc 1 (by decide),x.e.seq,cc 2 (by decide),x.a,cc 3 (by decide),x.b,cc 4 (by decide),x.c,cc 5 (by decide),?_⟩
 refine edit_eq (g:=eK) ((X.at).keep K3) ((E.keep K).keep (K2.trans K3)) (by decide) (by decide) (by decide) (λ_=>⟨true,rfl,λ_=>?_,λh0=>(by cases h0)⟩) (λh0=>absurd hx h0)
 refine name_known λh5 K5=>⟨_,rfl,λ_=>hQ h5 (((KK.trans K2).trans K3).trans K5),λh0=>absurd rfl h0⟩
theorem slV_get{ss:List Sl}{k:Nat}(h:k<ss.length):(slV ss)[k]?=some (.slice ss[k].a ss[k].n ss[k].c):=by
 simp[slV,h]
end Go.Eng.YtblghgacokoklaaDoor
end
section
namespace Go.Eng.YtblghgacokoklaaDoor
theorem and127(c:Nat)(h:c<256):bitsI .and .u8 (c:Int) 127=((c % 128:Nat):Int):=by
 have key:∀ x:Fin 256,bitsI .and .u8 ((x.val:Nat):Int) 127=((x.val % 128:Nat):Int):=by decide +kernel
 exact key ⟨c,h⟩
theorem or_disj(a y i:Nat)(ha:a<2 ^ i)(hb:a+2 ^ i*y<2 ^ 64):bitsI .or .u64 (a:Int) ((2 ^ i*y:Nat):Int)=((a+2 ^ i*y:Nat):Int):=by
 have h1:(BitVec.ofInt 64 (a:Int)).toNat=a:=by rw[BitVec.ofInt_natCast,BitVec.toNat_ofNat];exact Nat.mod_eq_of_lt (by omega)
 have h2:(BitVec.ofInt 64 ((2 ^ i*y:Nat):Int)).toNat=2 ^ i*y:=by rw[BitVec.ofInt_natCast,BitVec.toNat_ofNat];exact Nat.mod_eq_of_lt (by omega)
 show wrap .u64 ((BitVec.ofInt 64 (a:Int) ||| BitVec.ofInt 64 ((2 ^ i*y:Nat):Int)).toNat:Int)=_
 rw[BitVec.toNat_or,h1,h2,Nat.or_comm,<- Nat.two_pow_add_eq_or_of_lt ha y,Nat.add_comm]
 exact wrap_u64 (by omega) (by omega)
theorem nx_enc(i acc c:Nat)(hi:i<=9)(hc:c<256)(ha:acc<128 ^ i)(hb:acc+128 ^ i*(c % 128)<2 ^ 64):nx i (acc:Int) (c:Int)=((acc+128 ^ i*(c % 128):Nat):Int):=by
 have hp:128 ^ i=2 ^ (7*i):=by rw[Nat.pow_mul]
 rw[hp] at ha hb ⊢
 unfold nx
 have h64:(2:Nat) ^ 64=18446744073709551616:=by decide
 rw[and127 c hc,wrap_u64 (by omega) (by omega)]
 unfold shlI
 have e1:(7*(i:Int)).toNat=7*i:=by omega
 have e2:min (7*(i:Int)).toNat (IntKind.bits .u64)=7*i:=by rw[e1];show min (7*i) 64=7*i;omega
 rw[e2]
 have e3:((c % 128:Nat):Int)*2 ^ (7*i)=((2 ^ (7*i)*(c % 128):Nat):Int):=by
  rw[Int.natCast_mul,Int.natCast_pow];exact Int.mul_comm _ _
 rw[e3,wrap_u64 (by omega) (by omega)]
 exact or_disj acc (c % 128) (7*i) ha hb
theorem uR_enc:∀ (f i n acc:Nat) (rest:List Int),0<f->f+i=10->n<128 ^ f->(0<i->0<n)->acc<128 ^ i->acc+128 ^ i*n<2 ^ 64->uR i (acc:Int) (encF f n++rest)=(((acc+128 ^ i*n:Nat):Int),i+(encF f n).length,0)
 |0,_,_,_,_,h,_,_,_,_,_=>absurd h (Nat.lt_irrefl 0)
 |f+1,i,n,acc,rest,_,hfi,hn,hpos,hacc,hb=>by
  have h64:(2:Nat) ^ 64=18446744073709551616:=by decide
  unfold encF
  by_cases h1:n<128
  ·rw[if_pos h1]
   show uR i (acc:Int) ((n:Int)::rest)=_
   have h9:i=9->n=1:=by
    intro h
    subst h
    have:(128:Nat) ^ 9=9223372036854775808:=by decide
    rw[this] at hb
    have:=hpos (by decide)
    omega
   unfold uR
   rw[if_neg (by omega),if_pos (by omega)]
   have:=nx_enc i acc n (by omega) (by omega) hacc (by rw[Nat.mod_eq_of_lt h1];exact hb)
   rw[Nat.mod_eq_of_lt h1] at this
   rw[this]
   rfl
  ·rw[if_neg h1]
   have hf:0<f:=by
    rcases Nat.eq_zero_or_pos f with rfl|h
    ·simp at hn;omega
    ·exact h
   show uR i (acc:Int) (((n % 128+128:Nat):Int)::(encF f (n / 128)++rest))=_
   unfold uR
   rw[if_neg (by omega),if_neg (by omega)]
   have hd:n=128*(n / 128)+n % 128:=(Nat.div_add_mod n 128).symm
   have hmul:128 ^ i*n=128 ^ i*(128*(n / 128))+128 ^ i*(n % 128):=by
    conv=>lhs;rw[hd]
    rw[Nat.mul_add]
   have hmul2:128 ^ (i+1)*(n / 128)=128 ^ i*(128*(n / 128)):=by rw[Nat.pow_succ,Nat.mul_assoc]
   have hm:(n % 128+128) % 128=n % 128:=by omega
   have hle:128 ^ i*(n % 128)<=128 ^ i*127:=Nat.mul_le_mul_left _ (by omega)
   have hx:=nx_enc i acc (n % 128+128) (by omega) (by omega) hacc (by rw[hm];omega)
   rw[hm] at hx
   rw[hx]
   have ih:=uR_enc f (i+1) (n / 128) (acc+128 ^ i*(n % 128)) rest hf (by omega) (by rw[Nat.pow_succ] at hn;omega) (λ_=>by omega) (by rw[Nat.pow_succ];omega) (by rw[hmul2];omega)
   rw[ih,hmul2]
   have e1:acc+128 ^ i*(n % 128)+128 ^ i*(128*(n / 128))=acc+128 ^ i*n:=by omega
   have e2:i+1+(encF f (n / 128)).length=i+(((n % 128+128:Nat):Int)::encF f (n / 128)).length:=by simp only[length_cons];omega
   rw[e1,e2]
theorem uR_U{n:Nat}(h:n<18446744073709551616)(rest:List Int):uR 0 0 (encU n++rest)=((n:Int),(encU n).length,0):=by
 have:=uR_enc 10 0 n 0 rest (by decide) rfl (Nat.lt_of_lt_of_le h (by decide)) (λh=>absurd h (Nat.lt_irrefl 0)) (by decide) (by omega)
 simpa[encU] using this
theorem rU_enc{n:Int}(h:okU n)(rest:List Int):rU ⟨encU n.toNat++rest,false⟩=(n,⟨rest,false⟩):=by
 have h1:=uR_U (n:=n.toNat) (by have:=h.1;have:=h.2;omega) rest
 unfold rU
 simp only[h1,RS.skip,if_pos]
 rw[List.drop_left' rfl]
 have:((n.toNat:Nat):Int)=n:=by have:=h.1;omega
 rw[this]
theorem rU_nat{n:Nat}(h:n<18446744073709551616)(rest:List Int):rU ⟨encU n++rest,false⟩=((n:Int),⟨rest,false⟩):=by
 have:=rU_enc (n:=(n:Int)) ⟨by omega,by omega⟩ rest
 rwa [Int.toNat_natCast] at this
theorem rW_enc{m n:Int}(h:okU n)(hm:n<=m)(rest:List Int):rW m ⟨encU n.toNat++rest,false⟩=(n,⟨rest,false⟩):=by
 unfold rW
 rw[rU_enc h rest,if_neg (by simp only;omega)]
theorem toB_bI(s:ByteArray):toB (bI s)=s:=by
 obtain⟨d⟩:=s
 unfold toB bI
 have:((λn:Int=>UInt8.ofNat n.toNat) ∘ λb:UInt8=>((b.toNat:Nat):Int))=id:=by
  funext b
  simp
 rw[List.map_map,this,List.map_id]
theorem tR_enc{s:ByteArray}(h:s.size<=64)(rest:List Int):tR (encT s++rest)=(s,(encT s).length,0):=by
 have e:encT s++rest=encU s.size++(bI s++rest):=by unfold encT;rw[List.append_assoc]
 have h1:=uR_U (n:=s.size) (by omega) (bI s++rest)
 rw[e]
 unfold tR
 simp only[h1,if_pos]
 have hl:=bI_length s
 rw[if_neg (by omega),if_neg (by simp only[length_append];omega),List.drop_left' rfl,Int.toNat_natCast,List.take_left' hl,toB_bI]
 unfold encT
 rw[length_append,hl]
theorem rT_enc{s:ByteArray}(h:s.size<=64)(rest:List Int):rT ⟨encT s++rest,false⟩=(s,⟨rest,false⟩):=by
 unfold rT
 simp only[tR_enc h rest,RS.skip,if_pos]
 rw[List.drop_left' rfl]
structure PGood(p:Place):Prop where
 l0:0<=p.lv
 l4:p.lv<=4
 num:okU p.num
structure DGood(p:Placed):Prop where
 l0:0<=p.lv
 l4:p.lv<=4
 num:okU p.num
 w0:0<=p.weight
 w1:p.weight<=9223372036854775807
 b0:0<=p.bytes
 b1:p.bytes<=9223372036854775807
 e0:0<=p.entries
 e1:p.entries<=9223372036854775807
 least:p.least.size<=64
 greatest:p.greatest.size<=64
structure Good(e:Edit):Prop where
 log:okU e.log
 next:okU e.next
 seq:okU e.seq
 out:∀ p∈e.out,PGood p
 inn:∀ p∈e.inn,DGood p
 ptr:∀ p∈e.ptr,p.size<=64
 nptr:e.ptr.length<=5
theorem okU_of{n:Int}(h0:0<=n)(h1:n<=9223372036854775807):okU n:=⟨h0,by omega⟩
theorem outR_enc:∀ (o acc:List Place) (rest:List Int),(∀ p∈o,PGood p)->outR o.length acc ⟨o.flatMap Place.enc++rest,false⟩=some (acc++o,⟨rest,false⟩)
 |[],acc,rest,_=>by simp[outR]
 |p::o,acc,rest,h=>by
  have hp:=h p mem_cons_self
  have e:(p::o).flatMap Place.enc++rest=encU p.lv.toNat++(encU p.num.toNat++(o.flatMap Place.enc++rest)):=by simp[Place.enc,encUs]
  rw[e,length_cons,outR,rW_enc ⟨hp.l0,by have:=hp.l4;omega⟩ hp.l4]
  simp only
  rw[rU_enc hp.num,if_neg Bool.false_ne_true,outR_enc o _ rest λq hq=>h q (mem_cons_of_mem _ hq)]
  simp
theorem inR_enc:∀ (o acc:List Placed) (rest:List Int),(∀ p∈o,DGood p)->inR o.length acc ⟨o.flatMap Placed.enc++rest,false⟩=some (acc++o,⟨rest,false⟩)
 |[],acc,rest,_=>by simp[inR]
 |p::o,acc,rest,h=>by
  have hp:=h p mem_cons_self
  have e:(p::o).flatMap Placed.enc++rest=encU p.lv.toNat++(encU p.num.toNat++(encU p.weight.toNat++(encU p.bytes.toNat++(encU p.entries.toNat++(encT p.least++(encT p.greatest++(o.flatMap Placed.enc++rest))))))):=by simp[Placed.enc,encUs]
  have hx:plS ⟨(p::o).flatMap Placed.enc++rest,false⟩=(p,⟨o.flatMap Placed.enc++rest,false⟩):=by
   rw[e]
   unfold plS
   simp only[rW_enc (m:=4) ⟨hp.l0,by have:=hp.l4;omega⟩ hp.l4,rU_enc hp.num,rW_enc (okU_of hp.w0 hp.w1) hp.w1,rW_enc (okU_of hp.b0 hp.b1) hp.b1,rW_enc (okU_of hp.e0 hp.e1) hp.e1,rT_enc hp.least,rT_enc hp.greatest]
  rw[length_cons,inR,hx]
  simp only
  rw[if_neg Bool.false_ne_true,inR_enc o _ rest λq hq=>h q (mem_cons_of_mem _ hq)]
  simp
theorem ptR_enc:∀ (o acc:List ByteArray) (rest:List Int),(∀ p∈o,p.size<=64)->ptR o.length acc ⟨o.flatMap encT++rest,false⟩=some (acc++o,⟨rest,false⟩)
 |[],acc,rest,_=>by simp[ptR]
 |p::o,acc,rest,h=>by
  have hp:=h p mem_cons_self
  have e:(p::o).flatMap encT++rest=encT p++(o.flatMap encT++rest):=by simp
  rw[e,length_cons,ptR,rT_enc hp]
  simp only
  rw[if_neg Bool.false_ne_true,ptR_enc o _ rest λq hq=>h q (mem_cons_of_mem _ hq)]
  simp
theorem rd_enc{e:Edit}(G:Good e)(h1:e.out.length<1000000000)(h2:e.inn.length<1000000000)(last:Bool):rd (recB e last)=some (e,last):=by
 have e1:recB e last=(if last then 1 else 0)::(encU e.log.toNat++(encU e.next.toNat++(encU e.seq.toNat++(encU e.out.length++(e.out.flatMap Place.enc++(encU e.inn.length++(e.inn.flatMap Placed.enc++(encU e.ptr.length++(e.ptr.flatMap encT++[]))))))))):=by
  simp[recB,encUs]
 have hp:=G.nptr
 have o1:e.out.length<18446744073709551616:=by omega
 have o2:e.inn.length<18446744073709551616:=by omega
 have o3:e.ptr.length<18446744073709551616:=by omega
 rw[e1,rd_cons,if_neg (by cases last<;>decide)]
 simp only[rU_enc G.log,rU_enc G.next,rU_enc G.seq]
 unfold rdO
 simp only[rU_nat o1,Int.toNat_natCast,outR_enc _ _ _ G.out,List.nil_append]
 unfold rdI
 simp only[rU_nat o2,Int.toNat_natCast,inR_enc _ _ _ G.inn,List.nil_append]
 unfold rdP
 simp only[rU_nat o3,Int.toNat_natCast,ptR_enc _ _ _ G.ptr,List.nil_append]
 cases last<;>simp
end Go.Eng.YtblghgacokoklaaDoor
end
section
namespace Go.Eng.YtblghgacokoklaaDoor
def Edit.size(e:Edit):Nat:=e.out.length+e.inn.length
theorem Good.told{e:Edit}(G:Good e):e.told=true:=by
 unfold Edit.told
 simp only[Bool.and_eq_true,List.all_eq_true,decide_eq_true_eq]
 refine⟨λp hp=>?_,λp hp=>?_,G.ptr,G.nptr⟩
 ·have:=G.out p hp
  unfold Place.told
  rw[decide_eq_true_eq]
  exact⟨this.l0,by have:=this.l4;omega⟩
 ·have q:=G.inn p hp
  unfold Placed.told
  rw[decide_eq_true_eq]
  exact⟨q.l0,by have:=q.l4;omega,q.w0,q.b0,q.e0,q.least,q.greatest⟩
theorem Good.valid{e:Edit}(G:Good e):e.valid:=
 ⟨G.log,G.next,G.seq,λp hp=>⟨by have:=(G.out p hp).l4;omega,(G.out p hp).num⟩,λp hp=>⟨by have:=(G.inn p hp).l4;omega,(G.inn p hp).num,by have:=(G.inn p hp).w1;omega,by have:=(G.inn p hp).b1;omega,by have:=(G.inn p hp).e1;omega⟩⟩
theorem Good.front{e:Edit}(G:Good e):Good (front e):=⟨G.log,G.next,G.seq,λp hp=>G.out p (List.mem_of_mem_take hp),λp hp=>G.inn p (List.mem_of_mem_take hp),G.ptr,G.nptr⟩
theorem Good.behind{e:Edit}(G:Good e):Good (behind e):=⟨G.log,G.next,G.seq,λp hp=>G.out p (List.mem_of_mem_drop hp),λp hp=>G.inn p (List.mem_of_mem_drop hp),G.ptr,G.nptr⟩
theorem Good.noptr{e:Edit}(G:Good e):Good { e with ptr:=[] }:=⟨G.log,G.next,G.seq,G.out,G.inn,λp hp=>(by cases hp),Nat.zero_le _⟩
def piece(e:Edit):Edit:={ front e with ptr:=[] }
theorem behind_size(e:Edit):(behind e).size=e.size-256:=by
 simp only[Edit.size,behind,length_drop]
 omega
theorem front_size(e:Edit):(front e).size=min e.size 256:=by
 simp only[Edit.size,front,length_take]
 omega
theorem putF_last{f:Nat}{e:Edit}(h:e.size<=256):putF (f+1) e=[recB (front e) true]:=by
 have:=behind_size e
 unfold Edit.size at this h
 unfold putF
 rw[if_pos (by omega)]
theorem putF_more{f:Nat}{e:Edit}(h:256<e.size):putF (f+1) e=recB (piece e) false::putF f (behind e):=by
 have:=behind_size e
 unfold Edit.size at this h
 conv=>lhs;unfold putF
 rw[if_neg (by omega)]
 rfl
theorem front_all{e:Edit}(h:e.size<=256):front e=e:=by
 unfold Edit.size at h
 cases e
 simp only[front] at h ⊢
 rw[take_of_length_le (by omega),take_of_length_le (by omega)]
theorem put_eq{e:Edit}(G:Good e):putS e=putF (e.size+1) e:=by
 unfold putS Edit.size
 rw[if_pos G.told]
theorem putF_length:∀ (f:Nat) (e:Edit),e.size<f->(putF f e).length=max 1 ((e.size+255) / 256)
 |0,e,h=>absurd h (Nat.not_lt_zero _)
 |f+1,e,h=>by
  by_cases hs:e.size<=256
  ·rw[putF_last hs,length_singleton];omega
  ·have hb:=behind_size e
   rw[putF_more (by omega),length_cons,putF_length f (behind e) (by omega),hb]
   omega
theorem putF_get:∀ (f:Nat) (e:Edit),Good e->e.size<f->∀ (k:Nat) (hk:k<(putF f e).length),∃ x,Good x/\x.size<=256/\(putF f e)[k]=recB x (decide (k+1=(putF f e).length))
 |0,e,_,h,_,_=>absurd h (Nat.not_lt_zero _)
 |f+1,e,G,h,k,hk=>by
  have hf:=front_size e
  by_cases hs:e.size<=256
  ·have e1:=putF_last (f:=f) hs
   refine⟨front e,G.front,by omega,?_⟩
   have hk0:k=0:=by rw[e1,length_singleton] at hk;omega
   subst hk0
   simp only[e1,List.getElem_cons_zero,length_singleton]
   rfl
  ·have e1:=putF_more (f:=f) (e:=e) (by omega)
   have hb:=behind_size e
   have hlen:=putF_length f (behind e) (by omega)
   cases k with
   |zero=>
    refine⟨piece e,G.front.noptr,by show(front e).size<=256;omega,?_⟩
    simp only[e1,List.getElem_cons_zero,length_cons]
    rw[decide_eq_false (by omega)]
   |succ k=>
    have hk2:k<(putF f (behind e)).length:=by rw[e1,length_cons] at hk;omega
    obtain⟨x,hx,hsz,hget⟩:=putF_get f (behind e) G.behind (by omega) k hk2
    refine⟨x,hx,hsz,?_⟩
    simp only[e1,List.getElem_cons_succ,length_cons,hget]
    congr 1
    simp
theorem recB_length{x:Edit}(G:Good x)(h:x.size<=256)(b:Bool):(recB x b).length<262144:=by
 unfold Edit.size at h
 have h1:=flatMap_le Place.enc 20 x.out (λp _=>p.enc_length)
 have h2:=flatMap_le Placed.enc 198 x.inn (λp hp=>Placed.enc_length (by
  have q:=G.inn p hp
  exact⟨⟨q.l0,by have:=q.l4;omega⟩,q.num,⟨q.w0,by have:=q.w1;omega⟩,⟨q.b0,by have:=q.b1;omega⟩,⟨q.e0,by have:=q.e1;omega⟩,q.least,q.greatest⟩))
 have h3:=flatMap_le encT 74 x.ptr (λp hp=>encT_length (G.ptr p hp))
 have h4:=encs_len [x.log,x.next,x.seq,(x.out.length:Int)] 4 rfl
 have h5:=encs_len [(x.inn.length:Int)] 1 rfl
 have h6:=encs_len [(x.ptr.length:Int)] 1 rfl
 have h7:=G.nptr
 unfold recB
 simp only[length_cons,length_append]
 omega
theorem sameP_all{e:Edit}{recs:List (List Int)}(h:putS e=recs):sameP e recs true=true:=by
 unfold sameP
 rw[h,if_neg (Nat.lt_irrefl _),if_neg (λhh=>hh.2 rfl),List.take_length]
 simp
theorem rd_front{e:Edit}(G:Good e)(b:Bool):rd (recB (front e) b)=some (front e,b):=by
 have:=front_size e
 unfold Edit.size at this
 exact rd_enc G.front (by omega) (by omega) b
theorem rd_piece{e:Edit}(G:Good e):rd (recB (piece e) false)=some (piece e,false):=by
 have:=front_size e
 unfold Edit.size at this
 exact rd_enc G.front.noptr (by show(front e).out.length<_;omega) (by show(front e).inn.length<_;omega) false
theorem getR_putF:∀ (f:Nat) (E e cur:Edit) (done:List (List Int)) (acc:List Edit) (rs:List (List Int)),Good e->e.size<f->E=joinE cur e done->putS E=done++putF f e ->
  getR (putF f e++rs) acc cur done=getR rs (acc++[E]) zE []
 |0,_,e,_,_,_,_,_,h,_,_=>absurd h (Nat.not_lt_zero _)
 |f+1,E,e,cur,done,acc,rs,G,h,hE,hput=>by
  by_cases hs:e.size<=256
  ·have e1:=putF_last (f:=f) hs
   rw[e1] at hput ⊢
   have hr:=rd_front G true
   rw[front_all hs] at hr hput ⊢
   show getR (recB e true::rs) acc cur done=_
   rw[getR_some hr]
   simp only[if_true]
   rw[<- hE,if_pos (sameP_all hput)]
  ·have e1:=putF_more (f:=f) (e:=e) (by omega)
   have hb:=behind_size e
   rw[e1] at hput ⊢
   show getR (recB (piece e) false::(putF f (behind e)++rs)) acc cur done=_
   rw[getR_some (rd_piece G)]
   simp only[Bool.false_eq_true,if_false]
   refine getR_putF f E (behind e) _ _ acc rs G.behind (by omega) ?_ (by rw[hput];simp)
   rw[hE]
   have hne:¬ (done++[recB (piece e) false]).length=0:=by simp
   unfold joinE
   rw[if_neg hne]
   by_cases hd:done.length=0
   ·rw[if_pos hd,if_pos hd]
    cases e
    simp[piece,front,behind]
   ·rw[if_neg hd,if_neg hd]
    cases e
    simp[piece,front,behind,List.append_assoc]
theorem getR_put{e:Edit}(G:Good e)(acc:List Edit)(rs:List (List Int)):getR (putS e++rs) acc zE []=getR rs (acc++[e]) zE []:=by
 have h:=put_eq G
 rw[h]
 exact getR_putF (e.size+1) e e zE [] acc rs G (Nat.lt_succ_self _) (by unfold joinE;rw[if_pos length_nil]) (by rw[h];rfl)
theorem getR_all:∀ (L acc:List Edit) (rs:List (List Int)),(∀ e∈L,Good e)->getR (L.flatMap putS++rs) acc zE []=getR rs (acc++L) zE []
 |[],acc,rs,_=>by simp
 |e::L,acc,rs,h=>by
  rw[List.flatMap_cons,List.append_assoc,getR_put (h e mem_cons_self),getR_all L _ rs λx hx=>h x (mem_cons_of_mem _ hx)]
  simp
def pre:Nat->Edit->Edit
 |0,e=>⟨e.log,e.next,e.seq,[],[],[]⟩
 |k+1,e=>⟨e.log,e.next,e.seq,(front e).out++(pre k (behind e)).out,(front e).inn++(pre k (behind e)).inn,[]⟩
theorem pre_rest(k:Nat)(e:Edit):(pre k e).log=e.log/\(pre k e).next=e.next/\(pre k e).seq=e.seq/\(pre k e).ptr=[]:=by cases k<;>exact⟨rfl,rfl,rfl,rfl⟩
theorem pre_out:∀ (k:Nat) (e:Edit),(∃ t,e.out=(pre k e).out++t)/\∃ t,e.inn=(pre k e).inn++t
 |0,e=>⟨⟨e.out,rfl⟩,⟨e.inn,rfl⟩⟩
 |k+1,e=>by
  obtain⟨⟨t,ht⟩,⟨u,hu⟩⟩:=pre_out k (behind e)
  refine⟨⟨t,?_⟩,⟨u,?_⟩⟩
  ·show e.out=(e.out.take 256++(pre k (behind e)).out)++t
   rw[List.append_assoc,<- ht]
   exact(List.take_append_drop 256 e.out).symm
  ·show e.inn=(e.inn.take (256-min e.out.length 256)++(pre k (behind e)).inn)++u
   rw[List.append_assoc,<- hu]
   exact(List.take_append_drop (256-min e.out.length 256) e.inn).symm
theorem getR_pre:∀ (k f:Nat) (e cur:Edit) (part:List (List Int)) (acc:List Edit),Good e->e.size<f->k<(putF f e).length->part.length≠0->cur.log=e.log->cur.next=e.next->cur.seq=e.seq->cur.ptr=[] ->
  getR ((putF f e).take k) acc cur part=getR [] acc ⟨e.log,e.next,e.seq,cur.out++(pre k e).out,cur.inn++(pre k e).inn,[]⟩ (part++(putF f e).take k)
 |0,f,e,cur,part,acc,G,hf,hk,hp,h1,h2,h3,h4=>by
  obtain⟨a,b,c,o,i,p⟩:=cur
  simp only at h1 h2 h3 h4
  subst h1 h2 h3 h4
  simp[pre]
 |k+1,0,e,_,_,_,_,h,_,_,_,_,_,_=>absurd h (Nat.not_lt_zero _)
 |k+1,f+1,e,cur,part,acc,G,hf,hk,hp,h1,h2,h3,h4=>by
  have hs:256<e.size:=by
   rcases Nat.lt_or_ge 256 e.size with h|h
   ·exact h
   ·rw[putF_last h,length_singleton] at hk;omega
  have e1:=putF_more (f:=f) hs
  have hb:=behind_size e
  rw[e1] at hk ⊢
  rw[length_cons] at hk
  rw[List.take_succ_cons,getR_some (rd_piece G)]
  simp only[Bool.false_eq_true,if_false]
  rw[getR_pre k f (behind e) _ _ acc G.behind (by omega) (by omega) (by simp) (by unfold joinE;rw[if_neg hp];rfl) (by unfold joinE;rw[if_neg hp];rfl) (by unfold joinE;rw[if_neg hp];rfl) (by unfold joinE;rw[if_neg hp];rfl)]
  unfold joinE
  rw[if_neg hp]
  simp[pre,piece,front,behind,List.append_assoc]
theorem same_pre:∀ (k f g:Nat) (e:Edit),Good e->e.size<f->k<(putF f e).length->(withP (pre k e)).size<g->(putF g (withP (pre k e))).take k=(putF f e).take k
 |0,_,_,_,_,_,_,_=>by simp
 |k+1,0,_,_,_,h,_,_=>absurd h (Nat.not_lt_zero _)
 |k+1,_+1,0,_,_,_,_,h=>absurd h (Nat.not_lt_zero _)
 |k+1,f+1,g+1,e,G,hf,hk,hg=>by
  have hs:256<e.size:=by
   rcases Nat.lt_or_ge 256 e.size with h|h
   ·exact h
   ·rw[putF_last h,length_singleton] at hk;omega
  have e1:=putF_more (f:=f) hs
  have hb:=behind_size e
  have hfs:=front_size e
  have hsum:(front e).out.length+(front e).inn.length=256:=by unfold Edit.size at hfs;unfold Edit.size at hs;omega
  have hfo:(front e).out.length=256\/(pre k (behind e)).out=[]:=by
   rcases Nat.lt_or_ge e.out.length 256 with h|h
   ·right
    obtain⟨⟨t,ht⟩,_⟩:=pre_out k (behind e)
    have h0:(behind e).out=[]:=List.drop_of_length_le (by omega)
    rw[h0] at ht
    exact(List.append_eq_nil_iff.1 ht.symm).1
   ·left
    simp only[front,length_take]
    omega
  have hWo:(withP (pre (k+1) e)).out=(front e).out++(pre k (behind e)).out:=rfl
  have hWi:(withP (pre (k+1) e)).inn=(front e).inn++((pre k (behind e)).inn++[pl0]):=by
   show((front e).inn++(pre k (behind e)).inn)++[pl0]=_
   rw[List.append_assoc]
  have hto:(withP (pre (k+1) e)).out.take 256=(front e).out:=by
   rw[hWo]
   rcases hfo with h|h
   ·exact List.take_left' h
   ·rw[h,append_nil,take_of_length_le (by omega)]
  have hdo:(withP (pre (k+1) e)).out.drop 256=(pre k (behind e)).out:=by
   rw[hWo]
   rcases hfo with h|h
   ·exact List.drop_left' h
   ·rw[h,append_nil,List.drop_of_length_le (by omega)]
  have hlen:256-min (withP (pre (k+1) e)).out.length 256=(front e).inn.length:=by
   rw[hWo,length_append]
   rcases hfo with h|h
   ·omega
   ·rw[h,length_nil];omega
  have hti:(withP (pre (k+1) e)).inn.take (256-min (withP (pre (k+1) e)).out.length 256)=(front e).inn:=by
   rw[hlen,hWi];exact List.take_left' rfl
  have hdi:(withP (pre (k+1) e)).inn.drop (256-min (withP (pre (k+1) e)).out.length 256)=(pre k (behind e)).inn++[pl0]:=by
   rw[hlen,hWi];exact List.drop_left' rfl
  have hP:piece (withP (pre (k+1) e))=piece e:=by
   unfold piece
   conv=>lhs;unfold front
   simp only[hto,hti]
   rfl
  obtain⟨p1,p2,p3,p4⟩:=pre_rest k (behind e)
  have hB:behind (withP (pre (k+1) e))=withP (pre k (behind e)):=by
   conv=>lhs;unfold behind
   simp only[hdo,hdi]
   unfold withP
   rw[p1,p2,p3,p4]
   rfl
  have hW:256<(withP (pre (k+1) e)).size:=by
   unfold Edit.size
   rw[hWo,hWi]
   simp only[length_append,length_singleton]
   omega
  have e2:=putF_more (f:=g) hW
  have hb2:=behind_size (withP (pre (k+1) e))
  rw[e1] at hk ⊢
  rw[length_cons] at hk
  rw[e2,hP,hB,List.take_succ_cons,List.take_succ_cons]
  rw[hB] at hb2
  rw[same_pre k f g (behind e) G.behind (by omega) (by omega) (by omega)]
theorem good_pre{e:Edit}(G:Good e)(k:Nat):Good (withP (pre k e)):=by
 obtain⟨⟨t,ht⟩,⟨u,hu⟩⟩:=pre_out k e
 obtain⟨p1,p2,p3,p4⟩:=pre_rest k e
 refine⟨by show okU (pre k e).log;rw[p1];exact G.log,by show okU (pre k e).next;rw[p2];exact G.next,by show okU (pre k e).seq;rw[p3];exact G.seq,λp hp=>G.out p (by rw[ht];exact List.mem_append_left _ hp),λp hp=>?_,λp hp=>?_,?_⟩
 ·rcases mem_append.1 hp with hp|hp
  ·exact G.inn p (by rw[hu];exact List.mem_append_left _ hp)
  ·rw[mem_singleton] at hp
   subst hp
   exact⟨by decide,by decide,⟨by decide,by decide⟩,by decide,by decide,by decide,by decide,by decide,by decide,by decide,by decide⟩
 ·have hp':p∈(pre k e).ptr:=hp
  rw[p4] at hp';cases hp'
 ·show(pre k e).ptr.length<=5
  rw[p4];exact Nat.zero_le _
theorem getR_part{e:Edit}(G:Good e){k:Nat}(hk:k<(putS e).length)(acc:List Edit):getR ((putS e).take k) acc zE []=some acc:=by
 cases k with
 |zero=>simp[getR]
 |succ k=>
  have hp:=put_eq G
  rw[hp] at hk ⊢
  have hs:256<e.size:=by
   rcases Nat.lt_or_ge 256 e.size with h|h
   ·exact h
   ·rw[putF_last h,length_singleton] at hk;omega
  have e1:=putF_more (f:=e.size) hs
  have hb:=behind_size e
  have h0:getR ((putF (e.size+1) e).take (k+1)) acc zE []=getR [] acc (pre (k+1) e) ((putF (e.size+1) e).take (k+1)):=by
   have hk':=hk
   rw[e1] at hk' ⊢
   rw[length_cons] at hk'
   rw[List.take_succ_cons,getR_some (rd_piece G)]
   simp only[Bool.false_eq_true,if_false]
   have hj:joinE zE (piece e) []=piece e:=by unfold joinE;rw[if_pos length_nil]
   rw[hj,getR_pre k e.size (behind e) (piece e) _ acc G.behind (by omega) (by omega) (by simp) rfl rfl rfl rfl]
   rfl
  rw[h0]
  have hl:((putF (e.size+1) e).take (k+1)).length=k+1:=by rw[length_take];omega
  unfold getR
  rw[hl,if_neg (by omega)]
  have hW:=put_eq (good_pre G (k+1))
  have hsame:=same_pre (k+1) (e.size+1) ((withP (pre (k+1) e)).size+1) e G (Nat.lt_succ_self _) hk (Nat.lt_succ_self _)
  have hlW:k+1<=(putF ((withP (pre (k+1) e)).size+1) (withP (pre (k+1) e))).length:=by
   have:=congrArg List.length hsame
   rw[hl,length_take] at this
   omega
  have:sameP (withP (pre (k+1) e)) ((putF (e.size+1) e).take (k+1)) false=true:=by
   unfold sameP
   rw[hW,hl,if_neg (by omega),if_neg (λhh=>by cases hh.1),hsame]
   simp
  rw[if_pos this]
theorem getR_first{L:List Edit}(hL:∀ e∈L,Good e){n w:Nat}(hn:n<=(L.flatMap putS).length)(hw:w<=L.length)(h1:((L.take w).flatMap putS).length<=n)(h2:w=L.length\/∃ hi:w<L.length,n<((L.take w).flatMap putS).length+(putS L[w]).length) :
  getR ((L.flatMap putS).take n) [] zE []=some (L.take w):=by
 rcases h2 with rfl|⟨hi,h2⟩
 ·rw[List.take_length] at h1 ⊢
  rw[take_of_length_le h1]
  have:=getR_all L [] [] hL
  rw[append_nil,List.nil_append] at this
  rw[this]
  simp[getR]
 ·have hsplit:L.flatMap putS=(L.take w).flatMap putS++(putS L[w]++(L.drop (w+1)).flatMap putS):=by
   conv=>lhs;rw[<- List.take_append_drop w L,List.drop_eq_getElem_cons hi]
   rw[List.flatMap_append,List.flatMap_cons]
  rw[hsplit,List.take_append,take_of_length_le h1,List.take_append_of_le_length (by omega)]
  rw[getR_all (L.take w) [] _ (λe he=>hL e (List.mem_of_mem_take he)),List.nil_append]
  exact getR_part (hL _ (List.getElem_mem hi)) (by omega) _
end Go.Eng.YtblghgacokoklaaDoor
end
section
namespace Go.Eng.YtblghgacokoklaaDoor
def iI(n:Int):Prop:=-9223372036854775808<=n/\n<9223372036854775808
structure Raw(e:Edit):Prop where
 log:okU e.log
 next:okU e.next
 seq:okU e.seq
 out:∀ p∈e.out,iI p.lv/\okU p.num
 inn:∀ p∈e.inn,iI p.lv/\okU p.num/\iI p.weight/\iI p.bytes/\iI p.entries/\p.least.size<=9223372036854775807/\p.greatest.size<=9223372036854775807
 ptr:∀ p∈e.ptr,p.size<=9223372036854775807
structure Args(h:Hp)(l:Sl)(L:List EdS):Prop where
 row:h.row l.a (l.n*6) (edV L)
 at_:∀ x∈L,EdAt h x.e x.a x.b x.c
 raw:∀ x∈L,Raw x.e
 big:∀ x∈L,x.e.out.length<=9223372036854775807/\x.e.inn.length<=9223372036854775807/\x.e.ptr.length<=9223372036854775807
theorem Args.keep{h h':Hp}(k:Keep h h'){l:Sl}{L:List EdS}(A:Args h l L):Args h' l L:=⟨k.row A.row,λx hx=>(A.at_ x hx).keep k,A.raw,A.big⟩
theorem Args.n{h:Hp}{l:Sl}{L:List EdS}(A:Args h l L):l.n=L.length:=by
 have h1:=A.row.1
 unfold edV at h1
 rw[flat_length EdS.cells 6 (λ_=>rfl)] at h1
 omega
def adv(c m:Int):Int:=if 0<=c then c-m else c
theorem add_q{h0 h:Hp}{b:Nat}{c n m:Int}{Q:Value->Hp->Prop}(hb0:h0 b=none)(K:Keep h0 h)(hb:h b=some (.cells ⟨[.int .i64 c]⟩ 159 (0,0)))(hn:n=wrap .i64 m)(hm0:0<=m)(hm1:m<=9223372036854775808)(hc:c<=1000000)
  (hQ:∀ r h',Keep h0 h'->h' b=some (.cells ⟨[.int .i64 (adv c m)]⟩ 159 (0,0))->Q (.bool r) h'):F115.T (some ⟨b,0,none⟩) n h Q:=by
 have hat2:h.at b 0=some (.int .i64 c):=by unfold Hp.at;rw[hb];rfl
 refine⟨b,0,rfl,c,hat2,λhc0=>⟨b,0,rfl,c,hat2,?_⟩,λhc0=>⟨b,0,rfl,c,hat2,λh0=>absurd h0 hc0,λh0=>?_⟩⟩
 ·have w2:wrap .i64 (c-n)=c-m:=by
   rw[hn]
   simp[IntKind.wrap,IntKind.signed,IntKind.bits]
   omega
  rw[w2]
  have hw:=wr_at (o:=0) (vs:=[.int .i64 (c-m)]) hb
  have kw:=keep_wr_new hb0 K 0 [.int .i64 (c-m)]
  have ha:adv c m=c-m:=by unfold adv;rw[if_pos hc0]
  rw[ha] at hQ
  exact⟨b,0,rfl,⟨_,_,_,hb,Nat.le_of_ble_eq_true rfl,λj _ _=>by simp⟩,b,0,rfl,c-m,by unfold Hp.at;rw[hw];rfl,λ_=>hQ true _ kw hw,λ_=>hQ false _ kw hw⟩
 ·have ha:adv c m=c:=by unfold adv;rw[if_neg hc0]
  rw[ha] at hQ
  exact hQ false h K hb
theorem text_q{h0 h:Hp}{b:Nat}{c:Int}{s:ByteArray}{Q:Value->Hp->Prop}(hb0:h0 b=none)(K:Keep h0 h)(hb:h b=some (.cells ⟨[.int .i64 c]⟩ 159 (0,0)))(hs:s.size<=9223372036854775807)(hc:c<=1000000)
  (hQ:∀ h',Keep h0 h'->h' b=some (.cells ⟨[.int .i64 (adv c (1+(s.size:Int)))]⟩ 159 (0,0))->Q (.tuple ⟨[]⟩) h'):F116.T (some ⟨b,0,none⟩) s h Q:=
 show F116.G F115.T _ _ _ _ from add_q hb0 K hb rfl (by omega) (by omega) hc λr h' K' hb'=>⟨r,rfl,λ_=>hQ h' K' hb',λ_=>hQ h' K' hb'⟩
theorem wrap_id{n:Nat}(h:n<=9223372036854775807):(n:Int)=wrap .i64 (n:Int):=(wrap_i64 (by omega) (by omega)).symm
theorem ptr_q{h0 h:Hp}{l2:Sl}{ptr:List ByteArray}{b:Nat}{c d:Int}{Q:Value->Hp->Prop}(hr:h0.row l2.a l2.n (ptrV ptr))(hs:∀ s∈ptr,s.size<=9223372036854775807)(hb0:h0 b=none)(K:Keep h0 h)(hb:h b=some (.cells ⟨[.int .i64 c]⟩ 159 (0,0)))(hc:c<=1000000)(hd:0<=c->c<=d)
  (hQ:∀ h' c',Keep h0 h'->h' b=some (.cells ⟨[.int .i64 c']⟩ 159 (0,0))->c'<=1000000->(0<=c'->c'+(ptr.length:Int)<=d)->Q (.tuple ⟨[]⟩) h') :
  ∃ (I:Int->Hp->Prop) (m:Int->Hp->Nat),I 0 h/\(∀ n3:Int,∀ h3:Hp,I n3 h3->par (n3<(l2.n:Int)) (F60.T (some ⟨b,0,none⟩) h3 λr1 h4=>∃ b1:Bool,r1=.bool b1/\parB b1 (∃ b2 o,(l2.a:Option Addr)=some ⟨b2,o,none⟩/\((0:Int)<=n3/\n3<(l2.n:Int))/\∃ s:ByteArray,h4.at b2 (o+n3.toNat)=some (.string s)/\F116.T (some ⟨b,0,none⟩) s h4 λr2 h5=>I (wrap .i64 (n3+1)) h5/\m (wrap .i64 (n3+1)) h5<m n3 h3) (Q (.tuple ⟨[]⟩) h4)) (Q (.tuple ⟨[]⟩) h3)):=by
 have hln:l2.n=ptr.length:=by have:=hr.1;unfold ptrV at this;rw[length_map] at this;exact this.symm
 refine⟨λn h1=>∃ (i:Nat) (c1:Int),n=(i:Int)/\i<=ptr.length/\Keep h0 h1/\h1 b=some (.cells ⟨[.int .i64 c1]⟩ 159 (0,0))/\c1<=1000000/\(0<=c1->c1+(i:Int)<=c),λn _=>ptr.length-n.toNat,⟨0,c,rfl,Nat.zero_le _,K,hb,hc,λh=>by omega⟩,?_⟩
 rintro n h1 ⟨i,c1,rfl,hi,K1,hb1,hc1,hsum⟩
 refine⟨λhlt=>?_,λhge=>hQ h1 c1 K1 hb1 hc1 λh0'=>by have:=hsum h0';have:=hd (by omega);omega⟩
 have ia:i<ptr.length:=by omega
 refine ok_q hb1 (λhp=>⟨true,rfl,λ_=>?_,λh0'=>(by cases h0')⟩) (λhp=>⟨false,rfl,λh0'=>(by cases h0'),λ_=>hQ h1 c1 K1 hb1 hc1 λh0'=>absurd h0' hp⟩)
 obtain⟨b0,o0,ha0,hat⟩:=row_get (K1.row hr) (i:=i) (by omega)
 have hsz:=hs _ (List.getElem_mem ia)
 have hsm:=hsum hp
 have w3:wrap .i64 ((i:Int)+1)=((i+1:Nat):Int):=by rw[wrap_i64 (by omega) (by omega)];omega
 refine⟨b0,o0,ha0,⟨by omega,hlt⟩,ptr[i],by rw[Int.toNat_natCast,hat i (by omega)];simp[ptrV,ia],?_⟩
 refine text_q hb0 K1 hb1 hsz hc1 λh' K' hb'=>?_
 rw[w3]
 refine⟨⟨i+1,_,rfl,ia,K',hb',?_,?_⟩,by dsimp only;omega⟩
 ·unfold adv;rw[if_pos hp];omega
 ·unfold adv;rw[if_pos hp];intro _;omega
theorem inn_q{h0 h:Hp}{l1:Sl}{inn:List Placed}{b:Nat}{c d:Int}{J:Hp->Prop}(hr:h0.row l1.a (l1.n*7) (inV inn))(hs:∀ p∈inn,p.least.size<=9223372036854775807/\p.greatest.size<=9223372036854775807)(hb0:h0 b=none)(K:Keep h0 h)(hb:h b=some (.cells ⟨[.int .i64 c]⟩ 159 (0,0)))(hc:c<=1000000)(hd:0<=c->c<=d)
  (hJ:∀ h' c',Keep h0 h'->h' b=some (.cells ⟨[.int .i64 c']⟩ 159 (0,0))->c'<=1000000->(0<=c'->c'+(inn.length:Int)<=d)->J h') :
  ∃ (I1:Int->Hp->Prop) (m1:Int->Hp->Nat),I1 0 h/\(∀ n4:Int,∀ h6:Hp,I1 n4 h6->par (n4<(l1.n:Int)) (F60.T (some ⟨b,0,none⟩) h6 λr3 h7=>∃ b3:Bool,r3=.bool b3/\parB b3 (∃ b4 o1,(l1.a:Option Addr)=some ⟨b4,o1,none⟩/\((0:Int)<=n4/\n4<(l1.n:Int))/\∃ s1:ByteArray,h7.at b4 (((o1+n4.toNat*7)+1)+4)=some (.string s1)/\F116.T (some ⟨b,0,none⟩) s1 h7 λr4 h8=>∃ b5 o2,(l1.a:Option Addr)=some ⟨b5,o2,none⟩/\((0:Int)<=n4/\n4<(l1.n:Int))/\∃ s2:ByteArray,h8.at b5 (((o2+n4.toNat*7)+1)+5)=some (.string s2)/\F115.T (some ⟨b,0,none⟩) (s2.size:Int) h8 λr5 h9=>∃ b6:Bool,r5=.bool b6/\parB b6 (I1 (wrap .i64 (n4+1)) h9/\m1 (wrap .i64 (n4+1)) h9<m1 n4 h6) (I1 (wrap .i64 (n4+1)) h9/\m1 (wrap .i64 (n4+1)) h9<m1 n4 h6)) (J h7)) (J h6)):=by
 have hln:l1.n=inn.length:=by
  have h1:=hr.1
  unfold inV at h1
  rw[flat_length Placed.cells 7 (λ_=>rfl)] at h1
  omega
 refine⟨λn h1=>∃ (i:Nat) (c1:Int),n=(i:Int)/\i<=inn.length/\Keep h0 h1/\h1 b=some (.cells ⟨[.int .i64 c1]⟩ 159 (0,0))/\c1<=1000000/\(0<=c1->c1+(i:Int)<=c),λn _=>inn.length-n.toNat,⟨0,c,rfl,Nat.zero_le _,K,hb,hc,λh=>by omega⟩,?_⟩
 rintro n h1 ⟨i,c1,rfl,hi,K1,hb1,hc1,hsum⟩
 refine⟨λhlt=>?_,λhge=>hJ h1 c1 K1 hb1 hc1 λh0'=>by have:=hsum h0';have:=hd (by omega);omega⟩
 have ia:i<inn.length:=by omega
 refine ok_q hb1 (λhp=>⟨true,rfl,λ_=>?_,λh0'=>(by cases h0')⟩) (λhp=>⟨false,rfl,λh0'=>(by cases h0'),λ_=>hJ h1 c1 K1 hb1 hc1 λh0'=>absurd h0' hp⟩)
 obtain⟨b0,o0,ha0,hat⟩:=row_get (hr) (i:=i*7) (by omega)
 have cc:∀ j,j<7->h0.at b0 ((o0+i*7)+j)=(Placed.cells inn[i])[j]?:=λj hj=>by
  rw[Nat.add_assoc,hat _ (by omega)]
  exact flat_get Placed.cells 7 (λ_=>rfl) inn i j ia hj
 have hsz:=hs _ (List.getElem_mem ia)
 have hsm:=hsum hp
 have w3:wrap .i64 ((i:Int)+1)=((i+1:Nat):Int):=by rw[wrap_i64 (by omega) (by omega)];omega
 refine⟨b0,o0,ha0,⟨by omega,hlt⟩,inn[i].least,by rw[Int.toNat_natCast];exact K1.at (cc 5 (by decide)),?_⟩
 refine text_q hb0 K1 hb1 hsz.1 hc1 λh2 K2 hb2=>?_
 refine⟨b0,o0,ha0,⟨by omega,hlt⟩,inn[i].greatest,by rw[Int.toNat_natCast];exact K2.at (cc 6 (by decide)),?_⟩
 have ha:adv c1 (1+(inn[i].least.size:Int))=c1-(1+(inn[i].least.size:Int)):=by unfold adv;rw[if_pos hp]
 rw[ha] at hb2
 refine add_q hb0 K2 hb2 (wrap_id hsz.2) (by omega) (by omega) (by omega) λr h3 K3 hb3=>?_
 rw[w3]
 have fin:(∃ (i':Nat) (c1':Int),((i+1:Nat):Int)=(i':Int)/\i'<=inn.length/\Keep h0 h3/\h3 b=some (.cells ⟨[.int .i64 c1']⟩ 159 (0,0))/\c1'<=1000000/\(0<=c1'->c1'+(i':Int)<=c))/\inn.length-(((i+1:Nat):Int)).toNat<inn.length-((i:Int)).toNat:=by
  refine⟨⟨i+1,_,rfl,ia,K3,hb3,?_,?_⟩,by omega⟩
  ·unfold adv;split<;>omega
  ·unfold adv;split<;>(intro _;omega)
 exact⟨r,rfl,λ_=>fin,λ_=>fin⟩
theorem edit_q{h0 h:Hp}{x:EdS}{b:Nat}{c:Int}{Q:Value->Hp->Prop}(E:EdAt h0 x.e x.a x.b x.c)(R:Raw x.e)(hbig:x.e.out.length<=9223372036854775807)(hb0:h0 b=none)(K:Keep h0 h)(hb:h b=some (.cells ⟨[.int .i64 c]⟩ 159 (0,0)))(hc:c<=1000000)
  (hQ:∀ h' c',Keep h0 h'->h' b=some (.cells ⟨[.int .i64 c']⟩ 159 (0,0))->c'<=1000000->(0<=c'->c'+(1+(x.e.out.length:Int)+x.e.inn.length+x.e.ptr.length)<=c)->Q (.tuple ⟨[]⟩) h'):F91.T (some ⟨b,0,none⟩) x.e.log x.e.next x.e.seq x.a x.b x.c h Q:=by
 unfold F91.T F91.G
 have n1:=E.nout
 have go:∀ h1:Hp,Keep h0 h1->h1 b=some (.cells ⟨[.int .i64 (adv c (1+(x.e.out.length:Int)))]⟩ 159 (0,0))->(∃ J:Hp->Prop,(∀ h2:Hp,J h2->∃ (I:Int->Hp->Prop) (m:Int->Hp->Nat),I 0 h2/\(∀ n3:Int,∀ h3:Hp,I n3 h3->par (n3<(x.c.n:Int)) (F60.T (some ⟨b,0,none⟩) h3 λr1 h4=>∃ b1:Bool,r1=.bool b1/\parB b1 (∃ b2 o,(x.c.a:Option Addr)=some ⟨b2,o,none⟩/\((0:Int)<=n3/\n3<(x.c.n:Int))/\∃ s:ByteArray,h4.at b2 (o+n3.toNat)=some (.string s)/\F116.T (some ⟨b,0,none⟩) s h4 λr2 h5=>I (wrap .i64 (n3+1)) h5/\m (wrap .i64 (n3+1)) h5<m n3 h3) (Q (.tuple ⟨[]⟩) h4)) (Q (.tuple ⟨[]⟩) h3)))/\(∃ (I1:Int->Hp->Prop) (m1:Int->Hp->Nat),I1 0 h1/\(∀ n4:Int,∀ h6:Hp,I1 n4 h6->par (n4<(x.b.n:Int)) (F60.T (some ⟨b,0,none⟩) h6 λr3 h7=>∃ b3:Bool,r3=.bool b3/\parB b3 (∃ b4 o1,(x.b.a:Option Addr)=some ⟨b4,o1,none⟩/\((0:Int)<=n4/\n4<(x.b.n:Int))/\∃ s1:ByteArray,h7.at b4 (((o1+n4.toNat*7)+1)+4)=some (.string s1)/\F116.T (some ⟨b,0,none⟩) s1 h7 λr4 h8=>∃ b5 o2,(x.b.a:Option Addr)=some ⟨b5,o2,none⟩/\((0:Int)<=n4/\n4<(x.b.n:Int))/\∃ s2:ByteArray,h8.at b5 (((o2+n4.toNat*7)+1)+5)=some (.string s2)/\F115.T (some ⟨b,0,none⟩) (s2.size:Int) h8 λr5 h9=>∃ b6:Bool,r5=.bool b6/\parB b6 (I1 (wrap .i64 (n4+1)) h9/\m1 (wrap .i64 (n4+1)) h9<m1 n4 h6) (I1 (wrap .i64 (n4+1)) h9/\m1 (wrap .i64 (n4+1)) h9<m1 n4 h6)) (J h7)) (J h6)))):=by
  intro h1 K1 hb1
  have hc1:adv c (1+(x.e.out.length:Int))<=1000000:=by unfold adv;split<;>omega
  have hd1:0<=adv c (1+(x.e.out.length:Int))->adv c (1+(x.e.out.length:Int))+(1+(x.e.out.length:Int))<=c:=by unfold adv;split<;>(intro _;omega)
  refine⟨λh2=>∃ c2,Keep h0 h2/\h2 b=some (.cells ⟨[.int .i64 c2]⟩ 159 (0,0))/\c2<=1000000/\(0<=c2->c2+(x.e.inn.length:Int)<=adv c (1+(x.e.out.length:Int))),?_,?_⟩
  ·rintro h2 ⟨c2,K2,hb2,hc2,hs2⟩
   refine ptr_q (d:=c2) E.ptr R.ptr hb0 K2 hb2 hc2 (λ_=>Int.le_refl _) λh3 c3 K3 hb3 hc3 hs3=>hQ h3 c3 K3 hb3 hc3 λh0'=>?_
   have:=hs3 h0'
   have:=hs2 (by omega)
   have:=hd1 (by omega)
   omega
  ·exact inn_q (d:=adv c (1+(x.e.out.length:Int))) E.inn (λp hp=>(R.inn p hp).2.2.2.2.2) hb0 K1 hb1 hc1 (λ_=>Int.le_refl _) λh3 c3 K3 hb3 hc3 hs3=>⟨c3,K3,hb3,hc3,hs3⟩
 refine add_q hb0 K hb (m:=1+(x.e.out.length:Int)) (by rw[n1]) (by omega) (by omega) hc λr h1 K1 hb1=>⟨r,rfl,λ_=>go h1 K1 hb1,λ_=>go h1 K1 hb1⟩
def parts(L:List EdS):Nat:=(L.map λx=>1+x.e.out.length+x.e.inn.length+x.e.ptr.length).sum
theorem parts_succ{L:List EdS}{i:Nat}(h:i<L.length):parts (L.take (i+1))=parts (L.take i)+(1+L[i].e.out.length+L[i].e.inn.length+L[i].e.ptr.length):=by
 rw[List.take_succ_eq_append_getElem h]
 unfold parts
 rw[List.map_append,List.sum_append]
 simp only[List.map_cons,List.map_nil,List.sum_cons,List.sum_nil,Nat.add_zero]
theorem parts_cons(x:EdS)(L:List EdS):parts (x::L)=1+x.e.out.length+x.e.inn.length+x.e.ptr.length+parts L:=by simp[parts]
theorem parts_len(L:List EdS):L.length<=parts L:=by
 induction L with
 |nil=>simp
 |cons a l ih=>rw[parts_cons,length_cons];omega
theorem parts_mem{L:List EdS}{x:EdS}(h:x∈L):1+x.e.out.length+x.e.inn.length+x.e.ptr.length<=parts L:=by
 induction L with
 |nil=>cases h
 |cons a l ih=>
  rw[parts_cons]
  rcases mem_cons.1 h with rfl|h
  ·omega
  ·have:=ih h;omega
theorem few_spec{h:Hp}{l:Sl}{L:List EdS}{Q:Value->Hp->Prop}(A:Args h l L)(hT:∀ h',Keep h h'->parts L<=10000->Q (.bool true) h')(hF:∀ h',Keep h h'->Q (.bool false) h'):F17.T l h Q:=by
 unfold F17.T F17.G
 have hln:=A.n
 intro b hb
 refine⟨some ⟨b,0,none⟩,rfl,?_⟩
 have hb1:(h.new b (.cells ⟨[.int .i64 10000]⟩ 159 (0,0))) b=some (.cells ⟨[.int .i64 10000]⟩ 159 (0,0)):=new_self _ _ _
 have fin:∀ h' c,Keep h h'->h' b=some (.cells ⟨[.int .i64 c]⟩ 159 (0,0))->(0<=c->parts L<=10000)->F60.T (some ⟨b,0,none⟩) h' λr2 h3=>∃ b:Bool,r2=.bool b/\parB b (Q (.bool true) h3) (Q (.bool false) h3):=λh' c K' hc ht=>
  ok_q hc (λh0=>⟨true,rfl,λ_=>hT h' K' (ht h0),λh1=>(by cases h1)⟩) (λh0=>⟨false,rfl,λh1=>(by cases h1),λ_=>hF h' K'⟩)
 refine⟨λn h1=>∃ (i:Nat) (c:Int),n=(i:Int)/\i<=L.length/\Keep h h1/\h1 b=some (.cells ⟨[.int .i64 c]⟩ 159 (0,0))/\c<=1000000/\(0<=c->c+(parts (L.take i):Int)<=10000),λn _=>L.length-n.toNat,⟨0,10000,rfl,Nat.zero_le _,Keep.new hb _,hb1,by decide,λ_=>by simp[parts]⟩,?_⟩
 rintro n h1 ⟨i,c,rfl,hi,K1,hbc,hc,hsum⟩
 refine⟨λhlt=>?_,λhge=>?_⟩
 ·have ia:i<L.length:=by omega
  refine ok_q hbc (λhp=>⟨true,rfl,λ_=>?_,λh0=>(by cases h0)⟩) (λhp=>⟨false,rfl,λh0=>(by cases h0),λ_=>fin h1 c K1 hbc λh0=>absurd h0 hp⟩)
  obtain⟨b0,o0,ha0,hat⟩:=row_get (K1.row A.row) (i:=i*6) (by omega)
  have cc:∀ j,j<6->h1.at b0 ((o0+i*6)+j)=(EdS.cells L[i])[j]?:=λj hj=>by
   rw[Nat.add_assoc,hat _ (by omega)]
   exact flat_get EdS.cells 6 (λ_=>rfl) L i j ia hj
  have hx:=List.getElem_mem ia
  have hs:=hsum hp
  have hpl:=parts_len (L.take i)
  rw[length_take,Nat.min_eq_left hi] at hpl
  have hps:=parts_succ ia
  have w3:wrap .i64 ((i:Int)+1)=((i+1:Nat):Int):=by rw[wrap_i64 (by omega) (by omega)];omega
  rw[Int.toNat_natCast,w3]
  refine⟨b0,o0,ha0,⟨by omega,hlt⟩,_,cc 0 (by decide),_,cc 1 (by decide),_,cc 2 (by decide),_,cc 3 (by decide),_,cc 4 (by decide),_,cc 5 (by decide),?_⟩
  refine edit_q (x:=L[i]) (A.at_ _ hx) (A.raw _ hx) (A.big _ hx).1 hb K1 hbc hc λh2 c2 K2 hb2 hc2 hs2=>⟨⟨i+1,c2,rfl,ia,K2,hb2,hc2,λh0=>?_⟩,by dsimp only;omega⟩
  have:=hs2 h0
  rw[hps]
  omega
 ·have hie:i=L.length:=by omega
  subst hie
  rw[List.take_length] at hsum
  exact fin h1 c K1 hbc λh0=>by have:=hsum h0;omega
theorem place_spec{h:Hp}{n m:Int}{Q:Value->Hp->Prop}(hn:iI n)(hm:0<m)(hQ:∀ r,0<=r->r<m->Q (.int .i64 r) h):F28.T n m h Q:=by
 have key:∀ a:Int,0<=a->0<=Int.tmod a m/\Int.tmod a m<m:=λa ha=>⟨Int.tmod_nonneg m ha,Int.tmod_lt_of_pos a hm⟩
 have h1:=hn.1
 have h2:=hn.2
 refine⟨λhlt=>⟨by omega,?_⟩,λhge=>⟨by omega,?_⟩⟩
 ·have w1:wrap .i64 (n+1)=n+1:=wrap_i64 (by omega) (by omega)
  have w2:wrap .i64 (0-(n+1))=0-(n+1):=wrap_i64 (by omega) (by omega)
  rw[w1,w2]
  have:=key (0-(n+1)) (by omega)
  exact hQ _ this.1 this.2
 ·have:=key n (by omega)
  exact hQ _ this.1 this.2
end Go.Eng.YtblghgacokoklaaDoor
end
section
namespace Go.Eng.YtblghgacokoklaaDoor
structure Three(h:Hp)(x:EdS):Prop where
 a:Buf h x.a 2 104 (outV x.e.out)
 b:Buf h x.b 7 108 (inV x.e.inn)
 c:Buf h x.c 1 9 (ptrV x.e.ptr)
theorem Three.upd{h h':Hp}{s s':Sl}{x:EdS}(T:Three h x)(U:Upd h h' s s')(oa:Off x.a s)(ob:Off x.b s)(oc:Off x.c s):Three h' x:=⟨T.a.upd U oa,T.b.upd U ob,T.c.upd U oc⟩
theorem Three.keep{h h':Hp}{x:EdS}(T:Three h x)(k:Keep h h'):Three h' x:=⟨T.a.keep k,T.b.keep k,T.c.keep k⟩
def Ap(y z:EdS):Prop:=Off y.a z.a/\Off y.b z.b/\Off y.c z.c
def PW(L:List EdS):Prop:=L.Pairwise λy z=>Ap y z/\Ap z y
structure Ws(h0 h:Hp)(l1:Sl)(L:List EdS):Prop where
 B:Buf h l1 6 65 (edV L)
 T:∀ y∈L,Three h y
 N:∀ y∈L,(y.a.a=none\/New h0 y.a)/\(y.b.a=none\/New h0 y.b)/\(y.c.a=none\/New h0 y.c)
 N1:l1.a=none\/New h0 l1
 K:Keep h0 h
theorem new_off{h:Hp}{s r:Sl}{sz t:Nat}{vs:List Value}(N:s.a=none\/New h s)(B:Buf h r sz t vs):Off r s/\Off s r:=by
 have key:∀ b o o',r.a=some ⟨b,o,none⟩->s.a=some ⟨b,o',none⟩->False:=by
  intro b o o' e1 e2
  rcases N with h0|⟨k,hk,hn⟩
  ·rw[h0] at e2;cases e2
  ·rw[hk] at e2
   simp only[Option.some.injEq,Addr.mk.injEq] at e2
   rcases B.own with⟨ha,_⟩|⟨b1,c,f,ha,hb,_⟩
   ·rw[ha] at e1;cases e1
   ·rw[ha] at e1
    simp only[Option.some.injEq,Addr.mk.injEq] at e1
    rw[e1.1,<- e2.1,hn] at hb;cases hb
 exact⟨λb o o' e1 e2=>key b o o' e1 e2,λb o o' e1 e2=>key b o' o e2 e1⟩
theorem PW.other{P R:List EdS}{x:EdS}(h:PW (P++x::R)){y:EdS}(hy:y∈P\/y∈R):Ap y x:=by
 unfold PW at h
 rw[List.pairwise_append,List.pairwise_cons] at h
 obtain⟨_,⟨h2,_⟩,h3⟩:=h
 rcases hy with hy|hy
 ·exact(h3 y hy x mem_cons_self).1
 ·exact(h2 y hy).2
theorem PW.swap{P R:List EdS}{x x':EdS}(h:PW (P++x::R))(ha:x'.a.a=x.a.a)(hb:x'.b.a=x.b.a)(hc:x'.c.a=x.c.a):PW (P++x'::R):=by
 have e1:∀ y,Ap y x->Ap y x':=by
  intro y hy
  refine⟨?_,?_,?_⟩
  ·have:=hy.1;unfold Off at this ⊢;rw[ha];exact this
  ·have:=hy.2.1;unfold Off at this ⊢;rw[hb];exact this
  ·have:=hy.2.2;unfold Off at this ⊢;rw[hc];exact this
 have e2:∀ y,Ap x y->Ap x' y:=by
  intro y hy
  refine⟨?_,?_,?_⟩
  ·have:=hy.1;unfold Off at this ⊢;rw[ha];exact this
  ·have:=hy.2.1;unfold Off at this ⊢;rw[hb];exact this
  ·have:=hy.2.2;unfold Off at this ⊢;rw[hc];exact this
 unfold PW at h ⊢
 rw[List.pairwise_append,List.pairwise_cons] at h ⊢
 obtain⟨h1,⟨h2,h4⟩,h3⟩:=h
 refine⟨h1,⟨λy hy=>⟨e2 y (h2 y hy).1,e1 y (h2 y hy).2⟩,h4⟩,λy hy z hz=>?_⟩
 rcases mem_cons.1 hz with rfl|hz
 ·have:=h3 y hy x mem_cons_self
  exact⟨e1 y this.1,e2 y this.2⟩
 ·exact h3 y hy z (mem_cons_of_mem _ hz)
theorem mem_mid{P R:List EdS}{x y:EdS}(h:y∈P++x::R):y=x\/(y∈P\/y∈R):=by
 rcases mem_append.1 h with h|h
 ·exact .inr (.inl h)
 ·rcases mem_cons.1 h with h|h
  ·exact .inl h
  ·exact .inr (.inr h)
theorem mem_mid'{P R:List EdS}{x y:EdS}(h:y∈P\/y∈R):y∈P++x::R:=by
 rcases h with h|h
 ·exact List.mem_append_left _ h
 ·exact List.mem_append_right _ (mem_cons_of_mem _ h)
theorem Ws.x{h0 h:Hp}{l1:Sl}{P R:List EdS}{x:EdS}(W:Ws h0 h l1 (P++x::R)):Three h x:=W.T x (List.mem_append_right _ mem_cons_self)
theorem Ws.nx{h0 h:Hp}{l1:Sl}{P R:List EdS}{x:EdS}(W:Ws h0 h l1 (P++x::R)):(x.a.a=none\/New h0 x.a)/\(x.b.a=none\/New h0 x.b)/\(x.c.a=none\/New h0 x.c):=W.N x (List.mem_append_right _ mem_cons_self)
theorem Ws.setA{h0 h h':Hp}{l1:Sl}{P R:List EdS}{x:EdS}(W:Ws h0 h l1 (P++x::R))(hp:PW (P++x::R))(U:Upd h h' x.a x.a){o:List Place}(B:Buf h' x.a 2 104 (outV o)):Ws h0 h' l1 (P++⟨{ x.e with out:=o },x.a,x.b,x.c⟩::R):=by
 have X:=W.x
 refine⟨?_,λy hy=>?_,λy hy=>?_,W.N1,(keep_grow W.K W.nx.1 U).1⟩
 ·have e:edV (P++⟨{ x.e with out:=o },x.a,x.b,x.c⟩::R)=edV (P++x::R):=by simp[edV,EdS.cells]
  rw[e]
  exact W.B.upd U (buf_off W.B X.a (by decide))
 ·rcases mem_mid hy with rfl|hy
  ·exact⟨B,X.b.upd U (buf_off X.b X.a (by decide)),X.c.upd U (buf_off X.c X.a (by decide))⟩
  ·have Y:=W.T y (mem_mid' hy)
   exact Y.upd U (hp.other hy).1 (buf_off Y.b X.a (by decide)) (buf_off Y.c X.a (by decide))
 ·rcases mem_mid hy with rfl|hy
  ·exact W.nx
  ·exact W.N y (mem_mid' hy)
theorem Ws.setB{h0 h h':Hp}{l1:Sl}{P R:List EdS}{x:EdS}(W:Ws h0 h l1 (P++x::R))(hp:PW (P++x::R))(U:Upd h h' x.b x.b){o:List Placed}(B:Buf h' x.b 7 108 (inV o)):Ws h0 h' l1 (P++⟨{ x.e with inn:=o },x.a,x.b,x.c⟩::R):=by
 have X:=W.x
 refine⟨?_,λy hy=>?_,λy hy=>?_,W.N1,(keep_grow W.K W.nx.2.1 U).1⟩
 ·have e:edV (P++⟨{ x.e with inn:=o },x.a,x.b,x.c⟩::R)=edV (P++x::R):=by simp[edV,EdS.cells]
  rw[e]
  exact W.B.upd U (buf_off W.B X.b (by decide))
 ·rcases mem_mid hy with rfl|hy
  ·exact⟨X.a.upd U (buf_off X.a X.b (by decide)),B,X.c.upd U (buf_off X.c X.b (by decide))⟩
  ·have Y:=W.T y (mem_mid' hy)
   exact Y.upd U (buf_off Y.a X.b (by decide)) (hp.other hy).2.1 (buf_off Y.c X.b (by decide))
 ·rcases mem_mid hy with rfl|hy
  ·exact W.nx
  ·exact W.N y (mem_mid' hy)
theorem Ws.setC{h0 h h':Hp}{l1:Sl}{P R:List EdS}{x:EdS}(W:Ws h0 h l1 (P++x::R))(hp:PW (P++x::R))(U:Upd h h' x.c x.c){o:List ByteArray}(B:Buf h' x.c 1 9 (ptrV o)):Ws h0 h' l1 (P++⟨{ x.e with ptr:=o },x.a,x.b,x.c⟩::R):=by
 have X:=W.x
 refine⟨?_,λy hy=>?_,λy hy=>?_,W.N1,(keep_grow W.K W.nx.2.2 U).1⟩
 ·have e:edV (P++⟨{ x.e with ptr:=o },x.a,x.b,x.c⟩::R)=edV (P++x::R):=by simp[edV,EdS.cells]
  rw[e]
  exact W.B.upd U (buf_off W.B X.c (by decide))
 ·rcases mem_mid hy with rfl|hy
  ·exact⟨X.a.upd U (buf_off X.a X.c (by decide)),X.b.upd U (buf_off X.b X.c (by decide)),B⟩
  ·have Y:=W.T y (mem_mid' hy)
   exact Y.upd U (buf_off Y.a X.c (by decide)) (buf_off Y.b X.c (by decide)) (hp.other hy).2.2
 ·rcases mem_mid hy with rfl|hy
  ·exact W.nx
  ·exact W.N y (mem_mid' hy)
theorem Ws.setL{h0 h h':Hp}{l1:Sl}{P R:List EdS}{x x':EdS}(W:Ws h0 h l1 (P++x::R))(U:Upd h h' l1 l1)(B:Buf h' l1 6 65 (edV (P++x'::R)))(T:Three h x')(N:(x'.a.a=none\/New h0 x'.a)/\(x'.b.a=none\/New h0 x'.b)/\(x'.c.a=none\/New h0 x'.c)):Ws h0 h' l1 (P++x'::R):=by
 have key:∀ y,Three h y->Three h' y:=λy Y=>Y.upd U (buf_off Y.a W.B (by decide)) (buf_off Y.b W.B (by decide)) (buf_off Y.c W.B (by decide))
 refine⟨B,λy hy=>?_,λy hy=>?_,W.N1,(keep_grow W.K W.N1 U).1⟩
 ·rcases mem_mid hy with rfl|hy
  ·exact key _ T
  ·exact key _ (W.T y (mem_mid' hy))
 ·rcases mem_mid hy with rfl|hy
  ·exact N
  ·exact W.N y (mem_mid' hy)
theorem buf_set{h:Hp}{s:Sl}{sz t k:Nat}{vs:List Value}(B:Buf h s sz t vs)(hk:k<vs.length):∃ b,s.a=some ⟨b,0,none⟩/\h.at b k=vs[k]?/\h.canW b k 1/\∀ v,Upd h (h.wr b k [v]) s s/\Buf (h.wr b k [v]) s sz t (vs.set k v):=by
 rcases B.own with⟨ha,hc⟩|⟨b,c,f,ha,hb,hsz,hf,ht⟩
 ·have h1:=B.len
  have h2:=B.cap
  have:s.n=0:=by omega
  rw[this,Nat.zero_mul] at h1
  omega
 ·have hlen:vs.length<=c.size:=by
   rw[B.len]
   exact Nat.le_trans (Nat.mul_le_mul_right _ B.cap) hsz
  have hget:c[k]?=vs[k]?:=by
   rw[<- ht,List.getElem?_take,if_pos hk,Array.getElem?_toList]
  refine⟨b,ha,by unfold Hp.at;rw[hb];exact hget,⟨c,t,f,hb,by omega,λj h1 h2=>hf j (by omega)⟩,λv=>⟨⟨λj x hj e=>?_,.inl rfl,λj e=>?_⟩,⟨by rw[List.length_set];exact B.len,B.cap,.inr ⟨b,(setL c.toList k [v]).toArray,f,ha,wr_at hb,?_,?_,?_⟩⟩⟩⟩
  ·have hjb:j≠b:=λq=>hj 0 (by rw[q];exact ha)
   unfold Hp.wr
   rw[if_neg hjb]
   exact e
  ·unfold Hp.wr at e
   by_cases hjb:j=b
   ·rw[if_pos hjb,hb] at e;cases e
   ·rw[if_neg hjb] at e;exact e
  ·simp only[List.size_toArray,setL_length,Array.length_toList];exact hsz
  ·intro j hj
   simp only[List.size_toArray,setL_length,Array.length_toList] at hj
   exact hf j hj
  ·show((c.toList.set k v).take (vs.set k v).length)=vs.set k v
   rw[List.length_set,List.take_set,ht]
theorem app_set{α:Type}(A B:List α)(j:Nat)(v:α):(A++B).set (A.length+j) v=A++B.set j v:=by
 rw[List.set_append_right _ _ (Nat.le_add_right _ _),Nat.add_sub_cancel_left]
theorem app_get{α:Type}(A B:List α)(j:Nat):(A++B)[A.length+j]?=B[j]?:=by
 rw[List.getElem?_append_right (Nat.le_add_right _ _),Nat.add_sub_cancel_left]
theorem outV_len(o:List Place):(outV o).length=o.length*2:=flat_length Place.cells 2 (λ_=>rfl) o
theorem inV_len(o:List Placed):(inV o).length=o.length*7:=flat_length Placed.cells 7 (λ_=>rfl) o
theorem edV_len(o:List EdS):(edV o).length=o.length*6:=flat_length EdS.cells 6 (λ_=>rfl) o
theorem parts_app(A B:List EdS):parts (A++B)=parts A+parts B:=by simp[parts]
theorem copied_spec{h:Hp}{l:Sl}{L:List EdS}{Q:Value->Hp->Prop}(A:Args h l L)(hp:parts L<=10000)
  (hQ:∀ h' l1 L',Ws h h' l1 L'->PW L'->L'.length=L.length->parts L'<=parts L->(∀ y∈L',Raw y.e/\y.e.size<=10000/\y.e.ptr.length<=10000)->Q (.slice l1.a l1.n l1.c) h'):F18.T l h Q:=by
 have hln:=A.n
 have hpl:=parts_len L
 refine⟨λl1 n h1=>∃ (i:Nat) (L':List EdS),n=(i:Int)/\i<=L.length/\L'.length=i/\parts L'=parts (L.take i)/\Ws h h1 l1 L'/\PW L'/\∀ y∈L',Raw y.e/\y.e.size<=10000/\y.e.ptr.length<=10000,λ_ n _=>L.length-n.toNat,⟨0,[],rfl,Nat.zero_le _,rfl,rfl,⟨Buf.nil h 6 65,λy hy=>(by cases hy),λy hy=>(by cases hy),.inl rfl,Keep.refl h⟩,List.Pairwise.nil,λy hy=>(by cases hy)⟩,?_⟩
 rintro l1 n h1 ⟨i,L',rfl,hi,hL',hpt,W,hpw,hg⟩
 refine⟨λhlt=>?_,λhge=>hQ h1 l1 L' W hpw (by omega) (by rw[hpt,take_of_length_le (by omega)];exact Nat.le_refl _) hg⟩
 have ia:i<L.length:=by omega
 have hx:=List.getElem_mem ia
 have hm:=parts_mem hx
 have E:=(A.at_ _ hx).keep W.K
 obtain⟨b0,o0,ha0,hat⟩:=row_get (W.K.row A.row) (i:=i*6) (by omega)
 have cc:∀ j,j<6->h1.at b0 ((o0+i*6)+j)=(EdS.cells L[i])[j]?:=λj hj=>by
  rw[Nat.add_assoc,hat _ (by omega)]
  exact flat_get EdS.cells 6 (λ_=>rfl) L i j ia hj
 have e1:=E.nout
 have e2:=E.ninn
 have e3:=E.nptr
 have w3:wrap .i64 ((i:Int)+1)=((i+1:Nat):Int):=by rw[wrap_i64 (by omega) (by omega)];omega
 rw[Int.toNat_natCast,w3]
 refine⟨b0,o0,ha0,⟨by omega,hlt⟩,_,cc 0 (by decide),_,cc 1 (by decide),_,cc 2 (by decide),_,cc 3 (by decide),_,cc 4 (by decide),_,cc 5 (by decide),_,E.out,out_one _,?_⟩
 refine append_buf (Buf.nil h1 2 104) rfl E.out.1 (by show(0+_)*16<=_;omega) λl5 h2 B5 n5 U5=>⟨_,(U5.keepNil rfl).row E.inn,in_one _,?_⟩
 have K5:=U5.keepNil rfl
 refine append_buf (Buf.nil h2 7 108) rfl E.inn.1 (by show(0+_)*72<=_;omega) λl6 h3 B6 n6 U6=>?_
 have K6:=U6.keepNil rfl
 have hptr:=(K5.trans K6).row E.ptr
 refine⟨_,by rw[Nat.mul_one];exact hptr,λv hv=>(by obtain⟨s,_,rfl⟩:=List.mem_map.1 hv;rfl),?_⟩
 refine append_buf (Buf.nil h3 1 9) rfl (by rw[Nat.mul_one];exact hptr.1) (by show(0+_)*16<=_;omega) λl7 h4 B7 n7 U7=>?_
 have K7:=U7.keepNil rfl
 have K14:=(K5.trans K6).trans K7
 have hb1:=ed_n W.B
 refine append_buf (W.B.keep K14) rfl rfl (by omega) λl8 h5 B8 n8 U8=>⟨⟨i+1,L'++[⟨L[i].e,l5,l6,l7⟩],rfl,ia,by rw[length_append,hL'];rfl,by rw[parts_app,hpt,List.take_succ_eq_append_getElem ia,parts_app];rfl,?_,?_,?_⟩,by dsimp only;omega⟩
 ·rw[List.nil_append] at B5 B6 B7
  have X:Three h4 ⟨L[i].e,l5,l6,l7⟩:=⟨B5.keep (K6.trans K7),B6.keep K7,B7⟩
  have key:∀ y,Three h4 y->Three h5 y:=λy Y=>Y.upd U8 (buf_off Y.a (W.B.keep K14) (by decide)) (buf_off Y.b (W.B.keep K14) (by decide)) (buf_off Y.c (W.B.keep K14) (by decide))
  have kg:=keep_grow (W.K.trans K14) W.N1 U8
  have nn:∀ {hh hh':Hp} {s:Sl},Keep h hh->Upd hh hh' ⟨none,0,0⟩ s->s.a=none\/New h s:=by
   intro hh hh' s k u
   rcases u.at_ with h0|⟨b,hb,hn⟩
   ·exact .inl h0
   ·exact .inr ⟨b,hb,k.dom b hn⟩
  refine⟨?_,λy hy=>?_,λy hy=>?_,kg.2,kg.1⟩
  ·unfold edV at B8 ⊢
   rw[List.flatMap_append]
   simpa[EdS.cells] using B8
  ·rcases mem_append.1 hy with hy|hy
   ·exact key y ((W.T y hy).keep K14)
   ·rw[mem_singleton] at hy;subst hy;exact key _ X
  ·rcases mem_append.1 hy with hy|hy
   ·exact W.N y hy
   ·rw[mem_singleton] at hy;subst hy
    exact⟨nn W.K U5,nn (W.K.trans K5) U6,nn (W.K.trans (K5.trans K6)) U7⟩
 ·have nn:∀ {hh hh':Hp} {s:Sl},Keep h1 hh->Upd hh hh' ⟨none,0,0⟩ s->s.a=none\/New h1 s:=by
   intro hh hh' s k u
   rcases u.at_ with h0|⟨b,hb,hn⟩
   ·exact .inl h0
   ·exact .inr ⟨b,hb,k.dom b hn⟩
  unfold PW
  rw[List.pairwise_append]
  refine⟨hpw,List.pairwise_singleton _ _,λy hy z hz=>?_⟩
  rw[mem_singleton] at hz
  subst hz
  have Y:=W.T y hy
  have a1:=new_off (nn (Keep.refl h1) U5) Y.a
  have a2:=new_off (nn K5 U6) Y.b
  have a3:=new_off (nn (K5.trans K6) U7) Y.c
  exact⟨⟨a1.1,a2.1,a3.1⟩,⟨a1.2,a2.2,a3.2⟩⟩
 ·intro y hy
  rcases mem_append.1 hy with hy|hy
  ·exact hg y hy
  ·rw[mem_singleton] at hy;subst hy
   exact⟨A.raw L[i] hx,by show L[i].e.out.length+L[i].e.inn.length<=10000;omega,by show L[i].e.ptr.length<=10000;omega⟩
end Go.Eng.YtblghgacokoklaaDoor
end
section
namespace Go.Eng.YtblghgacokoklaaDoor
theorem ed_mid(P R:List EdS)(x:EdS)(j:Nat)(hj:j<6):(edV (P++x::R))[P.length*6+j]?=(EdS.cells x)[j]?:=by
 have e:edV (P++x::R)=edV P++(EdS.cells x++edV R):=by simp[edV]
 rw[e,<- edV_len,app_get,List.getElem?_append_left (by show j<6;exact hj)]
theorem Ws.at_{h0 h:Hp}{l1:Sl}{P R:List EdS}{x:EdS}(W:Ws h0 h l1 (P++x::R)):∃ b o,l1.a=some ⟨b,o,none⟩/\(P.length:Int)<(l1.n:Int)/\∀ j,j<6->h.at b ((o+P.length*6)+j)=(EdS.cells x)[j]?:=by
 have hn:=ed_n W.B
 rw[length_append,length_cons] at hn
 obtain⟨b,o,ha,hat⟩:=row_get W.B.row (i:=P.length*6) (by omega)
 exact⟨b,o,ha,by omega,λj hj=>by rw[Nat.add_assoc,hat _ (by omega),ed_mid P R x j hj]⟩
theorem buf_set2{h:Hp}{s:Sl}{sz t j b:Nat}{A B:List Value}(Bf:Buf h s sz t (A++B))(hj:j<B.length)(hb:s.a=some ⟨b,0,none⟩):h.at b (A.length+j)=B[j]?/\h.canW b (A.length+j) 1/\∀ v,Upd h (h.wr b (A.length+j) [v]) s s/\Buf (h.wr b (A.length+j) [v]) s sz t (A++B.set j v):=by
 obtain⟨b',hb',h1,h2,h3⟩:=buf_set Bf (k:=A.length+j) (by rw[length_append];omega)
 rw[hb] at hb'
 simp only[Option.some.injEq,Addr.mk.injEq,and_true] at hb'
 subst hb'
 refine⟨by rw[h1,app_get],h2,λv=>?_⟩
 have:=h3 v
 rw[app_set] at this
 exact this
theorem buf_b{h:Hp}{s:Sl}{sz t:Nat}{vs:List Value}(B:Buf h s sz t vs)(hk:0<vs.length):∃ b,s.a=some ⟨b,0,none⟩:=by
 obtain⟨b,hb,_⟩:=buf_set B hk
 exact⟨b,hb⟩
theorem right_out{h0 h:Hp}{l1:Sl}{P R:List EdS}{x:EdS}{Rx:Hp->Prop}(W:Ws h0 h l1 (P++x::R))(hp:PW (P++x::R))(hraw:∀ p∈x.e.out,iI p.lv/\okU p.num)(hsz:x.e.out.length<=10000)
  (hR:∀ h' o,Ws h0 h' l1 (P++⟨{ x.e with out:=o },x.a,x.b,x.c⟩::R)->o.length=x.e.out.length->(∀ p∈o,PGood p)->Rx h') :
  ∃ (I1:Int->Hp->Prop) (m1:Int->Hp->Nat),I1 0 h/\(∀ n1:Int,∀ h3:Hp,I1 n1 h3->∃ b o,(l1.a:Option Addr)=some ⟨b,o,none⟩/\((0:Int)<=(P.length:Int)/\(P.length:Int)<(l1.n:Int))/\∃ l2:Sl,h3.at b ((o+(P.length:Int).toNat*6)+3)=some (.slice l2.a l2.n l2.c)/\par (n1<(l2.n:Int)) (∃ b1 o1,(l1.a:Option Addr)=some ⟨b1,o1,none⟩/\((0:Int)<=(P.length:Int)/\(P.length:Int)<(l1.n:Int))/\∃ l3:Sl,h3.at b1 ((o1+(P.length:Int).toNat*6)+3)=some (.slice l3.a l3.n l3.c)/\∃ b2 o2,(l1.a:Option Addr)=some ⟨b2,o2,none⟩/\((0:Int)<=(P.length:Int)/\(P.length:Int)<(l1.n:Int))/\∃ l4:Sl,h3.at b2 ((o2+(P.length:Int).toNat*6)+3)=some (.slice l4.a l4.n l4.c)/\∃ b3 o3,(l4.a:Option Addr)=some ⟨b3,o3,none⟩/\((0:Int)<=n1/\n1<(l4.n:Int))/\∃ n2:Int,h3.at b3 (o3+n1.toNat*2)=some (.int .i64 n2)/\F28.T n2 5 h3 λr1 h4=>∃ n3:Int,r1=.int .i64 n3/\h4.at b1 ((o1+(P.length:Int).toNat*6)+3)=some (.slice l3.a l3.n l3.c)/\∃ b4 o4,(l3.a:Option Addr)=some ⟨b4,o4,none⟩/\((0:Int)<=n1/\n1<(l3.n:Int))/\h4.canW b4 (o4+n1.toNat*2) 1/\I1 (wrap .i64 (n1+1)) (h4.wr b4 (o4+n1.toNat*2) [.int .i64 n3])/\m1 (wrap .i64 (n1+1)) (h4.wr b4 (o4+n1.toNat*2) [.int .i64 n3])<m1 n1 h3) (Rx h3)):=by
 refine⟨λn1 h3=>∃ G S:List Place,n1=(G.length:Int)/\(G++S).length=x.e.out.length/\(∀ p∈G,PGood p)/\(∀ p∈S,iI p.lv/\okU p.num)/\Ws h0 h3 l1 (P++⟨{ x.e with out:=G++S },x.a,x.b,x.c⟩::R),λn1 _=>x.e.out.length-n1.toNat,⟨[],x.e.out,rfl,rfl,λp hp=>(by cases hp),hraw,W⟩,?_⟩
 rintro n1 h3 ⟨G,S,rfl,hlen,hG,hS,W1⟩
 obtain⟨b,o,ha,hn,hat⟩:=W1.at_
 have hc:=hat 3 (by decide)
 have hxa:x.a.n=(G++S).length:=out_n W1.x.a
 rw[Int.toNat_natCast]
 refine⟨b,o,ha,⟨by omega,hn⟩,x.a,hc,λhlt=>?_,λhge=>?_⟩
 ·rcases S with _|⟨p,S⟩
  ·simp only[append_nil] at hxa;omega
  have hpr:=hS p mem_cons_self
  have e0:outV (G++p::S)=outV G++(p.cells++outV S):=by simp[outV]
  have B0:Buf h3 x.a 2 104 (outV G++(p.cells++outV S)):=by rw[<- e0];exact W1.x.a
  obtain⟨b3,hb3⟩:=buf_b B0 (by rw[length_append,length_append];show 0<_+(2+_);omega)
  obtain⟨s1,s2,s3⟩:=buf_set2 B0 (j:=0) (by rw[length_append];show 0<2+_;omega) hb3
  have hA:G.length*2=(outV G).length+0:=by rw[outV_len];rfl
  rw[Int.toNat_natCast,hA]
  rw[length_append,length_cons] at hlen
  refine⟨b,o,ha,⟨by omega,hn⟩,x.a,hc,b,o,ha,⟨by omega,hn⟩,x.a,hc,b3,0,hb3,⟨by omega,hlt⟩,p.lv,by rw[Nat.zero_add];exact s1,?_⟩
  refine place_spec hpr.1 (by decide) λr r0 r5=>⟨r,rfl,hc,b3,0,hb3,⟨by omega,hlt⟩,?_⟩
  have w3:wrap .i64 ((G.length:Int)+1)=((G.length+1:Nat):Int):=by rw[wrap_i64 (by omega) (by omega)];omega
  rw[w3,Nat.zero_add]
  have s4:=s3 (.int .i64 r)
  have e1:outV G++(p.cells++outV S).set 0 (.int .i64 r)=outV ((G++[⟨r,p.num⟩])++S):=by simp[outV,Place.cells]
  rw[e1] at s4
  refine⟨s2,⟨G++[⟨r,p.num⟩],S,by rw[length_append];rfl,by simp only[length_append,length_cons,length_nil];omega,λq hq=>?_,λq hq=>hS q (mem_cons_of_mem _ hq),W1.setA (hp.swap rfl rfl rfl) s4.1 s4.2⟩,by dsimp only;omega⟩
  rcases mem_append.1 hq with hq|hq
  ·exact hG q hq
  ·rw[mem_singleton] at hq;subst hq
   exact⟨r0,by show r<=4;omega,hpr.2⟩
 ·have hS0:S=[]:=by
   rw[length_append] at hxa
   exact List.eq_nil_of_length_eq_zero (by omega)
  subst hS0
  rw[append_nil] at W1 hlen
  exact hR h3 G W1 hlen hG
theorem max0{n:Int}(h:iI n):0<=iMax n 0/\iMax n 0<=9223372036854775807:=by
 have h1:=h.1
 have h2:=h.2
 unfold iMax
 split<;>omega
theorem cut_str(s:ByteArray):okSub s 0 (iMin (s.size:Int) 64)/\(s.extract (0:Int).toNat ((iMin (s.size:Int) 64):Int).toNat).size<=64:=by
 have h1:iMin (s.size:Int) 64=((min s.size 64:Nat):Int):=iMin_nat s.size 64
 rw[h1]
 refine⟨⟨by decide,by omega,by omega⟩,?_⟩
 rw[ByteArray.size_extract,Int.toNat_natCast]
 simp only[Int.toNat_zero]
 omega
theorem right_inn{h0 h:Hp}{l1:Sl}{P R:List EdS}{x:EdS}{Rx:Hp->Prop}(W:Ws h0 h l1 (P++x::R))(hp:PW (P++x::R))(hraw:∀ p∈x.e.inn,iI p.lv/\okU p.num/\iI p.weight/\iI p.bytes/\iI p.entries/\p.least.size<=9223372036854775807/\p.greatest.size<=9223372036854775807)(hsz:x.e.inn.length<=10000)
  (hR:∀ h' o,Ws h0 h' l1 (P++⟨{ x.e with inn:=o },x.a,x.b,x.c⟩::R)->o.length=x.e.inn.length->(∀ p∈o,DGood p)->Rx h') :
  ∃ (I2:Int->Hp->Prop) (m2:Int->Hp->Nat),I2 0 h/\(∀ n4:Int,∀ h5:Hp,I2 n4 h5->∃ b5 o5,(l1.a:Option Addr)=some ⟨b5,o5,none⟩/\((0:Int)<=(P.length:Int)/\(P.length:Int)<(l1.n:Int))/\∃ l5:Sl,h5.at b5 ((o5+(P.length:Int).toNat*6)+4)=some (.slice l5.a l5.n l5.c)/\par (n4<(l5.n:Int)) (∃ b6 o6,(l1.a:Option Addr)=some ⟨b6,o6,none⟩/\((0:Int)<=(P.length:Int)/\(P.length:Int)<(l1.n:Int))/\∃ l6:Sl,h5.at b6 ((o6+(P.length:Int).toNat*6)+4)=some (.slice l6.a l6.n l6.c)/\∃ b7 o7,(l6.a:Option Addr)=some ⟨b7,o7,none⟩/\((0:Int)<=n4/\n4<(l6.n:Int))/\∃ n5:Int,h5.at b7 (o7+n4.toNat*7)=some (.int .i64 n5)/\F28.T n5 5 h5 λr2 h6=>∃ n6:Int,r2=.int .i64 n6/\h6.canW b7 (o7+n4.toNat*7) 1/\∃ n7:Int,(h6.wr b7 (o7+n4.toNat*7) [.int .i64 n6]).at b7 (((o7+n4.toNat*7)+1)+1)=some (.int .i64 n7)/\∃ n8:Int,(h6.wr b7 (o7+n4.toNat*7) [.int .i64 n6]).at b7 (((o7+n4.toNat*7)+1)+2)=some (.int .i64 n8)/\∃ n9:Int,(h6.wr b7 (o7+n4.toNat*7) [.int .i64 n6]).at b7 (((o7+n4.toNat*7)+1)+3)=some (.int .i64 n9)/\(h6.wr b7 (o7+n4.toNat*7) [.int .i64 n6]).canW b7 (((o7+n4.toNat*7)+1)+1) 1/\((h6.wr b7 (o7+n4.toNat*7) [.int .i64 n6]).wr b7 (((o7+n4.toNat*7)+1)+1) [.int .i64 (iMax n7 0)]).canW b7 (((o7+n4.toNat*7)+1)+2) 1/\(((h6.wr b7 (o7+n4.toNat*7) [.int .i64 n6]).wr b7 (((o7+n4.toNat*7)+1)+1) [.int .i64 (iMax n7 0)]).wr b7 (((o7+n4.toNat*7)+1)+2) [.int .i64 (iMax n8 0)]).canW b7 (((o7+n4.toNat*7)+1)+3) 1/\∃ s:ByteArray,((((h6.wr b7 (o7+n4.toNat*7) [.int .i64 n6]).wr b7 (((o7+n4.toNat*7)+1)+1) [.int .i64 (iMax n7 0)]).wr b7 (((o7+n4.toNat*7)+1)+2) [.int .i64 (iMax n8 0)]).wr b7 (((o7+n4.toNat*7)+1)+3) [.int .i64 (iMax n9 0)]).at b7 (((o7+n4.toNat*7)+1)+4)=some (.string s)/\∃ s1:ByteArray,((((h6.wr b7 (o7+n4.toNat*7) [.int .i64 n6]).wr b7 (((o7+n4.toNat*7)+1)+1) [.int .i64 (iMax n7 0)]).wr b7 (((o7+n4.toNat*7)+1)+2) [.int .i64 (iMax n8 0)]).wr b7 (((o7+n4.toNat*7)+1)+3) [.int .i64 (iMax n9 0)]).at b7 (((o7+n4.toNat*7)+1)+4)=some (.string s1)/\okSub s 0 (iMin (s1.size:Int) 64)/\((((h6.wr b7 (o7+n4.toNat*7) [.int .i64 n6]).wr b7 (((o7+n4.toNat*7)+1)+1) [.int .i64 (iMax n7 0)]).wr b7 (((o7+n4.toNat*7)+1)+2) [.int .i64 (iMax n8 0)]).wr b7 (((o7+n4.toNat*7)+1)+3) [.int .i64 (iMax n9 0)]).canW b7 (((o7+n4.toNat*7)+1)+4) 1/\∃ s2:ByteArray,(((((h6.wr b7 (o7+n4.toNat*7) [.int .i64 n6]).wr b7 (((o7+n4.toNat*7)+1)+1) [.int .i64 (iMax n7 0)]).wr b7 (((o7+n4.toNat*7)+1)+2) [.int .i64 (iMax n8 0)]).wr b7 (((o7+n4.toNat*7)+1)+3) [.int .i64 (iMax n9 0)]).wr b7 (((o7+n4.toNat*7)+1)+4) [.string (s.extract (0:Int).toNat ((iMin (s1.size:Int) 64):Int).toNat)]).at b7 (((o7+n4.toNat*7)+1)+5)=some (.string s2)/\∃ s3:ByteArray,(((((h6.wr b7 (o7+n4.toNat*7) [.int .i64 n6]).wr b7 (((o7+n4.toNat*7)+1)+1) [.int .i64 (iMax n7 0)]).wr b7 (((o7+n4.toNat*7)+1)+2) [.int .i64 (iMax n8 0)]).wr b7 (((o7+n4.toNat*7)+1)+3) [.int .i64 (iMax n9 0)]).wr b7 (((o7+n4.toNat*7)+1)+4) [.string (s.extract (0:Int).toNat ((iMin (s1.size:Int) 64):Int).toNat)]).at b7 (((o7+n4.toNat*7)+1)+5)=some (.string s3)/\okSub s2 0 (iMin (s3.size:Int) 64)/\(((((h6.wr b7 (o7+n4.toNat*7) [.int .i64 n6]).wr b7 (((o7+n4.toNat*7)+1)+1) [.int .i64 (iMax n7 0)]).wr b7 (((o7+n4.toNat*7)+1)+2) [.int .i64 (iMax n8 0)]).wr b7 (((o7+n4.toNat*7)+1)+3) [.int .i64 (iMax n9 0)]).wr b7 (((o7+n4.toNat*7)+1)+4) [.string (s.extract (0:Int).toNat ((iMin (s1.size:Int) 64):Int).toNat)]).canW b7 (((o7+n4.toNat*7)+1)+5) 1/\I2 (wrap .i64 (n4+1)) ((((((h6.wr b7 (o7+n4.toNat*7) [.int .i64 n6]).wr b7 (((o7+n4.toNat*7)+1)+1) [.int .i64 (iMax n7 0)]).wr b7 (((o7+n4.toNat*7)+1)+2) [.int .i64 (iMax n8 0)]).wr b7 (((o7+n4.toNat*7)+1)+3) [.int .i64 (iMax n9 0)]).wr b7 (((o7+n4.toNat*7)+1)+4) [.string (s.extract (0:Int).toNat ((iMin (s1.size:Int) 64):Int).toNat)]).wr b7 (((o7+n4.toNat*7)+1)+5) [.string (s2.extract (0:Int).toNat ((iMin (s3.size:Int) 64):Int).toNat)])/\m2 (wrap .i64 (n4+1)) ((((((h6.wr b7 (o7+n4.toNat*7) [.int .i64 n6]).wr b7 (((o7+n4.toNat*7)+1)+1) [.int .i64 (iMax n7 0)]).wr b7 (((o7+n4.toNat*7)+1)+2) [.int .i64 (iMax n8 0)]).wr b7 (((o7+n4.toNat*7)+1)+3) [.int .i64 (iMax n9 0)]).wr b7 (((o7+n4.toNat*7)+1)+4) [.string (s.extract (0:Int).toNat ((iMin (s1.size:Int) 64):Int).toNat)]).wr b7 (((o7+n4.toNat*7)+1)+5) [.string (s2.extract (0:Int).toNat ((iMin (s3.size:Int) 64):Int).toNat)])<m2 n4 h5) (Rx h5)):=by
 refine⟨λn1 h3=>∃ G S:List Placed,n1=(G.length:Int)/\(G++S).length=x.e.inn.length/\(∀ p∈G,DGood p)/\(∀ p∈S,iI p.lv/\okU p.num/\iI p.weight/\iI p.bytes/\iI p.entries/\p.least.size<=9223372036854775807/\p.greatest.size<=9223372036854775807)/\Ws h0 h3 l1 (P++⟨{ x.e with inn:=G++S },x.a,x.b,x.c⟩::R),λn1 _=>x.e.inn.length-n1.toNat,⟨[],x.e.inn,rfl,rfl,λp hp=>(by cases hp),hraw,W⟩,?_⟩
 rintro n1 h3 ⟨G,S,rfl,hlen,hG,hS,W1⟩
 obtain⟨b,o,ha,hn,hat⟩:=W1.at_
 have hc:=hat 4 (by decide)
 have hxa:x.b.n=(G++S).length:=in_n W1.x.b
 rw[Int.toNat_natCast]
 refine⟨b,o,ha,⟨by omega,hn⟩,x.b,hc,λhlt=>?_,λhge=>?_⟩
 ·rcases S with _|⟨p,S⟩
  ·simp only[append_nil] at hxa;omega
  have hpr:=hS p mem_cons_self
  rw[length_append,length_cons] at hlen
  have e0:inV (G++p::S)=inV G++(.int .i64 p.lv::.int .u64 p.num::.int .i64 p.weight::.int .i64 p.bytes::.int .i64 p.entries::.string p.least::.string p.greatest::inV S):=by simp[inV,Placed.cells]
  have B0:Buf h3 x.b 7 108 (inV G++(.int .i64 p.lv::.int .u64 p.num::.int .i64 p.weight::.int .i64 p.bytes::.int .i64 p.entries::.string p.least::.string p.greatest::inV S)):=by rw[<- e0];exact W1.x.b
  obtain⟨b7,hb7⟩:=buf_b B0 (by simp only[length_append,length_cons];omega)
  have hA:G.length*7=(inV G).length:=by rw[inV_len]
  obtain⟨q0,c0,z0⟩:=buf_set2 B0 (j:=0) (Nat.lt_of_lt_of_le (by decide:0<7) (by simp)) hb7
  rw[Int.toNat_natCast,hA]
  refine⟨b,o,ha,⟨by omega,hn⟩,x.b,hc,b7,0,hb7,⟨by omega,hlt⟩,p.lv,by rw[Nat.zero_add];exact q0,?_⟩
  refine place_spec hpr.1 (by decide) λr r0 r5=>⟨r,rfl,?_⟩
  have w3:wrap .i64 ((G.length:Int)+1)=((G.length+1:Nat):Int):=by rw[wrap_i64 (by omega) (by omega)];omega
  rw[w3,Nat.zero_add]
  have B1:=(z0 (.int .i64 r)).2
  simp only[List.set_cons_zero] at B1
  obtain⟨q2,c2,z2⟩:=buf_set2 B1 (j:=2) (Nat.lt_of_lt_of_le (by decide:2<7) (by simp)) hb7
  obtain⟨q3,_,_⟩:=buf_set2 B1 (j:=3) (Nat.lt_of_lt_of_le (by decide:3<7) (by simp)) hb7
  obtain⟨q4,_,_⟩:=buf_set2 B1 (j:=4) (Nat.lt_of_lt_of_le (by decide:4<7) (by simp)) hb7
  have B2:=(z2 (.int .i64 (iMax p.weight 0))).2
  simp only[List.set_cons_zero,List.set_cons_succ] at B2
  obtain⟨_,c3,z3⟩:=buf_set2 B2 (j:=3) (Nat.lt_of_lt_of_le (by decide:3<7) (by simp)) hb7
  have B3:=(z3 (.int .i64 (iMax p.bytes 0))).2
  simp only[List.set_cons_zero,List.set_cons_succ] at B3
  obtain⟨_,c4,z4⟩:=buf_set2 B3 (j:=4) (Nat.lt_of_lt_of_le (by decide:4<7) (by simp)) hb7
  have B4:=(z4 (.int .i64 (iMax p.entries 0))).2
  simp only[List.set_cons_zero,List.set_cons_succ] at B4
  obtain⟨q5,c5,z5⟩:=buf_set2 B4 (j:=5) (Nat.lt_of_lt_of_le (by decide:5<7) (by simp)) hb7
  have k1:=cut_str p.least
  have k2:=cut_str p.greatest
  have B5:=(z5 (.string (p.least.extract (0:Int).toNat ((iMin (p.least.size:Int) 64):Int).toNat))).2
  simp only[List.set_cons_zero,List.set_cons_succ] at B5
  obtain⟨q6,c6,z6⟩:=buf_set2 B5 (j:=6) (Nat.lt_of_lt_of_le (by decide:6<7) (by simp)) hb7
  have B6:=(z6 (.string (p.greatest.extract (0:Int).toNat ((iMin (p.greatest.size:Int) 64):Int).toNat))).2
  simp only[List.set_cons_zero,List.set_cons_succ] at B6
  have U6:=(((((z0 (.int .i64 r)).1.trans (z2 (.int .i64 (iMax p.weight 0))).1).trans (z3 (.int .i64 (iMax p.bytes 0))).1).trans (z4 (.int .i64 (iMax p.entries 0))).1).trans (z5 (.string (p.least.extract (0:Int).toNat ((iMin (p.least.size:Int) 64):Int).toNat))).1).trans (z6 (.string (p.greatest.extract (0:Int).toNat ((iMin (p.greatest.size:Int) 64):Int).toNat))).1
  have e6:inV G++(.int .i64 r::.int .u64 p.num::.int .i64 (iMax p.weight 0)::.int .i64 (iMax p.bytes 0)::.int .i64 (iMax p.entries 0)::.string (p.least.extract (0:Int).toNat ((iMin (p.least.size:Int) 64):Int).toNat)::.string (p.greatest.extract (0:Int).toNat ((iMin (p.greatest.size:Int) 64):Int).toNat)::inV S)=inV ((G++[⟨r,p.num,iMax p.weight 0,iMax p.bytes 0,iMax p.entries 0,p.least.extract (0:Int).toNat ((iMin (p.least.size:Int) 64):Int).toNat,p.greatest.extract (0:Int).toNat ((iMin (p.greatest.size:Int) 64):Int).toNat⟩])++S):=by simp[inV,Placed.cells]
  rw[e6] at B6
  refine⟨c0,p.weight,q2,p.bytes,q3,p.entries,q4,c2,c3,c4,p.least,q5,p.least,q5,k1.1,c5,p.greatest,q6,p.greatest,q6,k2.1,c6,⟨G++[⟨r,p.num,iMax p.weight 0,iMax p.bytes 0,iMax p.entries 0,p.least.extract (0:Int).toNat ((iMin (p.least.size:Int) 64):Int).toNat,p.greatest.extract (0:Int).toNat ((iMin (p.greatest.size:Int) 64):Int).toNat⟩],S,by rw[length_append];rfl,by simp only[length_append,length_cons,length_nil];omega,λq hq=>?_,λq hq=>hS q (mem_cons_of_mem _ hq),W1.setB (hp.swap rfl rfl rfl) U6 B6⟩,by dsimp only;omega⟩
  rcases mem_append.1 hq with hq|hq
  ·exact hG q hq
  ·rw[mem_singleton] at hq;subst hq
   obtain⟨f1,f2,f3,f4,f5,f6,f7⟩:=hpr
   exact⟨r0,by show r<=4;omega,f2,(max0 f3).1,(max0 f3).2,(max0 f4).1,(max0 f4).2,(max0 f5).1,(max0 f5).2,k1.2,k2.2⟩
 ·have hS0:S=[]:=by
   rw[length_append] at hxa
   exact List.eq_nil_of_length_eq_zero (by omega)
  subst hS0
  rw[append_nil] at W1 hlen
  exact hR h3 G W1 hlen hG
end Go.Eng.YtblghgacokoklaaDoor
end
section
namespace Go.Eng.YtblghgacokoklaaDoor
theorem right_ptr{h0 h:Hp}{l1:Sl}{P R:List EdS}{x:EdS}{Rx:Hp->Prop}(W:Ws h0 h l1 (P++x::R))(hp:PW (P++x::R))(hsz:x.e.ptr.length<=10000)
  (hR:∀ h' o,Ws h0 h' l1 (P++⟨{ x.e with ptr:=o },x.a,x.b,x.c⟩::R)->o.length=x.e.ptr.length->(∀ p∈o,p.size<=64)->Rx h') :
  ∃ (I3:Int->Hp->Prop) (m3:Int->Hp->Nat),I3 0 h/\(∀ n10:Int,∀ h7:Hp,I3 n10 h7->∃ b11 o11,(l1.a:Option Addr)=some ⟨b11,o11,none⟩/\((0:Int)<=(P.length:Int)/\(P.length:Int)<(l1.n:Int))/\∃ l9:Sl,h7.at b11 ((o11+(P.length:Int).toNat*6)+5)=some (.slice l9.a l9.n l9.c)/\par (n10<(l9.n:Int)) (∃ b12 o12,(l1.a:Option Addr)=some ⟨b12,o12,none⟩/\((0:Int)<=(P.length:Int)/\(P.length:Int)<(l1.n:Int))/\∃ l10:Sl,h7.at b12 ((o12+(P.length:Int).toNat*6)+5)=some (.slice l10.a l10.n l10.c)/\∃ b13 o13,(l1.a:Option Addr)=some ⟨b13,o13,none⟩/\((0:Int)<=(P.length:Int)/\(P.length:Int)<(l1.n:Int))/\∃ l11:Sl,h7.at b13 ((o13+(P.length:Int).toNat*6)+5)=some (.slice l11.a l11.n l11.c)/\∃ b14 o14,(l11.a:Option Addr)=some ⟨b14,o14,none⟩/\((0:Int)<=n10/\n10<(l11.n:Int))/\∃ s4:ByteArray,h7.at b14 (o14+n10.toNat)=some (.string s4)/\∃ b15 o15,(l1.a:Option Addr)=some ⟨b15,o15,none⟩/\((0:Int)<=(P.length:Int)/\(P.length:Int)<(l1.n:Int))/\∃ l12:Sl,h7.at b15 ((o15+(P.length:Int).toNat*6)+5)=some (.slice l12.a l12.n l12.c)/\∃ b16 o16,(l12.a:Option Addr)=some ⟨b16,o16,none⟩/\((0:Int)<=n10/\n10<(l12.n:Int))/\∃ s5:ByteArray,h7.at b16 (o16+n10.toNat)=some (.string s5)/\okSub s4 0 (iMin (s5.size:Int) 64)/\∃ b17 o17,(l10.a:Option Addr)=some ⟨b17,o17,none⟩/\((0:Int)<=n10/\n10<(l10.n:Int))/\h7.canW b17 (o17+n10.toNat) 1/\I3 (wrap .i64 (n10+1)) (h7.wr b17 (o17+n10.toNat) [.string (s4.extract (0:Int).toNat ((iMin (s5.size:Int) 64):Int).toNat)])/\m3 (wrap .i64 (n10+1)) (h7.wr b17 (o17+n10.toNat) [.string (s4.extract (0:Int).toNat ((iMin (s5.size:Int) 64):Int).toNat)])<m3 n10 h7) (Rx h7)):=by
 refine⟨λn1 h3=>∃ G S:List ByteArray,n1=(G.length:Int)/\(G++S).length=x.e.ptr.length/\(∀ p∈G,p.size<=64)/\Ws h0 h3 l1 (P++⟨{ x.e with ptr:=G++S },x.a,x.b,x.c⟩::R),λn1 _=>x.e.ptr.length-n1.toNat,⟨[],x.e.ptr,rfl,rfl,λp hp=>(by cases hp),W⟩,?_⟩
 rintro n1 h3 ⟨G,S,rfl,hlen,hG,W1⟩
 obtain⟨b,o,ha,hn,hat⟩:=W1.at_
 have hc:=hat 5 (by decide)
 have hxa:x.c.n=(G++S).length:=pt_n W1.x.c
 rw[Int.toNat_natCast]
 refine⟨b,o,ha,⟨by omega,hn⟩,x.c,hc,λhlt=>?_,λhge=>?_⟩
 ·rcases S with _|⟨p,S⟩
  ·simp only[append_nil] at hxa;omega
  rw[length_append,length_cons] at hlen
  have e0:ptrV (G++p::S)=ptrV G++(.string p::ptrV S):=by simp[ptrV]
  have B0:Buf h3 x.c 1 9 (ptrV G++(.string p::ptrV S)):=by rw[<- e0];exact W1.x.c
  obtain⟨b7,hb7⟩:=buf_b B0 (by simp only[length_append,length_cons];omega)
  have hA:G.length=(ptrV G).length:=(length_map _).symm
  obtain⟨q0,c0,z0⟩:=buf_set2 B0 (j:=0) (by simp only[length_cons];omega) hb7
  have k1:=cut_str p
  have z1:=z0 (.string (p.extract (0:Int).toNat ((iMin (p.size:Int) 64):Int).toNat))
  simp only[List.set_cons_zero] at z1
  have e6:ptrV G++(.string (p.extract (0:Int).toNat ((iMin (p.size:Int) 64):Int).toNat)::ptrV S)=ptrV ((G++[p.extract (0:Int).toNat ((iMin (p.size:Int) 64):Int).toNat])++S):=by simp[ptrV]
  rw[e6] at z1
  have w3:wrap .i64 ((G.length:Int)+1)=((G.length+1:Nat):Int):=by rw[wrap_i64 (by omega) (by omega)];omega
  have q1:h3.at b7 (0+((G.length:Int)).toNat)=some (.string p):=by rw[Int.toNat_natCast,Nat.zero_add,hA];exact q0
  refine⟨b,o,ha,⟨by omega,hn⟩,x.c,hc,b,o,ha,⟨by omega,hn⟩,x.c,hc,b7,0,hb7,⟨by omega,hlt⟩,p,q1,b,o,ha,⟨by omega,hn⟩,x.c,hc,b7,0,hb7,⟨by omega,hlt⟩,p,q1,k1.1,b7,0,hb7,⟨by omega,hlt⟩,?_⟩
  rw[w3,Int.toNat_natCast,Nat.zero_add,hA]
  refine⟨c0,⟨G++[p.extract (0:Int).toNat ((iMin (p.size:Int) 64):Int).toNat],S,by rw[length_append,hA];rfl,by simp only[length_append,length_cons,length_nil];omega,λq hq=>?_,W1.setC (hp.swap rfl rfl rfl) z1.1 z1.2⟩,by dsimp only;omega⟩
  rcases mem_append.1 hq with hq|hq
  ·exact hG q hq
  ·rw[mem_singleton] at hq;subst hq
   exact k1.2
 ·have hS0:S=[]:=by
   rw[length_append] at hxa
   exact List.eq_nil_of_length_eq_zero (by omega)
  subst hS0
  rw[append_nil] at W1 hlen
  exact hR h3 G W1 hlen hG
theorem cut_a(s:Sl)(k m:Int){sz:Nat}:(Sl.cut s sz 0 k m).a=s.a:=by
 unfold Sl.cut
 simp only[Int.toNat_zero,Nat.zero_mul]
 split
 ·rfl
 ·cases s.a with
  |none=>rfl
  |some a=>simp[Addr.add]
theorem buf_cut{h:Hp}{s:Sl}{t:Nat}{vs:List Value}(B:Buf h s 1 t vs){k:Nat}(hk:k<=s.n):Buf h (Sl.cut s 1 0 (k:Int) (s.c:Int)) 1 t (vs.take k):=by
 have hn:(Sl.cut s 1 0 (k:Int) (s.c:Int)).n=k:=by simp[Sl.cut]
 have hc:(Sl.cut s 1 0 (k:Int) (s.c:Int)).c=s.c:=by simp[Sl.cut]
 have hl:=B.len
 have hcap:=B.cap
 refine⟨by rw[hn,length_take];omega,by rw[hn,hc];omega,?_⟩
 rw[cut_a,hc]
 rcases B.own with h0|⟨b,c,f,ha,hb,hsz,hf,ht⟩
 ·exact .inl h0
 ·refine .inr ⟨b,c,f,ha,hb,hsz,hf,?_⟩
  rw[length_take,<- ht,List.take_take]
  congr 1
  rw[ht]
theorem right_spec {h : Hp} {l : Sl} {L : List EdS} {Q : Value → Hp → Prop} (A : Args h l L) (hparts : parts L ≤ 10000)
    (hQ : ∀ h' l1 L', Ws h h' l1 L' → L'.length ≤ 10000 → parts L' ≤ 10000 → (∀ y ∈ L', Good y.e ∧ y.e.size ≤ 10000) → Q (.slice l1.a l1.n l1.c) h') : F30.T l h Q := by
  unfold F30.T F30.G
  have hpl := parts_len L
  refine copied_spec A hparts fun h1 l1 L0 W0 hp0 hl0 hq0 hg0 => ⟨l1, rfl, ?_⟩
  refine ⟨fun n h2 => ∃ P R : List EdS, n = (P.length : Int) ∧ (P ++ R).length = L.length ∧ Ws h h2 l1 (P ++ R) ∧ PW (P ++ R) ∧ parts (P ++ R) ≤ 10000 ∧ (∀ y ∈ P, Good y.e ∧ y.e.size ≤ 10000) ∧ ∀ y ∈ R, Raw y.e ∧ y.e.size ≤ 10000 ∧ y.e.ptr.length ≤ 10000, fun n _ => L.length - n.toNat, ⟨[], L0, rfl, hl0, W0, hp0, Nat.le_trans hq0 hparts, fun y hy => (by cases hy), hg0⟩, ?_⟩
  rintro n h2 ⟨P, R, rfl, hlen, W, hp, hq, hP, hR⟩
  have hn1 := ed_n W.B
  refine ⟨fun hlt => ?_, fun hge => ?_⟩
  · rcases R with _ | ⟨x, R⟩
    · simp only [List.append_nil] at hn1; omega
    obtain ⟨xr, xs, xp⟩ := hR x List.mem_cons_self
    have xs1 : x.e.out.length + x.e.inn.length ≤ 10000 := xs
    refine right_out W hp xr.out (by omega) fun h3 o3 W3 hl3 hg3 => ?_
    have hp3 : PW (P ++ (⟨{ x.e with out := o3 }, x.a, x.b, x.c⟩ : EdS) :: R) := hp.swap rfl rfl rfl
    refine right_inn W3 hp3 xr.inn (by show x.e.inn.length ≤ 10000; omega) fun h5 o5 W5 hl5 hg5 => ?_
    have hp5 : PW (P ++ (⟨{ ({ x.e with out := o3 } : Edit) with inn := o5 }, x.a, x.b, x.c⟩ : EdS) :: R) := hp.swap rfl rfl rfl
    obtain ⟨b, o, ha, hn, hat⟩ := W5.at_
    have hc := hat 5 (by decide)
    have X5 := W5.x
    have hxc : x.c.n = x.e.ptr.length := pt_n X5.c
    have hcap : x.c.n ≤ x.c.c := X5.c.cap
    have k5 : iMin (x.c.n : Int) 5 = ((min x.c.n 5 : Nat) : Int) := iMin_nat x.c.n 5
    have hlen5 : (edV (P ++ (⟨{ ({ x.e with out := o3 } : Edit) with inn := o5 }, x.a, x.b, x.c⟩ : EdS) :: R)).length = (P.length + (R.length + 1)) * 6 := by rw [edV_len, List.length_append, List.length_cons]
    obtain ⟨b10, hb10, _, hcan, hset⟩ := buf_set W5.B (k := P.length * 6 + 5) (by rw [hlen5]; omega)
    rw [Int.toNat_natCast]
    refine ⟨b, o, ha, ⟨by omega, hn⟩, x.c, hc, b, o, ha, ⟨by omega, hn⟩, x.c, hc, by rw [k5]; exact ⟨by decide, by omega, by omega, by omega⟩, b10, 0, hb10, ⟨by omega, hn⟩, by rw [Nat.zero_add]; exact hcan, ?_⟩
    rw [k5, Nat.zero_add]
    have hs := hset (.slice (Sl.cut x.c 1 0 ((min x.c.n 5 : Nat) : Int) (x.c.c : Int)).a (Sl.cut x.c 1 0 ((min x.c.n 5 : Nat) : Int) (x.c.c : Int)).n (Sl.cut x.c 1 0 ((min x.c.n 5 : Nat) : Int) (x.c.c : Int)).c)
    let x6 : EdS := ⟨{ ({ ({ x.e with out := o3 } : Edit) with inn := o5 } : Edit) with ptr := x.e.ptr.take (min x.c.n 5) }, x.a, x.b, Sl.cut x.c 1 0 ((min x.c.n 5 : Nat) : Int) (x.c.c : Int)⟩
    have e6 : (edV (P ++ (⟨{ ({ x.e with out := o3 } : Edit) with inn := o5 }, x.a, x.b, x.c⟩ : EdS) :: R)).set (P.length * 6 + 5) (.slice (Sl.cut x.c 1 0 ((min x.c.n 5 : Nat) : Int) (x.c.c : Int)).a (Sl.cut x.c 1 0 ((min x.c.n 5 : Nat) : Int) (x.c.c : Int)).n (Sl.cut x.c 1 0 ((min x.c.n 5 : Nat) : Int) (x.c.c : Int)).c) = edV (P ++ x6 :: R) := by
      have e1 : ∀ y : EdS, edV (P ++ y :: R) = edV P ++ (EdS.cells y ++ edV R) := fun y => by simp [edV]
      rw [e1, e1, ← edV_len, app_set]
      rfl
    rw [e6] at hs
    have T6 : Three h5 x6 := ⟨X5.a, X5.b, by
      have := buf_cut X5.c (k := min x.c.n 5) (by show min x.c.n 5 ≤ x.c.n; omega)
      have e : (ptrV x.e.ptr).take (min x.c.n 5) = ptrV (x.e.ptr.take (min x.c.n 5)) := by unfold ptrV; rw [List.map_take]
      show Buf h5 (Sl.cut x.c 1 0 ((min x.c.n 5 : Nat) : Int) (x.c.c : Int)) 1 9 (ptrV (x.e.ptr.take (min x.c.n 5)))
      rw [← e]
      exact this⟩
    have N5 := W5.nx
    have N6 : (x6.a.a = none ∨ New h x6.a) ∧ (x6.b.a = none ∨ New h x6.b) ∧ (x6.c.a = none ∨ New h x6.c) := by
      refine ⟨N5.1, N5.2.1, ?_⟩
      have := N5.2.2
      unfold New at this ⊢
      rw [show x6.c.a = x.c.a from cut_a _ _ _]
      exact this
    have W6 := W5.setL hs.1 hs.2 T6 N6
    have hp6 : PW (P ++ x6 :: R) := hp.swap rfl rfl (cut_a _ _ _)
    have hl6 : x6.e.ptr.length ≤ 5 := by
      show (x.e.ptr.take (min x.c.n 5)).length ≤ 5
      rw [List.length_take]; omega
    have w3 : IntKind.wrap .i64 ((P.length : Int) + 1) = ((P.length + 1 : Nat) : Int) := by
      rw [List.length_append, List.length_cons] at hlen
      rw [wrap_i64 (by omega) (by omega)]; omega
    have rp := right_ptr (Rx := fun h7 => (∃ P' R' : List EdS, ((P.length + 1 : Nat) : Int) = (P'.length : Int) ∧ (P' ++ R').length = L.length ∧ Ws h h7 l1 (P' ++ R') ∧ PW (P' ++ R') ∧ parts (P' ++ R') ≤ 10000 ∧ (∀ y ∈ P', Good y.e ∧ y.e.size ≤ 10000) ∧ ∀ y ∈ R', Raw y.e ∧ y.e.size ≤ 10000 ∧ y.e.ptr.length ≤ 10000) ∧ L.length - ((P.length + 1 : Nat) : Int).toNat < L.length - ((P.length : Int)).toNat) W6 hp6 (by omega) (fun h7 o7 W7 hl7 hg7 => ?_)
    · rw [w3]
      rw [Int.toNat_natCast] at rp
      exact rp
    · rw [List.length_append, List.length_cons] at hlen
      refine ⟨⟨P ++ [⟨{ x6.e with ptr := o7 }, x6.a, x6.b, x6.c⟩], R, by rw [List.length_append]; rfl, by simp only [List.length_append, List.length_cons, List.length_nil]; omega, by rw [List.append_assoc]; exact W7, by rw [List.append_assoc]; exact hp6.swap rfl rfl rfl, ?_, fun y hy => ?_, fun y hy => hR y (List.mem_cons_of_mem _ hy)⟩, by omega⟩
      · have hl5' : o5.length = x.e.inn.length := hl5
        have hl7' : o7.length = (x.e.ptr.take (min x.c.n 5)).length := hl7
        rw [List.length_take] at hl7'
        rw [List.append_assoc, parts_app, List.singleton_append, parts_cons]
        rw [parts_app, parts_cons] at hq
        show parts P + (1 + o3.length + o5.length + o7.length + parts R) ≤ 10000
        omega
      rcases List.mem_append.1 hy with hy | hy
      · exact hP y hy
      · rw [List.mem_singleton] at hy
        subst hy
        exact ⟨⟨xr.log, xr.next, xr.seq, hg3, hg5, hg7, by show o7.length ≤ 5; omega⟩, by show o3.length + o5.length ≤ 10000; have hl5' : o5.length = x.e.inn.length := hl5
                                                                                          omega⟩
  · have hR0 : R = [] := by
      rw [List.length_append] at hn1 hlen
      exact List.eq_nil_of_length_eq_zero (by omega)
    subst hR0
    rw [List.append_nil] at W hlen hq
    exact hQ h2 l1 P W (by omega) hq hP
end Go.Eng.YtblghgacokoklaaDoor
end
section
namespace Go.Eng.YtblghgacokoklaaDoor
theorem cutR{h:Hp}{s:Sl}{sz i j m:Nat}{vs:List Value}(hr:h.row s.a (s.n*sz) vs)(hi:i<=j)(hj:j<=s.n)(hm:j<=m) :
  h.row (Sl.cut s sz (i:Int) (j:Int) (m:Int)).a ((Sl.cut s sz (i:Int) (j:Int) (m:Int)).n*sz) ((vs.drop (i*sz)).take ((j-i)*sz)):=by
 have h2:(j-i)*sz<=s.n*sz-i*sz:=by rw[<- Nat.sub_mul];exact Nat.mul_le_mul_right _ (by omega)
 have h1:=row_take (row_drop hr (k:=i*sz) (Nat.mul_le_mul_right _ (by omega))) (k:=(j-i)*sz) h2
 have hn:(Sl.cut s sz (i:Int) (j:Int) (m:Int)).n=j-i:=by simp[Sl.cut]
 rw[hn]
 refine row_congr h1 ?_
 unfold Sl.cut
 simp only[Int.toNat_natCast]
 by_cases hmi:m=i
 ·left;rw[show j-i=0 by omega,Nat.zero_mul]
 ·right;rw[if_neg hmi]
theorem put_spec'{h:Hp}{e:Edit}{l l1 l2:Sl}{Q:Value->Hp->Prop}(E:EdAt h e l l1 l2)(c1:l.n<=l.c)(c2:l1.n<=l1.c)(V:e.valid)(n1:e.out.length+e.inn.length<=1000000000000)(n3:e.ptr.length<9223372036854775807)
  (hQ:∀ r h' ss,Buf h' r 1 23 (slV ss)->RowsAt h' ss (putS e)->(∀ s∈ss,s.a=none\/New h s)->Keep h h'->(r.a=none\/New h r)->Q (.slice r.a r.n r.c) h'):F21.T e.log e.next e.seq l l1 l2 h Q:=by
 unfold F21.T
 refine tells_spec E (by omega) (by omega) n3 ⟨e.told,rfl,λht=>?_,λhf=>?_⟩
 ·have T:=told_spec V ht
  refine⟨λl3 x y z l4 l5 l6 h2=>x=e.log/\y=e.next/\z=e.seq/\l6=l2/\∃ f e' ss done,e'.log=e.log/\e'.next=e.next/\e'.seq=e.seq/\e'.ptr=e.ptr/\Told e'/\EdAt h e' l4 l5 l2/\l4.n<=l4.c/\l5.n<=l5.c/\Buf h2 l3 1 23 (slV ss)/\RowsAt h2 ss done/\(∀ s∈ss,s.a=none\/New h s)/\done++putF f e'=putS e/\e'.out.length+e'.inn.length<f/\Keep h h2/\(l3.a=none\/New h l3)/\done.length+(e'.out.length+e'.inn.length)<=e.out.length+e.inn.length,
   λ_ _ _ _ l4 l5 _ _=>l4.n+l5.n,⟨rfl,rfl,rfl,rfl,e.out.length+e.inn.length+1,e,[],[],rfl,rfl,rfl,rfl,T,E,c1,c2,Buf.nil h 1 23,RowsAt.nil h,λs hs=>(by cases hs),by unfold putS;rw[if_pos ht];rfl,by omega,Keep.refl h,.inl rfl,by simp⟩,?_⟩
  rintro l3 x y z l4 l5 l6 h2 ⟨rfl,rfl,rfl,rfl,f,e',ss,done,g1,g2,g3,g4,T',E',d1,d2,B,R,hNs,hput,hfuel,K,hN,hcnt⟩
  have k1:iMin (l4.n:Int) 256=((min l4.n 256:Nat):Int):=iMin_nat l4.n 256
  have kw:wrap .i64 (256-((min l4.n 256:Nat):Int))=((256-min l4.n 256:Nat):Int):=by rw[wrap_i64 (by omega) (by omega)];omega
  have k2:iMin (l5.n:Int) ((256-min l4.n 256:Nat):Int)=((min l5.n (256-min l4.n 256):Nat):Int):=iMin_nat _ _
  rw[k1,kw,k2]
  have Ef:=ed_front E'
  have Eb:=ed_behind E' d1 d2
  have no:=Eb.nout
  have ni:=Eb.ninn
  have n4:=E'.nout
  have n5:=E'.ninn
  have q4:(Sl.cut l4 2 ((min l4.n 256:Nat):Int) (l4.n:Int) (l4.c:Int)).n=l4.n-min l4.n 256:=by simp[Sl.cut]
  have q5:(Sl.cut l5 7 ((min l5.n (256-min l4.n 256):Nat):Int) (l5.n:Int) (l5.c:Int)).n=l5.n-min l5.n (256-min l4.n 256):=by simp[Sl.cut]
  have p4:(Sl.cut l4 2 ((min l4.n 256:Nat):Int) (l4.n:Int) (l4.c:Int)).c=l4.c-min l4.n 256:=by simp[Sl.cut]
  have p5:(Sl.cut l5 7 ((min l5.n (256-min l4.n 256):Nat):Int) (l5.n:Int) (l5.c:Int)).c=l5.c-min l5.n (256-min l4.n 256):=by simp[Sl.cut]
  have S:=T'.small (by rw[g1];exact V.log) (by rw[g2];exact V.next) (by rw[g3];exact V.seq)
  obtain⟨f,rfl⟩:∃ g,f=g+1:=⟨f-1,by omega⟩
  have hss:l3.n=ss.length:=by have:=B.len;rw[slV_length] at this;omega
  have hdn:ss.length=done.length:=R.1
  refine⟨⟨by omega,by omega,by omega,by omega⟩,⟨by omega,by omega,by omega,by omega⟩,⟨by omega,by omega,by omega,by omega⟩,⟨by omega,by omega,by omega,by omega⟩,λhz=>?_,λhz=>?_⟩
  ·have hz':(behind e').out.length+(behind e').inn.length=0:=by
    rw[wrap_i64 (by omega) (by omega)] at hz
    omega
   refine record_t' (e:=front e') g1 g2 g3 (Ef.keep K) S λr h3 B3 K3 N3=>⟨r,rfl,?_⟩
   refine append_buf (B.keep K3) rfl rfl (by omega) λs' h4 B4 hn4 U4=>?_
   have hNs':∀ s∈ss++[r],s.a=none\/New h s:=λs hs=>by
    rcases mem_append.1 hs with hs|hs
    ·exact hNs s hs
    ·rw[mem_singleton] at hs;subst hs;exact new_mono K (.inr N3)
   obtain⟨K4,N4⟩:=keep_grow (K.trans K3) hN U4
   refine hQ s' h4 (ss++[r]) (by simpa[slV] using B4) ?_ hNs' K4 N4
   rw[<- hput]
   unfold putF
   rw[if_pos hz']
   exact RowsAt.snoc ((R.keep K3).upd U4 (B.keep K3) (by decide)) (B3.upd U4 (buf_off B3 (B.keep K3) (by decide)))
  ·have hz':¬ (behind e').out.length+(behind e').inn.length=0:=by
    rw[wrap_i64 (by omega) (by omega)] at hz
    omega
   refine record_f' (e:={ front e' with ptr:=[] }) g1 g2 g3 (EdAt.keep K ⟨Ef.out,Ef.inn,⟨rfl,.inl rfl⟩⟩) S.noptr λr h3 B3 K3 N3=>⟨r,rfl,?_⟩
   refine append_buf (B.keep K3) rfl rfl (by omega) λs' h4 B4 hn4 U4=>?_
   have hNs':∀ s∈ss++[r],s.a=none\/New h s:=λs hs=>by
    rcases mem_append.1 hs with hs|hs
    ·exact hNs s hs
    ·rw[mem_singleton] at hs;subst hs;exact new_mono K (.inr N3)
   obtain⟨K4,N4⟩:=keep_grow (K.trans K3) hN U4
   refine⟨⟨rfl,rfl,rfl,rfl,f,behind e',ss++[r],done++[recB { front e' with ptr:=[] } false],g1,g2,g3,g4,T'.behind,Eb,by omega,by omega,by simpa[slV] using B4,?_,hNs',?_,by omega,K4,N4,?_⟩,by dsimp only;omega⟩
   ·exact RowsAt.snoc ((R.keep K3).upd U4 (B.keep K3) (by decide)) (B3.upd U4 (buf_off B3 (B.keep K3) (by decide)))
   ·rw[<- hput]
    conv=>rhs;unfold putF
    rw[if_neg hz',List.append_assoc]
    rfl
   ·rw[length_append,length_singleton];omega
 ·refine hQ ⟨none,0,0⟩ h [] (Buf.nil h 1 23) ?_ (λs hs=>(by cases hs)) (Keep.refl h) (.inl rfl)
  have:putS e=[]:=by unfold putS;rw[if_neg (by rw[hf];decide)]
  rw[this]
  exact RowsAt.nil h
end Go.Eng.YtblghgacokoklaaDoor
end
