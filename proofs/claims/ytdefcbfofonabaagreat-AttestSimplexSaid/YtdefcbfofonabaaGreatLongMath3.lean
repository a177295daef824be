/- Long division of limbs: one guess over a window, the loop's invariant. No program in sight. -/
import Derived.Test.YtdefcbfofonabaaGreatLongMath
import Derived.Test.YtdefcbfofonabaaGreatNatMath
import Derived.Test.YtdefcbfofonabaaGreatShelf
import Derived.Lib.BitFns
namespace Go.Proofs.YtdefcbfofonabaaGreat
set_option linter.unusedVariables false
set_option linter.unusedSimpArgs false
theorem lv_top1 (l:List Nat) (hs:small l) (k:Nat) (h:l.length=k+1):lv l=l.getD k 0*2 ^ (32*k)+lv (l.take k)∧lv (l.take k)<2 ^ (32*k):=by
 have h1:=lv_takeD l k (by omega);rw [List.take_of_length_le (by omega)] at h1;have h2:=lv_lt (l.take k) (small_take hs k);rw [List.length_take,Nat.min_eq_left (by omega)] at h2;refine ⟨?_,h2⟩;rw [h1,Nat.mul_comm (l.getD k 0)];omega
theorem lv_top2 (l:List Nat) (hs:small l) (k:Nat) (h:l.length=k+2):lv l=(l.getD (k+1) 0*4294967296+l.getD k 0)*2 ^ (32*k)+lv (l.take k)∧lv (l.take k)<2 ^ (32*k):=by
 have h1:=(lv_top1 l hs (k+1) h).1;have h2:=lv_takeD l k (by omega);have h3:=lv_lt (l.take k) (small_take hs k);rw [List.length_take,Nat.min_eq_left (by omega)] at h3;refine ⟨?_,h3⟩;rw [h1,h2,pow_succ32,Nat.add_mul,Nat.mul_assoc,Nat.mul_comm 4294967296,Nat.mul_comm (l.getD k 0)];omega
theorem top3_aux (T P c t:Nat):T*(P*4294967296)+(t+P*c)=(T*4294967296+c)*P+t:=by
 have e:T*(P*4294967296)=T*4294967296*P:=by rw [Nat.mul_assoc,Nat.mul_comm P]
 have e2:(T*4294967296+c)*P=T*4294967296*P+c*P:=Nat.add_mul _ _ _;have e3:P*c=c*P:=Nat.mul_comm _ _;omega
theorem lv_top3 (l:List Nat) (hs:small l) (k:Nat) (h:l.length=k+3):lv l=((l.getD (k+2) 0*4294967296+l.getD (k+1) 0)*4294967296+l.getD k 0)*2 ^ (32*k)+lv (l.take k)∧lv (l.take k)<2 ^ (32*k):=by
 have h1:=(lv_top2 l hs (k+1) h).1;have h2:=lv_takeD l k (by omega);have h3:=lv_lt (l.take k) (small_take hs k);rw [List.length_take,Nat.min_eq_left (by omega)] at h3;refine ⟨?_,h3⟩;rw [show k+1+1=k+2 from rfl] at h1;have e:=top3_aux (l.getD (k+2) 0*4294967296+l.getD (k+1) 0) (2 ^ (32*k)) (l.getD k 0) (lv (l.take k));rw [←pow_succ32,←h2,←h1] at e;exact e
structure GInv (U V:List Nat) (k g rest:Nat):Prop where
 top:g*V.getD (k+1) 0+rest=U.getD (k+2) 0*4294967296+U.getD (k+1) 0
 above:lv U / lv V≤g
 small:g≤4294967297
theorem GInv.first {U V:List Nat} {k:Nat} (hU:Go.Proofs.YtdefcbfofonabaaGreat.small U) (hV:Go.Proofs.YtdefcbfofonabaaGreat.small V) (hl:U.length=k+3) (hl2:V.length=k+2) (hv:2147483648≤V.getD (k+1) 0) (hle:U.getD (k+2) 0≤V.getD (k+1) 0) :
 GInv U V k ((U.getD (k+2) 0*4294967296+U.getD (k+1) 0) / V.getD (k+1) 0) ((U.getD (k+2) 0*4294967296+U.getD (k+1) 0) % V.getD (k+1) 0):=by
 obtain ⟨h1,h2⟩:=lv_top2 U hU (k+1) hl;obtain ⟨h3,h4⟩:=lv_top1 V hV (k+1) hl2;refine ⟨by rw [Nat.mul_comm];exact Nat.div_add_mod _ _,?_,guess_first _ _ _ hle (getD_lt hU _) hv⟩;exact first_above (lv U) (lv V) _ _ _ _ _ _ (Nat.div_mul_le_self _ _) h1 h2 h3 (by omega)
theorem GInv.down {U V:List Nat} {k g rest:Nat} (h:GInv U V k g rest) (hU:Go.Proofs.YtdefcbfofonabaaGreat.small U) (hV:Go.Proofs.YtdefcbfofonabaaGreat.small V) (hl:U.length=k+3) (hl2:V.length=k+2) (hq:lv U / lv V<4294967296)
 (hg:4294967296≤g∨rest*4294967296+U.getD k 0<g*V.getD k 0):0<g∧GInv U V k (g - 1) (rest+V.getD (k+1) 0):=by
 obtain ⟨h1,h2⟩:=lv_top3 U hU k hl;obtain ⟨h3,h4⟩:=lv_top2 V hV k hl2;have hd:=guess_down (lv U) (lv V) (lv U / lv V) _ _ _ _ _ g _ _ _ rest _ (Nat.div_mul_le_self _ _) h1 h2 h3 rfl rfl h.top hq hg;have hg0:0<g:=Nat.lt_of_le_of_lt (Nat.zero_le _) hd
 obtain ⟨p,rfl⟩:∃ p,g=p+1:=⟨g - 1,by omega⟩
 have ht:=h.top;have hs:=h.small;rw [Nat.add_mul,Nat.one_mul] at ht;have hd':=Nat.le_of_lt_succ hd;refine ⟨Nat.succ_pos p,?_,hd',by rw [Nat.add_sub_cancel];omega⟩;rw [Nat.add_sub_cancel];omega
theorem GInv.near {U V:List Nat} {k g rest:Nat} (h:GInv U V k g rest) (hU:Go.Proofs.YtdefcbfofonabaaGreat.small U) (hV:Go.Proofs.YtdefcbfofonabaaGreat.small V) (hl:U.length=k+3) (hl2:V.length=k+2) (hv:1≤V.getD (k+1) 0) (hgB:g<4294967296)
 (hg:g*V.getD k 0≤rest*4294967296+U.getD k 0):g≤lv U / lv V+1:=by
 obtain ⟨h1,h2⟩:=lv_top3 U hU k hl;obtain ⟨h3,h4⟩:=lv_top2 V hV k hl2
 have hVp:0<lv V:=by
  rw [h3];have:0<(V.getD (k+1) 0*4294967296+V.getD k 0)*2 ^ (32*k):=Nat.mul_pos (by omega) (Nat.pow_pos (by decide));omega
 exact guess_near (lv U) (lv V) (lv U / lv V) _ _ _ _ _ g _ _ _ rest _ (by rw [Nat.mul_comm];exact Nat.lt_mul_div_succ _ hVp) h1 h4 h3 rfl rfl h.top hv hgB hg
end Go.Proofs.YtdefcbfofonabaaGreat

namespace Go.Proofs.YtdefcbfofonabaaGreat
set_option linter.unusedVariables false
set_option linter.unusedSimpArgs false
theorem step_ok (U V:List Nat) (g:Nat) (hU:small U) (hV:small V) (hl:U.length=V.length+1) (hVp:0<lv V) (hg:g<4294967296) (h1:lv U / lv V≤g) (h2:g≤lv U / lv V+1) :
 (takeBelow g V U=false→g=lv U / lv V∧takeRow g V U=digs (V.length+1) (lv U % lv V))∧(takeBelow g V U=true→g=lv U / lv V+1∧giveRow V (takeRow g V U)=digs (V.length+1) (lv U % lv V)):=by
 have hv:=takeRow_val g V U hg hV hU hl;have htl:=takeRow_len g V U hg hV hU (by omega);have hts:=takeRow_small g V U hg hV hU (by omega);have hB:=lv_lt U hU;have hL:=lv_lt _ hts;rw [htl,hl] at hL;rw [hl] at hB;have hR:lv U % lv V<2 ^ (32*(V.length+1)):=Nat.lt_of_le_of_lt (Nat.mod_le _ _) hB;have hq:=quot_of (lv U) (lv V) g _ (lv (takeRow g V U)) _ (if takeBelow g V U=true then 1 else 0) hVp rfl h1 h2 hB hL hv (by split<;>omega)
 constructor
 · intro hb
   obtain ⟨q1,q2⟩:=hq.1 (by rw [hb];rfl);exact ⟨q1,lv_inj hts (digs_small _ _) (by rw [digs_len,htl,hl]) (by rw [lv_digs _ _ hR,q2])⟩
 · intro hb
   obtain ⟨q1,q2⟩:=hq.2 (by rw [hb];rfl);refine ⟨q1,lv_inj (giveRow_small V _ hV hts (by omega)) (digs_small _ _) (by rw [digs_len,giveRow_len V _ hV hts (by omega),htl,hl]) ?_⟩;have hgv:=giveRow_val V (takeRow g V U) hV hts (by omega);have hgb:=lv_lt _ (giveRow_small V _ hV hts (by omega));rw [giveRow_len V _ hV hts (by omega),htl,hl] at hgb;rw [lv_digs _ _ hR];rw [q2] at hgv
   generalize lv (giveRow V (takeRow g V U))=G at *
   generalize ((takeRow g V U).getD V.length 0+(giveSt V (takeRow g V U) V.length).2) / 4294967296=c at *
   generalize 2 ^ (32*(V.length+1))=B at *
   generalize lv U % lv V=R at *
   have e:=congrArg (· % B) hgv
   simpa [Nat.add_mul_mod_self_left,Nat.mod_eq_of_lt hgb,Nat.mod_eq_of_lt hR] using e
end Go.Proofs.YtdefcbfofonabaaGreat

namespace Go.Proofs.YtdefcbfofonabaaGreat
open Go.RowKit
set_option linter.unusedVariables false
set_option linter.unusedSimpArgs false
theorem high_or (X U:Nat) (hX:X<4294967296) (hU:U<4294967296):bits .or .u64 ((X:Int)*4294967296) (U:Int)=((X*4294967296+U:Nat):Int):=by
 have e:(X:Int)*4294967296=((4294967296*X:Nat):Int):=by omega
 rw [e,u64_or_nat _ _ (by omega) (by omega)];have h3:=Nat.two_pow_add_eq_or_of_lt (i:=32) (show U<2 ^ 32 by omega) X
 have e2:(2:Nat) ^ 32=4294967296:=by decide
 rw [e2] at h3;rw [←h3,Nat.mul_comm]
set_option maxRecDepth 100000 in
set_option maxHeartbeats 4000000 in
theorem divw_any (xs:List Nat) (A:Option Addr) (n c d:Nat) (w:World) (hl:xs.length=n) (hnc:n≤c) (hn:n≤1099511627776) (hr:Rd w 1 A n (lw xs)) (hs:small xs) (hd:0<d) (hd2:d<4294967296) :
 Calls Tryz.prog 90 #[.slice A n c,.int .u32 (d:Int)] w fun e w'=>∃ v,e=.returned (.tuple #[v,.int .u32 ((lv xs % d:Nat):Int),.bool true])∧w'.ownsRow w.heap.size 125 1 v (limbs (lv xs / d)).length (lw (limbs (lv xs / d)))∧Below w.heap.size w w':=by
 obtain ⟨i0,hi,hz0,hz1,hz2⟩:=info_parts info_u32
 have hd0:((d:Int) == 0)=false:=by rw [beq_eq_false_iff_ne];omega
 have HR:=Lib.hid hr;have HS:=Lib.hid hs;clear hr hs
 go_enter Tryz.func90,Tryz.ntmps90
 go_wp2_with (at_make;refine make1 w.heap.size w w rfl _ _ 24 rfl 125 i0 (.int .u32 0) 4 Tryz.underlying24 hi hz0 hz1 hz2 rfl (by decide) .i64 .i64 (n:Int) (n:Int) n rfl rfl (by omega) (by omega) (by omega) _ rfl (Nat.le_refl _) (Below.refl _ _) ?_)
 intro w3 hown3 hb3 _;have hblk:=full_blk hown3;rw [lw_zeros] at hblk
 have hl0:LRow w.heap.size w w3 (divSt xs d 0).1:=⟨by rw [divSt,hl];exact hblk,hb3⟩
 have HL0:=Lib.hid hl0;clear hown3 hb3 hblk hl0
 go_wp2_with fail
 go_loopw [8,9] (fun r x wr=>∃ k:Nat,k≤n∧x=.int .i64 (((n - k:Nat):Int) - 1)∧r=.int .u64 ((divSt xs d k).2:Nat)∧LRow w.heap.size w wr (divSt xs d k).1) (fun _ x _=>(intOf x+1).toNat)
 case atStart=>exact ⟨0,Nat.zero_le _,by simp,rfl,HL0.out⟩
 case round =>
  obtain ⟨k,hk,rfl,rfl,hst⟩:=hrel;have hok:=div_ok xs d HS.out hd k (by omega)
  by_cases hlt:k<n
  · obtain ⟨i,hi'⟩:∃ i,n - k=i+1:=⟨n - (k+1),by omega⟩
    have hi2:n - (k+1)=i:=by omega
    have em:((n - k:Nat):Int) - 1=i:=by rw [hi'];omega
    rw [em]
    have hnx:divSt xs d (k+1)=((divSt xs d k).1.set i (((divSt xs d k).2*4294967296+xs.getD i 0) / d),((divSt xs d k).2*4294967296+xs.getD i 0) % d):=by
     rw [divSt,hl,hi2]
    have hin:i<n:=by omega
    obtain ⟨b1,o1,rfl,x0⟩:=(HR.out.below hst.bel).limb i hin hl;have hxs:=getD_lt HS.out i;obtain ⟨z0,z1⟩:=hst.cell i (by rw [hok.len,hl];exact hin);have hrest:=hok.rest;have hrl:=hok.len;rw [hl] at hrl;have hor:=high_or (divSt xs d k).2 (xs.getD i 0) (by omega) hxs;have hq:=quot_lt (divSt xs d k).2 (xs.getD i 0) d hrest hxs
    generalize xs.getD i 0=x at *
    generalize (divSt xs d k).1.getD i 0=z at *
    generalize divSt xs d k=st at *
    obtain ⟨t,r⟩:=st;simp only at hst z0 z1 hrest hnx hrl hor hq;have HST:=Lib.hid hst;have HNX:=Lib.hid hnx
    have hNb:r*4294967296+x<18446744073709551616:=by omega
    have hmd:(r*4294967296+x) % d<d:=Nat.mod_lt _ hd;clear hst hnx em hi'
    generalize hN:r*4294967296+x=N at *
    clear hN
    have hin2:(i:Int)<(n:Int):=by omega
    have hr32:(r:Int)<4294967296:=by omega
    have hdi:(0:Int)<(d:Int):=by omega
    have eq1:(N:Int) / (d:Int)=((N / d:Nat):Int):=rfl;have eq2:(N:Int) % (d:Int)=((N % d:Nat):Int):=rfl
    have hwr:IntKind.u64.wrap ((N:Int) / (d:Int)) % 4294967296=((N / d:Nat):Int):=by
     rw [eq1]
     generalize N / d=Q at *
     first | (rw [IntKind.wrap_u64];omega) | (simp [IntKind.wrap];omega) | (unfold IntKind.wrap;simp;omega)
    have HWR:=Lib.hid hwr;have HE2:=Lib.hid eq2;clear hwr eq1 eq2
    go_wp2_with fail
    rw [HWR.out,HE2.out];go_roundw
    case rel =>
     refine ⟨k+1,by omega,?_,by rw [HNX.out],?_⟩
     · rw [hi2]
     · rw [HNX.out]
       exact HST.out.set (Nat.le_refl _) i (N / d)
    case measure=>first | (simp [intOf];done) | (simp [intOf];omega)
  · obtain rfl:k=n:=by omega
    have hv:=div_val xs d HS.out hd;rw [hl] at hv;have hrd:=hst.rd;have hsm:=hok.sm;have hln:=hok.len;have hrest:=hok.rest;rw [hl] at hln;obtain ⟨hv1,hv2⟩:=hv
    have e0:((k - k:Nat):Int) - 1 = -1:=by omega
    rw [e0]
    generalize divSt xs d k=st at *
    obtain ⟨t,r⟩:=st;simp only at hst hrd hsm hln hrest hv1 hv2 ⊢;have hnm:=norm_any t (some ⟨w.heap.size,0,none⟩) t.length k wr rfl (by omega) (by omega) hrd hsm;rw [hv1,hln] at hnm;have HV2:=Lib.hid hv2;have HB:=Lib.hid hst.bel;clear hv1 hv2 hrd hsm hst hok e0
    go_wp2_with (go_at_call 55;refine hnm.mono ?_;clear hnm;rintro e w9 ⟨v9,rfl,ho9,hb9⟩)
    go_ret3
    refine ⟨_,?_,own_more ho9 HB.out.size,HB.out.trans (hb9.mono HB.out.size)⟩
    have hr2:r<4294967296:=by omega
    rw [←HV2.out]
    first | rfl | (congr 3;simp;omega)
end Go.Proofs.YtdefcbfofonabaaGreat

namespace Go.Proofs.YtdefcbfofonabaaGreat
open Go.RowKit
set_option linter.unusedVariables false
set_option linter.unusedSimpArgs false
def bl (N:Nat):Nat:=if N=0 then 0 else N.log2+1
theorem bl_le {N n:Nat} (h:N<2 ^ n):bl N≤n:=by
 unfold bl
 split
 · omega
 · rename_i h0
   have:=(Nat.log2_lt h0).2 h;omega
theorem bl_lt (N:Nat):N<2 ^ bl N:=by
 unfold bl
 split
 · rename_i h0;subst h0;decide
 · rename_i h0
   exact (Nat.log2_lt h0).1 (by omega)
theorem bl_of {N b:Nat} (h1:N<2 ^ (b+1)) (h2:2 ^ b≤N):bl N=b+1:=by
 have h0:N≠0:=by have:=Nat.two_pow_pos b;omega
 have ha:=bl_le h1;unfold bl at ha ⊢;rw [if_neg h0] at ha ⊢
 have hb:¬ N.log2<b:=fun h=>by have:=(Nat.log2_lt h0).1 h;omega
 omega
theorem bitLen_spec (x:Nat) (hx:x<18446744073709551616) (h0:x≠0):∃ b,Lib.bitLen x=b+1∧x<2 ^ (b+1)∧2 ^ b≤x:=by
 induction x using Nat.strongRecOn with
 | ind x ih =>
   have hh:=Lib.bitLen_half x h0 hx
   by_cases h1:x / 2=0
   · have:x=1:=by omega
     subst this;exact ⟨0,by decide,by decide,by decide⟩
   · obtain ⟨b,e,q1,q2⟩:=ih (x / 2) (by omega) (by omega) h1
     refine ⟨b+1,by rw [hh,e];omega,?_,?_⟩
     · rw [Nat.pow_succ];omega
     · rw [Nat.pow_succ];omega
theorem limbs_top (N:Nat) (h:N≠0):0<(limbs N).length∧(limbs N).getD ((limbs N).length - 1) 0≠0:=by
 induction N using Nat.strongRecOn with
 | ind N ih =>
   rw [limbs_pos N h]
   by_cases h1:N / 4294967296=0
   · rw [h1,limbs_zero]
     simp;omega
   · obtain ⟨q1,q2⟩:=ih (N / 4294967296) (by omega) h1
     refine ⟨by simp,?_⟩
     obtain ⟨m,hm⟩:∃ m,(limbs (N / 4294967296)).length=m+1:=⟨_,(Nat.succ_pred_eq_of_pos q1).symm⟩
     rw [List.length_cons,hm,Nat.add_sub_cancel,List.getD_cons_succ];rw [hm,Nat.add_sub_cancel] at q2;exact q2
theorem lv_split (L:List Nat) (m:Nat) (hs:small L) (hl:L.length=m+1):∃ R,lv L=R+2 ^ (32*m)*L.getD m 0∧R<2 ^ (32*m):=by
 have h:=lv_takeD L m (by omega);rw [List.take_of_length_le (by omega)] at h;have h2:=lv_lt (L.take m) (small_take hs m);rw [List.length_take,Nat.min_eq_left (by omega)] at h2;exact ⟨_,h,h2⟩
theorem bits_val (N m:Nat) (h:(limbs N).length=m+1):bl N=32*m+Lib.bitLen ((limbs N).getD m 0):=by
 have h0:N≠0:=fun e=>by rw [e,limbs_zero] at h;simp at h
 obtain ⟨_,ht⟩:=limbs_top N h0;rw [h,Nat.add_sub_cancel] at ht;have hs:=getD_lt (limbs_small N) m;obtain ⟨R,e,hR⟩:=lv_split _ m (limbs_small N) h;rw [lv_limbs] at e;obtain ⟨b,eb,q1,q2⟩:=bitLen_spec ((limbs N).getD m 0) (by omega) ht
 generalize (limbs N).getD m 0=T at *
 rw [eb,←Nat.add_assoc];refine bl_of ?_ ?_
 · rw [e,Nat.add_assoc,Nat.pow_add]
   have:2 ^ (32*m)*(T+1)≤2 ^ (32*m)*2 ^ (b+1):=Nat.mul_le_mul (Nat.le_refl _) q1;rw [Nat.mul_add] at this;omega
 · rw [e,Nat.pow_add]
   have:2 ^ (32*m)*2 ^ b≤2 ^ (32*m)*T:=Nat.mul_le_mul (Nat.le_refl _) q2;omega
theorem take_len {xs L:List Nat} {k n:Nat} (h:xs.take k=L) (hk:k≤n) (hl:xs.length=n):k=L.length:=by
 rw [←h,List.length_take];omega
set_option maxRecDepth 100000 in
theorem lbits_any (xs:List Nat) (A:Option Addr) (n c:Nat) (w:World) (hl:xs.length=n) (hnc:n≤c) (hn:n≤1099511627776) (hr:Rd w 1 A n (lw xs)) (hs:small xs) :
 Calls Tryz.prog 118 #[.slice A n c] w fun e w'=>e=.returned (.int .i64 ((bl (lv xs):Nat):Int))∧w'=w:=by
 have hcut:=cut_any xs A n c w hl hnc (by omega) hr hs;have hL:=limbs_small (lv xs)
 by_cases h0:lv xs=0
 · rw [h0,limbs_zero] at hcut
   rw [h0,show bl 0=0 from rfl];clear h0 hL
   go_enter Tryz.func118,Tryz.ntmps118
   go_wp2_with (go_at_call 79;refine hcut.mono ?_;clear hcut;rintro e w' ⟨k,rfl,hk,htk,hw⟩;obtain rfl:=hw;obtain rfl:k=0:=take_len htk hk hl)
   go_ret;exact ⟨rfl,rfl⟩
 · obtain ⟨q1,q2⟩:=limbs_top (lv xs) h0
   obtain ⟨m,hm⟩:∃ m,(limbs (lv xs)).length=m+1:=⟨_,(Nat.succ_pred_eq_of_pos q1).symm⟩
   have hbv:=bits_val (lv xs) m hm
   have hlz:=fun W (x:Nat) (hx:x<4294967296)=>Tryz.bits_LeadingZeros32 (x:Int) W (by omega) (by omega)
   have hgl:=getD_lt hL m;have hblb:Lib.bitLen ((limbs (lv xs)).getD m 0)≤32:=Lib.bitLen_le _ 32 (by omega) (by omega);have HR:=Lib.hid hr;have HLZ:=Lib.hid hlz;have HBV:=Lib.hid hbv;have HLM:=Lib.hid hm;clear h0 q1 q2 hr hlz hbv hm
   go_enter Tryz.func118,Tryz.ntmps118
   go_upto_region 4 with (go_at_call 79;refine hcut.mono ?_;clear hcut;rintro e w' ⟨k,rfl,hk,htk,hw⟩;obtain rfl:=hw;obtain rfl:k=m+1:=(take_len htk hk hl).trans HLM.out)
   have hrk:=HR.out.take hk;rw [lw_take,htk] at hrk;obtain ⟨b,off,rfl,x0⟩:=hrk.limb m (by omega) HLM.out
   generalize (limbs (lv xs)).getD m 0=T at *
   have hz:=HLZ.out w T hgl;rw [Int.toNat_natCast] at hz;clear htk hrk
   generalize Lib.bitLen T=bt at *
   go_wp2_with (go_at_call 101;refine hz.mono ?_;clear hz;rintro e w' ⟨rfl,hw⟩;obtain rfl:=hw.symm;clear hw)
   go_ret;exact ⟨by rw [HBV.out];first | rfl | go_num | (congr 2;omega),rfl⟩
end Go.Proofs.YtdefcbfofonabaaGreat

namespace Go.Proofs.YtdefcbfofonabaaGreat
set_option linter.unusedVariables false
set_option linter.unusedSimpArgs false
theorem limbs_len_mono (N M:Nat) (h:N≤M):(limbs N).length≤(limbs M).length:=by
 induction N using Nat.strongRecOn generalizing M with
 | ind N ih =>
   by_cases h0:N=0
   · subst h0;rw [limbs_zero];exact Nat.zero_le _
   · rw [limbs_pos N h0,limbs_pos M (by omega),List.length_cons,List.length_cons]
     exact Nat.succ_le_succ (ih (N / 4294967296) (by omega) _ (by omega))
theorem norm_aux (p q N:Nat) (hp:0<p) (h1:p*4294967296*2147483648≤N) (h2:N<q*4294967296):N≠0∧p*2147483648≤N / 4294967296∧N / 4294967296<q:=by
 refine ⟨fun e=>?_,(Nat.le_div_iff_mul_le (by decide)).2 (by rw [Nat.mul_right_comm];exact h1),(Nat.div_lt_iff_lt_mul (by decide)).2 h2⟩;subst e;exact absurd h1 (Nat.not_le.2 (Nat.mul_pos (Nat.mul_pos hp (by decide)) (by decide)))
theorem norm_top (n N:Nat) (h1:2 ^ (32*n)*2147483648≤N) (h2:N<2 ^ (32*(n+1))):(limbs N).length=n+1∧2147483648≤(limbs N).getD n 0:=by
 induction n generalizing N with
 | zero =>
   have e1:2 ^ (32*0)=1:=by decide
   have e2:2 ^ (32*(0+1))=4294967296:=by decide
   rw [e1] at h1;rw [e2] at h2;rw [limbs_pos N (by omega),show N / 4294967296=0 by omega,limbs_zero];refine ⟨rfl,?_⟩
   show 2147483648≤N % 4294967296
   omega
 | succ n ih =>
   have h2':N<2 ^ (32*(n+1))*4294967296:=by rw [←pow_succ32];exact h2
   have h1':2 ^ (32*n)*4294967296*2147483648≤N:=by rw [←pow_succ32];exact h1
   have hp:0<2 ^ (32*n):=Nat.pow_pos (by decide);obtain ⟨h0,a1,a2⟩:=norm_aux _ _ N hp h1' h2';obtain ⟨q1,q2⟩:=ih _ a1 a2;rw [limbs_pos N h0];refine ⟨by rw [List.length_cons,q1],?_⟩;rw [List.getD_cons_succ];exact q2
theorem limbs_len_lt (k N:Nat) (h:N<2 ^ (32*k)):(limbs N).length≤k:=by
 induction k generalizing N with
 | zero =>
   have:N=0:=by simpa using h
   subst this;rw [limbs_zero];exact Nat.le_refl _
 | succ k ih =>
   have h':N<2 ^ (32*k)*4294967296:=by rw [←pow_succ32];exact h
   by_cases h0:N=0
   · subst h0;rw [limbs_zero];exact Nat.zero_le _
   · rw [limbs_pos N h0,List.length_cons]
     exact Nat.succ_le_succ (ih _ ((Nat.div_lt_iff_lt_mul (by decide)).2 h'))
theorem limbs_len_shl (A s:Nat) (hs:s≤32):(limbs (A*2 ^ s)).length≤(limbs A).length+1:=by
 refine limbs_len_lt _ _ ?_;have h1:=lv_lt (limbs A) (limbs_small A);rw [lv_limbs] at h1;have h2:2 ^ s≤2 ^ 32:=Nat.pow_le_pow_right (by decide) hs;rw [Nat.mul_add,Nat.pow_add];exact Nat.lt_of_lt_of_le ((Nat.mul_lt_mul_right (Nat.pow_pos (by decide))).2 h1) (Nat.mul_le_mul_left _ h2)
theorem long_v (B k b:Nat) (hl:(limbs B).length=k+1) (hb:Lib.bitLen ((limbs B).getD k 0)=b):1≤b∧b≤32∧(limbs (B*2 ^ (32 - b))).length=k+1∧2147483648≤(limbs (B*2 ^ (32 - b))).getD k 0:=by
 have h0:B≠0:=fun e=>by rw [e,limbs_zero] at hl;simp at hl
 obtain ⟨_,ht⟩:=limbs_top B h0;rw [hl,Nat.add_sub_cancel] at ht;have hs:=getD_lt (limbs_small B) k;obtain ⟨R,e,hR⟩:=lv_split _ k (limbs_small B) hl;rw [lv_limbs] at e;obtain ⟨c,eb,q1,q2⟩:=bitLen_spec ((limbs B).getD k 0) (by omega) ht;rw [eb] at hb;subst hb
 generalize (limbs B).getD k 0=T at *
 have hc:c<32:=by
  refine Nat.lt_of_not_le fun hle=>?_
  have h3:2 ^ 32≤2 ^ c:=Nat.pow_le_pow_right (by decide) hle
  have e32:2 ^ 32=4294967296:=by decide
  rw [e32] at h3;omega
 refine ⟨by omega,by omega,?_⟩;refine norm_top k _ ?_ ?_
 · have e1:2147483648=2 ^ c*2 ^ (32 - (c+1)):=by
    rw [←Nat.pow_add,show c+(32 - (c+1))=31 by omega]
   rw [e1,←Nat.mul_assoc];refine Nat.mul_le_mul_right _ ?_;have:=Nat.mul_le_mul_left (2 ^ (32*k)) q2;rw [e];omega
 · have e1:4294967296=2 ^ (c+1)*2 ^ (32 - (c+1)):=by
    rw [←Nat.pow_add,show c+1+(32 - (c+1))=32 by omega]
   rw [pow_succ32,e1,←Nat.mul_assoc];refine (Nat.mul_lt_mul_right (Nat.pow_pos (by decide))).2 ?_;have:=Nat.mul_le_mul_left (2 ^ (32*k)) q1;rw [Nat.mul_succ] at this;rw [e];omega
structure LongIn (A B s n:Nat) (U V:List Nat) (m:Nat):Prop where
 us:small U
 vs:small V
 vl:V.length=n
 ul:U.length=m+n
 uv:lv U=A*2 ^ s
 vv:lv V=B*2 ^ s
 pos:0<lv V
 top:2147483648≤V.getD (n - 1) 0
 low:lv (U.drop m)<lv V
 m0:1≤m
theorem drop_last0 (L:List Nat) (m n:Nat) (hs:small L) (h:L.length+1=m+(n+1)):lv ((L ++ [0]).drop m)<2 ^ (32*n):=by
 rw [List.drop_append_of_le_length (by omega),lv_append];have h2:=lv_lt _ (small_drop hs m);rw [List.length_drop,show L.length - m=n by omega] at h2;simp only [lv,Nat.mul_zero,Nat.add_zero];exact h2
theorem long_in (A B k b m:Nat) (hl:(limbs B).length=k+1) (hb:Lib.bitLen ((limbs B).getD k 0)=b) (hAB:B≤A) (hm:(limbs (A*2 ^ (32 - b))).length+1=m+(k+1)) :
 LongIn A B (32 - b) (k+1) (limbs (A*2 ^ (32 - b)) ++ [0]) (limbs (B*2 ^ (32 - b))) m:=by
 obtain ⟨h1,h2,h3,h4⟩:=long_v B k b hl hb;have hmono:=limbs_len_mono (B*2 ^ (32 - b)) (A*2 ^ (32 - b)) (Nat.mul_le_mul_right _ hAB);obtain ⟨R,e,hR⟩:=lv_split _ k (limbs_small (B*2 ^ (32 - b))) h3;rw [h3] at hmono;have hlow:=drop_last0 (limbs (A*2 ^ (32 - b))) m k (limbs_small _) hm;have hge:2 ^ (32*k)*1≤2 ^ (32*k)*(limbs (B*2 ^ (32 - b))).getD k 0:=Nat.mul_le_mul_left _ (by omega);have hp:0<2 ^ (32*k):=Nat.pow_pos (by decide);refine ⟨small_append.2 ⟨limbs_small _,by intro x hx;simp at hx;omega⟩,limbs_small _,h3,by rw [List.length_append,List.length_singleton];omega,?_,lv_limbs _,?_,by rw [Nat.add_sub_cancel];exact h4,?_,by omega⟩
 · rw [lv_append,lv_limbs];simp [lv]
 · rw [e];omega
 · rw [e];omega
theorem long_out (A B s n m:Nat) (U V:List Nat) (h:LongIn A B s n U V m):lv (longSt U V m m).2=A / B∧lv ((longSt U V m m).1.take n) / 2 ^ s=A % B:=by
 obtain ⟨h1,h2⟩:=long_val U V h.us h.vs h.pos m (by rw [h.ul,h.vl]) h.low;have h3:=long_rest U V h.us h.vs h.pos m (by rw [h.ul,h.vl]) h.low;rw [h.vl] at h3;rw [h1,h3,h.uv,h.vv];have hp:0<2 ^ s:=Nat.pow_pos (by decide);refine ⟨Nat.mul_div_mul_right _ _ hp,?_⟩;rw [Nat.mul_mod_mul_right,Nat.mul_div_cancel _ hp]
theorem win_top (U V:List Nat) (k:Nat) (hU:small U) (hV:small V) (hl:U.length=k+3) (hl2:V.length=k+2) (h:lv U<lv V*4294967296):U.getD (k+2) 0≤V.getD (k+1) 0:=by
 obtain ⟨h1,h2⟩:=lv_top1 U hU (k+2) hl;obtain ⟨h3,h4⟩:=lv_top1 V hV (k+1) hl2;have e:2 ^ (32*(k+2))=2 ^ (32*(k+1))*4294967296:=pow_succ32 _;rw [e] at h1;rw [h3] at h;refine Nat.le_of_lt_succ (Nat.lt_of_not_le fun hle=>?_);have h5:=Nat.mul_le_mul_right (2 ^ (32*(k+1))*4294967296) hle;rw [Nat.succ_mul] at h5;have e6:V.getD (k+1) 0*(2 ^ (32*(k+1))*4294967296)=V.getD (k+1) 0*2 ^ (32*(k+1))*4294967296:=(Nat.mul_assoc _ _ _).symm;rw [e6] at h5
 generalize V.getD (k+1) 0*2 ^ (32*(k+1))=a at *
 generalize U.getD (k+2) 0*(2 ^ (32*(k+1))*4294967296)=c at *
 generalize 2 ^ (32*(k+1))=p at *
 omega
structure RoundIn (U V:List Nat) (k:Nat):Prop where
 us:small U
 vs:small V
 ul:U.length=k+3
 vl:V.length=k+2
 top:2147483648≤V.getD (k+1) 0
 lt:lv U<lv V*4294967296
 pos:0<lv V
theorem RoundIn.first {U V:List Nat} {k:Nat} (h:RoundIn U V k):GInv U V k ((U.getD (k+2) 0*4294967296+U.getD (k+1) 0) / V.getD (k+1) 0) ((U.getD (k+2) 0*4294967296+U.getD (k+1) 0) % V.getD (k+1) 0) :=
 GInv.first h.us h.vs h.ul h.vl h.top (win_top U V k h.us h.vs h.ul h.vl h.lt)
theorem RoundIn.quot {U V:List Nat} {k:Nat} (h:RoundIn U V k):lv U / lv V<4294967296:=by
 rw [Nat.div_lt_iff_lt_mul h.pos,Nat.mul_comm];exact h.lt
theorem RoundIn.down {U V:List Nat} {k g rest:Nat} (h:RoundIn U V k) (i:GInv U V k g rest) (hg:4294967296≤g∨rest*4294967296+U.getD k 0<g*V.getD k 0):0<g∧GInv U V k (g - 1) (rest+V.getD (k+1) 0) :=
 i.down h.us h.vs h.ul h.vl h.quot hg
theorem RoundIn.stands {U V:List Nat} {k g rest:Nat} (h:RoundIn U V k) (i:GInv U V k g rest) (hgB:g<4294967296) (hg:g*V.getD k 0≤rest*4294967296+U.getD k 0):g<4294967296∧lv U / lv V≤g∧g≤lv U / lv V+1 :=
 ⟨hgB,i.above,i.near h.us h.vs h.ul h.vl (by have:=h.top;omega) hgB hg⟩
theorem RoundIn.broke {U V:List Nat} {k g rest:Nat} (h:RoundIn U V k) (i:GInv U V k g rest) (hr:4294967296≤rest):g<4294967296∧lv U / lv V≤g∧g≤lv U / lv V+1:=by
 have hle:=win_top U V k h.us h.vs h.ul h.vl h.lt;have hT:=i.top;have hu2:=getD_lt h.us (k+1)
 have hg:g<4294967296:=by
  refine Nat.lt_of_not_le fun hle2=>?_
  have h1:=Nat.mul_le_mul_right (V.getD (k+1) 0) hle2;omega
 exact h.stands i hg (guess_break _ _ _ _ hg (getD_lt h.vs k) hr)
theorem round_in (A B s k m:Nat) (U V:List Nat) (h:LongIn A B s (k+2) U V m) (i:Nat) (hi:i<m):LongOk U V m i∧RoundIn (win (longSt U V m i).1 (m - (i+1)) (k+2)) V k:=by
 have hok:=long_ok U V h.us h.vs h.pos m (by rw [h.ul,h.vl]) h.low i (by omega);obtain ⟨h1,_,_⟩:=win_lt U V h.vs m i hi hok (by rw [h.ul,h.vl]);rw [h.vl] at h1;have hlen:=hok.len;have hul:=h.ul;exact ⟨hok,win_small hok.sm _ _,h.vs,win_len _ _ _ (by omega),h.vl,h.top,h1,h.pos⟩
theorem win_get (u:List Nat) (j n i:Nat) (hi:i<n+1):(win u j n).getD i 0=u.getD (j+i) 0:=by
 rw [win,List.getD_eq_getElem?_getD,List.getD_eq_getElem?_getD,List.getElem?_take,if_pos hi,List.getElem?_drop]
end Go.Proofs.YtdefcbfofonabaaGreat
