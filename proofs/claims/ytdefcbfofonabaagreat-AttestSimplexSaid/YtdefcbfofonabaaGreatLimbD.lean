/- Contracts of package limb: Cmp; attesttop.same. -/
import Derived.Test.YtdefcbfofonabaaGreatLongMath3
import Derived.BigQuiet
import Derived.Test.YtdefcbfofonabaaGreatLimbB
namespace Go.Proofs.YtdefcbfofonabaaGreat
open Go.RowKit
set_option linter.unusedVariables false
set_option linter.unusedSimpArgs false
def cmpN (a b:Nat):Int:=if a<b then -1 else if a=b then 0 else 1
theorem cmp_lt {a b:Nat} (h:a<b):cmpN a b = -1:=if_pos h
theorem cmp_gt {a b:Nat} (h:b<a):cmpN a b=1:=by rw [cmpN,if_neg (by omega),if_neg (by omega)]
theorem cmp_eq (a:Nat):cmpN a a=0:=by rw [cmpN,if_neg (by omega),if_pos rfl]
theorem limbs_low {b m:Nat} (h:(limbs b).length=m+1):2 ^ (32*m)≤b:=by
 have h0:b≠0:=fun e=>by rw [e,limbs_zero] at h;simp at h
 obtain ⟨_,ht⟩:=limbs_top b h0;rw [h,Nat.add_sub_cancel] at ht;obtain ⟨R,e,_⟩:=lv_split _ m (limbs_small b) h;rw [lv_limbs] at e;have:2 ^ (32*m)*1≤2 ^ (32*m)*(limbs b).getD m 0:=Nat.mul_le_mul (Nat.le_refl _) (by omega);omega
theorem len_lt {a b:Nat} (h:(limbs a).length<(limbs b).length):a<b:=by
 obtain ⟨m,hm⟩:∃ m,(limbs b).length=m+1:=⟨(limbs b).length - 1,by omega⟩
 have h1:=limbs_low hm;have h2:=lv_lt _ (limbs_small a);rw [lv_limbs] at h2;have h3:2 ^ (32*(limbs a).length)≤2 ^ (32*m):=Nat.pow_le_pow_right (by omega) (by omega);omega
theorem lv_cut (L:List Nat) (i:Nat) (h:i<L.length):lv L=lv (L.take i)+2 ^ (32*i)*L.getD i 0+2 ^ (32*(i+1))*lv (L.drop (i+1)):=by
 have e:=lv_append (L.take (i+1)) (L.drop (i+1));rw [List.take_append_drop,List.length_take,Nat.min_eq_left (by omega),lv_takeD L i h] at e;exact e
theorem cmp_at {L M:List Nat} (hL:small L) (hM:small M) (i:Nat) (h1:i<L.length) (h2:i<M.length) (hd:L.drop (i+1)=M.drop (i+1)) (h:L.getD i 0<M.getD i 0):lv L<lv M:=by
 rw [lv_cut L i h1,lv_cut M i h2,hd];have q1:=lv_lt (L.take i) (small_take hL i);rw [List.length_take,Nat.min_eq_left (by omega)] at q1;have q2:2 ^ (32*i)*(L.getD i 0+1)≤2 ^ (32*i)*M.getD i 0:=Nat.mul_le_mul (Nat.le_refl _) h;rw [Nat.mul_add,Nat.mul_one] at q2;omega
theorem drop_step {L M:List Nat} {k:Nat} (h1:k<L.length) (h2:k<M.length) (h:L.drop (k+1)=M.drop (k+1)) (he:L.getD k 0=M.getD k 0):L.drop k=M.drop k:=by
 rw [List.drop_eq_getElem_cons h1,List.drop_eq_getElem_cons h2,h];rw [List.getD_eq_getElem?_getD,List.getD_eq_getElem?_getD,List.getElem?_eq_getElem h1,List.getElem?_eq_getElem h2] at he;simp at he;rw [he]
set_option maxRecDepth 100000 in
set_option maxHeartbeats 4000000 in
theorem lcmp_any (xs ys:List Nat) (A A2:Option Addr) (n c n2 c2:Nat) (w:World) (hl:xs.length=n) (hnc:n≤c) (hn:n≤1099511627776) (hr:Rd w 1 A n (lw xs)) (hs:small xs) (hl2:ys.length=n2) (hnc2:n2≤c2) (hn2:n2≤1099511627776) (hr2:Rd w 1 A2 n2 (lw ys)) (hs2:small ys) :
 Calls Tryz.prog 75 #[.slice A n c,.slice A2 n2 c2] w fun e w'=>e=.returned (.int .i64 (cmpN (lv xs) (lv ys)))∧∃ q,w'=w.drewN q:=by
 have hc1:=cut_any xs A n c w hl hnc (by omega) hr hs;have hc2:=cut_any ys A2 n2 c2 w hl2 hnc2 (by omega) hr2 hs2;have hL:=limbs_small (lv xs);have hM:=limbs_small (lv ys);have hvL:=lv_limbs (lv xs);have hvM:=lv_limbs (lv ys);have hlt1:(limbs (lv xs)).length<(limbs (lv ys)).length→lv xs<lv ys:=len_lt;have hlt2:(limbs (lv ys)).length<(limbs (lv xs)).length→lv ys<lv xs:=len_lt
 generalize limbs (lv xs)=L at *
 generalize limbs (lv ys)=M at *
 generalize lv xs=X at *
 generalize lv ys=Y at *
 have HR:=Lib.hid hr;have HR2:=Lib.hid hr2;have HL:=Lib.hid hL;have HM:=Lib.hid hM;have HVL:=Lib.hid hvL;have HVM:=Lib.hid hvM;have HLT1:=Lib.hid hlt1;have HLT2:=Lib.hid hlt2;clear hr hr2 hL hM hvL hvM hlt1 hlt2 hs hs2
 go_enter Tryz.func75,Tryz.ntmps75
 go_upto_region 2 with (first | (go_at_call 79;refine hc1.mono ?_;clear hc1;rintro e w1 ⟨k1,rfl,hk1,htk1,hw⟩;obtain rfl:=hw;have hkl1:=take_len htk1 hk1 hl;subst hkl1) | (go_at_call 79;refine hc2.mono ?_;clear hc2;rintro e w1 ⟨k2,rfl,hk2,htk2,hw⟩;obtain rfl:=hw;have hkl2:=take_len htk2 hk2 hl2;subst hkl2))
 have hrk1:=HR.out.take hk1;have hrk2:=HR2.out.take hk2;rw [lw_take,htk1] at hrk1;rw [lw_take,htk2] at hrk2;have HRK1:=Lib.hid hrk1;have HRK2:=Lib.hid hrk2;clear hrk1 hrk2 htk1 htk2 HR HR2;rcases Nat.lt_trichotomy L.length M.length with h | h | h
 · have e:=HLT1.out h
   have h1:((L.length:Int) != (M.length:Int))=true:=by rw [bne_iff_ne];omega
   have h2:(L.length:Int)<(M.length:Int):=by omega
   have HE:=Lib.hid (cmp_lt e);clear h e
   go_wp2_with fail
   go_ret;exact ⟨by rw [HE.out]<;>rfl,0,rfl⟩
 · have h1:((L.length:Int) != (M.length:Int))=false:=by rw [h];simp
   generalize hmm:M.length=m at *
   have HML:=Lib.hid hmm;have HLL:=Lib.hid h;clear hmm h
   go_wp2_with fail
   go_loopw [5] (fun x wr=>∃ (k q:Nat),k≤m∧x=.int .i64 ((k:Int) - 1)∧L.drop k=M.drop k∧wr=w.drewN q) (fun x _=>(intOf x+1).toNat)
   case atStart=>exact ⟨m,0,Nat.le_refl _,by rw [HLL.out],by rw [List.drop_of_length_le (by rw [HLL.out];exact Nat.le_refl _),List.drop_of_length_le (by rw [HML.out];exact Nat.le_refl _)],rfl⟩
   case round =>
    obtain ⟨k,q,hk,rfl,hdr,rfl⟩:=hrel
    by_cases hk0:0<k
    · obtain ⟨i,rfl⟩:∃ i,k=i+1:=⟨k - 1,by omega⟩
      have em:((i+1:Nat):Int) - 1=i:=by omega
      rw [em];have hLL:=HLL.out;have hML:=HML.out
      have hi1:i<L.length:=by omega
      have hi2:i<M.length:=by omega
      obtain ⟨b1,o1,rfl,x0⟩:=HRK1.out.limb i hi1 rfl;obtain ⟨b2,o2,rfl,y0⟩:=HRK2.out.limb i (by omega) HML.out;have hst:=drop_step hi1 hi2 hdr;have hlt:=cmp_at HL.out HM.out i hi1 hi2 hdr;have hgt:=cmp_at HM.out HL.out i hi2 hi1 hdr.symm;rw [HVL.out,HVM.out] at hlt hgt
      have hin:(i:Int)<(m:Int):=by omega
      have hin1:(i:Int)<(L.length:Int):=by omega
      generalize L.getD i 0=x at *
      generalize M.getD i 0=y at *
      have HST:=Lib.hid hst;have HDR:=Lib.hid hdr;clear hst em hk0 hLL hML hdr;rcases Nat.lt_trichotomy x y with hxy | hxy | hxy
      · have HE:=Lib.hid (cmp_lt (hlt hxy))
        have h1:((x:Int) != (y:Int))=true:=by rw [bne_iff_ne];omega
        have h2:(x:Int)<(y:Int):=by omega
        clear hlt hgt hxy
        go_wp2_with fail
        go_quiet (fail)
        go_wp2_with fail
        go_quiet (fail)
        go_wp2_with fail
        go_ret;exact ⟨by rw [HE.out]<;>rfl,_,by first | rfl | (simp only [World.drewN_drewN];exact rfl)⟩
      · have h1:((x:Int) != (y:Int))=false:=by rw [hxy];simp
        have HXY:=Lib.hid hxy;clear hlt hgt hxy
        go_wp2_with fail
        go_quiet (fail)
        go_wp2_with fail
        go_roundw
        case rel=>exact ⟨i,_,by omega,by first | rfl | go_num,HST.out HXY.out,by first | rfl | rw [World.drewN_drewN]⟩
        case measure=>simp [intOf]
      · have HE:=Lib.hid (cmp_gt (hgt hxy))
        have h1:((x:Int) != (y:Int))=true:=by rw [bne_iff_ne];omega
        have h2:¬ (x:Int)<(y:Int):=by omega
        clear hlt hgt hxy
        go_wp2_with fail
        go_quiet (fail)
        go_wp2_with fail
        go_quiet (fail)
        go_wp2_with fail
        go_ret;exact ⟨by rw [HE.out]<;>rfl,_,by first | rfl | (simp only [World.drewN_drewN];exact rfl)⟩
    · obtain rfl:k=0:=by omega
      have e0:((0:Nat):Int) - 1 = -1:=rfl;rw [e0]
      have hXY:cmpN X Y=0:=by
       rw [List.drop_zero,List.drop_zero] at hdr;rw [←HVL.out,←HVM.out,hdr];exact cmp_eq _
      have HE:=Lib.hid hXY;clear e0 hXY hdr
      go_wp2_with fail
      go_ret;exact ⟨by rw [HE.out]<;>rfl,_,rfl⟩
 · have e:=HLT2.out h
   have h1:((L.length:Int) != (M.length:Int))=true:=by rw [bne_iff_ne];omega
   have h2:¬ (L.length:Int)<(M.length:Int):=by omega
   have HE:=Lib.hid (cmp_gt e);clear h e
   go_wp2_with fail
   go_ret;exact ⟨by rw [HE.out]<;>rfl,0,rfl⟩
theorem limbs_len_le {N m:Nat} (h:N<2 ^ (32*m)):(limbs N).length≤m:=by
 rcases Nat.lt_or_ge m (limbs N).length with h' | h'
 · obtain ⟨k,hk⟩:∃ k,(limbs N).length=k+1:=⟨(limbs N).length - 1,by omega⟩
   have h1:=limbs_low hk;have h2:2 ^ (32*m)≤2 ^ (32*k):=Nat.pow_le_pow_right (by omega) (by omega);omega
 · exact h'
theorem cmp_zero (a b:Nat):(cmpN a b == 0)=decide (a=b):=by
 unfold cmpN
 by_cases h1:a<b
 · rw [if_pos h1,decide_eq_false (by omega)];rfl
 · rw [if_neg h1]
   by_cases h2:a=b
   · rw [if_pos h2,decide_eq_true h2];rfl
   · rw [if_neg h2,decide_eq_false h2];rfl
end Go.Proofs.YtdefcbfofonabaaGreat

namespace Go.Proofs.YtdefcbfofonabaaGreat
open Go.RowKit
set_option linter.unusedVariables false
set_option linter.unusedSimpArgs false
theorem limbs_one (N:Nat) (h:(limbs N).length=1):limbs N=[N]∧N<4294967296:=by
 have h0:N≠0:=fun e=>by rw [e,limbs_zero] at h;simp at h
 rw [limbs_pos N h0,List.length_cons] at h
 have h1:N / 4294967296=0:=Classical.byContradiction fun hne=>by
  rw [limbs_pos _ hne] at h;simp at h
 rw [limbs_pos N h0,h1,limbs_zero]
 have:N<4294967296:=by omega
 exact ⟨by rw [Nat.mod_eq_of_lt this],this⟩
set_option maxRecDepth 100000 in
set_option maxHeartbeats 4000000 in
theorem divmod_any (xs ys:List Nat) (A A2:Option Addr) (n c n2 c2:Nat) (w:World) (hl:xs.length=n) (hnc:n≤c) (hn:n≤1000000000000) (hr:Rd w 1 A n (lw xs)) (hs:small xs) (hl2:ys.length=n2) (hnc2:n2≤c2) (hn2:n2≤1000000000000) (hr2:Rd w 1 A2 n2 (lw ys)) (hs2:small ys) (hpos:0<lv ys) :
 Calls Tryz.prog 77 #[.slice A n c,.slice A2 n2 c2] w fun e w'=>∃ q r,e=.returned (.tuple #[q,r,.bool true])∧w'.ownsRow w.heap.size 125 1 q (limbs (lv xs / lv ys)).length (lw (limbs (lv xs / lv ys)))∧w'.ownsRow w.heap.size 125 1 r (limbs (lv xs % lv ys)).length (lw (limbs (lv xs % lv ys)))∧Below w.heap.size w w':=by
 have hN1:=norm_any xs A n c w hl hnc (by omega) hr hs
 have hN2:=fun W hW=>norm_any ys A2 n2 c2 W hl2 hnc2 (by omega) (hr2.below hW) hs2
 have hla:=Nat.le_trans (limbs_length_le xs hs) (Nat.le_of_eq hl);have hlb:=Nat.le_trans (limbs_length_le ys hs2) (Nat.le_of_eq hl2)
 generalize lv xs=X at *
 generalize lv ys=Y at *
 obtain ⟨la,hla'⟩:∃ la,(limbs X).length=la:=⟨_,rfl⟩
 obtain ⟨lb,hlb'⟩:∃ lb,(limbs Y).length=lb:=⟨_,rfl⟩
 have hb1:=(limbs_top Y (by omega)).1;rw [hla'] at hla hN1;rw [hlb'] at hlb hN2 hb1;have HN2:=Lib.hid hN2;clear hN2 hr hs hr2 hs2 hl hl2
 go_enter Tryz.func77,Tryz.ntmps77
 go_upto_region 2 with (first | (go_at_call 55;refine hN1.mono ?_;clear hN1;rintro e w1 ⟨v1,rfl,ho1,hbl1⟩;obtain ⟨A1,c1,rfl,hc1,hr1⟩:=ownsRow_form ho1;have hcall:=HN2.out w1 hbl1;have HR1:=Lib.hid hr1;have HO1:=Lib.hid ho1;clear ho1 hr1) | (go_at_call 55;refine hcall.mono ?_;clear hcall;rintro e w2 ⟨v2,rfl,ho2,hbl2⟩;obtain ⟨A3,c3,rfl,hc3,hr3⟩:=ownsRow_form ho2;have HR3:=Lib.hid hr3;have HR2:=Lib.hid (HR1.out.below hbl2);have hb12:=hbl1.trans (hbl2.mono hbl1.size);have HO2:=Lib.hid (own_below HO1.out hbl2);clear ho2 hr3))
 have HB2:=Lib.hid hb12;clear hbl1 hbl2 hb12 HR1 HO1 HN2;have hcmp:=lcmp_any (limbs X) (limbs Y) A1 A3 la c1 lb c3 w2 hla' hc1 (by omega) HR2.out (limbs_small X) hlb' hc3 (by omega) HR3.out (limbs_small Y);rw [lv_limbs,lv_limbs] at hcmp
 have hz:((lb:Int) == 0)=false:=by rw [beq_eq_false_iff_ne];omega
 by_cases hlt:X<Y
 · rw [cmp_lt hlt] at hcmp
   have hd:X / Y=0:=Nat.div_eq_of_lt hlt;have hm:X % Y=X:=Nat.mod_eq_of_lt hlt;have HD:=Lib.hid hd;have HM:=Lib.hid hm;clear hd hm hlt
   go_wp2_with (go_at_call 75;refine hcmp.mono ?_;clear hcmp;rintro e w3 ⟨rfl,q3,hw3⟩)
   go_ret3
   refine ⟨_,_,rfl,by rw [HD.out,limbs_zero];exact World.ownsRow_nil _ _ _ _,?_,?_⟩
   · rw [HM.out,hla'];exact HO2.out
   · exact below_drewN HB2.out q3
 · have hge:¬ (cmpN X Y<0):=by
    unfold cmpN;rw [if_neg hlt];split<;>omega
   have hYX:Y≤X:=by omega
   have HYX:=Lib.hid hYX
   obtain ⟨cv,hcv⟩:∃ cv,cmpN X Y=cv:=⟨_,rfl⟩
   rw [hcv] at hge hcmp;clear hlt hYX hcv
   by_cases h1:lb=1
   · subst h1
     obtain ⟨hY1,hY2⟩:=limbs_one Y hlb';rw [hY1] at HR3
     have hdw:=fun q=>divw_any (limbs X) A1 la c1 Y (w2.drewN q) hla' hc1 (by omega) HR2.out (limbs_small X) hpos hY2
     rw [lv_limbs] at hdw;have hmd:X % Y<Y:=Nat.mod_lt _ hpos
     have hwd:=fun W=>word_any (X % Y) W (by omega)
     obtain ⟨b3,o3,u3,rfl,hu3,x3⟩:=HR3.out.at_ (k:=0) (by omega);simp only [lw,List.map_cons,List.getElem?_cons_zero] at hu3
     injection hu3 with hu3
     subst hu3;rw [Nat.add_zero] at x3
     generalize hmm:X % Y=M at *
     have HDW:=Lib.hid hdw;have HWD:=Lib.hid hwd;have HMM:=Lib.hid hmm;clear hdw hwd hY1 hmm
     go_upto_region 7 with (go_at_call 75;refine hcmp.mono ?_;clear hcmp;rintro e w3 ⟨rfl,q3,rfl⟩)
     have hcall:=HDW.out q3
     go_upto_region 8 with (go_at_call 90;refine hcall.mono ?_;clear hcall;rintro e w4 ⟨v4,rfl,ho4,hb4⟩)
     have HO4:=Lib.hid ho4;have hb4':Below w.heap.size w w4:=(below_drewN HB2.out q3).trans (hb4.mono HB2.out.size);have HB4:=Lib.hid hb4';clear ho4 hb4 hb4'
     have hM:M<4294967296:=by omega
     go_wp2_with (go_at_call 24;refine (HWD.out _).mono ?_;rintro e w5 ⟨v5,rfl,ho5,hb5⟩)
     go_ret3
     exact ⟨_,_,rfl,own_below (own_more HO4.out HB2.out.size) hb5,by rw [HMM.out];exact own_more ho5 HB4.out.size,HB4.out.trans (hb5.mono HB4.out.size)⟩
   · obtain ⟨k,rfl⟩:∃ k,lb=k+2:=⟨lb - 2,by omega⟩
     have hz2:((k:Int)+2 == 1)=false:=by rw [beq_eq_false_iff_ne];omega
     have hlg:=fun q=>long_any X Y k la c1 c3 A1 A3 (w2.drewN q) HYX.out hla' hc1 (by omega) HR2.out hlb' hc3 HR3.out
     have HLG:=Lib.hid hlg;clear hlg
     go_upto_region 9 with (go_at_call 75;refine hcmp.mono ?_;clear hcmp;rintro e w3 ⟨rfl,q3,rfl⟩)
     have hcall:=HLG.out q3
     go_wp2_with (go_at_call 91;refine hcall.mono ?_;clear hcall;rintro e w4 ⟨q4,r4,rfl,ho4,ho5,hb4⟩)
     go_ret3
     exact ⟨_,_,rfl,own_more ho4 HB2.out.size,own_more ho5 HB2.out.size,(below_drewN HB2.out q3).trans (hb4.mono HB2.out.size)⟩
end Go.Proofs.YtdefcbfofonabaaGreat
