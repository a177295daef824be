/- Contracts of package rat: Sub, Cmp; attesttop.alike. -/
import Derived.Test.YtdefcbfofonabaaGreatLimbSub
namespace Go.Proofs.YtdefcbfofonabaaGreat
open Go.RowKit
set_option linter.unusedVariables false
set_option linter.unusedSimpArgs false
set_option maxRecDepth 100000 in
set_option maxHeartbeats 4000000 in
theorem sub_any (b1 b2:RB) (p q:Rat) (w:World) (h1:RatAt w b1 p) (h2:RatAt w b2 q) (z:Nat) (hz:z≤1000000) (l1:RatLe p z) (l2:RatLe q z) :
 Calls Tryz.prog 70 #[b1.val (ratNeg p),b2.val (ratNeg q)] w fun e w'=>∃ b:RB,e=.returned (b.val (ratNeg (p - q)))∧RatAt w' b (p - q)∧Below w.heap.size w w':=by
 obtain ⟨A,n,c,A2,n2,c2⟩:=b1;obtain ⟨B,k,d,B2,k2,d2⟩:=b2
 have hng:=fun W h=>neg_any ⟨B,k,d,B2,k2,d2⟩ q W h
 have had:=fun W hh1 hh2=>add_any ⟨A,n,c,A2,n2,c2⟩ ⟨B,k,d,B2,k2,d2⟩ p (-q) W hh1 hh2 z hz l1 (neg_le l2)
 rw [Rat.sub_eq_add_neg]
 generalize hpq:p + -q=r at *
 clear hpq;unfold RB.val;unfold RB.val at hng had;simp only at hng had ⊢
 generalize ratNeg p=s1 at *
 generalize ratNeg q=s2 at *
 have HNG:=Lib.hid hng;have HAD:=Lib.hid had;clear hng had
 go_enter Tryz.func70,Tryz.ntmps70
 go_upto_region 1 with fail
 have hw1:(w.alloc (.cells #[.bool s1,.slice A n c,.slice A2 n2 c2] 26)).heap.size=w.heap.size+1:=by simp
 have hw2:((w.alloc (.cells #[.bool s1,.slice A n c,.slice A2 n2 c2] 26)).alloc (.cells #[.bool s2,.slice B k d,.slice B2 k2 d2] 26)).heap.size=w.heap.size+1+1:=by simp
 have hx1:=box_keep (heap_alloc_new w (.cells #[.bool s1,.slice A n c,.slice A2 n2 c2] 26)) ((Below.refl _ _).alloc (Nat.le_refl _) (.cells #[.bool s2,.slice B k d,.slice B2 k2 d2] 26));have hx2:=heap_alloc_new (w.alloc (.cells #[.bool s1,.slice A n c,.slice A2 n2 c2] 26)) (.cells #[.bool s2,.slice B k d,.slice B2 k2 d2] 26);have hbw:=((Below.refl w.heap.size w).alloc (Nat.le_refl _) (.cells #[.bool s1,.slice A n c,.slice A2 n2 c2] 26)).alloc (by simp) (.cells #[.bool s2,.slice B k d,.slice B2 k2 d2] 26)
 obtain ⟨wk,hwk⟩:∃ x,x=(w.alloc (.cells #[.bool s1,.slice A n c,.slice A2 n2 c2] 26)).alloc (.cells #[.bool s2,.slice B k d,.slice B2 k2 d2] 26):=⟨_,rfl⟩
 rw [hw1] at hx2;rw [←hwk] at hx1 hx2 hbw hw2 ⊢;have h1k:=h1.below hbw;have h2k:=h2.below hbw;clear hwk hw1 h1 h2;have hr3:=heap_alloc_new wk (.cells #[.bool false,.slice none 0 0,.slice none 0 0] 26);have hx1':=box_keep hx1 ((Below.refl _ _).alloc (Nat.le_refl _) (.cells #[.bool false,.slice none 0 0,.slice none 0 0] 26));have hx2':=box_keep hx2 ((Below.refl _ _).alloc (Nat.le_refl _) (.cells #[.bool false,.slice none 0 0,.slice none 0 0] 26));have hbk:=hbw.alloc hbw.size (.cells #[.bool false,.slice none 0 0,.slice none 0 0] 26);have h1z:=h1k.alloc (.cells #[.bool false,.slice none 0 0,.slice none 0 0] 26);have h2z:=h2k.alloc (.cells #[.bool false,.slice none 0 0,.slice none 0 0] 26)
 obtain ⟨wz,hwz⟩:∃ x,x=wk.alloc (.cells #[.bool false,.slice none 0 0,.slice none 0 0] 26):=⟨_,rfl⟩
 rw [hw2] at hr3;rw [←hwz] at hr3 hx1' hx2' hbk h1z h2z ⊢;have HX1:=Lib.hid hx1';have HX2:=Lib.hid hx2';have HR3:=Lib.hid hr3;have HBZ:=Lib.hid hbk;have H1:=Lib.hid h1z;have H2:=Lib.hid h2z;clear hwz hx1 hx2 hx1' hx2' hr3 hbk h1k h2k h1z h2z hbw hw2
 have hcs:∀ W',Fr (fun b=>b=w.heap.size+1+1) wz W'→W'.cell? ⟨w.heap.size,0,none⟩=some (.bool s1)∧W'.cell? ⟨w.heap.size,1,none⟩=some (.slice A n c)∧W'.cell? ⟨w.heap.size,2,none⟩=some (.slice A2 n2 c2)∧W'.cell? ⟨w.heap.size+1,0,none⟩=some (.bool s2)∧W'.cell? ⟨w.heap.size+1,1,none⟩=some (.slice B k d)∧W'.cell? ⟨w.heap.size+1,2,none⟩=some (.slice B2 k2 d2):=fun W' h=>by
  obtain ⟨a0,a1,a2⟩:=Box.of ((h.block _ (lt_of_blk HX1.out) (by omega)).trans HX1.out);obtain ⟨b0,b1,b2⟩:=Box.of ((h.block _ (lt_of_blk HX2.out) (by omega)).trans HX2.out);exact ⟨a0,a1,a2,b0,b1,b2⟩
 have hnz:∀ W',Below wz.heap.size wz W'→∀ b i k,b=w.heap.size+1+1→W'.cell? ⟨b,i,none⟩≠some (.int .u32 k):=fun W' h b i k hb e=>by
  subst hb;rw [cell_of_blk (box_keep HR3.out h) i] at e;exact no_int3 _ _ _ (by simp) (by simp) (by simp) i k e
 have HCS:=Lib.hid hcs;have HNZ:=Lib.hid hnz;clear hcs hnz;have tok:True:=trivial
 go_region_held3 (fun W'=>W'.cell? ⟨w.heap.size,0,none⟩=some (.bool s1)∧W'.cell? ⟨w.heap.size,1,none⟩=some (.slice A n c)∧W'.cell? ⟨w.heap.size,2,none⟩=some (.slice A2 n2 c2)∧W'.cell? ⟨w.heap.size+1,0,none⟩=some (.bool s2)∧W'.cell? ⟨w.heap.size+1,1,none⟩=some (.slice B k d)∧W'.cell? ⟨w.heap.size+1,2,none⟩=some (.slice B2 k2 d2)) ((refine HCS.out _ ?_;first | with_reducible exact Fr.of_below b28 | with_reducible exact fr_set (fr_set (fr_set (Fr.of_below b28) (.inl rfl)) (.inl rfl)) (.inl rfl) | with_reducible exact Fr.of_below b25 | with_reducible exact (Fr.refl _ _).drew | with_reducible exact Fr.refl _ _)) (first | (go_at_call 40;have _t:=tok;refine (HNG.out _ (H2.out.below (below_drew2 (Below.refl _ _)))).mono ?_;rintro e w25 ⟨rfl,h25,b25'⟩;have b25:=(below_drew2 (Below.refl wz.heap.size wz)).trans b25';have hcall:=HAD.out w25 (H1.out.below b25) h25;clear tok _t) | (go_at_call 48;refine hcall.mono ?_;clear hcall;rintro e w28 ⟨rb,rfl,hrat,b28'⟩;have b28:=b25.trans (b28'.mono b25.size);obtain ⟨r0,r1,r2⟩:=Box.of (box_keep HR3.out b28);have s0:=frozen_of_blk (box_keep HR3.out b28) 0;have s1':=frozen_of_blk (box_keep HR3.out b28) 1;have s2':=frozen_of_blk (box_keep HR3.out b28) 2;have HRAT:=Lib.hid hrat;have HB28:=Lib.hid (HBZ.out.trans (b28.mono HBZ.out.size));have HNI:=Lib.hid (HNZ.out w28 b28);clear hrat))
 all_goals
  go_wp2_with fail
  refine bodyPost_ret (v:=.agg #[.bool (ratNeg (r)),.slice rb.A rb.n rb.c,.slice rb.A2 rb.n2 rb.c2]) (by simp [results,Tryz.results70,go_sem,r0,r1,r2]) rfl ?_;refine ⟨rb,rfl,HRAT.out.fr (S:=fun b=>b=w.heap.size+1+1) (fr_set (fr_set (fr_set (Fr.refl _ _) (.inl rfl)) (.inl rfl)) (.inl rfl)) HNI.out,bl_set (bl_set (bl_set HB28.out ?_) ?_) ?_⟩
  all_goals
   simp
   try omega
set_option maxRecDepth 100000 in
theorem cmp_any (b1 b2:RB) (p q:Rat) (w:World) (h1:RatAt w b1 p) (h2:RatAt w b2 q) (z:Nat) (hz:z≤1000000) (l1:RatLe p z) (l2:RatLe q z) :
 Calls Tryz.prog 68 #[b1.val (ratNeg p),b2.val (ratNeg q)] w fun e w'=>e=.returned (.int .i64 (signZ (p - q)))∧Below w.heap.size w w':=by
 have hsb:=fun W hh1 hh2=>sub_any b1 b2 p q W hh1 hh2 z hz l1 l2
 obtain ⟨A,n,c,A2,n2,c2⟩:=b1;obtain ⟨B,k,d,B2,k2,d2⟩:=b2
 have hsg:=fun b W h=>sign_any b (p - q) W h
 generalize p - q=r at *
 unfold RB.val;unfold RB.val at hsb hsg;simp only at hsb hsg ⊢
 generalize ratNeg p=s1 at *
 generalize ratNeg q=s2 at *
 have HSB:=Lib.hid hsb;have HSG:=Lib.hid hsg;clear hsb hsg
 go_enter Tryz.func68,Tryz.ntmps68
 go_upto_region 1 with fail
 have hw1:(w.alloc (.cells #[.bool s1,.slice A n c,.slice A2 n2 c2] 26)).heap.size=w.heap.size+1:=by simp
 have hw2:((w.alloc (.cells #[.bool s1,.slice A n c,.slice A2 n2 c2] 26)).alloc (.cells #[.bool s2,.slice B k d,.slice B2 k2 d2] 26)).heap.size=w.heap.size+1+1:=by simp
 have hx1:=box_keep (heap_alloc_new w (.cells #[.bool s1,.slice A n c,.slice A2 n2 c2] 26)) ((Below.refl _ _).alloc (Nat.le_refl _) (.cells #[.bool s2,.slice B k d,.slice B2 k2 d2] 26));have hx2:=heap_alloc_new (w.alloc (.cells #[.bool s1,.slice A n c,.slice A2 n2 c2] 26)) (.cells #[.bool s2,.slice B k d,.slice B2 k2 d2] 26);have hbw:=((Below.refl w.heap.size w).alloc (Nat.le_refl _) (.cells #[.bool s1,.slice A n c,.slice A2 n2 c2] 26)).alloc (by simp) (.cells #[.bool s2,.slice B k d,.slice B2 k2 d2] 26)
 obtain ⟨wk,hwk⟩:∃ x,x=(w.alloc (.cells #[.bool s1,.slice A n c,.slice A2 n2 c2] 26)).alloc (.cells #[.bool s2,.slice B k d,.slice B2 k2 d2] 26):=⟨_,rfl⟩
 rw [hw1] at hx2;rw [←hwk] at hx1 hx2 hbw hw2 ⊢;have h1k:=h1.below hbw;have h2k:=h2.below hbw;clear hwk hw1 h1 h2;have hcall:=HSB.out wk h1k h2k;obtain ⟨x0,x1,x2⟩:=Box.of hx1;obtain ⟨y0,y1,y2⟩:=Box.of hx2;have HBW:=Lib.hid hbw;clear hx1 hx2 hbw hw2 h1k h2k HSB
 go_wp2_with (first | (go_at_call 70;refine hcall.mono ?_;clear hcall;rintro e w5 ⟨rb,rfl,h5,b5⟩;have hcall2:=HSG.out rb w5 h5) | (go_at_call 33;refine hcall2.mono ?_;clear hcall2;rintro e w6 ⟨rfl,b6⟩))
 go_ret;exact ⟨rfl,HBW.out.trans ((b5.trans (b6.mono b5.size)).mono HBW.out.size)⟩
theorem signZ_zero (r:Rat):(signZ r == 0)=decide (r=0):=by
 unfold signZ
 by_cases h:r.num.natAbs=0
 · rw [if_pos h,decide_eq_true ((num_zero r).1 h)];rfl
 · rw [if_neg h,decide_eq_false (fun e=>h ((num_zero r).2 e))]
   split<;>rfl
end Go.Proofs.YtdefcbfofonabaaGreat

namespace Go.Proofs.YtdefcbfofonabaaGreat
open Go.RowKit
set_option linter.unusedVariables false
set_option linter.unusedSimpArgs false
set_option maxRecDepth 100000 in
set_option maxHeartbeats 4000000 in
theorem rmul_any (b1 b2:RB) (p q:Rat) (w:World) (h1:RatAt w b1 p) (h2:RatAt w b2 q) (z:Nat) (hz:z≤1000000) (l1:RatLe p z) (l2:RatLe q z) :
 Calls Tryz.prog 22 #[b1.val (ratNeg p),b2.val (ratNeg q)] w fun e w'=>∃ b:RB,e=.returned (b.val (ratNeg (p*q)))∧RatAt w' b (p*q)∧Below w.heap.size w w':=by
 obtain ⟨A,n,c,A2,n2,c2⟩:=b1;obtain ⟨B,k,d,B2,k2,d2⟩:=b2
 have hba:=fun W h=>below_any (ratNeg p) ⟨A,n,c,A2,n2,c2⟩ p W h
 have hbb:=fun W h=>below_any (ratNeg q) ⟨B,k,d,B2,k2,d2⟩ q W h
 have hpn:=l1.num;have hpd:=l1.den;have hqn:=l2.num;have hqd:=l2.den;have hm1:=len_mul _ _ _ _ hpn hqn;have hm3:=len_mul _ _ _ _ hpd hqd
 have hdp:0<lv (limbs (p.den*q.den)):=by rw [lv_limbs];exact Nat.mul_pos (Nat.pos_of_ne_zero p.den_nz) (Nat.pos_of_ne_zero q.den_nz)
 have hsum:=mul_rat p q;unfold RB.val;unfold RB.val at hba hbb;simp only at hba hbb ⊢
 generalize hr:p*q=r at *
 have HSUM:=Lib.hid hsum;clear hsum l1 l2 hr
 generalize ratNeg p=s1 at *
 generalize ratNeg q=s2 at *
 have hn1:=h1.num;have hn2:=h2.num;simp only at hn1 hn2
 generalize p.num.natAbs=pa at *
 generalize q.num.natAbs=qa at *
 generalize p.den=pd at *
 generalize q.den=qd at *
 have e1:(limbs pa).length≤100000000:=by omega
 have e2:(limbs qa).length≤100000000:=by omega
 have e3:(limbs pd).length≤100000000:=by omega
 have e4:(limbs qd).length≤100000000:=by omega
 have e5:(limbs (pa*qa)).length≤10000000:=by omega
 have e6:(limbs (pd*qd)).length≤10000000:=by omega
 have HN1:=Lib.hid hn1;have HN2:=Lib.hid hn2;have HBA:=Lib.hid hba;have HBB:=Lib.hid hbb;have E1:=Lib.hid e1;have E2:=Lib.hid e2;have E3:=Lib.hid e3;have E4:=Lib.hid e4;have E5:=Lib.hid e5;have E6:=Lib.hid e6;have HDP:=Lib.hid hdp;clear hn1 hn2 hba hbb hpn hpd hqn hqd hm1 hm3 e1 e2 e3 e4 e5 e6 hdp
 go_enter Tryz.func22,Tryz.ntmps22
 go_upto_region 1 with fail
 have hw1:(w.alloc (.cells #[.bool s1,.slice A n c,.slice A2 n2 c2] 26)).heap.size=w.heap.size+1:=by simp
 have hw2:((w.alloc (.cells #[.bool s1,.slice A n c,.slice A2 n2 c2] 26)).alloc (.cells #[.bool s2,.slice B k d,.slice B2 k2 d2] 26)).heap.size=w.heap.size+1+1:=by simp
 have hx1:=box_keep (heap_alloc_new w (.cells #[.bool s1,.slice A n c,.slice A2 n2 c2] 26)) ((Below.refl _ _).alloc (Nat.le_refl _) (.cells #[.bool s2,.slice B k d,.slice B2 k2 d2] 26));have hx2:=heap_alloc_new (w.alloc (.cells #[.bool s1,.slice A n c,.slice A2 n2 c2] 26)) (.cells #[.bool s2,.slice B k d,.slice B2 k2 d2] 26);have hbw:=((Below.refl w.heap.size w).alloc (Nat.le_refl _) (.cells #[.bool s1,.slice A n c,.slice A2 n2 c2] 26)).alloc (by simp) (.cells #[.bool s2,.slice B k d,.slice B2 k2 d2] 26)
 obtain ⟨wk,hwk⟩:∃ x,x=(w.alloc (.cells #[.bool s1,.slice A n c,.slice A2 n2 c2] 26)).alloc (.cells #[.bool s2,.slice B k d,.slice B2 k2 d2] 26):=⟨_,rfl⟩
 rw [hw1] at hx2;rw [←hwk] at hx1 hx2 hbw hw2 ⊢;have h1k:=h1.below hbw;have h2k:=h2.below hbw;clear hwk hw1 h1 h2;have hr3:=heap_alloc_new wk (.cells #[.bool false,.slice none 0 0,.slice none 0 0] 26);have hx1':=box_keep hx1 ((Below.refl _ _).alloc (Nat.le_refl _) (.cells #[.bool false,.slice none 0 0,.slice none 0 0] 26));have hx2':=box_keep hx2 ((Below.refl _ _).alloc (Nat.le_refl _) (.cells #[.bool false,.slice none 0 0,.slice none 0 0] 26));have hbk:=hbw.alloc hbw.size (.cells #[.bool false,.slice none 0 0,.slice none 0 0] 26);have h1z:=h1k.alloc (.cells #[.bool false,.slice none 0 0,.slice none 0 0] 26);have h2z:=h2k.alloc (.cells #[.bool false,.slice none 0 0,.slice none 0 0] 26)
 obtain ⟨wz,hwz⟩:∃ x,x=wk.alloc (.cells #[.bool false,.slice none 0 0,.slice none 0 0] 26):=⟨_,rfl⟩
 rw [hw2] at hr3;rw [←hwz] at hr3 hx1' hx2' hbk h1z h2z ⊢;have HX1:=Lib.hid hx1';have HX2:=Lib.hid hx2';have HR3:=Lib.hid hr3;have HBZ:=Lib.hid hbk;have H1:=Lib.hid h1z;have H2:=Lib.hid h2z;clear hwz hx1 hx2 hx1' hx2' hr3 hbk h1k h2k h1z h2z hbw hw2
 have hcs:∀ W',Fr (fun b=>b=w.heap.size+1+1) wz W'→W'.cell? ⟨w.heap.size,0,none⟩=some (.bool s1)∧W'.cell? ⟨w.heap.size,1,none⟩=some (.slice A n c)∧W'.cell? ⟨w.heap.size,2,none⟩=some (.slice A2 n2 c2)∧W'.cell? ⟨w.heap.size+1,0,none⟩=some (.bool s2)∧W'.cell? ⟨w.heap.size+1,1,none⟩=some (.slice B k d)∧W'.cell? ⟨w.heap.size+1,2,none⟩=some (.slice B2 k2 d2):=fun W' h=>by
  obtain ⟨a0,a1,a2⟩:=Box.of ((h.block _ (lt_of_blk HX1.out) (by omega)).trans HX1.out);obtain ⟨b0,b1,b2⟩:=Box.of ((h.block _ (lt_of_blk HX2.out) (by omega)).trans HX2.out);exact ⟨a0,a1,a2,b0,b1,b2⟩
 have hnz:∀ W',Below wz.heap.size wz W'→∀ b i k,b=w.heap.size+1+1→W'.cell? ⟨b,i,none⟩≠some (.int .u32 k):=fun W' h b i k hb e=>by
  subst hb;rw [cell_of_blk (box_keep HR3.out h) i] at e;exact no_int3 _ _ _ (by simp) (by simp) (by simp) i k e
 have HCS:=Lib.hid hcs;have HNZ:=Lib.hid hnz;clear hcs hnz;have tok:True:=trivial
 go_region_held3 (fun W'=>W'.cell? ⟨w.heap.size,0,none⟩=some (.bool s1)∧W'.cell? ⟨w.heap.size,1,none⟩=some (.slice A n c)∧W'.cell? ⟨w.heap.size,2,none⟩=some (.slice A2 n2 c2)∧W'.cell? ⟨w.heap.size+1,0,none⟩=some (.bool s2)∧W'.cell? ⟨w.heap.size+1,1,none⟩=some (.slice B k d)∧W'.cell? ⟨w.heap.size+1,2,none⟩=some (.slice B2 k2 d2)) ((refine HCS.out _ ?_;first | with_reducible exact Fr.of_below b28 | with_reducible exact fr_set (fr_set (fr_set (Fr.of_below b28) (.inl rfl)) (.inl rfl)) (.inl rfl) | with_reducible exact Fr.of_below b27 | with_reducible exact Fr.of_below b26 | with_reducible exact Fr.of_below b25 | with_reducible exact Fr.of_below b24 | with_reducible exact (Fr.refl _ _).drew | with_reducible exact Fr.refl _ _)) (first | (go_at_call 50;have _t:=tok;refine (mul_num (HN1.out.below (below_drew2 HBZ.out)) (HN2.out.below (below_drew2 HBZ.out)) E1.out E2.out).mono ?_;rintro e w24 ⟨A24,n24,c24,rfl,h24,b24'⟩;have b24:=(below_drew2 (Below.refl wz.heap.size wz)).trans b24';rw [lv_limbs,lv_limbs] at h24;have H24:=Lib.hid h24;have tok1:True:=trivial;clear tok _t h24) | (go_at_call 51;have _t:=tok1;refine (HBA.out _ (H1.out.below b24)).mono ?_;rintro e w25 ⟨A25,n25,c25,rfl,h25,b25'⟩;have b25:=b24.trans (b25'.mono b24.size);have H25:=Lib.hid h25;have tok2:True:=trivial;clear tok1 _t h25) | (go_at_call 51;have _t:=tok2;refine (HBB.out _ (H2.out.below b25)).mono ?_;rintro e w26 ⟨A26,n26,c26,rfl,h26,b26'⟩;have b26:=b25.trans (b26'.mono b25.size);have H26:=Lib.hid h26;have tok3:True:=trivial;clear tok2 _t h26) | (go_at_call 50;have _t:=tok3;refine (mul_num (H25.out.below b26') H26.out E3.out E4.out).mono ?_;rintro e w27 ⟨A27,n27,c27,rfl,h27,b27'⟩;have b27:=b26.trans (b27'.mono b26.size);rw [lv_limbs,lv_limbs] at h27;have hmade:=made_any (s1 != s2) (((H24.out.below b25').below b26').below b27') h27 E5.out E6.out HDP.out;rw [lv_limbs,lv_limbs,HSUM.out] at hmade;unfold RB.val at hmade;clear tok3 _t h27) | (go_at_call 49;refine hmade.mono ?_;clear hmade;rintro e w28 ⟨rb,rfl,hrat,b28'⟩;have b28:=b27.trans (b28'.mono b27.size);obtain ⟨r0,r1,r2⟩:=Box.of (box_keep HR3.out b28);have s0:=frozen_of_blk (box_keep HR3.out b28) 0;have s1':=frozen_of_blk (box_keep HR3.out b28) 1;have s2':=frozen_of_blk (box_keep HR3.out b28) 2;have HRAT:=Lib.hid hrat;have HB28:=Lib.hid (HBZ.out.trans (b28.mono HBZ.out.size));have HNI:=Lib.hid (HNZ.out w28 b28);clear hrat))
 all_goals
  go_wp2_with fail
  refine bodyPost_ret (v:=.agg #[.bool (ratNeg (r)),.slice rb.A rb.n rb.c,.slice rb.A2 rb.n2 rb.c2]) (by simp [results,Tryz.results22,go_sem,r0,r1,r2]) rfl ?_;refine ⟨rb,rfl,HRAT.out.fr (S:=fun b=>b=w.heap.size+1+1) (fr_set (fr_set (fr_set (Fr.refl _ _) (.inl rfl)) (.inl rfl)) (.inl rfl)) HNI.out,bl_set (bl_set (bl_set HB28.out ?_) ?_) ?_⟩
  all_goals
   simp
   try omega
end Go.Proofs.YtdefcbfofonabaaGreat

namespace Go.Proofs.YtdefcbfofonabaaGreat
open Go.RowKit
set_option linter.unusedVariables false
set_option linter.unusedSimpArgs false
theorem bl_zero (N:Nat) (h:0<N):((bl N:Int) == 0)=false:=by
 rw [beq_eq_false_iff_ne];intro e;have:=bl_lt N;rw [show bl N=0 by omega] at this;simp at this;omega
set_option maxRecDepth 100000 in
theorem make_any {w:World} {A A2:Option Addr} {n c n2 c2:Nat} {l m:List Nat} (s:Bool) (h:Num w A n c l) (h2:Num w A2 n2 c2 m) (hb:l.length≤10000000) (hb2:m.length≤10000000) (hp:0<lv m) :
 Calls Tryz.prog 108 #[.bool s,.slice A n c,.slice A2 n2 c2] w fun e w'=>∃ b:RB,e=.returned (.tuple #[b.val (ratNeg (mkRat (sgn s (lv l)) (lv m))),.bool true])∧RatAt w' b (mkRat (sgn s (lv l)) (lv m))∧Below w.heap.size w w':=by
 have hmd:=fun W hW=>made_any (w:=W) s (h.below hW) (h2.below hW) hb hb2 hp
 have hbt:=fun W hW=>bits_num (w:=W) (h2.below hW) (by omega)
 have hbz:=bl_zero (lv m) hp
 generalize mkRat (sgn s (lv l)) (lv m)=q at *
 generalize bl (lv m)=bb at *
 unfold RB.val;unfold RB.val at hmd;have HMD:=Lib.hid hmd;have HBT:=Lib.hid hbt;clear hmd hbt h h2 hp
 go_enter Tryz.func108,Tryz.ntmps108
 go_upto_region 1 with fail
 have hr3:=heap_alloc_new w (.cells #[.bool false,.slice none 0 0,.slice none 0 0] 26);have hbw:=(Below.refl w.heap.size w).alloc (Nat.le_refl _) (.cells #[.bool false,.slice none 0 0,.slice none 0 0] 26)
 obtain ⟨wk,hwk⟩:∃ x,x=w.alloc (.cells #[.bool false,.slice none 0 0,.slice none 0 0] 26):=⟨_,rfl⟩
 rw [←hwk] at hr3 hbw ⊢;have hcall:=HBT.out wk hbw;have hcall2:=HMD.out wk hbw;have HR3:=Lib.hid hr3;have HBW:=Lib.hid hbw;clear hwk hr3 hbw
 go_upto_region 3 with (go_at_call 118;refine hcall.mono ?_;clear hcall;rintro e w5 ⟨rfl,hw⟩;obtain rfl:=hw.symm;clear hw)
 go_wp2_with (go_at_call 49;refine hcall2.mono ?_;clear hcall2;rintro e w28 ⟨rb,rfl,hrat,b28⟩;obtain ⟨r0,r1,r2⟩:=Box.of (box_keep HR3.out b28);have s0:=frozen_of_blk (box_keep HR3.out b28) 0;have s1':=frozen_of_blk (box_keep HR3.out b28) 1;have s2':=frozen_of_blk (box_keep HR3.out b28) 2;have HRAT:=Lib.hid hrat;have HB28:=Lib.hid (HBW.out.trans (b28.mono HBW.out.size));have HK:=Lib.hid (box_keep HR3.out b28);clear hrat)
 refine bodyPost_ret (v:=.tuple #[.agg #[.bool (ratNeg q),.slice rb.A rb.n rb.c,.slice rb.A2 rb.n2 rb.c2],.bool true]) (by simp [results,Tryz.results108,go_sem,r0,r1,r2]) rfl ?_;refine ⟨rb,rfl,HRAT.out.fr (S:=fun b=>b=w.heap.size) (fr_set (fr_set (fr_set (Fr.refl _ _) (.inl rfl)) (.inl rfl)) (.inl rfl)) ?_,bl_set (bl_set (bl_set HB28.out ?_) ?_) ?_⟩
 · intro b i k hb e
   subst hb;rw [cell_of_blk HK.out i] at e;exact no_int3 _ _ _ (by simp) (by simp) (by simp) i k e
 all_goals
  simp
set_option maxRecDepth 100000 in
set_option maxHeartbeats 4000000 in
theorem inv_any (b1:RB) (q:Rat) (w:World) (h1:RatAt w b1 q) (z:Nat) (hz:z≤1000000) (l1:RatLe q z) (h0:q≠0) :
 Calls Tryz.prog 34 #[b1.val (ratNeg q)] w fun e w'=>∃ b:RB,e=.returned (.tuple #[b.val (ratNeg q⁻¹),.bool true])∧RatAt w' b q⁻¹∧Below w.heap.size w w':=by
 have hnil:=ratNum_nil h1;obtain ⟨A,n,c,A2,n2,c2⟩:=b1;simp only at hnil
 have hn0:((n:Int) == 0)=false:=by rw [beq_eq_false_iff_ne];intro e;exact h0 ((num_zero q).1 (hnil.1 (by omega)))
 have hba:=fun W h=>below_any (ratNeg q) ⟨A,n,c,A2,n2,c2⟩ q W h
 have hpn:=l1.num;have hpd:=l1.den;have hsum:=inv_rat q h0
 have hdp:0<lv (limbs q.num.natAbs):=by rw [lv_limbs];exact Nat.pos_of_ne_zero fun e=>h0 ((num_zero q).1 e)
 have hn1:=h1.num;simp only at hn1;unfold RB.val;unfold RB.val at hba;simp only at hba ⊢
 generalize q⁻¹=r at *
 generalize ratNeg q=s1 at *
 generalize q.num.natAbs=pa at *
 generalize q.den=pd at *
 have e1:(limbs pa).length≤10000000:=by omega
 have e3:(limbs pd).length≤10000000:=by omega
 have HSUM:=Lib.hid hsum;have HN1:=Lib.hid hn1;have HBA:=Lib.hid hba;have E1:=Lib.hid e1;have E3:=Lib.hid e3;have HDP:=Lib.hid hdp;clear hsum hn1 hba e1 e3 hdp hpn hpd hnil l1 h0
 go_enter Tryz.func34,Tryz.ntmps34
 go_upto_region 1 with fail
 have hx1:=heap_alloc_new w (.cells #[.bool s1,.slice A n c,.slice A2 n2 c2] 26)
 have hw1:(w.alloc (.cells #[.bool s1,.slice A n c,.slice A2 n2 c2] 26)).heap.size=w.heap.size+1:=by simp
 have hbw:=(Below.refl w.heap.size w).alloc (Nat.le_refl _) (.cells #[.bool s1,.slice A n c,.slice A2 n2 c2] 26)
 obtain ⟨wk,hwk⟩:∃ x,x=w.alloc (.cells #[.bool s1,.slice A n c,.slice A2 n2 c2] 26):=⟨_,rfl⟩
 rw [←hwk] at hx1 hbw hw1 ⊢;have h1k:=h1.below hbw;clear hwk h1;have hr3:=heap_alloc_new wk (.cells #[.bool false,.slice none 0 0,.slice none 0 0] 26);have hx1':=box_keep hx1 ((Below.refl _ _).alloc (Nat.le_refl _) (.cells #[.bool false,.slice none 0 0,.slice none 0 0] 26));have hbk:=hbw.alloc hbw.size (.cells #[.bool false,.slice none 0 0,.slice none 0 0] 26);have h1z:=h1k.alloc (.cells #[.bool false,.slice none 0 0,.slice none 0 0] 26)
 obtain ⟨wz,hwz⟩:∃ x,x=wk.alloc (.cells #[.bool false,.slice none 0 0,.slice none 0 0] 26):=⟨_,rfl⟩
 rw [hw1] at hr3;rw [←hwz] at hr3 hx1' hbk h1z ⊢;have HX1:=Lib.hid hx1';have HR3:=Lib.hid hr3;have HBZ:=Lib.hid hbk;have H1:=Lib.hid h1z;clear hwz hx1 hx1' hr3 hbk h1k h1z hbw hw1
 have hcs:∀ W',Fr (fun b=>b=w.heap.size+1) wz W'→W'.cell? ⟨w.heap.size,0,none⟩=some (.bool s1)∧W'.cell? ⟨w.heap.size,1,none⟩=some (.slice A n c)∧W'.cell? ⟨w.heap.size,2,none⟩=some (.slice A2 n2 c2):=fun W' h=>Box.of ((h.block _ (lt_of_blk HX1.out) (by omega)).trans HX1.out)
 have hnz:∀ W',Below wz.heap.size wz W'→∀ b i k,b=w.heap.size+1→W'.cell? ⟨b,i,none⟩≠some (.int .u32 k):=fun W' h b i k hb e=>by
  subst hb;rw [cell_of_blk (box_keep HR3.out h) i] at e;exact no_int3 _ _ _ (by simp) (by simp) (by simp) i k e
 have HCS:=Lib.hid hcs;have HNZ:=Lib.hid hnz;clear hcs hnz;obtain ⟨x0,x1,x2⟩:=HCS.out wz (Fr.refl _ _)
 go_upto_region 3 with fail
 have tok:True:=trivial;clear x0 x1 x2
 go_region_held3 (fun W'=>W'.cell? ⟨w.heap.size,0,none⟩=some (.bool s1)∧W'.cell? ⟨w.heap.size,1,none⟩=some (.slice A n c)∧W'.cell? ⟨w.heap.size,2,none⟩=some (.slice A2 n2 c2)) ((refine HCS.out _ ?_;first | with_reducible exact Fr.of_below b28 | with_reducible exact fr_set (fr_set (fr_set (Fr.of_below b28) (.inl rfl)) (.inl rfl)) (.inl rfl) | with_reducible exact Fr.of_below b25 | with_reducible exact (Fr.refl _ _).drew | with_reducible exact Fr.refl _ _)) (first | (go_at_call 51;have _t:=tok;refine (HBA.out _ (H1.out.below (below_drew2 (Below.refl _ _)))).mono ?_;rintro e w25 ⟨A25,n25,c25,rfl,h25,b25'⟩;have b25:=(below_drew2 (Below.refl wz.heap.size wz)).trans b25';have hmade:=made_any s1 h25 (HN1.out.below (HBZ.out.trans (b25.mono HBZ.out.size))) E3.out E1.out HDP.out;rw [lv_limbs,lv_limbs,HSUM.out] at hmade;unfold RB.val at hmade;clear tok _t h25) | (go_at_call 49;refine hmade.mono ?_;clear hmade;rintro e w28 ⟨rb,rfl,hrat,b28'⟩;have b28:=b25.trans (b28'.mono b25.size);obtain ⟨r0,r1,r2⟩:=Box.of (box_keep HR3.out b28);have s0:=frozen_of_blk (box_keep HR3.out b28) 0;have s1':=frozen_of_blk (box_keep HR3.out b28) 1;have s2':=frozen_of_blk (box_keep HR3.out b28) 2;have HRAT:=Lib.hid hrat;have HB28:=Lib.hid (HBZ.out.trans (b28.mono HBZ.out.size));have HNI:=Lib.hid (HNZ.out w28 b28);clear hrat))
 all_goals
  go_wp2_with fail
  refine bodyPost_ret (v:=.tuple #[.agg #[.bool (ratNeg r),.slice rb.A rb.n rb.c,.slice rb.A2 rb.n2 rb.c2],.bool true]) (by simp [results,Tryz.results34,go_sem,r0,r1,r2]) rfl ?_;refine ⟨rb,rfl,HRAT.out.fr (S:=fun b=>b=w.heap.size+1) (fr_set (fr_set (fr_set (Fr.refl _ _) (.inl rfl)) (.inl rfl)) (.inl rfl)) HNI.out,bl_set (bl_set (bl_set HB28.out ?_) ?_) ?_⟩
  all_goals
   simp
end Go.Proofs.YtdefcbfofonabaaGreat

namespace Go.Proofs.YtdefcbfofonabaaGreat
open Go.RowKit
set_option linter.unusedVariables false
set_option linter.unusedSimpArgs false
def ratZero:Value:=.agg #[.bool false,.slice none 0 0,.slice none 0 0]
set_option maxRecDepth 100000 in
theorem inv_zero (A:Option Addr) (c:Nat) (A2:Option Addr) (n2 c2:Nat) (s:Bool) (w:World) :
 Calls Tryz.prog 34 #[.agg #[.bool s,.slice A 0 c,.slice A2 n2 c2]] w fun e w'=>e=.returned (.tuple #[ratZero,.bool false])∧Below w.heap.size w w':=by
 go_enter Tryz.func34,Tryz.ntmps34
 go_wp2_with fail
 refine bodyPost_ret (v:=.tuple #[ratZero,.bool false]) (by simp [results,Tryz.results34,go_sem,ratZero]) rfl ?_;refine ⟨rfl,?_⟩
 repeat' (first | exact Below.refl _ _ | refine bl_set ?_ ?_ | refine bl_alloc ?_ ?_ | (simp;done) | (simp;omega))
set_option maxRecDepth 100000 in
set_option maxHeartbeats 4000000 in
theorem div_any (b1 b2:RB) (p q:Rat) (w:World) (h1:RatAt w b1 p) (h2:RatAt w b2 q) (z:Nat) (hz:z≤1000000) (l1:RatLe p z) (l2:RatLe q z) (h0:q≠0) :
 Calls Tryz.prog 69 #[b1.val (ratNeg p),b2.val (ratNeg q)] w fun e w'=>∃ b:RB,e=.returned (.tuple #[b.val (ratNeg (p / q)),.bool true])∧RatAt w' b (p / q)∧Below w.heap.size w w':=by
 have hiv:=fun W h=>inv_any b2 q W h z hz l2 h0
 have hml:=fun rb W hh1 hh2=>rmul_any b1 rb p q⁻¹ W hh1 hh2 z hz l1 (inv_le l2 h0)
 obtain ⟨A,n,c,A2,n2,c2⟩:=b1;obtain ⟨B,k,d,B2,k2,d2⟩:=b2;rw [Rat.div_def]
 generalize q⁻¹=qi at *
 generalize hpq:p*qi=r at *
 clear hpq;unfold RB.val;unfold RB.val at hiv hml;simp only at hiv hml ⊢
 generalize ratNeg p=s1 at *
 generalize ratNeg q=s2 at *
 have HIV:=Lib.hid hiv;have HML:=Lib.hid hml;clear hiv hml l1 l2 h0
 go_enter Tryz.func69,Tryz.ntmps69
 go_upto_region 1 with fail
 have hw1:(w.alloc (.cells #[.bool s1,.slice A n c,.slice A2 n2 c2] 26)).heap.size=w.heap.size+1:=by simp
 have hw2:((w.alloc (.cells #[.bool s1,.slice A n c,.slice A2 n2 c2] 26)).alloc (.cells #[.bool s2,.slice B k d,.slice B2 k2 d2] 26)).heap.size=w.heap.size+1+1:=by simp
 have hx1:=box_keep (heap_alloc_new w (.cells #[.bool s1,.slice A n c,.slice A2 n2 c2] 26)) ((Below.refl _ _).alloc (Nat.le_refl _) (.cells #[.bool s2,.slice B k d,.slice B2 k2 d2] 26));have hx2:=heap_alloc_new (w.alloc (.cells #[.bool s1,.slice A n c,.slice A2 n2 c2] 26)) (.cells #[.bool s2,.slice B k d,.slice B2 k2 d2] 26);have hbw:=((Below.refl w.heap.size w).alloc (Nat.le_refl _) (.cells #[.bool s1,.slice A n c,.slice A2 n2 c2] 26)).alloc (by simp) (.cells #[.bool s2,.slice B k d,.slice B2 k2 d2] 26)
 obtain ⟨wk,hwk⟩:∃ x,x=(w.alloc (.cells #[.bool s1,.slice A n c,.slice A2 n2 c2] 26)).alloc (.cells #[.bool s2,.slice B k d,.slice B2 k2 d2] 26):=⟨_,rfl⟩
 rw [hw1] at hx2;rw [←hwk] at hx1 hx2 hbw hw2 ⊢;have h1k:=h1.below hbw;have h2k:=h2.below hbw;clear hwk hw1 h1 h2;have hr3:=heap_alloc_new wk (.cells #[.bool false,.slice none 0 0,.slice none 0 0] 26);have hx1':=box_keep hx1 ((Below.refl _ _).alloc (Nat.le_refl _) (.cells #[.bool false,.slice none 0 0,.slice none 0 0] 26));have hx2':=box_keep hx2 ((Below.refl _ _).alloc (Nat.le_refl _) (.cells #[.bool false,.slice none 0 0,.slice none 0 0] 26));have hbk:=hbw.alloc hbw.size (.cells #[.bool false,.slice none 0 0,.slice none 0 0] 26);have h1z:=h1k.alloc (.cells #[.bool false,.slice none 0 0,.slice none 0 0] 26);have h2z:=h2k.alloc (.cells #[.bool false,.slice none 0 0,.slice none 0 0] 26)
 obtain ⟨wz,hwz⟩:∃ x,x=wk.alloc (.cells #[.bool false,.slice none 0 0,.slice none 0 0] 26):=⟨_,rfl⟩
 rw [hw2] at hr3;rw [←hwz] at hr3 hx1' hx2' hbk h1z h2z ⊢;have HX1:=Lib.hid hx1';have HX2:=Lib.hid hx2';have HR3:=Lib.hid hr3;have HBZ:=Lib.hid hbk;have H1:=Lib.hid h1z;have H2:=Lib.hid h2z;clear hwz hx1 hx2 hx1' hx2' hr3 hbk h1k h2k h1z h2z hbw hw2
 have hcs:∀ W',Fr (fun b=>b=w.heap.size+1+1) wz W'→W'.cell? ⟨w.heap.size,0,none⟩=some (.bool s1)∧W'.cell? ⟨w.heap.size,1,none⟩=some (.slice A n c)∧W'.cell? ⟨w.heap.size,2,none⟩=some (.slice A2 n2 c2)∧W'.cell? ⟨w.heap.size+1,0,none⟩=some (.bool s2)∧W'.cell? ⟨w.heap.size+1,1,none⟩=some (.slice B k d)∧W'.cell? ⟨w.heap.size+1,2,none⟩=some (.slice B2 k2 d2):=fun W' h=>by
  obtain ⟨a0,a1,a2⟩:=Box.of ((h.block _ (lt_of_blk HX1.out) (by omega)).trans HX1.out);obtain ⟨b0,b1,b2⟩:=Box.of ((h.block _ (lt_of_blk HX2.out) (by omega)).trans HX2.out);exact ⟨a0,a1,a2,b0,b1,b2⟩
 have hnz:∀ W',Below wz.heap.size wz W'→∀ b i k,b=w.heap.size+1+1→W'.cell? ⟨b,i,none⟩≠some (.int .u32 k):=fun W' h b i k hb e=>by
  subst hb;rw [cell_of_blk (box_keep HR3.out h) i] at e;exact no_int3 _ _ _ (by simp) (by simp) (by simp) i k e
 have HCS:=Lib.hid hcs;have HNZ:=Lib.hid hnz;clear hcs hnz;have hcall:=HIV.out wz H2.out;obtain ⟨x0,x1,x2,y0,y1,y2⟩:=HCS.out wz (Fr.refl _ _)
 go_upto_region 2 with (go_at_call 34;refine hcall.mono ?_;clear hcall;rintro e w5 ⟨rb,rfl,h5,b5⟩)
 have hy:=heap_alloc_new w5 (.cells #[.bool (ratNeg qi),.slice rb.A rb.n rb.c,.slice rb.A2 rb.n2 rb.c2] 26);have b6:Below wz.heap.size wz (w5.alloc (.cells #[.bool (ratNeg qi),.slice rb.A rb.n rb.c,.slice rb.A2 rb.n2 rb.c2] 26)):=b5.alloc b5.size _;have h6:=h5.alloc (.cells #[.bool (ratNeg qi),.slice rb.A rb.n rb.c,.slice rb.A2 rb.n2 rb.c2] 26)
 obtain ⟨w6,hw6⟩:∃ x,x=w5.alloc (.cells #[.bool (ratNeg qi),.slice rb.A rb.n rb.c,.slice rb.A2 rb.n2 rb.c2] 26):=⟨_,rfl⟩
 rw [←hw6] at hy b6 h6 ⊢;clear x0 x1 x2 y0 y1 y2;obtain ⟨x0,x1,x2,y0,y1,y2⟩:=HCS.out w6 (Fr.of_below b6);obtain ⟨v0,v1,v2⟩:=Box.of hy;have hcall:=HML.out rb w6 (H1.out.below b6) h6;have HB6:=Lib.hid b6;clear hw6 hy b6 h6 h5 b5
 go_wp2_with (go_at_call 22;refine hcall.mono ?_;clear hcall;rintro e w28 ⟨rc,rfl,hrat,b28'⟩;have b28:=HB6.out.trans (b28'.mono HB6.out.size);obtain ⟨r0,r1,r2⟩:=Box.of (box_keep HR3.out b28);have s0:=frozen_of_blk (box_keep HR3.out b28) 0;have s1':=frozen_of_blk (box_keep HR3.out b28) 1;have s2':=frozen_of_blk (box_keep HR3.out b28) 2;have HRAT:=Lib.hid hrat;have HB28:=Lib.hid (HBZ.out.trans (b28.mono HBZ.out.size));have HNI:=Lib.hid (HNZ.out w28 b28);clear hrat)
 refine bodyPost_ret (v:=.tuple #[.agg #[.bool (ratNeg r),.slice rc.A rc.n rc.c,.slice rc.A2 rc.n2 rc.c2],.bool true]) (by simp [results,Tryz.results69,go_sem,r0,r1,r2]) rfl ?_;refine ⟨rc,rfl,HRAT.out.fr (S:=fun b=>b=w.heap.size+1+1) (fr_set (fr_set (fr_set (Fr.refl _ _) (.inl rfl)) (.inl rfl)) (.inl rfl)) HNI.out,bl_set (bl_set (bl_set HB28.out ?_) ?_) ?_⟩
 all_goals
  simp
  try omega
end Go.Proofs.YtdefcbfofonabaaGreat
