/- Reference's rational numbers: low, Sign, sum, Int. -/
import Derived.Test.YtdefcbfofonabaaGreatBtDiv
namespace Go.Proofs.YtdefcbfofonabaaGreat
open Go.RowKit
set_option linter.unusedVariables false
set_option linter.unusedSimpArgs false
structure QLe (q:Rat) (k:Nat):Prop where
 num:(bitl q.num.natAbs).length≤k
 den:(bitl q.den).length≤k
theorem QLe.up {q:Rat} {a b:Nat} (h:QLe q a) (hab:a≤b):QLe q b:=⟨Nat.le_trans h.num hab,Nat.le_trans h.den hab⟩
theorem blen_mul (x y a b:Nat) (hx:(bitl x).length≤a) (hy:(bitl y).length≤b):(bitl (x*y)).length≤a+b:=bitl_mul hx hy
theorem blen_add (x y k:Nat) (hx:(bitl x).length≤k) (hy:(bitl y).length≤k) (M:Nat) (h:M≤x+y):(bitl M).length≤k+1:=bitl_add hx hy h
theorem bmk_bounds (s:Bool) (a d:Nat) (hd:0<d) (k:Nat) (h1:(bitl a).length≤k) (h2:(bitl d).length≤k) :
 (bitl (mkRat (sgn s a) d).num.natAbs).length≤k∧(bitl (mkRat (sgn s a) d).den).length≤k:=by
 obtain ⟨h3,h4⟩:=mk_le s a d hd;exact ⟨Nat.le_trans (bitl_mono h3) h1,Nat.le_trans (bitl_mono h4) h2⟩
theorem qadd_le {p q:Rat} {a b:Nat} (hp:QLe p a) (hq:QLe q b):QLe (p+q) (a+b+1):=by
 have hd:0<p.den*q.den:=Nat.mul_pos (Nat.pos_of_ne_zero p.den_nz) (Nat.pos_of_ne_zero q.den_nz)
 obtain ⟨h1,h2⟩:=bmk_bounds (sumF (ratNeg p) (p.num.natAbs*q.den) (ratNeg q) (q.num.natAbs*p.den)).1 (sumF (ratNeg p) (p.num.natAbs*q.den) (ratNeg q) (q.num.natAbs*p.den)).2 (p.den*q.den) hd (a+b+1)
  (blen_add _ _ (a+b) (blen_mul _ _ _ _ hp.num hq.den) (by have:=blen_mul _ _ _ _ hq.num hp.den;omega) _ (sumF_le _ _ _ _)) (by have:=blen_mul _ _ _ _ hp.den hq.den;omega)
 rw [add_rat] at h1 h2;exact ⟨h1,h2⟩
theorem qmul_le {p q:Rat} {a b:Nat} (hp:QLe p a) (hq:QLe q b):QLe (p*q) (a+b):=by
 have hd:0<p.den*q.den:=Nat.mul_pos (Nat.pos_of_ne_zero p.den_nz) (Nat.pos_of_ne_zero q.den_nz);obtain ⟨h1,h2⟩:=bmk_bounds (ratNeg p != ratNeg q) (p.num.natAbs*q.num.natAbs) (p.den*q.den) hd (a+b) (blen_mul _ _ _ _ hp.num hq.num) (blen_mul _ _ _ _ hp.den hq.den);rw [mul_rat] at h1 h2;exact ⟨h1,h2⟩
theorem qneg_le {q:Rat} {a:Nat} (h:QLe q a):QLe (-q) a:=by
 obtain ⟨_,h2,h3⟩:=neg_rat q;exact ⟨by rw [h2];exact h.num,by rw [h3];exact h.den⟩
theorem qzero_le (k:Nat) (hk:1≤k):QLe 0 k:=⟨by rw [show (0:Rat).num.natAbs=0 from rfl,bitl_zero];simp,by rw [show (0:Rat).den=1 from rfl,bitl_one];simpa using hk⟩
theorem qone_le (k:Nat) (hk:1≤k):QLe 1 k:=⟨by rw [show (1:Rat).num.natAbs=1 from rfl,bitl_one];simpa using hk,by rw [show (1:Rat).den=1 from rfl,bitl_one];simpa using hk⟩
theorem qden_pos {w:World} {b:RB} {q:Rat} (h:QAt w b q):0<b.n2:=by
 have:=h.den.len;have h2:=(@bits_pos q.den).2 (Nat.pos_of_ne_zero q.den_nz);omega
section
variable {w:World} {A A2:Option Addr} {n c n2 c2 a b:Nat}
theorem bmul_q (h:Bts w A n c (bitl a)) (h2:Bts w A2 n2 c2 (bitl b)) (hb:(bitl a).length≤100000) (hb2:(bitl b).length≤100000) :
 Calls Tryz.prog 96 #[.slice A n c,.slice A2 n2 c2] w fun e w'=>∃ A' n' c',e=.returned (.slice A' n' c')∧Bts w' A' n' c' (bitl (a*b))∧Below w.heap.size w w' :=
 bmul_any a b h h2 (by have:=h.len;omega) (by have:=h2.len;omega)
theorem of5_q (s:Bool) (h:Bts w A n c (bitl a)) (h2:Bts w A2 n2 c2 (bitl b)) (hb:(bitl a).length≤100000) (hb2:(bitl b).length≤100000) (hp:0<b) :
 Calls Tryz.prog 98 #[.bool s,.slice A n c,.slice A2 n2 c2] w fun e w'=>∃ r:RB,e=.returned (r.val (ratNeg (mkRat (sgn s a) b)))∧QAt w' r (mkRat (sgn s a) b)∧Below w.heap.size w w' :=
 of5_any s a b h h2 (by have:=h.len;omega) (by have:=h2.len;omega) hp
set_option maxRecDepth 100000 in
theorem bsum_any (an bn:Bool) (h:Bts w A n c (bitl a)) (h2:Bts w A2 n2 c2 (bitl b)) (hb:(bitl a).length≤100000) (hb2:(bitl b).length≤100000) :
 Calls Tryz.prog 95 #[.bool an,.slice A n c,.bool bn,.slice A2 n2 c2] w fun e w'=>∃ A' n' c',e=.returned (.tuple #[.bool (sumF an a bn b).1,.slice A' n' c'])∧Bts w' A' n' c' (bitl (sumF an a bn b).2)∧Below w.heap.size w w':=by
 have hl:=h.len;have hl2:=h2.len;unfold sumF
 by_cases he:an=bn
 · subst he
   rw [if_pos rfl];have ha:=badd_any h h2 (by omega) (by omega);rw [bvl_bitl,bvl_bitl] at ha;clear h h2
   cases an
   · go_enter Tryz.func95,Tryz.ntmps95
     go_wp2_with (go_at_call 60;refine ha.mono ?_;clear ha;rintro e w1 ⟨A1,n1,c1,rfl,h1,b1⟩)
     go_ret2
     exact ⟨_,_,_,rfl,h1,b1⟩
   · go_enter Tryz.func95,Tryz.ntmps95
     go_wp2_with (go_at_call 60;refine ha.mono ?_;clear ha;rintro e w1 ⟨A1,n1,c1,rfl,h1,b1⟩)
     go_ret2
     exact ⟨_,_,_,rfl,h1,b1⟩
 · rw [if_neg he]
   have hbe:(an == bn)=false:=by rw [beq_eq_false_iff_ne];exact he
   have hcm:=rcmp_any h h2 (by omega) (by omega) (tight_bitl a) (tight_bitl b);unfold CmpR at hcm;rw [bvl_bitl,bvl_bitl] at hcm;have H:=Lib.hid h;have H2:=Lib.hid h2;have HC:=Lib.hid hcm;clear hcm h h2
   by_cases hle:b≤a
   · rw [if_pos hle]
     go_enter Tryz.func95,Tryz.ntmps95
     go_upto_if 20 with (go_at_call 110;refine HC.out.mono ?_;clear HC;rintro e w1 ⟨r,rfl,hr,k,rfl⟩)
     have hr0:0≤r:=hr.2 hle;have hs:=rsub_any (H.out.drewN k) (H2.out.drewN k) (by omega) (tight_bitl b) (by rw [bvl_bitl,bvl_bitl];exact hle);rw [bvl_bitl,bvl_bitl] at hs;clear hr
     go_wp2_with (go_at_call 111;refine hs.mono ?_;clear hs;rintro e w2 ⟨A1,n1,c1,rfl,o,h1,_,t1,v1,_,b1⟩)
     go_ret2
     rw [tight_eq t1 v1] at h1;exact ⟨_,_,_,rfl,h1,⟨b1.os,b1.tape,b1.output,b1.size,b1.block⟩⟩
   · rw [if_neg hle]
     go_enter Tryz.func95,Tryz.ntmps95
     go_upto_if 20 with (go_at_call 110;refine HC.out.mono ?_;clear HC;rintro e w1 ⟨r,rfl,hr,k,rfl⟩)
     have hr0:¬ 0≤r:=fun e=>hle (hr.1 e)
     have hs:=rsub_any (H2.out.drewN k) (H.out.drewN k) (by omega) (tight_bitl a) (by rw [bvl_bitl,bvl_bitl];omega);rw [bvl_bitl,bvl_bitl] at hs;clear hr
     go_wp2_with (go_at_call 111;refine hs.mono ?_;clear hs;rintro e w2 ⟨A1,n1,c1,rfl,o,h1,_,t1,v1,_,b1⟩)
     go_ret2
     rw [tight_eq t1 v1] at h1;exact ⟨_,_,_,rfl,h1,⟨b1.os,b1.tape,b1.output,b1.size,b1.block⟩⟩
end
set_option maxRecDepth 100000 in
theorem low_any (s:Bool) (b:RB) (q:Rat) (w:World) (h:QAt w b q) :
 Calls Tryz.prog 97 #[b.val s] w fun e w'=>∃ A' n' c',e=.returned (.slice A' n' c')∧Bts w' A' n' c' (bitl q.den)∧Below w.heap.size w w':=by
 have hp:=qden_pos h;have hd:=h.den;obtain ⟨A,n,c,A2,n2,c2⟩:=b;unfold RB.val;simp only at hp hd ⊢
 have hn2:((n2:Int) == 0)=false:=by rw [beq_eq_false_iff_ne];omega
 have HD:=Lib.hid hd;clear h hd hp
 go_enter Tryz.func97,Tryz.ntmps97
 go_wp2_with fail
 go_ret;exact ⟨_,_,_,rfl,HD.out.alloc _,(Below.refl w.heap.size w).alloc (Nat.le_refl _) _⟩
set_option maxRecDepth 100000 in
theorem qsign_any (b:RB) (q:Rat) (w:World) (h:QAt w b q) :
 Calls Tryz.prog 62 #[b.val (ratNeg q)] w fun e w'=>e=.returned (.int .i64 (signZ q))∧Below w.heap.size w w':=by
 have hl:=h.num.len;have hnil:=@bitl_nil q.num.natAbs;obtain ⟨A,n,c,A2,n2,c2⟩:=b;unfold RB.val;simp only at hl ⊢;unfold signZ
 by_cases h1:q.num.natAbs=0
 · rw [if_pos h1]
   have h0:n=0:=by rw [←hl];exact hnil.2 h1
   subst h0;clear h hnil h1 hl;generalize ratNeg q=s
   go_enter Tryz.func62,Tryz.ntmps62
   go_wp2_with fail
   go_ret;exact ⟨rfl,(Below.refl w.heap.size w).alloc (Nat.le_refl _) _⟩
 · rw [if_neg h1]
   have hn:((n:Int) == 0)=false:=by
    rw [beq_eq_false_iff_ne];intro e;exact h1 (hnil.1 (by omega))
   clear h hnil h1 hl
   cases ratNeg q
   · go_enter Tryz.func62,Tryz.ntmps62
     go_wp2_with fail
     go_ret;exact ⟨rfl,(Below.refl w.heap.size w).alloc (Nat.le_refl _) _⟩
   · go_enter Tryz.func62,Tryz.ntmps62
     go_wp2_with fail
     go_ret;exact ⟨rfl,(Below.refl w.heap.size w).alloc (Nat.le_refl _) _⟩
end Go.Proofs.YtdefcbfofonabaaGreat

namespace Go.Proofs.YtdefcbfofonabaaGreat
open Go.RowKit
set_option linter.unusedVariables false
set_option linter.unusedSimpArgs false
set_option maxRecDepth 100000 in
set_option maxHeartbeats 4000000 in
theorem qadd_any (b1 b2:RB) (p q:Rat) (w:World) (h1:QAt w b1 p) (h2:QAt w b2 q) (z:Nat) (hz:z≤40000) (l1:QLe p z) (l2:QLe q z) :
 Calls Tryz.prog 81 #[b1.val (ratNeg p),b2.val (ratNeg q)] w fun e w'=>∃ b:RB,e=.returned (b.val (ratNeg (p+q)))∧QAt w' b (p+q)∧Below w.heap.size w w':=by
 obtain ⟨A,n,c,A2,n2,c2⟩:=b1;obtain ⟨B,k,d,B2,k2,d2⟩:=b2
 have hba:=fun W h=>low_any (ratNeg p) ⟨A,n,c,A2,n2,c2⟩ p W h
 have hbb:=fun W h=>low_any (ratNeg q) ⟨B,k,d,B2,k2,d2⟩ q W h
 have hpn:=l1.num;have hpd:=l1.den;have hqn:=l2.num;have hqd:=l2.den;have hm1:=blen_mul _ _ _ _ hpn hqd;have hm2:=blen_mul _ _ _ _ hqn hpd;have hm3:=blen_mul _ _ _ _ hpd hqd;have hm4:=blen_add _ _ (z+z) hm1 hm2 _ (sumF_le (ratNeg p) (p.num.natAbs*q.den) (ratNeg q) (q.num.natAbs*p.den));have hdp:0<p.den*q.den:=Nat.mul_pos (Nat.pos_of_ne_zero p.den_nz) (Nat.pos_of_ne_zero q.den_nz);have hsum:=add_rat p q;unfold RB.val;unfold RB.val at hba hbb;simp only at hba hbb ⊢;have HSUM:=Lib.hid hsum;clear hsum l1 l2
 generalize ratNeg p=s1 at *
 generalize ratNeg q=s2 at *
 have hn1:=h1.num;have hn2:=h2.num;simp only at hn1 hn2
 generalize p.num.natAbs=pa at *
 generalize q.num.natAbs=qa at *
 generalize p.den=pd at *
 generalize q.den=qd at *
 have HN1:=Lib.hid hn1;have HN2:=Lib.hid hn2;have HBA:=Lib.hid hba;have HBB:=Lib.hid hbb;clear hn1 hn2 hba hbb
 obtain ⟨SF,hSF⟩:∃ SF,sumF s1 (pa*qd) s2 (qa*pd)=SF:=⟨_,rfl⟩
 rw [hSF] at hm4 HSUM;have HSF:=Lib.hid hSF;clear hSF
 go_enter Tryz.func81,Tryz.ntmps81
 go_upto_region 1 with fail
 have hw1:(w.alloc (.cells #[.bool s1,.slice A n c,.slice A2 n2 c2] 83)).heap.size=w.heap.size+1:=by simp
 have hw2:((w.alloc (.cells #[.bool s1,.slice A n c,.slice A2 n2 c2] 83)).alloc (.cells #[.bool s2,.slice B k d,.slice B2 k2 d2] 83)).heap.size=w.heap.size+1+1:=by simp
 have hx1:=box_keep (heap_alloc_new w (.cells #[.bool s1,.slice A n c,.slice A2 n2 c2] 83)) ((Below.refl _ _).alloc (Nat.le_refl _) (.cells #[.bool s2,.slice B k d,.slice B2 k2 d2] 83));have hx2:=heap_alloc_new (w.alloc (.cells #[.bool s1,.slice A n c,.slice A2 n2 c2] 83)) (.cells #[.bool s2,.slice B k d,.slice B2 k2 d2] 83);have hbw:=((Below.refl w.heap.size w).alloc (Nat.le_refl _) (.cells #[.bool s1,.slice A n c,.slice A2 n2 c2] 83)).alloc (by simp) (.cells #[.bool s2,.slice B k d,.slice B2 k2 d2] 83)
 obtain ⟨wk,hwk⟩:∃ x,x=(w.alloc (.cells #[.bool s1,.slice A n c,.slice A2 n2 c2] 83)).alloc (.cells #[.bool s2,.slice B k d,.slice B2 k2 d2] 83):=⟨_,rfl⟩
 rw [hw1] at hx2;rw [←hwk] at hx1 hx2 hbw hw2 ⊢;have h1k:=h1.below hbw;have h2k:=h2.below hbw;clear hwk hw1 h1 h2;have hr3:=heap_alloc_new wk (.cells #[.bool false,.slice none 0 0,.slice none 0 0] 83);have hx1':=box_keep hx1 ((Below.refl _ _).alloc (Nat.le_refl _) (.cells #[.bool false,.slice none 0 0,.slice none 0 0] 83));have hx2':=box_keep hx2 ((Below.refl _ _).alloc (Nat.le_refl _) (.cells #[.bool false,.slice none 0 0,.slice none 0 0] 83));have hbk:=hbw.alloc hbw.size (.cells #[.bool false,.slice none 0 0,.slice none 0 0] 83);have h1z:=h1k.alloc (.cells #[.bool false,.slice none 0 0,.slice none 0 0] 83);have h2z:=h2k.alloc (.cells #[.bool false,.slice none 0 0,.slice none 0 0] 83)
 obtain ⟨wz,hwz⟩:∃ x,x=wk.alloc (.cells #[.bool false,.slice none 0 0,.slice none 0 0] 83):=⟨_,rfl⟩
 rw [hw2] at hr3;rw [←hwz] at hr3 hx1' hx2' hbk h1z h2z ⊢;have HX1:=Lib.hid hx1';have HX2:=Lib.hid hx2';have HR3:=Lib.hid hr3;have HBZ:=Lib.hid hbk;have H1:=Lib.hid h1z;have H2:=Lib.hid h2z;clear hwz hx1 hx2 hx1' hx2' hr3 hbk h1k h2k h1z h2z hbw hw2
 have hcs:∀ W',Fr (fun b=>b=w.heap.size+1+1) wz W'→W'.cell? ⟨w.heap.size,0,none⟩=some (.bool s1)∧W'.cell? ⟨w.heap.size,1,none⟩=some (.slice A n c)∧W'.cell? ⟨w.heap.size,2,none⟩=some (.slice A2 n2 c2)∧W'.cell? ⟨w.heap.size+1,0,none⟩=some (.bool s2)∧W'.cell? ⟨w.heap.size+1,1,none⟩=some (.slice B k d)∧W'.cell? ⟨w.heap.size+1,2,none⟩=some (.slice B2 k2 d2):=fun W' h=>by
  obtain ⟨a0,a1,a2⟩:=Box.of ((h.block _ (lt_of_blk HX1.out) (by omega)).trans HX1.out);obtain ⟨b0,b1,b2⟩:=Box.of ((h.block _ (lt_of_blk HX2.out) (by omega)).trans HX2.out);exact ⟨a0,a1,a2,b0,b1,b2⟩
 have hnz:∀ W',Below wz.heap.size wz W'→∀ b,b=w.heap.size+1+1→∃ cs t m,W'.heap[b]?=some (.cells cs t m)∧t≠4:=fun W' h=>typB_of (box_keep HR3.out h) (by decide)
 have HCS:=Lib.hid hcs;have HNZ:=Lib.hid hnz;clear hcs hnz;have tok:True:=trivial
 go_cut [5,6] (fun x y wx=>∃ (A':Option Addr) (n' c':Nat),x=.bool SF.1∧y=.slice A' n' c'∧Bts wx A' n' c' (bitl SF.2)∧Below wz.heap.size wz wx)
 case first =>
  go_region_held3 (fun W'=>W'.cell? ⟨w.heap.size,0,none⟩=some (.bool s1)∧W'.cell? ⟨w.heap.size,1,none⟩=some (.slice A n c)∧W'.cell? ⟨w.heap.size,2,none⟩=some (.slice A2 n2 c2)∧W'.cell? ⟨w.heap.size+1,0,none⟩=some (.bool s2)∧W'.cell? ⟨w.heap.size+1,1,none⟩=some (.slice B k d)∧W'.cell? ⟨w.heap.size+1,2,none⟩=some (.slice B2 k2 d2)) (first | exact HCS.out _ (Fr.of_below b24) | exact HCS.out _ (Fr.of_below b23) | exact HCS.out _ (Fr.of_below b22) | exact HCS.out _ (Fr.of_below b21) | exact HCS.out _ (Fr.of_below b20) | exact HCS.out _ (Fr.refl _ _).drew | exact HCS.out _ (Fr.refl _ _)) (first | (go_at_call 97;have _t:=tok;refine (HBB.out _ (H2.out.below (below_drew2 (Below.refl _ _)))).mono ?_;rintro e w20 ⟨A20,n20,c20,rfl,h20,b20'⟩;have b20:=(below_drew2 (Below.refl wz.heap.size wz)).trans b20';have tok1:True:=trivial;clear tok _t) | (go_at_call 96;have _t:=tok1;refine (bmul_q (HN1.out.below (HBZ.out.trans (b20.mono HBZ.out.size))) h20 (by omega) (by omega)).mono ?_;rintro e w21 ⟨A21,n21,c21,rfl,h21,b21'⟩;have b21:=b20.trans (b21'.mono b20.size);have tok2:True:=trivial;clear tok1 _t) | (go_at_call 97;have _t:=tok2;refine (HBA.out _ (H1.out.below b21)).mono ?_;rintro e w22 ⟨A22,n22,c22,rfl,h22,b22'⟩;have b22:=b21.trans (b22'.mono b21.size);have tok3:True:=trivial;clear tok2 _t) | (go_at_call 96;have _t:=tok3;refine (bmul_q (HN2.out.below (HBZ.out.trans (b22.mono HBZ.out.size))) h22 (by omega) (by omega)).mono ?_;rintro e w23 ⟨A23,n23,c23,rfl,h23,b23'⟩;have b23:=b22.trans (b23'.mono b22.size);have tok4:True:=trivial;clear tok3 _t) | (go_at_call 95;have _t:=tok4;refine (bsum_any s1 s2 ((h21.below b22').below b23') h23 (by omega) (by omega)).mono ?_;rintro e w24 ⟨A24,n24,c24,rfl,h24,b24'⟩;have b24:=b23.trans (b24'.mono b23.size)))
  all_goals
   go_wp2_with fail
   go_meet;rw [HSF.out] at h24;exact ⟨_,_,_,congrArg Value.bool (by rw [HSF.out]),rfl,h24,b24⟩
 case rest =>
 obtain ⟨A11,n11,c11,rfl,rfl,h11,hb11⟩:=hcut
 obtain ⟨w11,rfl⟩:∃ x,x=wc:=⟨_,rfl⟩
 have H11:=Lib.hid h11;have HB11:=Lib.hid hb11;have tok:True:=trivial;clear h11 hb11
 go_upto_region 2 with fail
 go_region_held3 (fun W'=>W'.cell? ⟨w.heap.size,0,none⟩=some (.bool s1)∧W'.cell? ⟨w.heap.size,1,none⟩=some (.slice A n c)∧W'.cell? ⟨w.heap.size,2,none⟩=some (.slice A2 n2 c2)∧W'.cell? ⟨w.heap.size+1,0,none⟩=some (.bool s2)∧W'.cell? ⟨w.heap.size+1,1,none⟩=some (.slice B k d)∧W'.cell? ⟨w.heap.size+1,2,none⟩=some (.slice B2 k2 d2)) ((refine HCS.out _ ?_;first | with_reducible exact Fr.of_below b28 | with_reducible exact fr_set (fr_set (fr_set (Fr.of_below b28) (.inl rfl)) (.inl rfl)) (.inl rfl) | with_reducible exact Fr.of_below b27 | with_reducible exact Fr.of_below b26 | with_reducible exact Fr.of_below b25 | with_reducible exact (Fr.of_below HB11.out).drew | with_reducible exact Fr.of_below HB11.out)) (first | (go_at_call 97;have _t:=tok;refine (HBA.out _ (H1.out.below (below_drew2 HB11.out))).mono ?_;rintro e w25 ⟨A25,n25,c25,rfl,h25,b25'⟩;have b25:=(below_drew2 HB11.out).trans (b25'.mono HB11.out.size);have tok1:True:=trivial;clear tok _t) | (go_at_call 97;have _t:=tok1;refine (HBB.out _ (H2.out.below b25)).mono ?_;rintro e w26 ⟨A26,n26,c26,rfl,h26,b26'⟩;have b26:=b25.trans (b26'.mono b25.size);have tok2:True:=trivial;clear tok1 _t) | (go_at_call 96;have _t:=tok2;refine (bmul_q (h25.below b26') h26 (by omega) (by omega)).mono ?_;rintro e w27 ⟨A27,n27,c27,rfl,h27,b27'⟩;have b27:=b26.trans (b27'.mono b26.size);have hmade:=of5_q SF.1 (H11.out.below ((below_drew2 (Below.refl w11.heap.size w11)).trans ((b25'.trans (b26'.mono b25'.size)).trans (b27'.mono (Nat.le_trans b25'.size b26'.size))))) h27 (by omega) (by omega) hdp;rw [HSUM.out] at hmade;unfold RB.val at hmade;clear tok2 _t) | (go_at_call 98;refine hmade.mono ?_;clear hmade;rintro e w28 ⟨rb,rfl,hrat,b28'⟩;have b28:=b27.trans (b28'.mono b27.size);obtain ⟨r0,r1,r2⟩:=Box.of (box_keep HR3.out b28);have s0:=frozen_of_blk (box_keep HR3.out b28) 0;have s1':=frozen_of_blk (box_keep HR3.out b28) 1;have s2':=frozen_of_blk (box_keep HR3.out b28) 2;have HRAT:=Lib.hid hrat;have HB28:=Lib.hid (HBZ.out.trans (b28.mono HBZ.out.size));have HNI:=Lib.hid (HNZ.out w28 b28);clear hrat))
 all_goals
  go_wp2_with fail
  refine bodyPost_ret (v:=.agg #[.bool (ratNeg (p+q)),.slice rb.A rb.n rb.c,.slice rb.A2 rb.n2 rb.c2]) (by simp [results,Tryz.results81,go_sem,r0,r1,r2]) rfl ?_;refine ⟨rb,rfl,HRAT.out.fr (S:=fun b=>b=w.heap.size+1+1) (fr_set (fr_set (fr_set (Fr.refl _ _) (.inl rfl)) (.inl rfl)) (.inl rfl)) HNI.out,bl_set (bl_set (bl_set HB28.out ?_) ?_) ?_⟩
  all_goals
   simp
   try omega
end Go.Proofs.YtdefcbfofonabaaGreat

namespace Go.Proofs.YtdefcbfofonabaaGreat
open Go.RowKit
set_option linter.unusedVariables false
set_option linter.unusedSimpArgs false
set_option maxRecDepth 100000 in
set_option maxHeartbeats 4000000 in
theorem qmul_any (b1 b2:RB) (p q:Rat) (w:World) (h1:QAt w b1 p) (h2:QAt w b2 q) (z:Nat) (hz:z≤40000) (l1:QLe p z) (l2:QLe q z) :
 Calls Tryz.prog 82 #[b1.val (ratNeg p),b2.val (ratNeg q)] w fun e w'=>∃ b:RB,e=.returned (b.val (ratNeg (p*q)))∧QAt w' b (p*q)∧Below w.heap.size w w':=by
 obtain ⟨A,n,c,A2,n2,c2⟩:=b1;obtain ⟨B,k,d,B2,k2,d2⟩:=b2
 have hba:=fun W h=>low_any (ratNeg p) ⟨A,n,c,A2,n2,c2⟩ p W h
 have hbb:=fun W h=>low_any (ratNeg q) ⟨B,k,d,B2,k2,d2⟩ q W h
 have hpn:=l1.num;have hpd:=l1.den;have hqn:=l2.num;have hqd:=l2.den;have hm1:=blen_mul _ _ _ _ hpn hqn;have hm3:=blen_mul _ _ _ _ hpd hqd;have hdp:0<p.den*q.den:=Nat.mul_pos (Nat.pos_of_ne_zero p.den_nz) (Nat.pos_of_ne_zero q.den_nz);have hsum:=mul_rat p q;unfold RB.val;unfold RB.val at hba hbb;simp only at hba hbb ⊢
 generalize hr:p*q=r at *
 have HSUM:=Lib.hid hsum;clear hsum l1 l2 hr
 generalize ratNeg p=s1 at *
 generalize ratNeg q=s2 at *
 have hn1:=h1.num;have hn2:=h2.num;simp only at hn1 hn2
 generalize p.num.natAbs=pa at *
 generalize q.num.natAbs=qa at *
 generalize p.den=pd at *
 generalize q.den=qd at *
 have e1:(bitl pa).length≤100000:=by omega
 have e2:(bitl qa).length≤100000:=by omega
 have e3:(bitl pd).length≤100000:=by omega
 have e4:(bitl qd).length≤100000:=by omega
 have e5:(bitl (pa*qa)).length≤100000:=by omega
 have e6:(bitl (pd*qd)).length≤100000:=by omega
 have HN1:=Lib.hid hn1;have HN2:=Lib.hid hn2;have HBA:=Lib.hid hba;have HBB:=Lib.hid hbb;have E1:=Lib.hid e1;have E2:=Lib.hid e2;have E3:=Lib.hid e3;have E4:=Lib.hid e4;have E5:=Lib.hid e5;have E6:=Lib.hid e6;have HDP:=Lib.hid hdp;clear hn1 hn2 hba hbb hpn hpd hqn hqd hm1 hm3 e1 e2 e3 e4 e5 e6 hdp
 go_enter Tryz.func82,Tryz.ntmps82
 go_upto_region 1 with fail
 have hw1:(w.alloc (.cells #[.bool s1,.slice A n c,.slice A2 n2 c2] 83)).heap.size=w.heap.size+1:=by simp
 have hw2:((w.alloc (.cells #[.bool s1,.slice A n c,.slice A2 n2 c2] 83)).alloc (.cells #[.bool s2,.slice B k d,.slice B2 k2 d2] 83)).heap.size=w.heap.size+1+1:=by simp
 have hx1:=box_keep (heap_alloc_new w (.cells #[.bool s1,.slice A n c,.slice A2 n2 c2] 83)) ((Below.refl _ _).alloc (Nat.le_refl _) (.cells #[.bool s2,.slice B k d,.slice B2 k2 d2] 83));have hx2:=heap_alloc_new (w.alloc (.cells #[.bool s1,.slice A n c,.slice A2 n2 c2] 83)) (.cells #[.bool s2,.slice B k d,.slice B2 k2 d2] 83);have hbw:=((Below.refl w.heap.size w).alloc (Nat.le_refl _) (.cells #[.bool s1,.slice A n c,.slice A2 n2 c2] 83)).alloc (by simp) (.cells #[.bool s2,.slice B k d,.slice B2 k2 d2] 83)
 obtain ⟨wk,hwk⟩:∃ x,x=(w.alloc (.cells #[.bool s1,.slice A n c,.slice A2 n2 c2] 83)).alloc (.cells #[.bool s2,.slice B k d,.slice B2 k2 d2] 83):=⟨_,rfl⟩
 rw [hw1] at hx2;rw [←hwk] at hx1 hx2 hbw hw2 ⊢;have h1k:=h1.below hbw;have h2k:=h2.below hbw;clear hwk hw1 h1 h2;have hr3:=heap_alloc_new wk (.cells #[.bool false,.slice none 0 0,.slice none 0 0] 83);have hx1':=box_keep hx1 ((Below.refl _ _).alloc (Nat.le_refl _) (.cells #[.bool false,.slice none 0 0,.slice none 0 0] 83));have hx2':=box_keep hx2 ((Below.refl _ _).alloc (Nat.le_refl _) (.cells #[.bool false,.slice none 0 0,.slice none 0 0] 83));have hbk:=hbw.alloc hbw.size (.cells #[.bool false,.slice none 0 0,.slice none 0 0] 83);have h1z:=h1k.alloc (.cells #[.bool false,.slice none 0 0,.slice none 0 0] 83);have h2z:=h2k.alloc (.cells #[.bool false,.slice none 0 0,.slice none 0 0] 83)
 obtain ⟨wz,hwz⟩:∃ x,x=wk.alloc (.cells #[.bool false,.slice none 0 0,.slice none 0 0] 83):=⟨_,rfl⟩
 rw [hw2] at hr3;rw [←hwz] at hr3 hx1' hx2' hbk h1z h2z ⊢;have HX1:=Lib.hid hx1';have HX2:=Lib.hid hx2';have HR3:=Lib.hid hr3;have HBZ:=Lib.hid hbk;have H1:=Lib.hid h1z;have H2:=Lib.hid h2z;clear hwz hx1 hx2 hx1' hx2' hr3 hbk h1k h2k h1z h2z hbw hw2
 have hcs:∀ W',Fr (fun b=>b=w.heap.size+1+1) wz W'→W'.cell? ⟨w.heap.size,0,none⟩=some (.bool s1)∧W'.cell? ⟨w.heap.size,1,none⟩=some (.slice A n c)∧W'.cell? ⟨w.heap.size,2,none⟩=some (.slice A2 n2 c2)∧W'.cell? ⟨w.heap.size+1,0,none⟩=some (.bool s2)∧W'.cell? ⟨w.heap.size+1,1,none⟩=some (.slice B k d)∧W'.cell? ⟨w.heap.size+1,2,none⟩=some (.slice B2 k2 d2):=fun W' h=>by
  obtain ⟨a0,a1,a2⟩:=Box.of ((h.block _ (lt_of_blk HX1.out) (by omega)).trans HX1.out);obtain ⟨b0,b1,b2⟩:=Box.of ((h.block _ (lt_of_blk HX2.out) (by omega)).trans HX2.out);exact ⟨a0,a1,a2,b0,b1,b2⟩
 have hnz:∀ W',Below wz.heap.size wz W'→∀ b,b=w.heap.size+1+1→∃ cs t m,W'.heap[b]?=some (.cells cs t m)∧t≠4:=fun W' h=>typB_of (box_keep HR3.out h) (by decide)
 have HCS:=Lib.hid hcs;have HNZ:=Lib.hid hnz;clear hcs hnz;have tok:True:=trivial
 go_region_held3 (fun W'=>W'.cell? ⟨w.heap.size,0,none⟩=some (.bool s1)∧W'.cell? ⟨w.heap.size,1,none⟩=some (.slice A n c)∧W'.cell? ⟨w.heap.size,2,none⟩=some (.slice A2 n2 c2)∧W'.cell? ⟨w.heap.size+1,0,none⟩=some (.bool s2)∧W'.cell? ⟨w.heap.size+1,1,none⟩=some (.slice B k d)∧W'.cell? ⟨w.heap.size+1,2,none⟩=some (.slice B2 k2 d2)) ((refine HCS.out _ ?_;first | with_reducible exact Fr.of_below b28 | with_reducible exact fr_set (fr_set (fr_set (Fr.of_below b28) (.inl rfl)) (.inl rfl)) (.inl rfl) | with_reducible exact Fr.of_below b27 | with_reducible exact Fr.of_below b26 | with_reducible exact Fr.of_below b25 | with_reducible exact Fr.of_below b24 | with_reducible exact (Fr.refl _ _).drew | with_reducible exact Fr.refl _ _)) (first | (go_at_call 96;have _t:=tok;refine (bmul_q (HN1.out.below (below_drew2 HBZ.out)) (HN2.out.below (below_drew2 HBZ.out)) E1.out E2.out).mono ?_;rintro e w24 ⟨A24,n24,c24,rfl,h24,b24'⟩;have b24:=(below_drew2 (Below.refl wz.heap.size wz)).trans b24';have H24:=Lib.hid h24;have tok1:True:=trivial;clear tok _t h24) | (go_at_call 97;have _t:=tok1;refine (HBA.out _ (H1.out.below b24)).mono ?_;rintro e w25 ⟨A25,n25,c25,rfl,h25,b25'⟩;have b25:=b24.trans (b25'.mono b24.size);have H25:=Lib.hid h25;have tok2:True:=trivial;clear tok1 _t h25) | (go_at_call 97;have _t:=tok2;refine (HBB.out _ (H2.out.below b25)).mono ?_;rintro e w26 ⟨A26,n26,c26,rfl,h26,b26'⟩;have b26:=b25.trans (b26'.mono b25.size);have H26:=Lib.hid h26;have tok3:True:=trivial;clear tok2 _t h26) | (go_at_call 96;have _t:=tok3;refine (bmul_q (H25.out.below b26') H26.out E3.out E4.out).mono ?_;rintro e w27 ⟨A27,n27,c27,rfl,h27,b27'⟩;have b27:=b26.trans (b27'.mono b26.size);have hmade:=of5_q (s1 != s2) (((H24.out.below b25').below b26').below b27') h27 E5.out E6.out HDP.out;rw [HSUM.out] at hmade;unfold RB.val at hmade;clear tok3 _t h27) | (go_at_call 98;refine hmade.mono ?_;clear hmade;rintro e w28 ⟨rb,rfl,hrat,b28'⟩;have b28:=b27.trans (b28'.mono b27.size);obtain ⟨r0,r1,r2⟩:=Box.of (box_keep HR3.out b28);have s0:=frozen_of_blk (box_keep HR3.out b28) 0;have s1':=frozen_of_blk (box_keep HR3.out b28) 1;have s2':=frozen_of_blk (box_keep HR3.out b28) 2;have HRAT:=Lib.hid hrat;have HB28:=Lib.hid (HBZ.out.trans (b28.mono HBZ.out.size));have HNI:=Lib.hid (HNZ.out w28 b28);clear hrat))
 all_goals
  go_wp2_with fail
  refine bodyPost_ret (v:=.agg #[.bool (ratNeg (r)),.slice rb.A rb.n rb.c,.slice rb.A2 rb.n2 rb.c2]) (by simp [results,Tryz.results82,go_sem,r0,r1,r2]) rfl ?_;refine ⟨rb,rfl,HRAT.out.fr (S:=fun b=>b=w.heap.size+1+1) (fr_set (fr_set (fr_set (Fr.refl _ _) (.inl rfl)) (.inl rfl)) (.inl rfl)) HNI.out,bl_set (bl_set (bl_set HB28.out ?_) ?_) ?_⟩
  all_goals
   simp
   try omega
end Go.Proofs.YtdefcbfofonabaaGreat
