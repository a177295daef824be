/- Contracts of attestlaw05.Both, attestlaw08.Of at numbers below 100 over below 10; of attestlaw15.low and Tiny. -/
import Derived.Test.YtdefcbfofonabaaGreatBtOf
import Derived.Test.YtdefcbfofonabaaGreatRatMath
import Derived.Test.YtdefcbfofonabaaGreatRegE
namespace Go.Proofs.YtdefcbfofonabaaGreat
open Go.RowKit
set_option linter.unusedVariables false
set_option linter.unusedSimpArgs false
def BothQ (e:Ending) (w w':World):Prop:=∃ (b:RB) (q:Rat) (z:Bool) (A1:Option Addr) (n1 c1:Nat) (A3:Option Addr) (n3 c3:Nat),e=.returned (.tuple #[b.val (ratNeg q),.agg #[.bool z,.slice A1 n1 c1,.slice A3 n3 c3]])∧RatAt w' b q∧RatLe q 8∧IntB (2520*q) 249480∧Below w.heap.size w w'
theorem one_lt10:lv (limbs 1)<10:=by rw [lv_limbs];decide
theorem tiny_int (s:Bool) {N d:Nat} {q:Rat} (hN:N<100) (hd:0<d) (hd9:d<10) (hq:mkRat (sgn s N) d=q):IntB (2520*q) 249480:=by
 obtain ⟨k,hk⟩:∃ k:Nat,k*d=2520:=by
  have:d=1∨d=2∨d=3∨d=4∨d=5∨d=6∨d=7∨d=8∨d=9:=by omega
  rcases this with e | e | e | e | e | e | e | e | e
  · exact ⟨2520,by rw [e]⟩
  · exact ⟨1260,by rw [e]⟩
  · exact ⟨840,by rw [e]⟩
  · exact ⟨630,by rw [e]⟩
  · exact ⟨504,by rw [e]⟩
  · exact ⟨420,by rw [e]⟩
  · exact ⟨360,by rw [e]⟩
  · exact ⟨315,by rw [e]⟩
  · exact ⟨280,by rw [e]⟩
 refine ⟨sgn s N*(k:Int),?_,?_⟩
 · have e1:(2520:Rat)=mkRat 2520 1:=rfl
   have e2:(2520:Int)*sgn s N=(sgn s N*(k:Int))*((d:Nat):Int):=by
    have h1:((k*d:Nat):Int)=2520:=by rw [hk];rfl
    rw [Int.natCast_mul] at h1;rw [Int.mul_assoc,h1,Int.mul_comm]
   have e3:=Rat.mkRat_mul_right (n:=sgn s N*(k:Int)) (d:=1) (a:=d) (by omega);rw [←hq,e1,Rat.mkRat_mul_mkRat,e2,e3,Rat.mkRat_one]
 · rw [Int.natAbs_mul,sgn_abs]
   have hk2:k≤2520:=by
    rw [←hk];exact Nat.le_mul_of_pos_right _ hd
   have:=Nat.mul_le_mul (show N≤99 by omega) hk2
   simpa using this
set_option maxRecDepth 100000 in
set_option maxHeartbeats 4000000 in
theorem both9 (s:Bool) {w:World} {A A2:Option Addr} {n c n2 c2:Nat} {l m:List Nat} (h:NumU w A n c l) (h2:NumU w A2 n2 c2 m) (t1:l.length≤8) (t2:lv l<100) (t3:m.length≤8) (t4:lv m<10) :
 Calls Tryz.prog 94 #[.agg #[.bool s,.slice A n c,.slice A2 n2 c2]] w fun e w'=>BothQ e w w':=by
 have hT1:lv (l.take 8)<100:=by rw [List.take_of_length_le t1];exact t2
 have hT2:lv (m.take 8)<10:=by rw [List.take_of_length_le t3];exact t4
 have HT1:=Lib.hid hT1;have HT2:=Lib.hid hT2;clear hT1 hT2 t1 t2 t3 t4
 go_enter Tryz.func94,Tryz.ntmps94
 go_upto_region 1 with fail
 have hx1:=heap_alloc_new w (.cells #[.bool s,.slice A n c,.slice A2 n2 c2] 70)
 have hw1:(w.alloc (.cells #[.bool s,.slice A n c,.slice A2 n2 c2] 70)).heap.size=w.heap.size+1:=by simp
 have hbw:=(Below.refl w.heap.size w).alloc (Nat.le_refl _) (.cells #[.bool s,.slice A n c,.slice A2 n2 c2] 70)
 obtain ⟨wk,hwk⟩:∃ x,x=w.alloc (.cells #[.bool s,.slice A n c,.slice A2 n2 c2] 70):=⟨_,rfl⟩
 rw [←hwk] at hx1 hbw hw1 ⊢;have hx2:=heap_alloc_new wk (.cells #[.bool false,.slice none 0 0,.slice none 0 0] 26)
 have hw2:(wk.alloc (.cells #[.bool false,.slice none 0 0,.slice none 0 0] 26)).heap.size=w.heap.size+1+1:=by simp [hw1]
 have hx1':=box_keep hx1 ((Below.refl _ _).alloc (Nat.le_refl _) (.cells #[.bool false,.slice none 0 0,.slice none 0 0] 26));have hbk:=hbw.alloc hbw.size (.cells #[.bool false,.slice none 0 0,.slice none 0 0] 26)
 obtain ⟨wj,hwj⟩:∃ x,x=wk.alloc (.cells #[.bool false,.slice none 0 0,.slice none 0 0] 26):=⟨_,rfl⟩
 rw [hw1] at hx2;rw [←hwj] at hx2 hx1' hbk hw2 ⊢;have hx3:=heap_alloc_new wj (.cells #[.bool false,.slice none 0 0,.slice none 0 0] 83);have hx1'':=box_keep hx1' ((Below.refl _ _).alloc (Nat.le_refl _) (.cells #[.bool false,.slice none 0 0,.slice none 0 0] 83));have hx2':=box_keep hx2 ((Below.refl _ _).alloc (Nat.le_refl _) (.cells #[.bool false,.slice none 0 0,.slice none 0 0] 83));have hbz:=hbk.alloc hbk.size (.cells #[.bool false,.slice none 0 0,.slice none 0 0] 83)
 obtain ⟨wz,hwz⟩:∃ x,x=wj.alloc (.cells #[.bool false,.slice none 0 0,.slice none 0 0] 83):=⟨_,rfl⟩
 rw [hw2] at hx3;rw [←hwz] at hx3 hx1'' hx2' hbz ⊢;have HX1:=Lib.hid hx1'';have HX2:=Lib.hid hx2';have HX3:=Lib.hid hx3;have HBZ:=Lib.hid hbz;have HF1:=Lib.hid (h.below hbz);have HF2:=Lib.hid (h2.below hbz);clear hwz hwj hwk hx1 hx1' hx1'' hx2 hx2' hx3 hbw hbk hbz hw1 hw2 h h2
 have hcs:∀ W',Fr (fun b=>b=w.heap.size+1∨b=w.heap.size+1+1) wz W'→W'.cell? ⟨w.heap.size,0,none⟩=some (.bool s)∧W'.cell? ⟨w.heap.size,1,none⟩=some (.slice A n c)∧W'.cell? ⟨w.heap.size,2,none⟩=some (.slice A2 n2 c2):=fun W' h=>Box.of ((h.block _ (lt_of_blk HX1.out) (by omega)).trans HX1.out)
 have HCS:=Lib.hid hcs;clear hcs;have tok:True:=trivial
 go_cut [4,5] (fun x y wx=>∃ (A':Option Addr) (n' c':Nat) (A3:Option Addr) (n3 c3:Nat),x=.slice A' n' c'∧y=.slice A3 n3 c3∧Num wx A' n' c' (l.take 8)∧Num wx A3 n3 c3 (m.take 8)∧Below wz.heap.size wz wx)
 case first =>
  go_region_held3 (fun W'=>W'.cell? ⟨w.heap.size,0,none⟩=some (.bool s)∧W'.cell? ⟨w.heap.size,1,none⟩=some (.slice A n c)∧W'.cell? ⟨w.heap.size,2,none⟩=some (.slice A2 n2 c2)) ((refine HCS.out _ ?_;first | with_reducible exact Fr.of_below b26 | with_reducible exact Fr.of_below b25 | with_reducible exact (Fr.refl _ _).drew | with_reducible exact Fr.refl _ _)) (first | (go_at_call 107;have _t:=tok;refine (few5_num (HF1.out.below (below_drew2 (Below.refl _ _)))).mono ?_;rintro e w25 ⟨A25,n25,c25,rfl,h25,b25'⟩;have b25:=(below_drew2 (Below.refl wz.heap.size wz)).trans b25';have H25:=Lib.hid h25;have tok1:True:=trivial;clear tok _t h25) | (go_at_call 107;have _t:=tok1;refine (few5_num (HF2.out.below b25)).mono ?_;rintro e w26 ⟨A26,n26,c26,rfl,h26,b26'⟩;have b26:=b25.trans (b26'.mono b25.size);have H25':=Lib.hid (H25.out.below b26');clear tok1 _t))
  all_goals
   go_wp2_with fail
   go_meet;exact ⟨_,_,_,_,_,_,rfl,rfl,H25'.out,h26,b26⟩
 case rest =>
 obtain ⟨A6,n6,c6,A7,n7,c7,rfl,rfl,h6,h7,hb6⟩:=hcut
 obtain ⟨w6,rfl⟩:∃ x,x=wc:=⟨_,rfl⟩
 have hl7:=fewLe m;have hof:=rof2_any h7 (by have:=h7.len;omega);have H6:=Lib.hid h6;have H7:=Lib.hid h7;have HB6:=Lib.hid hb6;have HOF:=Lib.hid hof;have HL6:=Lib.hid (fewLe l);clear h6 h7 hb6 hof tok
 generalize l.take 8=l8 at *
 generalize m.take 8=m8 at *
 go_upto_if 17 with (go_at_call 100;refine HOF.out.mono ?_;clear HOF;rintro e w7 ⟨A8,n8,c8,rfl,bb,hbb,tb,vb,hn8,b7⟩)
 have hz8:n8=0↔lv m8=0:=by rw [←vb,←tight_zero bb tb,hbb.len]
 have H7':=Lib.hid (H7.out.below b7);have HB7:=Lib.hid (HB6.out.trans (b7.mono HB6.out.size));have H6':=Lib.hid (H6.out.below b7);clear hbb tb vb b7 H6 H7
 go_cut [5] (fun y wx=>∃ (A3:Option Addr) (n3 c3:Nat) (m':List Nat),y=.slice A3 n3 c3∧Num wx A3 n3 c3 m'∧(0<lv m'∧lv m'<10)∧m'.length≤8∧Below w7.heap.size w7 wx)
 case first =>
  by_cases h0:n8=0
  · subst h0
    clear hz8
    go_wp2_with fail
    go_meet;exact ⟨_,_,_,limbs 1,rfl,num_lit1 w7,⟨one_pos8,one_lt10⟩,one_len8,(Below.refl _ _).alloc (Nat.le_refl _) _⟩
  · have h0':((n8:Int) == 0)=false:=by rw [beq_eq_false_iff_ne];omega
    have hpos:0<lv m8:=by
     rcases Nat.eq_zero_or_pos (lv m8) with e | e
     · exact absurd (hz8.2 e) h0
     · exact e
    have HPOS:=Lib.hid hpos;clear h0 hz8 hpos
    go_wp2_with fail
    go_meet;exact ⟨_,_,_,m8,rfl,H7'.out,⟨HPOS.out,HT2.out⟩,hl7,Below.refl _ _⟩
 case rest =>
 obtain ⟨A9,n9,c9,m',rfl,h9,⟨hpm,hpt⟩,hlm,hb9⟩:=hcut;have HPT:=Lib.hid hpt;clear hpt
 obtain ⟨w9,rfl⟩:∃ x,x=wc:=⟨_,rfl⟩
 have H6:=Lib.hid (H6'.out.below hb9);have H9:=Lib.hid h9;have HPM:=Lib.hid hpm;have HLM:=Lib.hid hlm;have HB9:=Lib.hid (HB7.out.trans (hb9.mono HB7.out.size));clear h9 hpm hlm hb9 hz8 H7' H6' HB7 HB6 hl7
 obtain ⟨q,hq⟩:∃ q,mkRat (sgn s (lv l8)) (lv m')=q:=⟨_,rfl⟩
 have HQ:=Lib.hid hq;have HQI:=Lib.hid (tiny_int s HT1.out HPM.out HPT.out hq);clear hq;have tok:True:=trivial
 go_upto_region 4 with fail
 go_cut [6,7] (fun p y wx=>∃ (rb:RB) (g:Nat),p=.pointer (some ⟨g,0,none⟩)∧y=.bool true∧RatAt wx rb q∧wx.heap[g]?=some (.cells #[.bool (ratNeg q),.slice rb.A rb.n rb.c,.slice rb.A2 rb.n2 rb.c2] 26 (0,0))∧w9.heap.size≤g∧Below w9.heap.size w9 wx)
 case first =>
  have hmake:=fun W A3 n3 c3 A4 n4 c4 (ha:Num W A3 n3 c3 l8) (hb:Num W A4 n4 c4 m')=>make_any (w:=W) s ha hb (by have:=HL6.out;omega) (by have:=HLM.out;omega) HPM.out
  rw [HQ.out] at hmake;unfold RB.val at hmake
  have hc6:=fun W (h:Below w9.heap.size w9 W)=>copy_num (H6.out.below h).u (by have:=H6.out.len;have:=HL6.out;omega)
  have hc9:=fun W (h:Below w9.heap.size w9 W)=>copy_num (H9.out.below h).u (by have:=H9.out.len;have:=HLM.out;omega)
  have hkf:∀ W',Below w9.heap.size w9 W'→W'.cell? ⟨w.heap.size,0,none⟩=some (.bool s):=fun W' h=>(HCS.out _ (Fr.of_below (HB9.out.trans (h.mono HB9.out.size)))).1
  have HMK:=Lib.hid hmake;have HC6:=Lib.hid hc6;have HC9:=Lib.hid hc9;have KF:=Lib.hid hkf;clear hmake hc6 hc9 hkf
  go_region_held3 (fun W'=>W'.cell? ⟨w.heap.size,0,none⟩=some (.bool s)) ((refine KF.out _ ?_;repeat' (first | with_reducible exact c27 | with_reducible exact c26 | with_reducible exact c25 | with_reducible exact Below.refl _ _ | with_reducible refine below_drew2 ?_ | with_reducible refine bl_set ?_ ?_ | with_reducible refine bl_alloc ?_ ?_ | exact c27.size | exact c26.size | exact c25.size | exact Nat.le_refl _))) (first | (go_at_call 109;have _t:=tok;refine (HC6.out _ (by first | exact below_drew2 (Below.refl _ _) | exact (below_drew2 (Below.refl _ _)).alloc (Nat.le_refl _) _)).mono ?_;rintro e w25 ⟨A25,n25,c25x,rfl,h25,b25'⟩;have c25:Below w9.heap.size w9 w25:=(by first | exact (below_drew2 (Below.refl _ _)).trans (b25'.mono (Nat.le_refl _)) | exact ((below_drew2 (Below.refl _ _)).alloc (Nat.le_refl _) _).trans (b25'.mono (by simp)));(first | (have hz:=box_keep hz b25') | (have hz:=box_keep (show (World.drew (World.alloc w9 (.cells #[.bool false,.slice none 0 0,.slice none 0 0] 26))).heap[w9.heap.size]?=_ from heap_alloc_new w9 (.cells #[.bool false,.slice none 0 0,.slice none 0 0] 26)) b25') | (have hz:=box_keep (heap_alloc_new _ (.cells #[.bool false,.slice none 0 0,.slice none 0 0] 26)) b25') | skip);have H25:=Lib.hid h25;have tok1:True:=trivial;clear tok _t h25) | (go_at_call 109;have _t:=tok1;refine (HC9.out _ (by first | exact c25 | exact c25.alloc c25.size _)).mono ?_;rintro e w26 ⟨A26,n26,c26x,rfl,h26,b26'⟩;have c26:Below w9.heap.size w9 w26:=(by first | exact c25.trans (b26'.mono c25.size) | exact (c25.alloc c25.size _).trans (b26'.mono (Nat.le_trans c25.size (by simp))));(first | (have hz:=box_keep hz b26') | (have hz:=box_keep (heap_alloc_new _ (.cells #[.bool false,.slice none 0 0,.slice none 0 0] 26)) b26') | skip);have H25':=Lib.hid (show Num w26 A25 n25 c25x l8 from by first | exact H25.out.below b26' | exact (H25.out.alloc _).below b26');have H26:=Lib.hid h26;clear tok1 _t h26) | (go_at_call 108;refine (HMK.out _ _ _ _ _ _ _ (by first | exact H25'.out | exact H25'.out.alloc _) (by first | exact H26.out | exact H26.out.alloc _)).mono ?_;rintro e w27 ⟨rb,rfl,hrat,b27'⟩;have c27:Below w9.heap.size w9 w27:=(by first | exact c26.trans (b27'.mono c26.size) | exact (c26.alloc c26.size _).trans (b27'.mono (Nat.le_trans c26.size (by simp))));(first | (have hz:=box_keep hz b27') | (have hz:=box_keep (heap_alloc_new _ (.cells #[.bool false,.slice none 0 0,.slice none 0 0] 26)) b27') | skip);have HRAT:=Lib.hid hrat;clear hrat;(first | (obtain ⟨r0,r1,r2⟩:=Box.of hz;have s0:=frozen_of_blk hz 0;have s1':=frozen_of_blk hz 1;have s2':=frozen_of_blk hz 2;have HZ:=Lib.hid hz;clear hz) | skip)))
  all_goals
   go_wp2_with fail
   go_meet
   first | exact ⟨rb,_,rfl,rfl,HRAT.out.alloc _,heap_alloc_new _ _,c27.size,c27.alloc c27.size _⟩ | (obtain ⟨a1,a2,a3⟩:=put3L HZ.out HRAT.out c27 (by first | exact Nat.le_refl _ | exact c25.size | exact c26.size);exact ⟨rb,_,rfl,rfl,a1,a2,(by first | exact Nat.le_refl _ | exact c25.size | exact c26.size),a3⟩)
 case rest =>
 obtain ⟨rb,g,rfl,rfl,hrat,hg,hgl,hb10⟩:=hcut
 obtain ⟨w10,rfl⟩:∃ x,x=wc:=⟨_,rfl⟩
 have H6':=Lib.hid (H6.out.below hb10);have H9':=Lib.hid (H9.out.below hb10)
 have hqle:RatLe q 8:=by
  have h1:=mk_le s (lv l8) (lv m') HPM.out;rw [HQ.out] at h1;exact ⟨lv_lim H6.out.sm HL6.out _ h1.1,lv_lim H9.out.sm HLM.out _ h1.2⟩
 have HQLE:=Lib.hid hqle;have HG:=Lib.hid hg;have HRAT:=Lib.hid hrat;have HBW10:=Lib.hid (HB9.out.trans (hb10.mono HB9.out.size))
 have hne1:g≠w.heap.size+1∧g≠w.heap.size+1+1:=by
  have:=lt_of_blk HX3.out;have:=HB9.out.size;omega
 have hkf:∀ W',Fr (fun b=>b=w.heap.size+1∨b=w.heap.size+1+1) w10 W'→W'.cell? ⟨w.heap.size,0,none⟩=some (.bool s)∧W'.cell? ⟨g,0,none⟩=some (.bool (ratNeg q))∧W'.cell? ⟨g,1,none⟩=some (.slice rb.A rb.n rb.c)∧W'.cell? ⟨g,2,none⟩=some (.slice rb.A2 rb.n2 rb.c2):=fun W' h=>by
  obtain ⟨a0,a1,a2⟩:=Box.of ((h.block g (lt_of_blk HG.out) (by omega)).trans HG.out);have hx:=box_keep HX1.out HBW10.out;obtain ⟨b0,_⟩:=Box.of ((h.block _ (lt_of_blk hx) (by omega)).trans hx);exact ⟨b0,a0,a1,a2⟩
 have hof6:=fun W (h:Below w10.heap.size w10 W)=>rof2_any (H6'.out.below h) (by have:=H6.out.len;have:=HL6.out;omega)
 have hof9:=fun W (h:Below w10.heap.size w10 W)=>rof2_any (H9'.out.below h) (by have:=H9.out.len;have:=HLM.out;omega)
 have KF2:=Lib.hid hkf;have HO6:=Lib.hid hof6;have HO9:=Lib.hid hof9;clear hqle hg hrat hb10 hkf hof6 hof9 tok
 go_upto_region 7 with fail
 have tok:True:=trivial
 go_region_held3 (fun W'=>W'.cell? ⟨w.heap.size,0,none⟩=some (.bool s)∧W'.cell? ⟨g,0,none⟩=some (.bool (ratNeg q))∧W'.cell? ⟨g,1,none⟩=some (.slice rb.A rb.n rb.c)∧W'.cell? ⟨g,2,none⟩=some (.slice rb.A2 rb.n2 rb.c2)) ((refine KF2.out _ ?_;repeat' (first | with_reducible exact Fr.of_below c32 | with_reducible exact Fr.of_below c31 | with_reducible exact Fr.of_below c30 | with_reducible exact Fr.refl _ _ | with_reducible exact (Fr.refl _ _).drew | with_reducible refine fr_set ?_ ?_ | exact .inl (.inl rfl) | exact .inl (.inr rfl)))) (first | (go_at_call 100;have _t:=tok;refine (HO6.out _ (below_drew2 (Below.refl _ _))).mono ?_;rintro e w30 ⟨A30,n30,c30x,rfl,l30,h30,t30,v30,m30,b30'⟩;have c30:Below w10.heap.size w10 w30:=(below_drew2 (Below.refl _ _)).trans (b30'.mono (Nat.le_refl _));have H30:=Lib.hid h30;have T30:=Lib.hid t30;have tok1:True:=trivial;clear tok _t h30 t30) | (go_at_call 100;have _t:=tok1;refine (HO9.out _ c30).mono ?_;rintro e w31 ⟨A31,n31,c31x,rfl,l31,h31,t31,v31,m31,b31'⟩;have c31:Below w10.heap.size w10 w31:=c30.trans (b31'.mono c30.size);have H30':=Lib.hid (H30.out.below b31');have H31:=Lib.hid h31;have T31:=Lib.hid t31;have V31:=Lib.hid v31;clear tok1 _t h31 t31 v31) | (go_at_call 98;refine (rof5_any s H30'.out H31.out m30 m31 T30.out T31.out (by rw [V31.out];exact HPM.out)).mono ?_;rintro e w32 ⟨⟨z,A33,n33,c33x,A34,n34,c34x,rfl⟩,b32'⟩;have c32:Below w10.heap.size w10 w32:=c31.trans (b32'.mono c31.size);have b32:=HBW10.out.trans (c32.mono HBW10.out.size);have HB32:=Lib.hid b32;have y2:=box_keep HX2.out b32;have y3:=box_keep HX3.out b32;obtain ⟨r0,r1,r2⟩:=Box.of y2;obtain ⟨r3,r4,r5⟩:=Box.of y3;have s0:=frozen_of_blk y2 0;have s1':=frozen_of_blk y2 1;have s2':=frozen_of_blk y2 2;have s3':=frozen_of_blk y3 0;have s4':=frozen_of_blk y3 1;have s5':=frozen_of_blk y3 2;have Y2:=Lib.hid y2;have Y3:=Lib.hid y3;clear b32 y2 y3))
 all_goals
  go_wp2_with fail
  refine bodyPost_ret (v:=.tuple #[.agg #[.bool (ratNeg q),.slice rb.A rb.n rb.c,.slice rb.A2 rb.n2 rb.c2],.agg #[.bool z,.slice A33 n33 c33x,.slice A34 n34 c34x]]) (by simp [results,Tryz.results94,go_sem,r0,r1,r2,r3,r4,r5]) rfl ?_;refine ⟨rb,q,z,_,_,_,_,_,_,rfl,?_,HQLE.out,HQI.out,?_⟩
  · refine (HRAT.out.below c32).fr (S:=fun b=>b=w.heap.size+1∨b=w.heap.size+1+1) (w:=w32) ?_ ?_
    · repeat' (first | with_reducible exact Fr.refl _ _ | with_reducible refine fr_set ?_ ?_ | exact .inl (.inl rfl) | exact .inl (.inr rfl))
    · rintro b i k (hb | hb) e
      · subst hb
        rw [cell_of_blk Y2.out i] at e;exact no_int3 _ _ _ (by simp) (by simp) (by simp) i k e
      · subst hb
        rw [cell_of_blk Y3.out i] at e;exact no_int3 _ _ _ (by simp) (by simp) (by simp) i k e
  · have hbe:=HBZ.out.trans (HB32.out.mono HBZ.out.size)
    repeat' (first | with_reducible exact hbe | with_reducible refine bl_set ?_ ?_ | (show w.heap.size≤w.heap.size+1;omega) | (show w.heap.size≤w.heap.size+1+1;omega))
end Go.Proofs.YtdefcbfofonabaaGreat
