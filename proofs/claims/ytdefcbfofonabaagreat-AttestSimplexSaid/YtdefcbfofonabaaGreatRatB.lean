/- Contracts of package rat: Neg, Abs, made, Make. -/
import Derived.Test.YtdefcbfofonabaaGreatRatMath
import Derived.Test.YtdefcbfofonabaaGreatOpen
namespace Go.Proofs.YtdefcbfofonabaaGreat
open Go.RowKit
set_option linter.unusedVariables false
set_option linter.unusedSimpArgs false
theorem ratAt_neg {w:World} {b:RB} {q:Rat} (h:RatAt w b q):RatAt w b (-q):=by
 obtain ⟨_,h2,h3⟩:=neg_rat q;refine ⟨by rw [h2];exact h.num,?_⟩;have:=h.den;unfold ratDen at this ⊢;rw [h3];exact this
theorem bl_alloc {B:Nat} {a w:World} {o:Obj} (h:Below B a w) (hB:B≤w.heap.size):Below B a (w.alloc o):=h.alloc hB o
theorem bl_set {B:Nat} {a w:World} {p:Addr} {u:Value} (h:Below B a w) (hp:B≤p.block):Below B a (w.setCell p u):=h.setCell hp u
set_option maxRecDepth 100000 in
theorem neg_any (b:RB) (q:Rat) (w:World) (h:RatAt w b q) :
 Calls Tryz.prog 40 #[b.val (ratNeg q)] w fun e w'=>e=.returned (b.val (ratNeg (-q)))∧RatAt w' b (-q)∧Below w.heap.size w w':=by
 have hnil:=ratNum_nil h;have hr:=ratAt_neg h;obtain ⟨hs,_,_⟩:=neg_rat q;rw [hs]
 have hpos:decide (0<q.num.natAbs)=decide ((b.n:Int)>0):=by
  by_cases h0:q.num.natAbs=0
  · rw [decide_eq_false (by omega),decide_eq_false (by have:=hnil.2 h0;omega)]
  · rw [decide_eq_true (by omega),decide_eq_true]
    have:b.n≠0:=fun e=>h0 (hnil.1 e)
    omega
 rw [hpos];have HR:=Lib.hid hr;clear h hnil hr hs hpos;obtain ⟨A,n,c,A2,n2,c2⟩:=b;unfold RB.val;simp only
 cases ratNeg q
 · by_cases hn:n=0
   · subst hn
     go_enter Tryz.func40,Tryz.ntmps40
     go_wp2_with fail
     refine bodyPost_ret (v:=.agg #[.bool false,.slice A 0 c,.slice A2 n2 c2]) (by simp [results,Tryz.results40,go_sem]<;>omega) rfl ?_;refine ⟨rfl,HR.out.below ?_,?_⟩
     all_goals
      repeat' (first | exact Below.refl _ _ | refine bl_set ?_ ?_ | refine bl_alloc ?_ ?_ | (simp;done) | (simp;omega))
   · have hn2:((n:Int)>0):=by omega
     rw [decide_eq_true hn2]
     go_enter Tryz.func40,Tryz.ntmps40
     go_wp2_with fail
     refine bodyPost_ret (v:=.agg #[.bool true,.slice A n c,.slice A2 n2 c2]) (by simp [results,Tryz.results40,go_sem]<;>omega) rfl ?_;refine ⟨rfl,HR.out.below ?_,?_⟩
     all_goals
      repeat' (first | exact Below.refl _ _ | refine bl_set ?_ ?_ | refine bl_alloc ?_ ?_ | (simp;done) | (simp;omega))
 · skip
   go_enter Tryz.func40,Tryz.ntmps40
   go_wp2_with fail
   refine bodyPost_ret (v:=.agg #[.bool false,.slice A n c,.slice A2 n2 c2]) (by simp [results,Tryz.results40,go_sem]<;>omega) rfl ?_;refine ⟨rfl,HR.out.below ?_,?_⟩
   all_goals
    repeat' (first | exact Below.refl _ _ | refine bl_set ?_ ?_ | refine bl_alloc ?_ ?_ | (simp;done) | (simp;omega))
set_option maxRecDepth 100000 in
theorem abs_any (s:Bool) (b:RB) (w:World) :
 Calls Tryz.prog 35 #[b.val s] w fun e w'=>e=.returned (b.val false)∧Below w.heap.size w w':=by
 obtain ⟨A,n,c,A2,n2,c2⟩:=b;unfold RB.val;simp only
 go_enter Tryz.func35,Tryz.ntmps35
 go_wp2_with fail
 refine bodyPost_ret (v:=.agg #[.bool false,.slice A n c,.slice A2 n2 c2]) (by simp [results,Tryz.results35,go_sem]<;>omega) rfl ?_;refine ⟨rfl,?_⟩
 repeat' (first | exact Below.refl _ _ | refine bl_set ?_ ?_ | refine bl_alloc ?_ ?_ | (simp;done) | (simp;omega))
theorem mk_bounds (s:Bool) (a d:Nat) (hd:0<d) (k:Nat) (h1:(limbs a).length≤k) (h2:(limbs d).length≤k) :
 (limbs (mkRat (sgn s a) d).num.natAbs).length≤k∧(limbs (mkRat (sgn s a) d).den).length≤k:=by
 obtain ⟨h3,h4⟩:=mk_le s a d hd;exact ⟨Nat.le_trans (limbs_len_mono _ _ h3) h1,Nat.le_trans (limbs_len_mono _ _ h4) h2⟩
theorem Num.fr {S:Nat→Prop} {w w':World} {A:Option Addr} {n c:Nat} {l:List Nat} (h:Num w A n c l) (hf:Fr S w w') (hn:∀ b i k,S b→w.cell? ⟨b,i,none⟩≠some (.int .u32 k)):Num w' A n c l:=by
 refine ⟨⟨h.rd.1,fun h0=>?_⟩,h.len,h.cap,h.sm,fun h0=>?_⟩
 case refine_2 =>
  obtain ⟨b,o,cs,m,e,hx⟩:=h.typ h0;refine ⟨b,o,cs,m,e,(hf.block b (Array.getElem?_eq_some_iff.1 hx).1 ?_).trans hx⟩;intro hs;obtain ⟨b',o',e',hc⟩:=h.rd.2 h0;rw [e] at e'
  injection e' with e'
  injection e' with e1 e2
  subst e1
  have hl:0<(lw l).length:=by rw [h.rd.1];omega
  have h1:=hc 0 _ (List.getElem?_eq_getElem hl);obtain ⟨x,_,hx'⟩:=List.mem_map.1 (List.getElem_mem hl);rw [←hx'] at h1;exact hn b _ _ hs h1
 obtain ⟨b,o,e,hc⟩:=h.rd.2 h0;refine ⟨b,o,e,fun j u hu=>?_⟩;have h1:=hc j u hu
 have hi:∃ k,u=.int .u32 k:=by
  have:=List.mem_of_getElem? hu;obtain ⟨x,_,rfl⟩:=List.mem_map.1 this;exact ⟨_,rfl⟩
 obtain ⟨k,rfl⟩:=hi;rw [hf.cell (p:=⟨b,o+j,none⟩) (World.block_lt_of_cell? w _ h1) (fun hs=>hn b _ k hs h1)];exact h1
theorem Num.frT {S:Nat→Prop} {w w':World} {A:Option Addr} {n c:Nat} {l:List Nat} (h:Num w A n c l) (hf:Fr S w w') (hS:∀ b,S b→∃ cs t m,w.heap[b]?=some (.cells cs t m)∧t≠125):Num w' A n c l:=by
 have hno:∀ b off,A=some ⟨b,off,none⟩→0<n→¬ S b:=by
  intro b off e h0 hs;obtain ⟨b',o',cs,m,e',hx⟩:=h.typ h0;rw [e] at e'
  injection e' with e'
  injection e' with e1 e2
  subst e1;obtain ⟨cs',t,m',hx',hne⟩:=hS b hs;rw [hx] at hx'
  injection hx' with hx'
  injection hx' with _ ht _
  exact hne ht.symm
 refine ⟨⟨h.rd.1,fun h0=>?_⟩,h.len,h.cap,h.sm,fun h0=>?_⟩
 · obtain ⟨b,o,e,hc⟩:=h.rd.2 h0
   refine ⟨b,o,e,fun j u hu=>?_⟩;rw [hf.cell (p:=⟨b,o+j,none⟩) (World.block_lt_of_cell? w _ (hc j u hu)) (hno b o e h0)];exact hc j u hu
 · obtain ⟨b,o,cs,m,e,hx⟩:=h.typ h0
   exact ⟨b,o,cs,m,e,(hf.block b (Array.getElem?_eq_some_iff.1 hx).1 (hno b o e h0)).trans hx⟩
theorem no_int3 (a b c:Value) (ha:∀ k,a≠.int .u32 k) (hb:∀ k,b≠.int .u32 k) (hc:∀ k,c≠.int .u32 k) (i:Nat) (k:Int) (e:#[a,b,c][i]?=some (.int .u32 k)):False:=by
 rcases (show i=0∨i=1∨i=2∨3≤i by omega) with rfl | rfl | rfl | h
 · exact ha k (by simpa using e)
 · exact hb k (by simpa using e)
 · exact hc k (by simpa using e)
 · rw [Array.getElem?_eq_none (by simpa using h)] at e;cases e
theorem fr_set {S:Nat→Prop} {w w1:World} {p:Addr} {u:Value} (h:Fr S w w1) (hp:S p.block∨w.heap.size≤p.block):Fr S w (w1.setCell p u):=h.setCell p u hp
theorem below_drew2 {B:Nat} {a w:World} (h:Below B a w):Below B a w.drew:=⟨h.os,h.tape,h.output,h.size,h.block⟩
set_option maxRecDepth 100000 in
set_option maxHeartbeats 4000000 in
theorem made_any {w:World} {A A2:Option Addr} {n c n2 c2:Nat} {l m:List Nat} (s:Bool) (h:Num w A n c l) (h2:Num w A2 n2 c2 m) (hb:l.length≤10000000) (hb2:m.length≤10000000) (hp:0<lv m) :
 Calls Tryz.prog 49 #[.bool s,.slice A n c,.slice A2 n2 c2] w fun e w'=>∃ b:RB,e=.returned (b.val (ratNeg (mkRat (sgn s (lv l)) (lv m))))∧RatAt w' b (mkRat (sgn s (lv l)) (lv m))∧Below w.heap.size w w':=by
 have hgd:=fun W hW=>gcd_num (w:=W) (h.below hW) (h2.below hW) hb hb2
 have hq1:=mk_abs s (lv l) (lv m) hp;have hq2:=mk_den s (lv l) (lv m) hp;have hq3:=mk_neg s (lv l) (lv m) hp;have hgp:0<Nat.gcd (lv l) (lv m):=Nat.gcd_pos_of_pos_right _ hp;have hgle:Nat.gcd (lv l) (lv m)≤lv m:=Nat.le_of_dvd hp (Nat.gcd_dvd_right _ _);have hgl:(limbs (Nat.gcd (lv l) (lv m))).length≤10000000:=Nat.le_trans (limbs_len_mono _ _ hgle) (Nat.le_trans (limbs_length_le m h2.sm) hb2)
 generalize mkRat (sgn s (lv l)) (lv m)=q at *
 obtain ⟨g,hg⟩:∃ g,Nat.gcd (lv l) (lv m)=g:=⟨_,rfl⟩
 rw [hg] at hgd hq1 hq2 hq3 hgp hgl;have HGD:=Lib.hid hgd;have HQ1:=Lib.hid hq1;have HQ2:=Lib.hid hq2;have HQ3:=Lib.hid hq3;have H1:=Lib.hid h;have H2:=Lib.hid h2;have HP:=Lib.hid hp;clear hgd hq1 hq2 hq3 hg hgle h h2 hp
 go_enter Tryz.func49,Tryz.ntmps49
 go_upto_region 1 with fail
 have hb0:Below w.heap.size w (w.alloc (.cells #[.bool false,.slice none 0 0,.slice none 0 0] 26)):=(Below.refl _ _).alloc (Nat.le_refl _) _;have hr0:(w.alloc (.cells #[.bool false,.slice none 0 0,.slice none 0 0] 26)).heap[w.heap.size]?=some (.cells #[.bool false,.slice none 0 0,.slice none 0 0] 26 (0,0)):=heap_alloc_new w _
 obtain ⟨w0,hw0⟩:∃ x,x=w.alloc (.cells #[.bool false,.slice none 0 0,.slice none 0 0] 26):=⟨_,rfl⟩
 rw [←hw0] at hb0 hr0 ⊢;have hwl:w.heap.size<w0.heap.size:=lt_of_blk hr0;have HB0:=Lib.hid hb0;have HR0:=Lib.hid hr0;have hgd:=HGD.out w0 hb0;have H1:=Lib.hid (H1.out.below hb0);have H2:=Lib.hid (H2.out.below hb0);clear hw0 hb0 hr0
 go_upto_region 2 with (go_at_call 74;refine hgd.mono ?_;clear hgd;rintro e w1 ⟨A3,n3,c3,rfl,h3,b1⟩)
 have HB1:=Lib.hid b1;have H1:=Lib.hid (H1.out.below b1);have H2:=Lib.hid (H2.out.below b1);have H3:=Lib.hid h3
 have h1l:(limbs 1).length≤100000000:=by rw [limbs_pos 1 (by decide),show 1 / 4294967296=0 by decide,limbs_zero];decide
 clear h3 b1
 by_cases hg1:g=1
 · have HG1:=Lib.hid hg1
   go_upto_region 5 with (first | (go_at_call 76;refine (one_any _).mono ?_;rintro e w2 ⟨A4,n4,c4,rfl,h4,b2⟩;have hcm:=cmp_num (H3.out.below b2) h4 (by omega) h1l;rw [lv_limbs,lv_limbs,HG1.out,cmp_eq] at hcm) | (go_at_call 75;refine hcm.mono ?_;clear hcm;rintro e w3 ⟨rfl,k3,rfl⟩))
   have HBK:=Lib.hid (below_drewN (HB1.out.trans (b2.mono HB1.out.size)) k3);have H5:=Lib.hid ((H1.out.below b2).drewN k3);have H6:=Lib.hid ((H2.out.below b2).drewN k3);have HV5:=Lib.hid (show lv l=q.num.natAbs by rw [HQ1.out,HG1.out,Nat.div_one]);have HV6:=Lib.hid (show lv m=q.den by rw [HQ2.out,HG1.out,Nat.div_one])
   generalize w2.drewN k3=w4 at *
   clear h4 b2 hg1
   have hl5:l.length≤100000000:=by omega
   have hl6:m.length≤100000000:=by omega
   have hn5:=norm_num H5.out hl5
   have hn6:=fun W hW=>norm_num (w:=W) (H6.out.below hW) hl6
   rw [HV5.out] at hn5;rw [HV6.out] at hn6;have HN6:=Lib.hid hn6;clear hn6
   go_upto_region 6 with (first | (go_at_call 55;refine hn5.mono ?_;clear hn5;rintro e wa ⟨Aa,na,ca,rfl,ha,ba⟩;have hcall:=HN6.out wa ba) | (go_at_call 55;refine hcall.mono ?_;clear hcall;rintro e wb ⟨Ab,nb,cb,rfl,hb',bb⟩))
   have hla:=ha.len;have HBB:=Lib.hid (HBK.out.trans ((ba.trans (bb.mono ba.size)).mono HBK.out.size));have HA:=Lib.hid (ha.below bb);have HB':=Lib.hid hb'
   have hsg:ratNeg q=(s && decide (0<na)):=by
    rw [HQ3.out,←HQ1.out]
    congr 1
    by_cases hz:q.num.natAbs=0
    · rw [hz,limbs_zero] at hla
      simp at hla;rw [decide_eq_false (by omega),decide_eq_false (by omega)]
    · have:=(limbs_top _ hz).1
      rw [decide_eq_true (by omega),decide_eq_true (by omega)]
   have hr9:(wb.alloc (.cells #[.bool false,.slice Aa na ca,.slice Ab nb cb] 26)).heap[w.heap.size]?=some (.cells #[.bool false,.slice none 0 0,.slice none 0 0] 26 (0,0)):=(alloc_old _ (Nat.lt_of_lt_of_le hwl HBB.out.size)).trans ((HBB.out.block _ hwl).trans HR0.out);have hx9:(wb.alloc (.cells #[.bool false,.slice Aa na ca,.slice Ab nb cb] 26)).heap[wb.heap.size]?=some (.cells #[.bool false,.slice Aa na ca,.slice Ab nb cb] 26 (0,0)):=heap_alloc_new wb _;have hb9:Below wb.heap.size wb (wb.alloc (.cells #[.bool false,.slice Aa na ca,.slice Ab nb cb] 26)):=(Below.refl _ _).alloc (Nat.le_refl _) _
   obtain ⟨w9,hw9⟩:∃ x,x=wb.alloc (.cells #[.bool false,.slice Aa na ca,.slice Ab nb cb] 26):=⟨_,rfl⟩
   rw [←hw9] at hr9 hx9 hb9 ⊢
   obtain ⟨X,hX⟩:∃ X,wb.heap.size=X:=⟨_,rfl⟩
   have hXr:w.heap.size<X:=by rw [←hX];exact Nat.lt_of_lt_of_le hwl HBB.out.size
   rw [hX] at hx9 hb9;have x0:=cell_of_blk hx9 0;have x1:=cell_of_blk hx9 1;have x2:=cell_of_blk hx9 2;have z0:=frozen_of_blk hx9 0;simp only [List.getElem?_toArray,List.getElem?_cons_zero,List.getElem?_cons_succ] at x0 x1 x2;have HX9:=Lib.hid hx9;have HR9:=Lib.hid hr9;have HB9:=Lib.hid hb9;have HSG:=Lib.hid hsg;rw [hX];clear ha hb' ba bb hw9 hx9 hr9 hb9 hsg hla
   go_cut [] (fun wx=>wx=w9.setCell ⟨X,0,none⟩ (.bool (ratNeg q)))
   case first =>
    cases s
    · go_wp2_with fail
      go_meet;rw [HSG.out];rfl
    · by_cases hna:na=0
      · subst hna
        go_wp2_with fail
        go_meet;rw [HSG.out];rfl
      · have hna2:((na:Int)>0):=by omega
        have hna3:0<na:=by omega
        go_wp2_with fail
        go_meet;rw [HSG.out,decide_eq_true hna3];first | rfl | (simp;done) | (simp;omega)
   case rest =>
   have hx10:wc.heap[X]?=some (.cells #[.bool (ratNeg q),.slice Aa na ca,.slice Ab nb cb] 26 (0,0)):=by rw [hcut];exact set_blk HX9.out 0 _
   have hr10:wc.heap[w.heap.size]?=some (.cells #[.bool false,.slice none 0 0,.slice none 0 0] 26 (0,0)):=by rw [hcut];exact (set_far (by simp;omega) _).trans HR9.out
   have hb10:Below X wb wc:=by rw [hcut];exact bl_set HB9.out (Nat.le_refl _)
   obtain ⟨w10,rfl⟩:∃ x,x=wc:=⟨_,rfl⟩
   have hx2:=cell_of_blk hx10 2;simp only [List.getElem?_toArray,List.getElem?_cons_zero,List.getElem?_cons_succ] at hx2;have hX10:=lt_of_blk hx10;have HX10:=Lib.hid hx10;have HR10:=Lib.hid hr10
   have hbb10:Below wb.heap.size wb w10:=by rw [hX];exact hb10
   have HA:=Lib.hid (HA.out.below hbb10);have HBN:=Lib.hid (HB'.out.below hbb10);have HBL:=Lib.hid (HBB.out.trans (hbb10.mono HBB.out.size))
   have hnbl:(limbs q.den).length≤100000000:=by have h1:=HB'.out.len;exact HV6.out ▸ Nat.le_trans (limbs_length_le _ H6.out.sm) hl6
   have hcs:∀ W',Below w10.heap.size w10 W'→W'.cell? ⟨X,2,none⟩=some (.slice Ab nb cb):=fun W' h=>(h.cell (p:=⟨X,2,none⟩) hX10).trans hx2
   have HCS:=Lib.hid hcs;have HNBL:=Lib.hid hnbl;clear hx10 hr10 hb10 hcut x0 x1 x2 z0 hbb10 hcs hnbl HB' HX9 HR9 HB9 HBB H5 H6 HBK
   go_upto_region 7 with fail
   go_cut [47] (fun x wx=>x=.bool (decide (q.den=1))∧Below w10.heap.size w10 wx)
   case first =>
    go_region_held3 (fun W'=>W'.cell? ⟨X,2,none⟩=some (.slice Ab nb cb)) (first | exact HCS.out _ hb21 | exact HCS.out _ hb20 | exact HCS.out _ (below_drew2 (Below.refl _ _)) | exact HCS.out _ (Below.refl _ _)) (first | (go_at_call 76;refine (one_any _).mono ?_;rintro e w20 ⟨A20,n20,c20,rfl,h20,b20⟩;have hb20:=(below_drew2 (Below.refl w10.heap.size w10)).trans b20;have hcm:=cmp_num (HBN.out.below hb20) h20 HNBL.out h1l;rw [lv_limbs,lv_limbs] at hcm) | (go_at_call 75;refine hcm.mono ?_;clear hcm;rintro e w21 ⟨rfl,k21,rfl⟩;have hb21:=below_drewN hb20 k21))
    all_goals
     go_wp2_with fail
     go_meet;exact ⟨congrArg Value.bool (cmp_zero _ _),hb21⟩
   case rest =>
   obtain ⟨rfl,hb11⟩:=hcut
   obtain ⟨w11,rfl⟩:∃ x,x=wc:=⟨_,rfl⟩
   have hx11:=(hb11.block X (lt_of_blk HX10.out)).trans HX10.out;have hr11:=(hb11.block w.heap.size (lt_of_blk HR10.out)).trans HR10.out;have HA:=Lib.hid (HA.out.below hb11);have HBN:=Lib.hid (HBN.out.below hb11);have HBL:=Lib.hid (HB0.out.trans ((HBL.out.trans (hb11.mono HBL.out.size)).mono HB0.out.size));have x0:=cell_of_blk hx11 0;have x1:=cell_of_blk hx11 1;have x2:=cell_of_blk hx11 2;have z2:=frozen_of_blk hx11 2;have r0:=cell_of_blk hr11 0;have r1:=cell_of_blk hr11 1;have r2:=cell_of_blk hr11 2;have s0:=frozen_of_blk hr11 0;have s1:=frozen_of_blk hr11 1;have s2:=frozen_of_blk hr11 2;simp only [List.getElem?_toArray,List.getElem?_cons_zero,List.getElem?_cons_succ] at x0 x1 x2 r0 r1 r2
   have hni:∀ b i k,(b=w.heap.size∨b=X)→w11.cell? ⟨b,i,none⟩≠some (.int .u32 k):=by
    intro b i k hb e;rcases hb with rfl | rfl
    · rw [cell_of_blk hr11 i] at e
      exact no_int3 _ _ _ (by simp) (by simp) (by simp) i k e
    · rw [cell_of_blk hx11 i] at e
      exact no_int3 _ _ _ (by simp) (by simp) (by simp) i k e
   have HNI:=Lib.hid hni
   have hne:w.heap.size≠X:=by omega
   clear hni hb11 hx11 hr11 HX10 HR10 hx2 hX10 HCS hX
   by_cases hd1:q.den=1
   · have HD1:=Lib.hid hd1
     rw [decide_eq_true hd1];clear hd1
     go_wp2_with fail
     refine bodyPost_ret (v:=.agg #[.bool (ratNeg q),.slice Aa na ca,.slice none 0 0]) (by simp [results,Tryz.results49,go_sem,x0,x1,x2,r0,r1,r2,hne,Ne.symm hne]) rfl ?_;refine ⟨⟨Aa,na,ca,none,0,0⟩,rfl,⟨HA.out.fr (S:=fun b=>b=w.heap.size∨b=X) ?_ HNI.out,?_⟩,?_⟩
     · skip
       repeat' (first | exact Fr.refl _ _ | refine fr_set ?_ ?_ | exact .inl (.inl rfl) | exact .inl (.inr rfl))
     · unfold ratDen
       rw [if_pos HD1.out];exact Num.nil_ _
     · skip
       repeat' (first | exact HBL.out | refine bl_set ?_ ?_ | (simp;done) | (simp;omega))
   · have HD1:=Lib.hid hd1
     rw [decide_eq_false hd1];clear hd1
     go_wp2_with fail
     refine bodyPost_ret (v:=.agg #[.bool (ratNeg q),.slice Aa na ca,.slice Ab nb cb]) (by simp [results,Tryz.results49,go_sem,x0,x1,x2,r0,r1,r2,hne,Ne.symm hne]) rfl ?_;refine ⟨⟨Aa,na,ca,Ab,nb,cb⟩,rfl,⟨HA.out.fr (S:=fun b=>b=w.heap.size∨b=X) ?_ HNI.out,?_⟩,?_⟩
     · skip
       repeat' (first | exact Fr.refl _ _ | refine fr_set ?_ ?_ | exact .inl (.inl rfl) | exact .inl (.inr rfl))
     · unfold ratDen
       rw [if_neg HD1.out];refine HBN.out.fr (S:=fun b=>b=w.heap.size∨b=X) ?_ HNI.out
       repeat' (first | exact Fr.refl _ _ | refine fr_set ?_ ?_ | exact .inl (.inl rfl) | exact .inl (.inr rfl))
     · skip
       repeat' (first | exact HBL.out | refine bl_set ?_ ?_ | (simp;done) | (simp;omega))
 · have hne:¬ (cmpN g 1=0):=by
    rcases Nat.lt_or_gt_of_ne hg1 with h | h
    · rw [cmp_lt h];decide
    · rw [cmp_gt h];decide
   have hne2:(cmpN g 1 != 0)=true:=by rw [bne_iff_ne];exact hne
   obtain ⟨cv,hcv⟩:∃ cv,cmpN g 1=cv:=⟨_,rfl⟩
   rw [hcv] at hne2;have HCV:=Lib.hid hcv
   have hgl8:(limbs g).length≤100000000:=by omega
   have hgp2:0<lv (limbs g):=by rw [lv_limbs];exact hgp
   clear hne hcv
   go_upto_region 3 with (first | (go_at_call 76;refine (one_any _).mono ?_;rintro e w2 ⟨A4,n4,c4,rfl,h4,b2⟩;have hcm:=cmp_num (H3.out.below b2) h4 hgl8 h1l;rw [lv_limbs,lv_limbs,HCV.out] at hcm) | (go_at_call 75;refine hcm.mono ?_;clear hcm;rintro e w3 ⟨rfl,k3,rfl⟩))
   have HBJ:=Lib.hid (below_drewN (HB1.out.trans (b2.mono HB1.out.size)) k3);have H1:=Lib.hid ((H1.out.below b2).drewN k3);have H2:=Lib.hid ((H2.out.below b2).drewN k3);have H3:=Lib.hid ((H3.out.below b2).drewN k3)
   generalize w2.drewN k3=w3 at *
   clear h4 b2 hne2;have hd1:=divmod_num H1.out H3.out (by omega) hgl8 hgp2
   have hd2:=fun W hW=>divmod_num (w:=W) (H2.out.below hW) (H3.out.below hW) (by omega) hgl8 hgp2
   rw [lv_limbs] at hd1 hd2;have HD2:=Lib.hid hd2;clear hd2
   go_upto_region 5 with (first | (go_at_call 77;refine hd1.mono ?_;clear hd1;rintro e w4 ⟨A5,n5,c5,A6,n6,c6,rfl,h5,h6,b4⟩;have hcall:=HD2.out w4 b4) | (go_at_call 77;refine hcall.mono ?_;clear hcall;rintro e w5 ⟨A7,n7,c7,A8,n8,c8,rfl,h7,h8,b5⟩))
   have HBK:=Lib.hid ((HBJ.out.trans (b4.mono HBJ.out.size)).trans (b5.mono (Nat.le_trans HBJ.out.size b4.size)));have H5:=Lib.hid (h5.below b5);have H6:=Lib.hid h7;have HV5:=Lib.hid (show lv (limbs (lv l / g))=q.num.natAbs by rw [HQ1.out,lv_limbs]);have HV6:=Lib.hid (show lv (limbs (lv m / g))=q.den by rw [HQ2.out,lv_limbs]);have hl5:(limbs (lv l / g)).length≤100000000:=Nat.le_trans (limbs_len_mono _ _ (Nat.div_le_self _ _)) (Nat.le_trans (limbs_length_le l H1.out.sm) (by omega));have hl6:(limbs (lv m / g)).length≤100000000:=Nat.le_trans (limbs_len_mono _ _ (Nat.div_le_self _ _)) (Nat.le_trans (limbs_length_le m H2.out.sm) (by omega));clear h5 h6 h7 h8 b4 b5 hgp2;have hn5:=norm_num H5.out hl5
   have hn6:=fun W hW=>norm_num (w:=W) (H6.out.below hW) hl6
   rw [HV5.out] at hn5;rw [HV6.out] at hn6;have HN6:=Lib.hid hn6;clear hn6
   go_upto_region 6 with (first | (go_at_call 55;refine hn5.mono ?_;clear hn5;rintro e wa ⟨Aa,na,ca,rfl,ha,ba⟩;have hcall:=HN6.out wa ba) | (go_at_call 55;refine hcall.mono ?_;clear hcall;rintro e wb ⟨Ab,nb,cb,rfl,hb',bb⟩))
   have hla:=ha.len;have HBB:=Lib.hid (HBK.out.trans ((ba.trans (bb.mono ba.size)).mono HBK.out.size));have HA:=Lib.hid (ha.below bb);have HB':=Lib.hid hb'
   have hsg:ratNeg q=(s && decide (0<na)):=by
    rw [HQ3.out,←HQ1.out]
    congr 1
    by_cases hz:q.num.natAbs=0
    · rw [hz,limbs_zero] at hla
      simp at hla;rw [decide_eq_false (by omega),decide_eq_false (by omega)]
    · have:=(limbs_top _ hz).1
      rw [decide_eq_true (by omega),decide_eq_true (by omega)]
   have hr9:(wb.alloc (.cells #[.bool false,.slice Aa na ca,.slice Ab nb cb] 26)).heap[w.heap.size]?=some (.cells #[.bool false,.slice none 0 0,.slice none 0 0] 26 (0,0)):=(alloc_old _ (Nat.lt_of_lt_of_le hwl HBB.out.size)).trans ((HBB.out.block _ hwl).trans HR0.out);have hx9:(wb.alloc (.cells #[.bool false,.slice Aa na ca,.slice Ab nb cb] 26)).heap[wb.heap.size]?=some (.cells #[.bool false,.slice Aa na ca,.slice Ab nb cb] 26 (0,0)):=heap_alloc_new wb _;have hb9:Below wb.heap.size wb (wb.alloc (.cells #[.bool false,.slice Aa na ca,.slice Ab nb cb] 26)):=(Below.refl _ _).alloc (Nat.le_refl _) _
   obtain ⟨w9,hw9⟩:∃ x,x=wb.alloc (.cells #[.bool false,.slice Aa na ca,.slice Ab nb cb] 26):=⟨_,rfl⟩
   rw [←hw9] at hr9 hx9 hb9 ⊢
   obtain ⟨X,hX⟩:∃ X,wb.heap.size=X:=⟨_,rfl⟩
   have hXr:w.heap.size<X:=by rw [←hX];exact Nat.lt_of_lt_of_le hwl HBB.out.size
   rw [hX] at hx9 hb9;have x0:=cell_of_blk hx9 0;have x1:=cell_of_blk hx9 1;have x2:=cell_of_blk hx9 2;have z0:=frozen_of_blk hx9 0;simp only [List.getElem?_toArray,List.getElem?_cons_zero,List.getElem?_cons_succ] at x0 x1 x2;have HX9:=Lib.hid hx9;have HR9:=Lib.hid hr9;have HB9:=Lib.hid hb9;have HSG:=Lib.hid hsg;rw [hX];clear ha hb' ba bb hw9 hx9 hr9 hb9 hsg hla
   go_cut [] (fun wx=>wx=w9.setCell ⟨X,0,none⟩ (.bool (ratNeg q)))
   case first =>
    cases s
    · go_wp2_with fail
      go_meet;rw [HSG.out];rfl
    · by_cases hna:na=0
      · subst hna
        go_wp2_with fail
        go_meet;rw [HSG.out];rfl
      · have hna2:((na:Int)>0):=by omega
        have hna3:0<na:=by omega
        go_wp2_with fail
        go_meet;rw [HSG.out,decide_eq_true hna3];first | rfl | (simp;done) | (simp;omega)
   case rest =>
   have hx10:wc.heap[X]?=some (.cells #[.bool (ratNeg q),.slice Aa na ca,.slice Ab nb cb] 26 (0,0)):=by rw [hcut];exact set_blk HX9.out 0 _
   have hr10:wc.heap[w.heap.size]?=some (.cells #[.bool false,.slice none 0 0,.slice none 0 0] 26 (0,0)):=by rw [hcut];exact (set_far (by simp;omega) _).trans HR9.out
   have hb10:Below X wb wc:=by rw [hcut];exact bl_set HB9.out (Nat.le_refl _)
   obtain ⟨w10,rfl⟩:∃ x,x=wc:=⟨_,rfl⟩
   have hx2:=cell_of_blk hx10 2;simp only [List.getElem?_toArray,List.getElem?_cons_zero,List.getElem?_cons_succ] at hx2;have hX10:=lt_of_blk hx10;have HX10:=Lib.hid hx10;have HR10:=Lib.hid hr10
   have hbb10:Below wb.heap.size wb w10:=by rw [hX];exact hb10
   have HA:=Lib.hid (HA.out.below hbb10);have HBN:=Lib.hid (HB'.out.below hbb10);have HBL:=Lib.hid (HBB.out.trans (hbb10.mono HBB.out.size))
   have hnbl:(limbs q.den).length≤100000000:=by have h1:=HB'.out.len;exact HV6.out ▸ Nat.le_trans (limbs_length_le _ H6.out.sm) hl6
   have hcs:∀ W',Below w10.heap.size w10 W'→W'.cell? ⟨X,2,none⟩=some (.slice Ab nb cb):=fun W' h=>(h.cell (p:=⟨X,2,none⟩) hX10).trans hx2
   have HCS:=Lib.hid hcs;have HNBL:=Lib.hid hnbl;clear hx10 hr10 hb10 hcut x0 x1 x2 z0 hbb10 hcs hnbl HB' HX9 HR9 HB9 HBB H5 H6 HBK
   go_upto_region 7 with fail
   go_cut [47] (fun x wx=>x=.bool (decide (q.den=1))∧Below w10.heap.size w10 wx)
   case first =>
    go_region_held3 (fun W'=>W'.cell? ⟨X,2,none⟩=some (.slice Ab nb cb)) (first | exact HCS.out _ hb21 | exact HCS.out _ hb20 | exact HCS.out _ (below_drew2 (Below.refl _ _)) | exact HCS.out _ (Below.refl _ _)) (first | (go_at_call 76;refine (one_any _).mono ?_;rintro e w20 ⟨A20,n20,c20,rfl,h20,b20⟩;have hb20:=(below_drew2 (Below.refl w10.heap.size w10)).trans b20;have hcm:=cmp_num (HBN.out.below hb20) h20 HNBL.out h1l;rw [lv_limbs,lv_limbs] at hcm) | (go_at_call 75;refine hcm.mono ?_;clear hcm;rintro e w21 ⟨rfl,k21,rfl⟩;have hb21:=below_drewN hb20 k21))
    all_goals
     go_wp2_with fail
     go_meet;exact ⟨congrArg Value.bool (cmp_zero _ _),hb21⟩
   case rest =>
   obtain ⟨rfl,hb11⟩:=hcut
   obtain ⟨w11,rfl⟩:∃ x,x=wc:=⟨_,rfl⟩
   have hx11:=(hb11.block X (lt_of_blk HX10.out)).trans HX10.out;have hr11:=(hb11.block w.heap.size (lt_of_blk HR10.out)).trans HR10.out;have HA:=Lib.hid (HA.out.below hb11);have HBN:=Lib.hid (HBN.out.below hb11);have HBL:=Lib.hid (HB0.out.trans ((HBL.out.trans (hb11.mono HBL.out.size)).mono HB0.out.size));have x0:=cell_of_blk hx11 0;have x1:=cell_of_blk hx11 1;have x2:=cell_of_blk hx11 2;have z2:=frozen_of_blk hx11 2;have r0:=cell_of_blk hr11 0;have r1:=cell_of_blk hr11 1;have r2:=cell_of_blk hr11 2;have s0:=frozen_of_blk hr11 0;have s1:=frozen_of_blk hr11 1;have s2:=frozen_of_blk hr11 2;simp only [List.getElem?_toArray,List.getElem?_cons_zero,List.getElem?_cons_succ] at x0 x1 x2 r0 r1 r2
   have hni:∀ b i k,(b=w.heap.size∨b=X)→w11.cell? ⟨b,i,none⟩≠some (.int .u32 k):=by
    intro b i k hb e;rcases hb with rfl | rfl
    · rw [cell_of_blk hr11 i] at e
      exact no_int3 _ _ _ (by simp) (by simp) (by simp) i k e
    · rw [cell_of_blk hx11 i] at e
      exact no_int3 _ _ _ (by simp) (by simp) (by simp) i k e
   have HNI:=Lib.hid hni
   have hne:w.heap.size≠X:=by omega
   clear hni hb11 hx11 hr11 HX10 HR10 hx2 hX10 HCS hX
   by_cases hd1:q.den=1
   · have HD1:=Lib.hid hd1
     rw [decide_eq_true hd1];clear hd1
     go_wp2_with fail
     refine bodyPost_ret (v:=.agg #[.bool (ratNeg q),.slice Aa na ca,.slice none 0 0]) (by simp [results,Tryz.results49,go_sem,x0,x1,x2,r0,r1,r2,hne,Ne.symm hne]) rfl ?_;refine ⟨⟨Aa,na,ca,none,0,0⟩,rfl,⟨HA.out.fr (S:=fun b=>b=w.heap.size∨b=X) ?_ HNI.out,?_⟩,?_⟩
     · skip
       repeat' (first | exact Fr.refl _ _ | refine fr_set ?_ ?_ | exact .inl (.inl rfl) | exact .inl (.inr rfl))
     · unfold ratDen
       rw [if_pos HD1.out];exact Num.nil_ _
     · skip
       repeat' (first | exact HBL.out | refine bl_set ?_ ?_ | (simp;done) | (simp;omega))
   · have HD1:=Lib.hid hd1
     rw [decide_eq_false hd1];clear hd1
     go_wp2_with fail
     refine bodyPost_ret (v:=.agg #[.bool (ratNeg q),.slice Aa na ca,.slice Ab nb cb]) (by simp [results,Tryz.results49,go_sem,x0,x1,x2,r0,r1,r2,hne,Ne.symm hne]) rfl ?_;refine ⟨⟨Aa,na,ca,Ab,nb,cb⟩,rfl,⟨HA.out.fr (S:=fun b=>b=w.heap.size∨b=X) ?_ HNI.out,?_⟩,?_⟩
     · skip
       repeat' (first | exact Fr.refl _ _ | refine fr_set ?_ ?_ | exact .inl (.inl rfl) | exact .inl (.inr rfl))
     · unfold ratDen
       rw [if_neg HD1.out];refine HBN.out.fr (S:=fun b=>b=w.heap.size∨b=X) ?_ HNI.out
       repeat' (first | exact Fr.refl _ _ | refine fr_set ?_ ?_ | exact .inl (.inl rfl) | exact .inl (.inr rfl))
     · skip
       repeat' (first | exact HBL.out | refine bl_set ?_ ?_ | (simp;done) | (simp;omega))
end Go.Proofs.YtdefcbfofonabaaGreat
