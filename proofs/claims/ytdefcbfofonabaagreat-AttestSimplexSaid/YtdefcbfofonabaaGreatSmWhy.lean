/- Contract of (*simplex.table).why. -/
import Derived.Test.YtdefcbfofonabaaGreatSmMake
import Derived.Test.YtdefcbfofonabaaGreatSmRoom
import Derived.Test.YtdefcbfofonabaaGreatSxT
import Derived.BigRegion
import Derived.RegionTactic
import Derived.Test.YtdefcbfofonabaaGreatSmCheck
import Derived.Test.YtdefcbfofonabaaGreatSmBuild
import Derived.Test.YtdefcbfofonabaaGreatSmPoint
import Derived.Test.YtdefcbfofonabaaGreatSmMove
namespace Go.Proofs.YtdefcbfofonabaaGreat
open Go.RowKit
set_option linter.unusedVariables false
set_option linter.unusedSimpArgs false
def whyF (P:Pb) (S:Sx) (v r:Nat) (g:Bool) (j i:Nat):Rat:=if P.nv+i=v then sgnOf g else if P.nv+i<j then -(sgnOf g*S.a r (P.nv+i)) else 0
theorem whyF_same {P:Pb} {S:Sx} {v r:Nat} {g:Bool} {j:Nat} (h:S.a r j=0∨j<P.nv):whyF P S v r g j=whyF P S v r g (j+1):=by
 funext i
 unfold whyF
 by_cases h1:P.nv+i=v
 · simp [h1]
 · rw [if_neg h1,if_neg h1]
   by_cases h2:P.nv+i<j
   · rw [if_pos h2,if_pos (by omega)]
   · rw [if_neg h2]
     by_cases h3:P.nv+i<j+1
     · rw [if_pos h3]
       have h4:P.nv+i=j:=by omega
       rcases h with h | h
       · rw [h4,h]
         grind
       · omega
     · rw [if_neg h3]
theorem whyF_put {P:Pb} {S:Sx} {v r:Nat} {g:Bool} {u:Nat} (h:P.nv+u≠v):updF (whyF P S v r g (P.nv+u)) u (-(sgnOf g*S.a r (P.nv+u)))=whyF P S v r g (P.nv+u+1):=by
 funext i
 unfold updF whyF
 by_cases h0:i=u
 · subst h0
   rw [if_pos rfl,if_neg h,if_pos (by omega)]
 · rw [if_neg h0]
   by_cases h1:P.nv+i=v
   · rw [if_pos h1,if_pos h1]
   · rw [if_neg h1,if_neg h1]
     by_cases h2:P.nv+i<P.nv+u
     · rw [if_pos h2,if_pos (by omega)]
     · rw [if_neg h2,if_neg (by omega)]
theorem whyF_zero {P:Pb} {S:Sx} {v r:Nat} {g:Bool} {u:Nat} (h:v=P.nv+u):updF (fun _=>(0:Rat)) u (sgnOf g)=whyF P S v r g 0:=by
 funext i
 unfold updF whyF
 by_cases h0:i=u
 · subst h0
   rw [if_pos rfl,if_pos h.symm]
 · rw [if_neg h0,if_neg (by omega),if_neg (by omega)]
theorem whyF_end {P:Pb} {S:Sx} {v r:Nat} {g:Bool} (hr:rowOf S v=r):∀ i,i<P.m→whyF P S v r g (P.nv+P.m) i=timesOf P S v g i:=fun i hi=>by
 unfold whyF timesOf;rw [hr]
 by_cases h1:P.nv+i=v
 · rw [if_pos h1,if_pos h1]
 · rw [if_neg h1,if_neg h1,if_pos (by omega)]
theorem sgn_le (g:Bool) (k:Nat) (hk:1≤k):RatLe (sgnOf g) k:=by
 unfold sgnOf
 cases g
 · exact m1_le k hk
 · exact p1_le k hk
theorem sgn_mul_le (g:Bool) {q:Rat} {k:Nat} (h:RatLe q k):RatLe (-(sgnOf g*q)) k:=by
 unfold sgnOf
 cases g
 · have : -((if false=true then (1:Rat) else -1)*q)=q:=by simp only [Bool.false_eq_true,if_false];grind
   rw [this];exact h
 · have : -((if true=true then (1:Rat) else -1)*q) = -q:=by simp only [if_true];grind
   rw [this];exact neg_le h
set_option maxRecDepth 100000 in
set_option maxHeartbeats 8000000 in
theorem why_any (B:Nat) (T:TL) (P:Pb) (S:Sx) (k v u r:Nat) (g:Bool) (w:World) (h:TabAt w B T P S k) (hk:k≤1000000) (hk1:1≤k) (hv:v=P.nv+u) (hum:u<P.m) (hr:S.row v=(r:Int)) (hrm:r<P.m) (ha0:S.a r v=0) :
 Calls Tryz.prog 20 #[.pointer (some ⟨T.g,0,none⟩),.int .i64 (v:Int),.bool g] w fun e w'=>∃ go:Nat,e=.returned (.slice (some ⟨go,0,none⟩) P.m P.m)∧w.heap.size≤go∧RRow w' go P.m (timesOf P S v g) k∧Below w.heap.size w w':=by
 have hm8:=h.mm;have hn3:=h.nvm
 have hm0:0<P.m:=by omega
 have hrow:rowOf S v=r:=by unfold rowOf;omega
 have hvN:v<P.nv+P.m:=by omega
 have H:=Lib.hid h;have HR:=Lib.hid (And.intro hrow hr);have HV:=Lib.hid hv;have HA:=Lib.hid ha0
 have b1:(0:Int)≤(v:Int):=by omega
 have b2:(v:Int)<(P.nv:Int)+(P.m:Int):=by omega
 have b3:(0:Int)≤(r:Int):=by omega
 have b4:(r:Int)<(P.m:Int):=by omega
 have b5:IntKind.i64.wrap ((v:Int) - (P.nv:Int))=(u:Int):=by rw [IntWalk.i64_in _ (by omega)];omega
 have b6:(u:Int)<(P.m:Int):=by omega
 have b7:(0:Int)≤(u:Int):=by omega
 obtain ⟨x0,x1,x2,x3,x4,x5,x6⟩:=box7 h;have eaA:=h.aA hm0;obtain ⟨i0,hi,hz0,hz1,hz2⟩:=info_parts info_rat3;clear h hr hrow hv ha0 x2 x3 x4 x5 x6 eaA
 obtain ⟨sg,hsg⟩:∃ x,x=sgnOf g:=⟨_,rfl⟩
 have HSG:=Lib.hid hsg
 have hRS:∀ g',g'=g→sgnOf g'=sg:=fun g' e=>by rw [e,hsg]
 have HRS:=Lib.hid hRS;clear hsg hRS
 go_enter Tryz.func20,Tryz.ntmps20
 go_upto_region 2 with (at_make;refine makeN w rfl _ _ 30 rfl 26 i0 _ 3 56 Tryz.underlying30 hi hz0 hz1 hz2 .i64 .i64 _ _ P.m rfl rfl rfl rfl (by omega) (by decide) ?_)
 have hrr:=RRow.made w P.m k hk1;have hbm:=(Below.refl w.heap.size w).alloc (Nat.le_refl _) (.cells (madeCells #[.bool false,.slice none 0 0,.slice none 0 0] (P.m*3)) 26)
 obtain ⟨go,hgo⟩:∃ x0,x0=w.heap.size:=⟨_,rfl⟩
 have hgs:(w.alloc (.cells (madeCells #[.bool false,.slice none 0 0,.slice none 0 0] (P.m*3)) 26)).heap.size=go+1:=by rw [hgo];simp
 obtain ⟨w1,hw1⟩:∃ x0,x0=w.alloc (.cells (madeCells #[.bool false,.slice none 0 0,.slice none 0 0] (P.m*3)) 26):=⟨_,rfl⟩
 rw [←hgo] at hrr;rw [←hw1] at hrr hbm hgs ⊢;rw [←hgo] at ⊢;have HGO:=Lib.hid hgo;have HRR:=Lib.hid hrr;have HBM:=Lib.hid hbm;have HGS:=Lib.hid hgs;have hi1:=int_p1 w1
 have him:=fun W=>int_m1 W
 unfold RB.val at hi1 him;have HI1:=Lib.hid hi1;have HIM:=Lib.hid him;clear hw1 hrr hbm hgs hi1 him hgo hi hz0 hz1 hz2 x0 x1
 go_upto_region 3 with (go_at_call 7;refine HI1.out.mono ?_;rintro e w2 ⟨b8,rfl,hr8,hb2⟩;have HR8:=Lib.hid hr8;have HB2:=Lib.hid hb2;clear hr8 hb2)
 have hx3:=heap_alloc_new w2 (.cells #[.bool (ratNeg 1),.slice b8.A b8.n b8.c,.slice b8.A2 b8.n2 b8.c2] 26)
 have zw3:(w2.alloc (.cells #[.bool (ratNeg 1),.slice b8.A b8.n b8.c,.slice b8.A2 b8.n2 b8.c2] 26)).heap.size=w2.heap.size+1:=by simp
 have aw3:=(Below.refl w2.heap.size w2).alloc (Nat.le_refl _) (.cells #[.bool (ratNeg 1),.slice b8.A b8.n b8.c,.slice b8.A2 b8.n2 b8.c2] 26)
 obtain ⟨w3,ew3⟩:∃ x0,x0=w2.alloc (.cells #[.bool (ratNeg 1),.slice b8.A b8.n b8.c,.slice b8.A2 b8.n2 b8.c2] 26):=⟨_,rfl⟩
 rw [←ew3] at hx3 zw3 aw3 ⊢;clear ew3
 obtain ⟨g8,hg8⟩:∃ x0,x0=w2.heap.size:=⟨_,rfl⟩
 rw [←hg8] at hx3 ⊢
 have hne8:g8≠go:=by have:=HB2.out.size;have:=HGS.out;omega
 have HX3:=Lib.hid hx3;have HA3:=Lib.hid aw3;have HZ3:=Lib.hid (And.intro zw3 hg8);clear hx3 aw3 zw3 hg8
 go_upto_if 19 with fail
 go_cut [8] (fun x wx=>x=.pointer (some ⟨g8,0,none⟩)∧∃ b9:RB,RatAt wx b9 sg∧wx.heap[g8]?=some (.cells #[.bool (ratNeg sg),.slice b9.A b9.n b9.c,.slice b9.A2 b9.n2 b9.c2] 26 (0,0))∧Below w1.heap.size w1 wx)
 case first =>
  as_aux_lemma =>
   have e1:=HRS.out
   cases g
   · have e2:(-1:Rat)=sg:=by rw [←e1 false rfl];rfl
     obtain ⟨p0,p1,p2⟩:=box3 HX3.out;have z0:=frozen_of_blk HX3.out 0;have z1:=frozen_of_blk HX3.out 1;have z2:=frozen_of_blk HX3.out 2;have HE2:=Lib.hid e2;clear e1 e2
     go_wp2_with (go_at_call 7;refine (HIM.out _).mono ?_;rintro e w4 ⟨b9,rfl,hr9,hb4⟩;have HX4:=Lib.hid (box_keep HX3.out hb4);have HR9:=Lib.hid hr9;have HB4:=Lib.hid hb4;obtain ⟨p0,p1,p2⟩:=box3 HX4.out;have z0:=frozen_of_blk HX4.out 0;have z1:=frozen_of_blk HX4.out 1;have z2:=frozen_of_blk HX4.out 2;clear hr9 hb4)
     go_meet
     have k4:=(HB2.out.trans (HA3.out.mono HB2.out.size))
     have k5:=k4.trans (HB4.out.mono k4.size);have hg:=HZ3.out.2;have hs:=HB2.out.size;rw [HE2.out] at HR9;refine ⟨rfl,b9,?_,?_,bl_set (bl_set (bl_set k5 (by dsimp only;omega)) (by dsimp only;omega)) (by dsimp only;omega)⟩
     · exact HR9.out.frT (S:=fun b=>b=g8) (fr_set (fr_set (fr_set (Fr.refl _ _) (.inl rfl)) (.inl rfl)) (.inl rfl)) (typU_of HX4.out (by decide))
     · have h1:=set_blk (set_blk (set_blk HX4.out 0 (.bool (ratNeg (-1)))) 1 (.slice b9.A b9.n b9.c)) 2 (.slice b9.A2 b9.n2 b9.c2)
       rw [HE2.out] at h1;rw [HE2.out];exact h1
   · have e2:(1:Rat)=sg:=by rw [←e1 true rfl];rfl
     have HE2:=Lib.hid e2;clear e1 e2
     go_wp2_with fail
     go_meet
     have k4:=(HB2.out.trans (HA3.out.mono HB2.out.size))
     have h1:=HX3.out;have h2:=HR8.out.below HA3.out;rw [HE2.out] at h1 h2;exact ⟨rfl,b8,h2,h1,k4⟩
 case rest =>
 obtain ⟨rfl,b9,hr9,hx9,hb9⟩:=hcut
 obtain ⟨w5,rfl⟩:∃ x0,x0=wc:=⟨_,rfl⟩
 have k05:=HBM.out.trans (hb9.mono HBM.out.size);have hrr5:=HRR.out.below hb9;have hx0:=(box7 (H.out.below k05)).1;obtain ⟨p0,p1,p2⟩:=box3 hx9;obtain ⟨bz,q0,q1,q2,_,_⟩:=hrr5.at_ u hum
 have z0:=fun i=>(hrr5.wr hm0).fz i
 have HX9:=Lib.hid hx9;have HR9:=Lib.hid hr9;have HRR5:=Lib.hid hrr5;have K05:=Lib.hid k05;clear hx9 hr9 hrr5 k05 hb9 HX3 HA3 HB2 HIM HI1 HR8
 go_upto_region 5 with fail
 go_cut [8] (fun x wx=>x=.pointer (some ⟨g8,0,none⟩)∧RRow wx go P.m (whyF P S v r g 0) k∧Fr (fun b=>b=go) w5 wx)
 case first =>
  as_aux_lemma =>
   go_region
   all_goals
    go_wp2_with fail
    go_meet;refine ⟨rfl,?_,(pu3_fr w5 go (u*3) b9 sg).drew⟩;rw [←whyF_zero HV.out,←HSG.out];exact (HRR5.out.put hum HR9.out (by rw [HSG.out];exact sgn_le g k hk1)).below (below_drew2 (Below.refl _ _))
 case rest =>
 obtain ⟨rfl,hrr6,hf6⟩:=hcut
 obtain ⟨w6,rfl⟩:∃ x0,x0=wc:=⟨_,rfl⟩
 have hbase:∀ W,Fr (fun b=>b=go) w5 W→Below w.heap.size w W∧W.heap[g8]?=some (.cells #[.bool (ratNeg sg),.slice b9.A b9.n b9.c,.slice b9.A2 b9.n2 b9.c2] 26 (0,0))∧RatAt W b9 sg:=fun W hf=>by
  refine ⟨K05.out.trans (hf.below K05.out.size (fun b hb=>by rw [hb,HGO.out];exact Nat.le_refl _)),(hf.block g8 (lt_of_blk HX9.out) hne8).trans HX9.out,HR9.out.frT hf ?_⟩;exact (HRR5.out.wr hm0).noU (by decide)
 have HBASE:=Lib.hid hbase;have HRR6:=Lib.hid hrr6;have HF6:=Lib.hid hf6;clear hbase hrr6 hf6 hx0 p0 p1 p2 q0 q1 q2 z0;obtain ⟨x0,x1,x2,x3,x4,x5,x6⟩:=box7 (H.out.below (HBASE.out w6 HF6.out).1);have h6:=H.out.below (HBASE.out w6 HF6.out).1;have eaA:=h6.aA hm0;rw [eaA] at x4;have hrv:=h6.row.at_ v hvN;rw [HR.out.2] at hrv;have hor:=h6.out.at_ r hrm;clear h6 eaA
 go_wp2_with fail
 go_quiet (fail)
 go_wp2_with fail
 clear x0 x1 x2 x3 x4 x5 x6 hrv hor
 go_loopw [44] (fun x wr=>∃ j:Nat,j≤P.nv+P.m∧x=.int .i64 j∧RRow wr go P.m (whyF P S v r g j) k∧Fr (fun b=>b=go) w5 wr) (fun x _=>P.nv+P.m - (intOf x).toNat)
 case atStart=>exact ⟨0,Nat.zero_le _,rfl,HRR6.out.below (below_drewN (Below.refl _ _) _),HF6.out.drewN _⟩
 case round =>
  obtain ⟨j,hjN,rfl,hrw,hfw⟩:=hrel
  obtain ⟨w7,rfl⟩:∃ x,x=wr:=⟨_,rfl⟩
  have HRW:=Lib.hid hrw;have HFW:=Lib.hid hfw;have h7:=H.out.below (HBASE.out w7 hfw).1;have H7:=Lib.hid h7;clear hrw hfw h7
  by_cases hlt:j<P.nv+P.m
  · have c1:(0:Int)≤(j:Int):=by omega
    have c2:(j:Int)<(P.nv:Int)+(P.m:Int):=by omega
    obtain ⟨rb,y0,y1,y2,hra,hla⟩:=(H7.out.rws r hrm).at_ j hlt
    obtain ⟨q,hq⟩:∃ q,q=S.a r j:=⟨_,rfl⟩
    rw [←hq] at hra hla y0;have HQ:=Lib.hid hq;clear hq
    go_upto_region 9 with fail
    have hx10:=heap_alloc_new w7 (.cells #[.bool (ratNeg q),.slice rb.A rb.n rb.c,.slice rb.A2 rb.n2 rb.c2] 26)
    have zw8:(w7.alloc (.cells #[.bool (ratNeg q),.slice rb.A rb.n rb.c,.slice rb.A2 rb.n2 rb.c2] 26)).heap.size=w7.heap.size+1:=by simp
    have aw8:=(Below.refl w7.heap.size w7).alloc (Nat.le_refl _) (.cells #[.bool (ratNeg q),.slice rb.A rb.n rb.c,.slice rb.A2 rb.n2 rb.c2] 26)
    obtain ⟨w8,ew8⟩:∃ x0,x0=w7.alloc (.cells #[.bool (ratNeg q),.slice rb.A rb.n rb.c,.slice rb.A2 rb.n2 rb.c2] 26):=⟨_,rfl⟩
    rw [←ew8] at hx10 zw8 aw8 ⊢;clear ew8
    obtain ⟨g10,hg10⟩:∃ x0,x0=w7.heap.size:=⟨_,rfl⟩
    rw [←hg10] at hx10 ⊢;have hf8:Fr (fun b=>b=go) w5 w8:=HFW.out.trans (Fr.of_below (S:=fun b=>b=go) aw8) (fun b hb=>.inl hb)
    have hgo8:g10≠go:=by
     have:=(HRR5.out.wr hm0).lt;have:=HFW.out.size;omega
    have HX10:=Lib.hid hx10;have HRA:=Lib.hid (hra.below aw8);have HLA:=Lib.hid hla;have HRW8:=Lib.hid (HRW.out.below aw8);have HF8:=Lib.hid hf8;have hsg:=sign_any rb q w8 (hra.below aw8);unfold RB.val at hsg;have hsz:=@signZ_nul q
    obtain ⟨z,hz⟩:∃ z,z=signZ q:=⟨_,rfl⟩
    rw [←hz] at hsg hsz;obtain ⟨y0',y1',y2'⟩:=box3 hx10;have hx0:=(box7 (H.out.below (HBASE.out w8 hf8).1)).1;have HSN:=Lib.hid hsg;have HSZ:=Lib.hid hsz;clear hx10 hra hla hf8 hsg hsz hz hg10 aw8 zw8 y0 y1 y2
    by_cases hge:(P.nv:Int)≤(j:Int)
    · have hge2:(j:Int)≥(P.nv:Int):=hge
      have hcall:=HSN.out
      by_cases hz0:z=0
      · subst hz0
        go_wp2_with (go_at_call 33;refine hcall.mono ?_;clear hcall;rintro e w9 ⟨rfl,hb9⟩;have HB9:=Lib.hid hb9;clear hb9)
        go_roundw
        case rel =>
         refine ⟨j+1,by omega,by go_num,?_,HF8.out.trans (Fr.of_below (S:=fun b=>b=go) HB9.out) (fun b hb=>.inl hb)⟩;rw [←whyF_same (.inl (by rw [←HQ.out];exact HSZ.out.1 (by simp)))];exact HRW8.out.below HB9.out
        case measure=>simp [intOf];omega
      · have hz1:(z != 0)=true:=by simpa using hz0
        have hzn:¬ z=0:=hz0
        obtain ⟨u2,hu2⟩:∃ u2,j=P.nv+u2:=⟨j - P.nv,by omega⟩
        have hum2:u2<P.m:=by omega
        have HU2:=Lib.hid hu2
        have hjv:P.nv+u2≠v:=fun e=>hzn (HSZ.out.2 (by rw [HQ.out,hu2,e];exact HA.out))
        have c3:IntKind.i64.wrap ((j:Int) - (P.nv:Int))=(u2:Int):=by rw [IntWalk.i64_in _ (by omega)];omega
        have c4:(u2:Int)<(P.m:Int):=by omega
        have c5:(0:Int)≤(u2:Int):=by omega
        have HJV:=Lib.hid hjv;clear hjv hzn hu2 hz0
        go_upto_region 10 with (go_at_call 33;refine hcall.mono ?_;clear hcall;rintro e w9 ⟨rfl,hb9⟩;have HB9:=Lib.hid hb9;clear hb9)
        have hf9:Fr (fun b=>b=go) w5 w9:=HF8.out.trans (Fr.of_below (S:=fun b=>b=go) HB9.out) (fun b hb=>.inl hb);have HF9:=Lib.hid hf9;have HRW9:=Lib.hid (HRW8.out.below HB9.out);have HX10':=Lib.hid (box_keep HX10.out HB9.out)
        have hcs:∀ W',Fr (fun b=>b=go) w9 W'→W'.cell? ⟨T.g,0,none⟩=some (.int .i64 (P.nv:Int))∧(W'.cell? ⟨g8,0,none⟩=some (.bool (ratNeg sg))∧W'.cell? ⟨g8,1,none⟩=some (.slice b9.A b9.n b9.c)∧W'.cell? ⟨g8,2,none⟩=some (.slice b9.A2 b9.n2 b9.c2))∧(W'.cell? ⟨g10,0,none⟩=some (.bool (ratNeg q))∧W'.cell? ⟨g10,1,none⟩=some (.slice rb.A rb.n rb.c)∧W'.cell? ⟨g10,2,none⟩=some (.slice rb.A2 rb.n2 rb.c2)):=fun W' hf=>by
         have hf':=HF9.out.trans hf (fun b hb=>.inl hb);obtain ⟨e1,e2,e3⟩:=HBASE.out W' hf';exact ⟨(box7 (H.out.below e1)).1,box3 e2,box3 ((hf.block g10 (lt_of_blk HX10'.out) hgo8).trans HX10'.out)⟩
        have hml:=fun W (hW:Below w9.heap.size w9 W)=>rmul_any b9 rb sg q W ((HBASE.out w9 hf9).2.2.below hW) ((HRA.out.below HB9.out).below hW) k hk (by rw [HSG.out];exact sgn_le g k hk1) HLA.out
        have hng:=fun W (b3:RB) (h3:RatAt W b3 (sg*q))=>neg_any b3 (sg*q) W h3
        unfold RB.val at hml hng;have HCS:=Lib.hid hcs;have HML:=Lib.hid hml;have HNG:=Lib.hid hng;clear hcs hml hng hf9 hx0 y0' y1' y2'
        go_region_held3 (fun W'=>W'.cell? ⟨T.g,0,none⟩=some (.int .i64 (P.nv:Int))∧(W'.cell? ⟨g8,0,none⟩=some (.bool (ratNeg sg))∧W'.cell? ⟨g8,1,none⟩=some (.slice b9.A b9.n b9.c)∧W'.cell? ⟨g8,2,none⟩=some (.slice b9.A2 b9.n2 b9.c2))∧(W'.cell? ⟨g10,0,none⟩=some (.bool (ratNeg q))∧W'.cell? ⟨g10,1,none⟩=some (.slice rb.A rb.n rb.c)∧W'.cell? ⟨g10,2,none⟩=some (.slice rb.A2 rb.n2 rb.c2))) ((refine HCS.out _ ?_;repeat' (first | with_reducible exact Fr.of_below k2 | with_reducible exact Fr.of_below k1 | with_reducible exact (Fr.refl _ _).drew | with_reducible refine fr_set ?_ ?_ | exact .inl rfl))) (first | (go_at_call 22;refine (HML.out _ (below_drew2 (Below.refl _ _))).mono ?_;rintro e v1 ⟨b3,rfl,hr1,hb1⟩;have k1:Below w9.heap.size w9 v1:=(below_drew2 (Below.refl _ _)).trans (hb1.mono (Nat.le_refl _));have R1:=Lib.hid hr1;clear hr1 hb1) | (go_at_call 40;refine (HNG.out _ b3 R1.out).mono ?_;rintro e v2 ⟨rfl,hr2,hb2⟩;have k2:Below w9.heap.size w9 v2:=k1.trans (hb2.mono k1.size);have R2:=Lib.hid hr2;clear hr2 hb2;have HRWv:=Lib.hid (HRW9.out.below k2);obtain ⟨bz2,q0,q1,q2,_,_⟩:=HRWv.out.at_ u2 hum2;have z0:=fun i=>(HRWv.out.wr hm0).fz i))
        all_goals
         go_wp2_with fail
         go_roundw
         case rel =>
          refine ⟨j+1,by omega,by go_num,?_,(HF9.out.trans (Fr.of_below (S:=fun b=>b=go) k2) (fun b hb=>.inl hb)).trans (pu3_fr v2 go (u2*3) b3 (-(sg*q))) (fun b hb=>.inl hb)⟩;have h1:=HRWv.out;rw [HU2.out] at h1 ⊢;rw [←whyF_put HJV.out,←HU2.out,←HQ.out,←HSG.out];rw [←HU2.out] at h1;exact h1.put hum2 R2.out (by rw [HSG.out];exact sgn_mul_le g HLA.out)
         case measure=>simp [intOf];omega
    · have hge2:¬ ((j:Int)≥(P.nv:Int)):=hge
      go_wp2_with fail
      go_roundw
      case rel =>
       refine ⟨j+1,by omega,by go_num,?_,HF8.out⟩;rw [←whyF_same (.inr (by omega))];exact HRW8.out
      case measure=>simp [intOf];omega
  · have hlt2:¬ ((j:Int)<(P.nv:Int)+(P.m:Int)):=by omega
    obtain rfl:j=P.nv+P.m:=by omega
    go_wp2_with fail
    go_ret;exact ⟨go,rfl,by rw [HGO.out];exact Nat.le_refl _,HRW.out.congr (whyF_end HR.out.1),(HBASE.out _ HFW.out).1⟩
end Go.Proofs.YtdefcbfofonabaaGreat

namespace Go.Proofs.YtdefcbfofonabaaGreat
open Go.RowKit
set_option linter.unusedVariables false
set_option linter.unusedSimpArgs false
theorem broken2 (B:Nat) (T:TL) (P:Pb) (S:Sx) (k:Nat) (w:World) (h:TabAt w B T P S k) (hk:k≤1000000) :
 Calls Tryz.prog 17 #[.pointer (some ⟨T.g,0,none⟩)] w fun r w'=>∃ (z:Int) (g:Bool),r=.returned (.tuple #[.int .i64 z,.bool g])∧Below w.heap.size w w'∧((z = -1∧∀ v g,¬ Brk P S v g)∨∃ v:Nat,z=(v:Int)∧Brk P S v g∧∀ u,u<v→∀ g',¬ Brk P S u g'):=by
 refine (broken_any B T P S k w h hk).mono ?_;rintro r w' ⟨hb,⟨rfl,hn⟩ | ⟨v,g,rfl,h1,h2⟩⟩
 · exact ⟨-1,false,rfl,hb,.inl ⟨rfl,hn⟩⟩
 · exact ⟨v,g,rfl,hb,.inr ⟨v,rfl,h1,h2⟩⟩
theorem helper2 (B:Nat) (T:TL) (P:Pb) (S:Sx) (k v r:Nat) (g:Bool) (w:World) (h:TabAt w B T P S k) (hk:k≤1000000) (hv:v<P.nv+P.m) (hr:S.row v=(r:Int)) (hrm:r<P.m) (hb3:∀ j,S.row j<0→S.row j = -1) :
 Calls Tryz.prog 19 #[.pointer (some ⟨T.g,0,none⟩),.int .i64 (v:Int),.bool g] w fun e w'=>∃ z:Int,e=.returned (.int .i64 z)∧Below w.heap.size w w'∧((z = -1∧∀ k,¬ Hlp P S v g k)∨∃ k:Nat,z=(k:Int)∧Hlp P S v g k∧∀ u,u<k→¬ Hlp P S v g u):=by
 refine (helper_any B T P S k v r g w h hk hv hr hrm hb3).mono ?_;rintro e w' ⟨hb,⟨rfl,hn⟩ | ⟨k,rfl,h1,h2⟩⟩
 · exact ⟨-1,rfl,hb,.inl ⟨rfl,hn⟩⟩
 · exact ⟨k,rfl,hb,.inr ⟨k,rfl,h1,h2⟩⟩
def SolP (w:World) (nv:Nat) (l:List AB) (e:Ending) (w':World):Prop:=Below w.heap.size w w' ∧
 ((∃ A n c,e=.returned (.tuple #[.agg #[.bool true,.slice A n c,.slice none 0 0],.int .i64 0])∧∃ x0 x1 x2,∀ i,i<l.length→Sat (pbOf nv l) i (linv (pbOf nv l) x0 x1 x2 (nv+i))) ∨
  (∃ g t,e=.returned (.tuple #[.agg #[.bool false,.slice none 0 0,.slice (some ⟨g,0,none⟩) l.length l.length],.int .i64 0])∧w.heap.size≤g∧RRow w' g l.length t 4∧Fark (pbOf nv l) t))
set_option maxRecDepth 100000 in
set_option maxHeartbeats 4000000 in
theorem solve_any (A:Option Addr) (m c:Nat) (l:List AB) (mt k nv:Nat) (w:World) (h:AtmsAt w A m c l mt k) (hm:m≤8) (hmt:mt≤19) (hk:k≤4) (hn:nv=3∨nv=1) (hv:VarsIn nv l) (hf:∀ a ∈ l,Fit9 a) :
 Calls Tryz.prog 5 #[.int .i64 (nv:Int),.slice A m c] w fun e w'=>SolP w nv l e w':=by
 have hlen:=h.len;subst hlen
 have hnv:0<nv∧nv≤3:=by omega
 have hsm:=small_of (nv:=nv) hf;have hpo:=pbok_of (nv:=nv) (l:=l) (fun a ha=>⟨(h.each a ha).lo,(h.each a ha).hi⟩);have hin:=start_inv hn hv hm
 have hck:=fun W (hW:Below w.heap.size w W)=>check_ok A l.length c l mt k nv W (h.below hW) (by omega) (by omega) (by omega) hv
 have hbu:=fun W (hW:Below w.heap.size w W)=>build_any A l.length c l mt k 4 nv W (h.below hW) hm hmt (by omega) hk (by decide) (by decide) hnv.1 hnv.2 hv (fun a ha v=>ratLe_fit ((hf a ha).co v))
 obtain ⟨P,hP⟩:∃ x,x=pbOf nv l:=⟨_,rfl⟩
 obtain ⟨S0,hS0⟩:∃ x,x=startS nv l:=⟨_,rfl⟩
 have hPn:P.nv=nv:=by rw [hP];rfl
 have hPm:P.m=l.length:=by rw [hP];rfl
 rw [←hP] at hsm hpo hin;rw [←hS0] at hin;unfold BuildP at hbu;rw [←hP,←hS0] at hbu
 obtain ⟨m,hml⟩:∃ x,x=l.length:=⟨_,rfl⟩
 rw [←hml] at hPm hck hbu hm ⊢;have HP:=Lib.hid (And.intro hP (And.intro hPn (And.intro hPm hml)));have HSM:=Lib.hid hsm;have HPO:=Lib.hid hpo;have HIN:=Lib.hid hin;have HCK:=Lib.hid hck;have HBU:=Lib.hid hbu;clear h hsm hpo hin hck hbu hP hS0 hPn hPm hml hv hf hn
 go_enter Tryz.func5,Tryz.ntmps5
 go_upto_region 1 with fail
 have hx4:=heap_alloc_new w (.cells #[.bool false,.slice none 0 0,.slice none 0 0] 32)
 have zw1:(w.alloc (.cells #[.bool false,.slice none 0 0,.slice none 0 0] 32)).heap.size=w.heap.size+1:=by simp
 have aw1:=(Below.refl w.heap.size w).alloc (Nat.le_refl _) (.cells #[.bool false,.slice none 0 0,.slice none 0 0] 32)
 obtain ⟨w1,ew1⟩:∃ x0,x0=w.alloc (.cells #[.bool false,.slice none 0 0,.slice none 0 0] 32):=⟨_,rfl⟩
 rw [←ew1] at hx4 zw1 aw1 ⊢;clear ew1
 obtain ⟨g4,hg4⟩:∃ x0,x0=w.heap.size:=⟨_,rfl⟩
 rw [←hg4] at hx4 ⊢;have HX4:=Lib.hid (And.intro hx4 (And.intro aw1 hg4));clear hx4 aw1 zw1 hg4
 go_wp2_with (first | (go_at_call 15;refine (HCK.out _ HX4.out.2.1).mono ?_;clear HCK;rintro e w2 ⟨rfl,hb2⟩;have HK2:=Lib.hid (And.intro (HX4.out.2.1.trans (hb2.mono HX4.out.2.1.size)) hb2);clear hb2) | (go_at_call 16;refine (HBU.out _ HK2.out.1).mono ?_;clear HBU;rintro e w3 ⟨T,rfl,hT,hb3⟩;have HT3:=Lib.hid (And.intro hT hb3);clear hT hb3))
 have hbox:Below w.heap.size w w2∧w2.heap[g4]?=some (.cells #[.bool false,.slice none 0 0,.slice none 0 0] 32 (0,0))∧w.heap.size≤g4∧g4<w2.heap.size:=by
  have h2:=box_keep HX4.out.1 HK2.out.2;exact ⟨HK2.out.1,h2,by rw [HX4.out.2.2];exact Nat.le_refl _,lt_of_blk h2⟩
 have HBX:=Lib.hid hbox
 obtain ⟨N,hN⟩:∃ N,N=2 ^ (P.nv+P.m):=⟨_,rfl⟩
 have HN:=Lib.hid hN
 obtain ⟨gt,hgt⟩:∃ x,x=T.g:=⟨_,rfl⟩
 rw [←hgt] at ⊢;have HGT:=Lib.hid hgt;clear hbox hN hgt HK2 HX4
 go_loopg [8] N (fun γ x wr=>∃ (t:Nat) (cc:Nat→Sx) (T:TL),γ=N - t∧T.g=gt∧Chain P cc t∧TabAt wr w2.heap.size T P (cc t) 4∧Below w2.heap.size w2 wr)
 case atStart=>exact ⟨0,fun _=>S0,T,rfl,HGT.out.symm,⟨HIN.out,fun s hs=>by omega⟩,HT3.out.1,HT3.out.2⟩
 case round =>
  obtain ⟨t,cc,T,hγ,hg,hch,hT,hb⟩:=hrel;have hγ':=hγ.symm;subst hγ';clear hγ HGT HT3
  obtain ⟨w5,rfl⟩:∃ x,x=wr:=⟨_,rfl⟩
  have hgt':=hg.symm;subst hgt'
  have htN:t<N:=by
   rw [HN.out];exact hch.short
  obtain ⟨S,hS⟩:∃ x,x=cc t:=⟨_,rfl⟩
  have hI:InvE P S:=by rw [hS];exact hch.inv t (Nat.le_refl _)
  rw [←hS] at hT;have hbr:=broken2 _ T P S 4 w5 hT (by decide);have HBR:=Lib.hid hbr;have HC:=Lib.hid (And.intro hch (And.intro hS hI));have HT:=Lib.hid (And.intro hT hb);clear hg hch hS hI hT hb hbr
  go_upto_region 6 with (go_at_call 17;refine HBR.out.mono ?_;clear HBR;rintro e w6 ⟨z,g,rfl,hb6,hbk⟩;have HB6:=Lib.hid hb6;have HBK:=Lib.hid hbk;clear hb6 hbk)
  have hT6:=HT.out.1.below HB6.out;have hb26:=HT.out.2.trans (HB6.out.mono HT.out.2.size);have hx6:=box_keep HBX.out.2.1 hb26;have HT6:=Lib.hid (And.intro hT6 (And.intro hb26 hx6));clear hT6 hb26 hx6 HT HB6
  by_cases hz:z<0
  · have hno:∀ v g,¬ Brk P S v g:=by
     rcases HBK.out with h | ⟨v,h,_⟩
     · exact h.2
     · omega
    have hpt:=point_any _ T P S 4 w6 HT6.out.1 (by decide) (by decide) (cmp_of_no HC.out.2.2 hno);have HPT:=Lib.hid hpt;have HNO:=Lib.hid hno;clear hno hpt
    go_wp2_with (go_at_call 18;refine HPT.out.mono ?_;clear HPT;rintro e w7 ⟨A7,n7,c7,rfl,hb7⟩;have HX7:=Lib.hid (box_keep HT6.out.2.2 hb7);have HB7:=Lib.hid hb7;obtain ⟨p0,p1,p2⟩:=box3 HX7.out;have z0:=frozen_of_blk HX7.out 0;have z1:=frozen_of_blk HX7.out 1;have z2:=frozen_of_blk HX7.out 2;clear hb7)
    refine bodyPost_ret (v:=.tuple #[.agg #[.bool true,.slice A7 n7 c7,.slice none 0 0],.int .i64 0]) (by simp [results,Tryz.results5,go_sem,p0,p1,p2]) rfl ?_;obtain ⟨N0,N1,N2,hI⟩:=HC.out.2.2;obtain ⟨x0,x1,x2,hsat⟩:=feas hI HPO.out HNO.out;have e1:=HP.out.1;have e2:=HP.out.2.1;have e3:=HP.out.2.2.1;have e4:=HP.out.2.2.2;refine ⟨?_,.inl ⟨A7,n7,c7,rfl,x0,x1,x2,fun i hi=>?_⟩⟩
    · have k7:=(HBX.out.1.trans (HT6.out.2.1.mono HBX.out.1.size))
      have k8:=k7.trans (HB7.out.mono k7.size);exact bl_set (bl_set (bl_set k8 HBX.out.2.2.1) HBX.out.2.2.1) HBX.out.2.2.1
    · have:=hsat i (by rw [e3,e4];exact hi)
      rw [e2,e1] at this;exact this
  · obtain ⟨v,hzv,hbv,hlv⟩:∃ v:Nat,z=(v:Int)∧Brk P S v g∧∀ u,u<v→∀ g',¬ Brk P S u g':=by
     rcases HBK.out with h | h
     · omega
     · exact h
    subst hzv;obtain ⟨hrm,hav⟩:=brk_row HC.out.2.2 hbv;have hrow:=hbv.row
    have hb3:∀ j,S.row j<0→S.row j = -1:=by
     obtain ⟨N0,N1,N2,hI⟩:=HC.out.2.2;exact hI.b3
    have hhl:=fun W (hW:Below w6.heap.size w6 W)=>helper2 _ T P S 4 v (rowOf S v) g W (HT6.out.1.below hW) (by decide) hbv.2.1 hrow hrm hb3
    have HHL:=Lib.hid hhl;have HV:=Lib.hid (And.intro hbv (And.intro hlv (And.intro hrm (And.intro hav hrow))));clear hbv hlv hrm hav hrow hb3 hhl HBK
    go_upto_region 9 with (go_at_call 19;refine (HHL.out _ (Below.refl _ _)).mono ?_;clear HHL;rintro e w7 ⟨z2,rfl,hb7,hhk⟩;have HB7:=Lib.hid hb7;have HHK:=Lib.hid hhk;clear hb7 hhk)
    have hT7:=HT6.out.1.below HB7.out;have hb27:=HT6.out.2.1.trans (HB7.out.mono HT6.out.2.1.size);have hx7:=box_keep HT6.out.2.2 HB7.out
    obtain ⟨u,hu⟩:∃ u,v=P.nv+u:=⟨v - P.nv,by have:=HV.out.1.1;omega⟩
    have hum:u<P.m:=by have:=HV.out.1.2.1;omega
    have HT7:=Lib.hid (And.intro hb27 hx7);have HU:=Lib.hid hu
    by_cases hz2:z2<0
    · have hno:∀ k,¬ Hlp P S v g k:=by
       rcases HHK.out with h | ⟨k,h,_⟩
       · exact h.2
       · omega
      have hwy:=why_any _ T P S 4 v u (rowOf S v) g w7 hT7 (by decide) (by decide) hu hum HV.out.2.2.2.2 HV.out.2.2.1 HV.out.2.2.2.1;have HWY:=Lib.hid hwy;have HNO:=Lib.hid hno;clear hwy hno hT7 hb27 hx7 hu hum
      go_wp2_with (go_at_call 20;refine HWY.out.mono ?_;clear HWY;rintro e w8 ⟨go,rfl,hgo,hrr,hb8⟩;have HX8:=Lib.hid (box_keep HT7.out.2 hb8);have HB8:=Lib.hid hb8;have HR8:=Lib.hid (And.intro hgo hrr);obtain ⟨p0,p1,p2⟩:=box3 HX8.out;have z0:=frozen_of_blk HX8.out 0;have z1:=frozen_of_blk HX8.out 1;have z2':=frozen_of_blk HX8.out 2;clear hb8 hgo hrr)
      refine bodyPost_ret (v:=.tuple #[.agg #[.bool false,.slice none 0 0,.slice (some ⟨go,0,none⟩) P.m P.m],.int .i64 0]) (by simp [results,Tryz.results5,go_sem,p0,p1,p2]) rfl ?_;obtain ⟨N0,N1,N2,hI⟩:=HC.out.2.2;have hfk:=fark_of hI HPO.out HV.out.1 HNO.out;have e1:=HP.out.1;have e3:=HP.out.2.2.1;have e4:=HP.out.2.2.2;have k7:=HBX.out.1.trans (HT7.out.1.mono HBX.out.1.size);have k8:=k7.trans (HB8.out.mono k7.size);have hfr:Fr (fun b=>b=g4) w8 (((w8.setCell ⟨g4,0,none⟩ (.bool false)).setCell ⟨g4,1,none⟩ (.slice none 0 0)).setCell ⟨g4,2,none⟩ (.slice (some ⟨go,0,none⟩) P.m P.m)):=fr_set (fr_set (fr_set (Fr.refl _ _) (.inl rfl)) (.inl rfl)) (.inl rfl)
      have hgo4:go≠g4:=by
       have h1:=HR8.out.1;have h2:=HBX.out.2.2.2;have h3:=HT7.out.1.size;omega
      have hr9:=HR8.out.2.fr hfr (fun _=>hgo4) (typU_of HX8.out (by decide));refine ⟨bl_set (bl_set (bl_set k8 HBX.out.2.2.1) HBX.out.2.2.1) HBX.out.2.2.1,.inr ⟨go,timesOf P S v g,by rw [e3,e4],Nat.le_trans k7.size HR8.out.1,?_,?_⟩⟩
      · rw [e3,e4] at hr9
        rw [e3,e4];exact hr9
      · rw [e1] at hfk
        rw [e1];exact hfk
    · obtain ⟨k2,hzk,hh,hfi⟩:∃ k:Nat,z2=(k:Int)∧Hlp P S v g k∧∀ u,u<k→¬ Hlp P S v g u:=by
       rcases HHK.out with h | h
       · omega
       · exact h
      subst hzk
      have hst:Stp P S v g k2:=⟨HV.out.1,HV.out.2.1,hh,hfi⟩
      have hnx:∃ c',Chain P c' (t+1)∧c' (t+1)=mov P S v k2:=by
       have:=HC.out.1.next (v:=v) (k:=k2) (g:=g) (by rw [←HC.out.2.1];exact hst);rw [←HC.out.2.1] at this;exact this
      have hI2:=HC.out.2.2.step hst
      have hbb:(∀ i,i<P.m→S.bas i<P.nv+P.m∧S.row (S.bas i)=(i:Int))∧(∀ (j r:Nat),S.row j=(r:Int)→r<P.m∧S.bas r=j):=by
       obtain ⟨N0,N1,N2,hI⟩:=HC.out.2.2;exact ⟨hI.b1,hI.b2⟩
      have hmv:=move_any w2.heap.size T P S 4 v u k2 (rowOf S v) w7 hT7 hb27.size (by decide) (by decide) hu hum hh.1 HV.out.2.2.2.2 HV.out.2.2.1 hh.2.1 hh.2.2.1 HV.out.2.2.2.1 hbb.1 hbb.2 (fun i j hi _=>hI2.a_le HSM.out hi) (fun j hj=>hI2.val_le HSM.out hj);have HMV:=Lib.hid hmv;have HNX:=Lib.hid hnx;clear hmv hnx hbb hI2 hst hh hfi hT7 hb27 hx7 hu hum
      go_wp2_with (go_at_call 21;refine HMV.out.mono ?_;clear HMV;rintro e w8 ⟨rfl,T2,hg2,hT8,hb8⟩;have HT8:=Lib.hid (And.intro hg2 (And.intro hT8 hb8));clear hg2 hT8 hb8)
      obtain ⟨cc2,hc1,hc2⟩:=HNX.out
      go_roundg (N - (t+1))
      case measure=>omega
      case rel=>exact ⟨t+1,cc2,T2,rfl,HT8.out.1,hc1,by rw [hc2];exact HT8.out.2.1,HT7.out.1.trans HT8.out.2.2⟩
end Go.Proofs.YtdefcbfofonabaaGreat
