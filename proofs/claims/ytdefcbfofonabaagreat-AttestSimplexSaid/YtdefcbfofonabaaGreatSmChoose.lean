/- Contract of delta.Choose where no low number is above its high one. -/
import Derived.Test.YtdefcbfofonabaaGreatDeC
import Derived.Test.YtdefcbfofonabaaGreatRegE
namespace Go.Proofs.YtdefcbfofonabaaGreat
open Go.RowKit
set_option linter.unusedVariables false
set_option linter.unusedSimpArgs false
def DSl (w:World) (A:Option Addr) (n:Nat) (f:Nat→Dl) (k:Nat):Prop:=∀ j,j<n→∃ b o,A=some ⟨b,o,none⟩∧DCell w b (o+j*6) (f j) k
theorem DSl.below {w w':World} {A:Option Addr} {n k:Nat} {f:Nat→Dl} (h:DSl w A n f k) (hb:Below w.heap.size w w'):DSl w' A n f k:=fun j hj=>by
 obtain ⟨b,o,e,hc⟩:=h j hj;exact ⟨b,o,e,hc.below hb⟩
structure ChC (w0 w:World) (g4 g6 K:Nat) (b:RB) (q:Rat):Prop where
 x4:w.heap[g4]?=some (.cells #[.bool false,.slice none 0 0,.slice none 0 0] 26 (0,0))
 x6:Box3 w g6 b q
 r:RatAt w b q
 le:RatLe q K
 bel:Below w0.heap.size w0 w
theorem ChC.below {w0 w w':World} {g4 g6 K:Nat} {b:RB} {q:Rat} (h:ChC w0 w g4 g6 K b q) (hb:Below w.heap.size w w'):ChC w0 w' g4 g6 K b q :=
 ⟨box_keep h.x4 hb,h.x6.below hb,h.r.below hb,h.le,h.bel.trans (hb.mono h.bel.size)⟩
theorem ChC.put {w0 w:World} {g4 g6 K:Nat} {b b':RB} {q q':Rat} (h:ChC w0 w g4 g6 K b q) (h4:g4≠g6) (h6:w0.heap.size≤g6) (hr:RatAt w b' q') (hl:RatLe q' K):ChC w0 (store3 w g6 (ratNeg q') b') g4 g6 K b' q' :=
 ⟨(store3_far h4 (ratNeg q') b').trans h.x4,store3_box h.x6.blk b' q',store3_rat h.x6.blk hr _ _,hl,store3_bel h.bel h6 _ _⟩
theorem leq_cmpD {x y:Dl} (hb:0<signZ (x.b - y.b)):x.b - y.b≠0:=fun e=>by rw [signZ_nul.2 e] at hb;omega
set_option maxRecDepth 100000 in
set_option maxHeartbeats 8000000 in
theorem choose_any (A1 A2:Option Addr) (n c1 c2 k:Nat) (f h:Nat→Dl) (w:World) (hn:n≤1000) (h1:DSl w A1 n f k) (h2:DSl w A2 n h k) (hk:k≤10000) (hk1:1≤k) (hc:∀ j,j<n→cmpD (f j) (h j)≤0) :
 Calls Tryz.prog 42 #[.slice A1 n c1,.slice A2 n c2] w fun e w'=>∃ (b:RB) (q:Rat),e=.returned (.tuple #[b.val (ratNeg q),.int .i64 0])∧RatAt w' b q∧RatLe q (4*k+2)∧Below w.heap.size w w':=by
 have H1:=Lib.hid h1;have H2:=Lib.hid h2;have HC:=Lib.hid hc;clear h1 h2 hc
 go_enter Tryz.func42,Tryz.ntmps42
 go_upto_region 1 with fail
 have hx4:=heap_alloc_new w (.cells #[.bool false,.slice none 0 0,.slice none 0 0] 26)
 have zw1:(w.alloc (.cells #[.bool false,.slice none 0 0,.slice none 0 0] 26)).heap.size=w.heap.size+1:=by simp
 have aw1:=(Below.refl w.heap.size w).alloc (Nat.le_refl _) (.cells #[.bool false,.slice none 0 0,.slice none 0 0] 26)
 obtain ⟨w1,ew1⟩:∃ x0,x0=w.alloc (.cells #[.bool false,.slice none 0 0,.slice none 0 0] 26):=⟨_,rfl⟩
 rw [←ew1] at hx4 zw1 aw1 ⊢;clear ew1
 obtain ⟨g4,hg4⟩:∃ x0,x0=w.heap.size:=⟨_,rfl⟩
 rw [←hg4] at hx4 ⊢;have hi1:=int_p1 w1;unfold RB.val at hi1;have HI1:=Lib.hid hi1;have HX4:=Lib.hid hx4;have HA1:=Lib.hid (And.intro aw1 (And.intro zw1 hg4));clear hx4 aw1 zw1 hi1 hg4
 go_upto_region 4 with (go_at_call 7;refine HI1.out.mono ?_;clear HI1;rintro e w2 ⟨b6,rfl,hr6,hb2⟩;have HR6:=Lib.hid hr6;have HB2:=Lib.hid hb2;clear hr6 hb2)
 have hx6:=heap_alloc_new w2 (.cells #[.bool (ratNeg 1),.slice b6.A b6.n b6.c,.slice b6.A2 b6.n2 b6.c2] 26)
 have zw3:(w2.alloc (.cells #[.bool (ratNeg 1),.slice b6.A b6.n b6.c,.slice b6.A2 b6.n2 b6.c2] 26)).heap.size=w2.heap.size+1:=by simp
 have aw3:=(Below.refl w2.heap.size w2).alloc (Nat.le_refl _) (.cells #[.bool (ratNeg 1),.slice b6.A b6.n b6.c,.slice b6.A2 b6.n2 b6.c2] 26)
 obtain ⟨w3,ew3⟩:∃ x0,x0=w2.alloc (.cells #[.bool (ratNeg 1),.slice b6.A b6.n b6.c,.slice b6.A2 b6.n2 b6.c2] 26):=⟨_,rfl⟩
 rw [←ew3] at hx6 zw3 aw3 ⊢;clear ew3
 obtain ⟨g6,hg6⟩:∃ x0,x0=w2.heap.size:=⟨_,rfl⟩
 rw [←hg6] at hx6 ⊢
 have h46:g4≠g6:=by
  have h1:=HB2.out.size;have h2:=HA1.out.2.1;have h3:=HA1.out.2.2;omega
 have h06:w.heap.size≤g6:=by
  have h1:=HB2.out.size;have h2:=HA1.out.2.1;omega
 have hch:ChC w w3 g4 g6 (4*k+2) b6 1:=⟨box_keep (box_keep HX4.out HB2.out) aw3,hx6,HR6.out.below aw3,p1_le _ (by omega),HA1.out.1.trans ((HB2.out.trans (aw3.mono HB2.out.size)).mono HA1.out.1.size)⟩
 have HCH:=Lib.hid hch
 have h04:w.heap.size≤g4:=by have:=HA1.out.2.2;omega
 have HN:=Lib.hid (And.intro h46 (And.intro h06 h04));clear hx6 aw3 zw3 hg6 h46 h06 h04 hch HX4 HA1 HR6 HB2
 go_wp2_with fail
 go_loopw [21] (fun x wr=>∃ (i:Nat) (b:RB) (q:Rat),i≤n∧x=.int .i64 i∧ChC w wr g4 g6 (4*k+2) b q) (fun x _=>n - (intOf x).toNat)
 case atStart=>exact ⟨0,b6,1,Nat.zero_le _,by first | rfl | go_num,HCH.out⟩
 case round =>
  obtain ⟨i,b,q,hin,rfl,hch⟩:=hrel
  obtain ⟨w5,rfl⟩:∃ x,x=wr:=⟨_,rfl⟩
  have HW:=Lib.hid hch;clear hch HCH
  by_cases hlt:i<n
  · obtain ⟨ba,oa,ea,d1,⟨y0,y1,y2,y3,y4,y5⟩,hd1,hl1⟩:=(H1.out.below HW.out.bel) i hlt
    obtain ⟨bb,ob,eb,d2,hcb,hd2,hl2⟩:=(H2.out.below HW.out.bel) i hlt;subst ea;subst eb;have hcc:=HC.out i hlt
    obtain ⟨x,hx⟩:∃ x,x=f i:=⟨_,rfl⟩
    obtain ⟨y,hy⟩:∃ x,x=h i:=⟨_,rfl⟩
    rw [←hx] at y0 y3 hd1 hl1 hcc;rw [←hy] at hcb hd2 hl2 hcc
    have b0:(0:Int)≤(i:Int):=by omega
    have b1:(i:Int)<(n:Int):=by omega
    have HL:=Lib.hid (And.intro hl1 hl2);have HCB:=Lib.hid hcb;have HD1:=Lib.hid hd1;have HD2:=Lib.hid hd2;clear hcb hd1 hd2 hl1 hl2 hx hy
    go_upto_region 7 with fail
    have hx8:=heap_alloc_new w5 (.cells #[.bool (ratNeg x.a),.slice d1.a.A d1.a.n d1.a.c,.slice d1.a.A2 d1.a.n2 d1.a.c2,.bool (ratNeg x.b),.slice d1.b.A d1.b.n d1.b.c,.slice d1.b.A2 d1.b.n2 d1.b.c2] 108)
    have zw6:(w5.alloc (.cells #[.bool (ratNeg x.a),.slice d1.a.A d1.a.n d1.a.c,.slice d1.a.A2 d1.a.n2 d1.a.c2,.bool (ratNeg x.b),.slice d1.b.A d1.b.n d1.b.c,.slice d1.b.A2 d1.b.n2 d1.b.c2] 108)).heap.size=w5.heap.size+1:=by simp
    have aw6:=(Below.refl w5.heap.size w5).alloc (Nat.le_refl _) (.cells #[.bool (ratNeg x.a),.slice d1.a.A d1.a.n d1.a.c,.slice d1.a.A2 d1.a.n2 d1.a.c2,.bool (ratNeg x.b),.slice d1.b.A d1.b.n d1.b.c,.slice d1.b.A2 d1.b.n2 d1.b.c2] 108)
    obtain ⟨w6,ew6⟩:∃ x0,x0=w5.alloc (.cells #[.bool (ratNeg x.a),.slice d1.a.A d1.a.n d1.a.c,.slice d1.a.A2 d1.a.n2 d1.a.c2,.bool (ratNeg x.b),.slice d1.b.A d1.b.n d1.b.c,.slice d1.b.A2 d1.b.n2 d1.b.c2] 108):=⟨_,rfl⟩
    rw [←ew6] at hx8 zw6 aw6 ⊢;clear ew6
    obtain ⟨g8,hg8⟩:∃ x0,x0=w5.heap.size:=⟨_,rfl⟩
    rw [←hg8] at hx8 ⊢;clear y0 y1 y2 y3 y4 y5
    have k1:∀ {g i:Nat} {x:Value},w5.cell? ⟨g,i,none⟩=some x→w6.cell? ⟨g,i,none⟩=some x:=fun {g i x} e=>(aw6.cell (p:=⟨g,i,none⟩) (World.block_lt_of_cell? w5 _ e)).trans e
    obtain ⟨q0,q1,q2,q3,q4,q5⟩:=HCB.out;have y0:=k1 q0;have y1:=k1 q1;have y2:=k1 q2;have y3:=k1 q3;have y4:=k1 q4;have y5:=k1 q5;have HX8:=Lib.hid hx8;have HA6:=Lib.hid aw6;clear q0 q1 q2 q3 q4 q5 k1 hx8 aw6 zw6 hg8 HCB
    go_upto_region 8 with fail
    have hx9:=heap_alloc_new w6 (.cells #[.bool (ratNeg y.a),.slice d2.a.A d2.a.n d2.a.c,.slice d2.a.A2 d2.a.n2 d2.a.c2,.bool (ratNeg y.b),.slice d2.b.A d2.b.n d2.b.c,.slice d2.b.A2 d2.b.n2 d2.b.c2] 108)
    have zw7:(w6.alloc (.cells #[.bool (ratNeg y.a),.slice d2.a.A d2.a.n d2.a.c,.slice d2.a.A2 d2.a.n2 d2.a.c2,.bool (ratNeg y.b),.slice d2.b.A d2.b.n d2.b.c,.slice d2.b.A2 d2.b.n2 d2.b.c2] 108)).heap.size=w6.heap.size+1:=by simp
    have aw7:=(Below.refl w6.heap.size w6).alloc (Nat.le_refl _) (.cells #[.bool (ratNeg y.a),.slice d2.a.A d2.a.n d2.a.c,.slice d2.a.A2 d2.a.n2 d2.a.c2,.bool (ratNeg y.b),.slice d2.b.A d2.b.n d2.b.c,.slice d2.b.A2 d2.b.n2 d2.b.c2] 108)
    obtain ⟨w7,ew7⟩:∃ x0,x0=w6.alloc (.cells #[.bool (ratNeg y.a),.slice d2.a.A d2.a.n d2.a.c,.slice d2.a.A2 d2.a.n2 d2.a.c2,.bool (ratNeg y.b),.slice d2.b.A d2.b.n d2.b.c,.slice d2.b.A2 d2.b.n2 d2.b.c2] 108):=⟨_,rfl⟩
    rw [←ew7] at hx9 zw7 aw7 ⊢;clear ew7
    obtain ⟨g9,hg9⟩:∃ x0,x0=w6.heap.size:=⟨_,rfl⟩
    rw [←hg9] at hx9 ⊢;have k57:=HA6.out.trans (aw7.mono HA6.out.size);have hx8:=box_keep HX8.out aw7
    have hcs:∀ W',Below w7.heap.size w7 W'→(W'.cell? ⟨g8,0,none⟩=some (.bool (ratNeg x.a))∧W'.cell? ⟨g8,1,none⟩=some (.slice d1.a.A d1.a.n d1.a.c)∧W'.cell? ⟨g8,2,none⟩=some (.slice d1.a.A2 d1.a.n2 d1.a.c2)∧W'.cell? ⟨g8,3,none⟩=some (.bool (ratNeg x.b))∧W'.cell? ⟨g8,4,none⟩=some (.slice d1.b.A d1.b.n d1.b.c)∧W'.cell? ⟨g8,5,none⟩=some (.slice d1.b.A2 d1.b.n2 d1.b.c2))∧(W'.cell? ⟨g9,0,none⟩=some (.bool (ratNeg y.a))∧W'.cell? ⟨g9,1,none⟩=some (.slice d2.a.A d2.a.n d2.a.c)∧W'.cell? ⟨g9,2,none⟩=some (.slice d2.a.A2 d2.a.n2 d2.a.c2)∧W'.cell? ⟨g9,3,none⟩=some (.bool (ratNeg y.b))∧W'.cell? ⟨g9,4,none⟩=some (.slice d2.b.A d2.b.n d2.b.c)∧W'.cell? ⟨g9,5,none⟩=some (.slice d2.b.A2 d2.b.n2 d2.b.c2)):=fun W' hb=>⟨box6 (box_keep hx8 hb),box6 (box_keep hx9 hb)⟩
    have hd1:=HD1.out.below k57;have hd2:=HD2.out.below k57;have hcm:=dcmp_any d1 d2 x y w7 hd1 hd2 k (by omega) HL.out.1 HL.out.2
    have hcb:=fun W (hW:Below w7.heap.size w7 W)=>cmp_any d1.b d2.b x.b y.b W (hd1.b.below hW) (hd2.b.below hW) k (by omega) HL.out.1.b HL.out.2.b
    have hsa:=fun W (hW:Below w7.heap.size w7 W)=>sub_any d2.a d1.a y.a x.a W (hd2.a.below hW) (hd1.a.below hW) k (by omega) HL.out.2.a HL.out.1.a
    have hsb:=fun W (hW:Below w7.heap.size w7 W)=>sub_any d1.b d2.b x.b y.b W (hd1.b.below hW) (hd2.b.below hW) k (by omega) HL.out.1.b HL.out.2.b
    have hne:=@leq_cmpD x y
    obtain ⟨c,hc⟩:∃ c,c=cmpD x y:=⟨_,rfl⟩
    rw [←hc] at hcm hcc
    obtain ⟨z,hz⟩:∃ z,z=signZ (x.b - y.b):=⟨_,rfl⟩
    rw [←hz] at hcb hne;unfold DB.val at hcm;unfold RB.val at hcb hsa hsb
    have hc0:¬ (c>0):=by omega
    have HW7:=Lib.hid (HW.out.below k57);have HCS:=Lib.hid hcs;have HCM:=Lib.hid hcm;have HCB:=Lib.hid hcb;have HSA:=Lib.hid hsa;have HSB:=Lib.hid hsb;have HNE:=Lib.hid hne;obtain ⟨⟨y0',y1',y2',y3',y4',y5'⟩,v0,v1,v2,v3,v4,v5⟩:=hcs w7 (Below.refl _ _);clear hcs hcm hcb hsa hsb hne hc hz hd1 hd2 hx8 hx9 aw7 zw7 hg9 k57 y0 y1 y2 y3 y4 y5 HX8 HA6 HD1 HD2
    go_upto_region 10 with (go_at_call 41;refine HCM.out.mono ?_;clear HCM y0' y1' y2' y3' y4' y5' v0 v1 v2 v3 v4 v5;rintro e w8 ⟨rfl,hb8⟩;have HB8:=Lib.hid hb8;obtain ⟨⟨y0',y1',y2',y3',y4',y5'⟩,v0,v1,v2,v3,v4,v5⟩:=HCS.out w8 hb8;clear hb8)
    by_cases hz0:z≤0
    · have hz1:decide (z≤0)=true:=by simpa using hz0
      go_wp2_with (go_at_call 68;refine (HCB.out _ HB8.out).mono ?_;rintro e w9 ⟨rfl,hb9⟩;have HB9:=Lib.hid (HB8.out.trans (hb9.mono HB8.out.size));clear hb9)
      go_roundw
      case rel=>exact ⟨i+1,b,q,by omega,by go_num,HW7.out.below HB9.out⟩
      case measure=>simp [intOf];omega
    · have hz1:decide (z≤0)=false:=by simpa using hz0
      have hne2:=HNE.out (by omega);clear HNE
      go_upto_region 11 with (go_at_call 68;refine (HCB.out _ HB8.out).mono ?_;clear y0' y1' y2' y3' y4' y5' v0 v1 v2 v3 v4 v5;rintro e w9 ⟨rfl,hb9⟩;have HB9:=Lib.hid (HB8.out.trans (hb9.mono HB8.out.size));clear hb9)
      have hsl1:RatLe (y.a - x.a) (k+k+1):=by rw [Rat.sub_eq_add_neg];exact add_le HL.out.2.a (neg_le HL.out.1.a)
      have hsl2:RatLe (x.b - y.b) (k+k+1):=by rw [Rat.sub_eq_add_neg];exact add_le HL.out.1.b (neg_le HL.out.2.b)
      have hdv:=fun W bx by_ hx hy=>div_any bx by_ (y.a - x.a) (x.b - y.b) W hx hy (k+k+1) (by omega) hsl1 hsl2 hne2
      have hq3l:RatLe ((y.a - x.a) / (x.b - y.b)) (4*k+2):=by
       rw [Rat.div_def];exact (mul_le hsl1 (inv_le hsl2 hne2)).up (by omega)
      obtain ⟨q3,hq3⟩:∃ q3,q3=(y.a - x.a) / (x.b - y.b):=⟨_,rfl⟩
      rw [←hq3] at hdv hq3l;unfold RB.val at hdv;have HDV:=Lib.hid hdv;have HQ3:=Lib.hid hq3l;clear hdv hq3l hsl1 hsl2 hne2 hq3
      go_cut [10] (fun v wx=>∃ (g10:Nat) (b3:RB),v=.pointer (some ⟨g10,0,none⟩)∧w7.heap.size≤g10∧wx.heap[g10]?=some (.cells #[.bool (ratNeg q3),.slice b3.A b3.n b3.c,.slice b3.A2 b3.n2 b3.c2] 26 (0,0))∧RatAt wx b3 q3∧Below w7.heap.size w7 wx)
      case first =>
       as_aux_lemma =>
        have kb:Below w7.heap.size w7 w9.drew:=below_drew2 HB9.out;have hS:=HCS.out w9.drew kb;refine wp_region_E 16 (fun W'=>(W'.cell? ⟨g8,0,none⟩=some (.bool (ratNeg x.a))∧W'.cell? ⟨g8,1,none⟩=some (.slice d1.a.A d1.a.n d1.a.c)∧W'.cell? ⟨g8,2,none⟩=some (.slice d1.a.A2 d1.a.n2 d1.a.c2)∧W'.cell? ⟨g8,3,none⟩=some (.bool (ratNeg x.b))∧W'.cell? ⟨g8,4,none⟩=some (.slice d1.b.A d1.b.n d1.b.c)∧W'.cell? ⟨g8,5,none⟩=some (.slice d1.b.A2 d1.b.n2 d1.b.c2))∧(W'.cell? ⟨g9,0,none⟩=some (.bool (ratNeg y.a))∧W'.cell? ⟨g9,1,none⟩=some (.slice d2.a.A d2.a.n d2.a.c)∧W'.cell? ⟨g9,2,none⟩=some (.slice d2.a.A2 d2.a.n2 d2.a.c2)∧W'.cell? ⟨g9,3,none⟩=some (.bool (ratNeg y.b))∧W'.cell? ⟨g9,4,none⟩=some (.slice d2.b.A d2.b.n d2.b.c)∧W'.cell? ⟨g9,5,none⟩=some (.slice d2.b.A2 d2.b.n2 d2.b.c2))) (by kernel_rfl) ?_;generalize w9.drew=w10 at kb hS ⊢;clear HCB HB8 HB9 HW7 HQ3 HL;refine tkE 0 hS ?_;simp only [Act.put,sA,sZ,sS];refine tkE 1 hS ?_;simp only [Act.put,sA,sZ,sS];refine tkE 2 hS ?_;simp only [Act.put,sA,sZ,sS];refine tkE 3 hS ?_;simp only [Act.put,sA,sZ,sS];refine tkE 5 hS ?_;simp only [Act.put,sA,sZ,sS];refine tkE 6 hS ?_;simp only [Act.put,sA,sZ,sS];refine tkE 7 hS ?_;simp only [Act.put,sA,sZ,sS];refine tkE 8 hS ?_;simp only [Act.put,sA,sZ,sS];refine wpAnyE_two (i:=4) (j:=14) (by kernel_rfl) rfl rfl (fun KK hKK=>?_) (fun KK hKK=>?_)
        · have HKK4:=Lib.hid hKK
          clear hKK;go_simp
          go_at_call 70
          refine (HSA.out _ kb).mono ?_;rintro e u1 ⟨b1,rfl,hr1,hb1⟩;have hS:=HCS.out u1 (kb.trans (hb1.mono kb.size));replace kb:=kb.trans (hb1.mono kb.size);clear hb1;refine HKK4.out _ _ (.inr hS) ?_;clear HKK4
          try simp only [Act.put,sA,sZ,sS]
          refine wpAnyE_two (i:=9) (j:=14) (by kernel_rfl) rfl rfl (fun KK hKK=>?_) (fun KK hKK=>?_)
          · have HKK9:=Lib.hid hKK
            clear hKK;go_simp
            go_at_call 70
            refine (HSB.out _ kb).mono ?_;rintro e u2 ⟨b2,rfl,hr2,hb2⟩;replace hr1:=hr1.below hb2;have hS:=HCS.out u2 (kb.trans (hb2.mono kb.size));replace kb:=kb.trans (hb2.mono kb.size);clear hb2;refine HKK9.out _ _ (.inr hS) ?_;clear HKK9
            try simp only [Act.put,sA,sZ,sS]
            refine wpAnyE_two (i:=10) (j:=14) (by kernel_rfl) rfl rfl (fun KK hKK=>?_) (fun KK hKK=>?_)
            · have HKK10:=Lib.hid hKK
              clear hKK;go_simp
              go_at_call 69
              refine (HDV.out _ b1 b2 hr1 hr2).mono ?_;rintro e u3 ⟨b3,rfl,hr3,hb3⟩;clear hr1 hr2;have hS:=HCS.out u3 (kb.trans (hb3.mono kb.size));replace kb:=kb.trans (hb3.mono kb.size);clear hb3;refine HKK10.out _ _ (.inr hS) ?_;clear HKK10
              try simp only [Act.put,sA,sZ,sS]
              refine tkE 11 hS ?_;simp only [Act.put,sA,sZ,sS];refine tkE 12 hS ?_;simp only [Act.put,sA,sZ,sS];refine tkE 13 hS ?_;simp only [Act.put,sA,sZ,sS]
              refine onE 14 fun KK HKK14=>?_
              go_simp;have hxg:=heap_alloc_new u3 (.cells #[.bool false,.slice none 0 0,.slice none 0 0] 26);have hal:=(Below.refl u3.heap.size u3).alloc (Nat.le_refl _) (.cells #[.bool false,.slice none 0 0,.slice none 0 0] 26);have hgl:=kb.size
              obtain ⟨g10,hg⟩:∃ x0,x0=u3.heap.size:=⟨_,rfl⟩
              rw [←hg] at hxg hgl ⊢
              obtain ⟨ua,hua⟩:∃ x0,x0=u3.alloc (.cells #[.bool false,.slice none 0 0,.slice none 0 0] 26):=⟨_,rfl⟩
              rw [←hua] at hxg hal ⊢;clear hg hua;replace hr3:=hr3.below hal;have hS:=HCS.out ua (kb.trans (hal.mono kb.size));replace kb:=kb.trans (hal.mono kb.size);clear hal;refine HKK14.out _ _ (.inr hS) ?_;clear HKK14
              try simp only [Act.put,sA,sZ,sS]
              obtain ⟨p0,p1,p2⟩:=box3 hxg;have z0:=frozen_of_blk hxg 0;have z1:=frozen_of_blk hxg 1;have z2:=frozen_of_blk hxg 2;have hS2:=HCS.out _ (bl_set (p:=⟨g10,2,none⟩) (u:=.slice b3.A2 b3.n2 b3.c2) (bl_set (p:=⟨g10,1,none⟩) (u:=.slice b3.A b3.n b3.c) (bl_set (p:=⟨g10,0,none⟩) (u:=.bool (ratNeg q3)) kb hgl) hgl) hgl);have HXG:=Lib.hid hxg;have HR3:=Lib.hid hr3;have HKB:=Lib.hid (And.intro kb hgl);clear hS hxg hr3 kb hgl
              refine onE 15 fun KK HKK15=>?_
              go_simp;refine HKK15.out _ _ (.inr hS2) ?_;clear HKK15
              try simp only [Act.put,sA,sZ,sS]
              refine onE 16 fun KK HKK16=>?_
              go_simp;refine HKK16.out _ _ (.inl rfl) ?_;clear HKK16;refine wpAnyE_done (by kernel_rfl) ?_ _
              go_wp2_with fail
              go_meet;exact ⟨g10,b3,rfl,HKB.out.2,set_blk (set_blk (set_blk HXG.out 0 (.bool (ratNeg q3))) 1 (.slice b3.A b3.n b3.c)) 2 (.slice b3.A2 b3.n2 b3.c2),HR3.out.frT (store3_fr _ g10 (ratNeg q3) b3) (typU_of HXG.out (by decide)),store3_bel HKB.out.1 HKB.out.2 _ _⟩
            · have HKK14:=Lib.hid hKK
              clear hKK;go_simp;have hxg:=heap_alloc_new u2 (.cells #[.bool false,.slice none 0 0,.slice none 0 0] 26);have hal:=(Below.refl u2.heap.size u2).alloc (Nat.le_refl _) (.cells #[.bool false,.slice none 0 0,.slice none 0 0] 26);have hgl:=kb.size
              obtain ⟨g10,hg⟩:∃ x0,x0=u2.heap.size:=⟨_,rfl⟩
              rw [←hg] at hxg hgl ⊢
              obtain ⟨ua,hua⟩:∃ x0,x0=u2.alloc (.cells #[.bool false,.slice none 0 0,.slice none 0 0] 26):=⟨_,rfl⟩
              rw [←hua] at hxg hal ⊢;clear hg hua;replace hr1:=hr1.below hal;replace hr2:=hr2.below hal;have hS:=HCS.out ua (kb.trans (hal.mono kb.size));replace kb:=kb.trans (hal.mono kb.size);clear hal;refine HKK14.out _ _ (.inr hS) ?_;clear HKK14
              try simp only [Act.put,sA,sZ,sS]
              refine onE 10 fun KK HKK10=>?_
              go_simp
              go_at_call 69
              refine (HDV.out _ b1 b2 hr1 hr2).mono ?_;rintro e u3 ⟨b3,rfl,hr3,hb3⟩;clear hr1 hr2;replace hxg:=box_keep hxg hb3;have hS:=HCS.out u3 (kb.trans (hb3.mono kb.size));replace kb:=kb.trans (hb3.mono kb.size);clear hb3;refine HKK10.out _ _ (.inr hS) ?_;clear HKK10
              try simp only [Act.put,sA,sZ,sS]
              refine tkE 11 hS ?_;simp only [Act.put,sA,sZ,sS];refine tkE 12 hS ?_;simp only [Act.put,sA,sZ,sS];refine tkE 13 hS ?_;simp only [Act.put,sA,sZ,sS];obtain ⟨p0,p1,p2⟩:=box3 hxg;have z0:=frozen_of_blk hxg 0;have z1:=frozen_of_blk hxg 1;have z2:=frozen_of_blk hxg 2;have hS2:=HCS.out _ (bl_set (p:=⟨g10,2,none⟩) (u:=.slice b3.A2 b3.n2 b3.c2) (bl_set (p:=⟨g10,1,none⟩) (u:=.slice b3.A b3.n b3.c) (bl_set (p:=⟨g10,0,none⟩) (u:=.bool (ratNeg q3)) kb hgl) hgl) hgl);have HXG:=Lib.hid hxg;have HR3:=Lib.hid hr3;have HKB:=Lib.hid (And.intro kb hgl);clear hS hxg hr3 kb hgl
              refine onE 15 fun KK HKK15=>?_
              go_simp;refine HKK15.out _ _ (.inr hS2) ?_;clear HKK15
              try simp only [Act.put,sA,sZ,sS]
              refine onE 16 fun KK HKK16=>?_
              go_simp;refine HKK16.out _ _ (.inl rfl) ?_;clear HKK16;refine wpAnyE_done (by kernel_rfl) ?_ _
              go_wp2_with fail
              go_meet;exact ⟨g10,b3,rfl,HKB.out.2,set_blk (set_blk (set_blk HXG.out 0 (.bool (ratNeg q3))) 1 (.slice b3.A b3.n b3.c)) 2 (.slice b3.A2 b3.n2 b3.c2),HR3.out.frT (store3_fr _ g10 (ratNeg q3) b3) (typU_of HXG.out (by decide)),store3_bel HKB.out.1 HKB.out.2 _ _⟩
          · have HKK14:=Lib.hid hKK
            clear hKK;go_simp;have hxg:=heap_alloc_new u1 (.cells #[.bool false,.slice none 0 0,.slice none 0 0] 26);have hal:=(Below.refl u1.heap.size u1).alloc (Nat.le_refl _) (.cells #[.bool false,.slice none 0 0,.slice none 0 0] 26);have hgl:=kb.size
            obtain ⟨g10,hg⟩:∃ x0,x0=u1.heap.size:=⟨_,rfl⟩
            rw [←hg] at hxg hgl ⊢
            obtain ⟨ua,hua⟩:∃ x0,x0=u1.alloc (.cells #[.bool false,.slice none 0 0,.slice none 0 0] 26):=⟨_,rfl⟩
            rw [←hua] at hxg hal ⊢;clear hg hua;replace hr1:=hr1.below hal;have hS:=HCS.out ua (kb.trans (hal.mono kb.size));replace kb:=kb.trans (hal.mono kb.size);clear hal;refine HKK14.out _ _ (.inr hS) ?_;clear HKK14
            try simp only [Act.put,sA,sZ,sS]
            refine onE 9 fun KK HKK9=>?_
            go_simp
            go_at_call 70
            refine (HSB.out _ kb).mono ?_;rintro e u2 ⟨b2,rfl,hr2,hb2⟩;replace hr1:=hr1.below hb2;replace hxg:=box_keep hxg hb2;have hS:=HCS.out u2 (kb.trans (hb2.mono kb.size));replace kb:=kb.trans (hb2.mono kb.size);clear hb2;refine HKK9.out _ _ (.inr hS) ?_;clear HKK9
            try simp only [Act.put,sA,sZ,sS]
            refine onE 10 fun KK HKK10=>?_
            go_simp
            go_at_call 69
            refine (HDV.out _ b1 b2 hr1 hr2).mono ?_;rintro e u3 ⟨b3,rfl,hr3,hb3⟩;clear hr1 hr2;replace hxg:=box_keep hxg hb3;have hS:=HCS.out u3 (kb.trans (hb3.mono kb.size));replace kb:=kb.trans (hb3.mono kb.size);clear hb3;refine HKK10.out _ _ (.inr hS) ?_;clear HKK10
            try simp only [Act.put,sA,sZ,sS]
            refine tkE 11 hS ?_;simp only [Act.put,sA,sZ,sS];refine tkE 12 hS ?_;simp only [Act.put,sA,sZ,sS];refine tkE 13 hS ?_;simp only [Act.put,sA,sZ,sS];obtain ⟨p0,p1,p2⟩:=box3 hxg;have z0:=frozen_of_blk hxg 0;have z1:=frozen_of_blk hxg 1;have z2:=frozen_of_blk hxg 2;have hS2:=HCS.out _ (bl_set (p:=⟨g10,2,none⟩) (u:=.slice b3.A2 b3.n2 b3.c2) (bl_set (p:=⟨g10,1,none⟩) (u:=.slice b3.A b3.n b3.c) (bl_set (p:=⟨g10,0,none⟩) (u:=.bool (ratNeg q3)) kb hgl) hgl) hgl);have HXG:=Lib.hid hxg;have HR3:=Lib.hid hr3;have HKB:=Lib.hid (And.intro kb hgl);clear hS hxg hr3 kb hgl
            refine onE 15 fun KK HKK15=>?_
            go_simp;refine HKK15.out _ _ (.inr hS2) ?_;clear HKK15
            try simp only [Act.put,sA,sZ,sS]
            refine onE 16 fun KK HKK16=>?_
            go_simp;refine HKK16.out _ _ (.inl rfl) ?_;clear HKK16;refine wpAnyE_done (by kernel_rfl) ?_ _
            go_wp2_with fail
            go_meet;exact ⟨g10,b3,rfl,HKB.out.2,set_blk (set_blk (set_blk HXG.out 0 (.bool (ratNeg q3))) 1 (.slice b3.A b3.n b3.c)) 2 (.slice b3.A2 b3.n2 b3.c2),HR3.out.frT (store3_fr _ g10 (ratNeg q3) b3) (typU_of HXG.out (by decide)),store3_bel HKB.out.1 HKB.out.2 _ _⟩
        · have HKK14:=Lib.hid hKK
          clear hKK;go_simp;have hxg:=heap_alloc_new w10 (.cells #[.bool false,.slice none 0 0,.slice none 0 0] 26);have hal:=(Below.refl w10.heap.size w10).alloc (Nat.le_refl _) (.cells #[.bool false,.slice none 0 0,.slice none 0 0] 26);have hgl:=kb.size
          obtain ⟨g10,hg⟩:∃ x0,x0=w10.heap.size:=⟨_,rfl⟩
          rw [←hg] at hxg hgl ⊢
          obtain ⟨ua,hua⟩:∃ x0,x0=w10.alloc (.cells #[.bool false,.slice none 0 0,.slice none 0 0] 26):=⟨_,rfl⟩
          rw [←hua] at hxg hal ⊢;clear hg hua;have hS:=HCS.out ua (kb.trans (hal.mono kb.size));replace kb:=kb.trans (hal.mono kb.size);clear hal;refine HKK14.out _ _ (.inr hS) ?_;clear HKK14
          try simp only [Act.put,sA,sZ,sS]
          refine onE 4 fun KK HKK4=>?_
          go_simp
          go_at_call 70
          refine (HSA.out _ kb).mono ?_;rintro e u1 ⟨b1,rfl,hr1,hb1⟩;replace hxg:=box_keep hxg hb1;have hS:=HCS.out u1 (kb.trans (hb1.mono kb.size));replace kb:=kb.trans (hb1.mono kb.size);clear hb1;refine HKK4.out _ _ (.inr hS) ?_;clear HKK4
          try simp only [Act.put,sA,sZ,sS]
          refine onE 9 fun KK HKK9=>?_
          go_simp
          go_at_call 70
          refine (HSB.out _ kb).mono ?_;rintro e u2 ⟨b2,rfl,hr2,hb2⟩;replace hr1:=hr1.below hb2;replace hxg:=box_keep hxg hb2;have hS:=HCS.out u2 (kb.trans (hb2.mono kb.size));replace kb:=kb.trans (hb2.mono kb.size);clear hb2;refine HKK9.out _ _ (.inr hS) ?_;clear HKK9
          try simp only [Act.put,sA,sZ,sS]
          refine onE 10 fun KK HKK10=>?_
          go_simp
          go_at_call 69
          refine (HDV.out _ b1 b2 hr1 hr2).mono ?_;rintro e u3 ⟨b3,rfl,hr3,hb3⟩;clear hr1 hr2;replace hxg:=box_keep hxg hb3;have hS:=HCS.out u3 (kb.trans (hb3.mono kb.size));replace kb:=kb.trans (hb3.mono kb.size);clear hb3;refine HKK10.out _ _ (.inr hS) ?_;clear HKK10
          try simp only [Act.put,sA,sZ,sS]
          refine tkE 11 hS ?_;simp only [Act.put,sA,sZ,sS];refine tkE 12 hS ?_;simp only [Act.put,sA,sZ,sS];refine tkE 13 hS ?_;simp only [Act.put,sA,sZ,sS];obtain ⟨p0,p1,p2⟩:=box3 hxg;have z0:=frozen_of_blk hxg 0;have z1:=frozen_of_blk hxg 1;have z2:=frozen_of_blk hxg 2;have hS2:=HCS.out _ (bl_set (p:=⟨g10,2,none⟩) (u:=.slice b3.A2 b3.n2 b3.c2) (bl_set (p:=⟨g10,1,none⟩) (u:=.slice b3.A b3.n b3.c) (bl_set (p:=⟨g10,0,none⟩) (u:=.bool (ratNeg q3)) kb hgl) hgl) hgl);have HXG:=Lib.hid hxg;have HR3:=Lib.hid hr3;have HKB:=Lib.hid (And.intro kb hgl);clear hS hxg hr3 kb hgl
          refine onE 15 fun KK HKK15=>?_
          go_simp;refine HKK15.out _ _ (.inr hS2) ?_;clear HKK15
          try simp only [Act.put,sA,sZ,sS]
          refine onE 16 fun KK HKK16=>?_
          go_simp;refine HKK16.out _ _ (.inl rfl) ?_;clear HKK16;refine wpAnyE_done (by kernel_rfl) ?_ _
          go_wp2_with fail
          go_meet;exact ⟨g10,b3,rfl,HKB.out.2,set_blk (set_blk (set_blk HXG.out 0 (.bool (ratNeg q3))) 1 (.slice b3.A b3.n b3.c)) 2 (.slice b3.A2 b3.n2 b3.c2),HR3.out.frT (store3_fr _ g10 (ratNeg q3) b3) (typU_of HXG.out (by decide)),store3_bel HKB.out.1 HKB.out.2 _ _⟩
      case rest =>
      obtain ⟨g10,b3,rfl,hg10,hx10,hr3,hb10⟩:=hcut
      obtain ⟨w11,rfl⟩:∃ x0,x0=wc:=⟨_,rfl⟩
      have hch:=HW7.out.below hb10;have hmn:=min_any b b3 q q3 w11 hch.r hr3 (4*k+2) (by omega) hch.le HQ3.out;unfold RB.val at hmn;obtain ⟨p0,p1,p2⟩:=box3 hch.x6;obtain ⟨r0,r1,r2⟩:=box3 hx10;have HMN:=Lib.hid hmn;have HCH:=Lib.hid hch;clear hmn hch hg10 hx10 hr3 hb10 HCB HSA HSB HB8 HB9 HCS HDV HW7 HL
      go_wp2_with (go_at_call 71;refine HMN.out.mono ?_;clear HMN p0 p1 p2 r0 r1 r2;rintro e w12 ⟨b4,q4,rfl,hr4,hq4,hb12⟩;have HCH2:=Lib.hid (HCH.out.below hb12);obtain ⟨p0,p1,p2⟩:=box3 HCH2.out.x6;have z0:=frozen_of_blk HCH2.out.x6 0;have z1:=frozen_of_blk HCH2.out.x6 1;have z2:=frozen_of_blk HCH2.out.x6 2;have HR4:=Lib.hid (And.intro hr4 hq4);clear hr4 hq4 hb12)
      go_roundw
      case rel =>
       refine ⟨i+1,b4,q4,by omega,by go_num,HCH2.out.put HN.out.1 HN.out.2.1 HR4.out.1 ?_⟩;rcases HR4.out.2 with e | e
       · rw [e]
         exact HCH.out.le
       · rw [e]
         exact HQ3.out
      case measure=>simp [intOf];omega
  · obtain rfl:i=n:=by omega
    have hlt2:¬ (i<i):=by omega
    obtain ⟨p0,p1,p2⟩:=box3 HW.out.x6;obtain ⟨q0,q1,q2⟩:=box3 HW.out.x4;have z0:=frozen_of_blk HW.out.x4 0;have z1:=frozen_of_blk HW.out.x4 1;have z2:=frozen_of_blk HW.out.x4 2;have HP:=Lib.hid (HW.out.le)
    go_wp2_with fail
    refine bodyPost_ret (v:=.tuple #[.agg #[.bool (ratNeg q),.slice b.A b.n b.c,.slice b.A2 b.n2 b.c2],.int .i64 0]) (by simp [results,Tryz.results42,go_sem,q0,q1,q2]) rfl ?_;exact ⟨b,q,rfl,HW.out.r.frT (store3_fr _ g4 (ratNeg q) b) (typU_of HW.out.x4 (by decide)),HW.out.le,store3_bel HW.out.bel HN.out.2.2 _ _⟩
end Go.Proofs.YtdefcbfofonabaaGreat
