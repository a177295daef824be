/- Contracts of attestref08.Of, attestref08.Scale, attestref08.Add. -/
import Derived.Test.YtdefcbfofonabaaGreatRxSum
namespace Go.Proofs.YtdefcbfofonabaaGreat
open Go.RowKit
set_option linter.unusedVariables false
set_option linter.unusedSimpArgs false
def XA (w:World) (f:Int→Rat) (k:Rat) (m K:Nat) (V:Int→Prop) (r:Ending) (w':World):Prop :=
 ∃ e:XE,r=.returned e.val∧QsAt w' e.A e.n e.c e.l K∧QAt w' e.b k∧e.s=ratNeg k∧e.n≤m∧((tmsOf e.l).map (·.1)).Nodup∧(∀ v,coT (tmsOf e.l) v=f v)∧(∀ u ∈ e.vars,V u)∧Below w.heap.size w w'
set_option maxRecDepth 100000 in
theorem xof_any (b:RB) (k:Rat) (w:World) (h:QAt w b k) :
 Calls Tryz.prog 59 #[.agg #[.bool (ratNeg k),.slice b.A b.n b.c,.slice b.A2 b.n2 b.c2]] w fun e w'=>e=.returned (.agg #[.slice none 0 0,.bool (ratNeg k),.slice b.A b.n b.c,.slice b.A2 b.n2 b.c2])∧QAt w' b k∧Below w.heap.size w w':=by
 obtain ⟨s,hs⟩:∃ s,s=ratNeg k:=⟨_,rfl⟩
 rw [←hs];clear hs
 go_enter Tryz.func59,Tryz.ntmps59
 go_upto_region 1 with fail
 have hx1:=heap_alloc_new w (.cells #[.bool s,.slice b.A b.n b.c,.slice b.A2 b.n2 b.c2] 83)
 have zw1:(w.alloc (.cells #[.bool s,.slice b.A b.n b.c,.slice b.A2 b.n2 b.c2] 83)).heap.size=w.heap.size+1:=by simp
 have aw1:=(Below.refl w.heap.size w).alloc (Nat.le_refl _) (.cells #[.bool s,.slice b.A b.n b.c,.slice b.A2 b.n2 b.c2] 83)
 obtain ⟨w1,ew1⟩:∃ x,x=w.alloc (.cells #[.bool s,.slice b.A b.n b.c,.slice b.A2 b.n2 b.c2] 83):=⟨_,rfl⟩
 rw [←ew1] at hx1 zw1 aw1 ⊢;clear ew1;have hx2:=heap_alloc_new w1 (.cells #[.slice none 0 0,.bool false,.slice none 0 0,.slice none 0 0] 85)
 have zw2:(w1.alloc (.cells #[.slice none 0 0,.bool false,.slice none 0 0,.slice none 0 0] 85)).heap.size=w1.heap.size+1:=by simp
 have aw2:=(Below.refl w1.heap.size w1).alloc (Nat.le_refl _) (.cells #[.slice none 0 0,.bool false,.slice none 0 0,.slice none 0 0] 85)
 obtain ⟨w2,ew2⟩:∃ x,x=w1.alloc (.cells #[.slice none 0 0,.bool false,.slice none 0 0,.slice none 0 0] 85):=⟨_,rfl⟩
 rw [←ew2] at hx2 zw2 aw2 ⊢;clear ew2;rw [zw1] at hx2;have b2:=aw1.trans (aw2.mono aw1.size);obtain ⟨x0,x1,x2⟩:=Box.of (box_keep hx1 aw2);obtain ⟨p0,p1,p2,p3⟩:=box4 hx2;have z0:=frozen_of_blk hx2 0;have z1:=frozen_of_blk hx2 1;have z2:=frozen_of_blk hx2 2;have z3:=frozen_of_blk hx2 3;have HX2:=Lib.hid hx2;have HB2:=Lib.hid b2;have HR:=Lib.hid (h.below b2);clear hx1 hx2 b2 aw1 aw2 zw1 zw2 h
 go_wp2_with fail
 refine bodyPost_ret (v:=.agg #[.slice none 0 0,.bool s,.slice b.A b.n b.c,.slice b.A2 b.n2 b.c2]) (by simp [results,Tryz.results59,go_sem,p0,p1,p2,p3]) rfl ?_;exact ⟨rfl,HR.out.fr (store4_fr w2 (w.heap.size+1) none 0 0 s b) (typB_of HX2.out (by decide)),store4_bel HB2.out (Nat.le_succ _) _ _ _ _ _⟩
set_option maxRecDepth 100000 in
set_option maxHeartbeats 4000000 in
theorem xscale_any (br:RB) (r:Rat) (ea:XE) (ca:Rat) (Z K:Nat) (w:World) (hr:QAt w br r) (lr:QLe r Z) (hxa:XOk w Z ea ca) (hZ1:1≤Z) (hZ:Z≤20000) (hK:∀ v,QLe (r*coT (tmsOf ea.l) v) K) :
 Calls Tryz.prog 28 #[.agg #[.bool (ratNeg r),.slice br.A br.n br.c,.slice br.A2 br.n2 br.c2],ea.val] w fun e w'=>XA w (fun v=>r*coT (tmsOf ea.l) v) (r*ca) ea.n K (fun u=>u ∈ ea.vars) e w':=by
 have hsm:∀ W b1 b2,Below w.heap.size w W→QAt W b1 0→QAt W b2 0→Calls Tryz.prog 58 #[.agg #[.bool (ratNeg r),.slice br.A br.n br.c,.slice br.A2 br.n2 br.c2],ea.val,.agg #[.bool (ratNeg 0),.slice b1.A b1.n b1.c,.slice b1.A2 b1.n2 b1.c2],.agg #[.slice none 0 0,.bool (ratNeg 0),.slice b2.A b2.n b2.c,.slice b2.A2 b2.n2 b2.c2]] W fun e w'=>XA W (fun v=>r*coT (tmsOf ea.l) v) (r*ca) ea.n K (fun u=>u ∈ ea.vars) e w':=fun W b1 b2 hW h1 h2=>by
  have e0:∀ x:Rat,x+0*0=x:=fun x=>by grind
  have hxb:XOk W Z ⟨none,0,0,ratNeg 0,b2,[]⟩ 0:=⟨QsAt.nil_ _ _,h2,rfl,qzero_le Z hZ1,by simp,fun v i=>by
   have:coT ((tmsOf []).take i) v=0:=by simp [tmsOf,coT]
   rw [this]
   exact qzero_le Z hZ1⟩
  refine (rsum_any br b1 r 0 ea ⟨none,0,0,ratNeg 0,b2,[]⟩ ca 0 Z K W (hr.below hW) h1 (hxa.below hW) hxb lr (qzero_le Z hZ1) hZ (fun v=>by
   have:r*coT (tmsOf ea.l) v+0*coT (tmsOf []) v=r*coT (tmsOf ea.l) v:=by grind
   rw [this]
   exact hK v)).mono ?_
  rintro e w' ⟨e',rfl,g1,g2,g3,g4,g5,g6,g7,g8⟩;rw [e0] at g2 g3;refine ⟨e',rfl,g1,g2,g3,g4,g5,fun v=>?_,fun u hu=>?_,g8⟩
  · rw [g6 v]
    grind
  · rcases g7 u hu with h | h
    · exact h
    · cases h
 have hi:=fun W=>qint0 W
 have hof:=fun W b (h:QAt W b 0)=>xof_any b 0 W h
 unfold XE.val at hsm;unfold RB.val at hi
 obtain ⟨sr,hsr⟩:∃ sr,sr=ratNeg r:=⟨_,rfl⟩
 rw [←hsr] at hsm ⊢;have HSM:=Lib.hid hsm;have HI:=Lib.hid hi;have HOF:=Lib.hid hof;unfold XE.val;clear hsm hi hof hr lr hxa hK hsr
 go_enter Tryz.func28,Tryz.ntmps28
 go_upto_region 1 with fail
 have hx1:=heap_alloc_new w (.cells #[.bool sr,.slice br.A br.n br.c,.slice br.A2 br.n2 br.c2] 83)
 have zw1:(w.alloc (.cells #[.bool sr,.slice br.A br.n br.c,.slice br.A2 br.n2 br.c2] 83)).heap.size=w.heap.size+1:=by simp
 have aw1:=(Below.refl w.heap.size w).alloc (Nat.le_refl _) (.cells #[.bool sr,.slice br.A br.n br.c,.slice br.A2 br.n2 br.c2] 83)
 obtain ⟨w1,ew1⟩:∃ x,x=w.alloc (.cells #[.bool sr,.slice br.A br.n br.c,.slice br.A2 br.n2 br.c2] 83):=⟨_,rfl⟩
 rw [←ew1] at hx1 zw1 aw1 ⊢;clear ew1;have hx2:=heap_alloc_new w1 (.cells #[.slice ea.A ea.n ea.c,.bool ea.s,.slice ea.b.A ea.b.n ea.b.c,.slice ea.b.A2 ea.b.n2 ea.b.c2] 85)
 have zw2:(w1.alloc (.cells #[.slice ea.A ea.n ea.c,.bool ea.s,.slice ea.b.A ea.b.n ea.b.c,.slice ea.b.A2 ea.b.n2 ea.b.c2] 85)).heap.size=w1.heap.size+1:=by simp
 have aw2:=(Below.refl w1.heap.size w1).alloc (Nat.le_refl _) (.cells #[.slice ea.A ea.n ea.c,.bool ea.s,.slice ea.b.A ea.b.n ea.b.c,.slice ea.b.A2 ea.b.n2 ea.b.c2] 85)
 obtain ⟨w2,ew2⟩:∃ x,x=w1.alloc (.cells #[.slice ea.A ea.n ea.c,.bool ea.s,.slice ea.b.A ea.b.n ea.b.c,.slice ea.b.A2 ea.b.n2 ea.b.c2] 85):=⟨_,rfl⟩
 rw [←ew2] at hx2 zw2 aw2 ⊢;clear ew2;have hx3:=heap_alloc_new w2 (.cells #[.slice none 0 0,.bool false,.slice none 0 0,.slice none 0 0] 85)
 have zw3:(w2.alloc (.cells #[.slice none 0 0,.bool false,.slice none 0 0,.slice none 0 0] 85)).heap.size=w2.heap.size+1:=by simp
 have aw3:=(Below.refl w2.heap.size w2).alloc (Nat.le_refl _) (.cells #[.slice none 0 0,.bool false,.slice none 0 0,.slice none 0 0] 85)
 obtain ⟨w3,ew3⟩:∃ x,x=w2.alloc (.cells #[.slice none 0 0,.bool false,.slice none 0 0,.slice none 0 0] 85):=⟨_,rfl⟩
 rw [←ew3] at hx3 zw3 aw3 ⊢;clear ew3;rw [zw1] at hx2;rw [zw2,zw1] at hx3;have k12:=aw1.trans (aw2.mono aw1.size);have k13:=k12.trans (aw3.mono k12.size);have hv1:=box_keep (box_keep hx1 aw2) aw3;have hv2:=box_keep hx2 aw3
 have hcs:∀ W',Below w3.heap.size w3 W'→(W'.cell? ⟨w.heap.size,0,none⟩=some (.bool sr)∧W'.cell? ⟨w.heap.size,1,none⟩=some (.slice br.A br.n br.c)∧W'.cell? ⟨w.heap.size,2,none⟩=some (.slice br.A2 br.n2 br.c2))∧(W'.cell? ⟨w.heap.size+1,0,none⟩=some (.slice ea.A ea.n ea.c)∧W'.cell? ⟨w.heap.size+1,1,none⟩=some (.bool ea.s)∧W'.cell? ⟨w.heap.size+1,2,none⟩=some (.slice ea.b.A ea.b.n ea.b.c)∧W'.cell? ⟨w.heap.size+1,3,none⟩=some (.slice ea.b.A2 ea.b.n2 ea.b.c2)):=fun W' h=>⟨Box.of (box_keep hv1 h),box4 (box_keep hv2 h)⟩
 have HCS:=Lib.hid hcs;have HB3:=Lib.hid k13;have HX3:=Lib.hid hx3;clear hcs k12 k13 hv1 hv2 hx1 hx2 hx3 aw1 aw2 aw3 zw1 zw2 zw3;have kb:Below w3.heap.size w3 w3.drew:=below_drew2 (Below.refl _ _);have hS:=HCS.out w3.drew kb;refine wp_region_E 6 (fun W'=>(W'.cell? ⟨w.heap.size,0,none⟩=some (.bool sr)∧W'.cell? ⟨w.heap.size,1,none⟩=some (.slice br.A br.n br.c)∧W'.cell? ⟨w.heap.size,2,none⟩=some (.slice br.A2 br.n2 br.c2))∧(W'.cell? ⟨w.heap.size+1,0,none⟩=some (.slice ea.A ea.n ea.c)∧W'.cell? ⟨w.heap.size+1,1,none⟩=some (.bool ea.s)∧W'.cell? ⟨w.heap.size+1,2,none⟩=some (.slice ea.b.A ea.b.n ea.b.c)∧W'.cell? ⟨w.heap.size+1,3,none⟩=some (.slice ea.b.A2 ea.b.n2 ea.b.c2))) (by kernel_rfl) ?_;generalize w3.drew=w4 at kb hS ⊢;refine tkE 0 hS ?_;simp only [Act.put,sA,sZ,sS];refine tkE 1 hS ?_;simp only [Act.put,sA,sZ,sS]
 refine onE 2 fun KK HKK2=>?_
 go_simp
 go_at_call 29
 refine (HI.out _).mono ?_;rintro e u1 ⟨b1,rfl,hr1,hb1⟩;have hS:=HCS.out u1 (kb.trans (hb1.mono kb.size));replace kb:=kb.trans (hb1.mono kb.size);clear hb1;refine HKK2.out _ _ (.inr hS) ?_;clear HKK2
 try simp only [Act.put,sA,sZ,sS]
 refine onE 3 fun KK HKK3=>?_
 go_simp
 go_at_call 29
 refine (HI.out _).mono ?_;rintro e u2 ⟨b2,rfl,hr2,hb2⟩;replace hr1:=hr1.below hb2;have hS:=HCS.out u2 (kb.trans (hb2.mono kb.size));replace kb:=kb.trans (hb2.mono kb.size);clear hb2;refine HKK3.out _ _ (.inr hS) ?_;clear HKK3
 try simp only [Act.put,sA,sZ,sS]
 refine onE 4 fun KK HKK4=>?_
 go_simp
 go_at_call 59
 refine (HOF.out _ b2 hr2).mono ?_;rintro e u3 ⟨rfl,hr3,hb3⟩;replace hr1:=hr1.below hb3;have hS:=HCS.out u3 (kb.trans (hb3.mono kb.size));replace kb:=kb.trans (hb3.mono kb.size);clear hb3;refine HKK4.out _ _ (.inr hS) ?_;clear HKK4
 try simp only [Act.put,sA,sZ,sS]
 refine onE 5 fun KK HKK5=>?_
 go_simp
 go_at_call 58
 refine (HSM.out _ b1 b2 (HB3.out.trans (kb.mono HB3.out.size)) hr1 hr3).mono ?_;rintro e u4 ⟨e4,rfl,g1,g2,g3,g4,g5,g6,g7,hb4⟩;unfold XE.val;have hx4:=box_keep HX3.out (kb.trans (hb4.mono kb.size));have hS:=HCS.out u4 (kb.trans (hb4.mono kb.size));replace kb:=kb.trans (hb4.mono kb.size);clear hb4;refine HKK5.out _ _ (.inr hS) ?_;clear HKK5
 try simp only [Act.put,sA,sZ,sS]
 refine onE 6 fun KK HKK6=>?_
 obtain ⟨p0,p1,p2,p3⟩:=box4 hx4;have z0:=frozen_of_blk hx4 0;have z1:=frozen_of_blk hx4 1;have z2:=frozen_of_blk hx4 2;have z3:=frozen_of_blk hx4 3;have HX4:=Lib.hid hx4;have G:=Lib.hid (And.intro g1 (And.intro g2 (And.intro g4 (And.intro g5 (And.intro g6 g7)))));have G3:=Lib.hid g3;have KB:=Lib.hid (HB3.out.trans (kb.mono HB3.out.size));clear hS hx4 g1 g2 g3 g4 g5 g6 g7 kb hr1 hr2 hr3;go_simp;refine HKK6.out _ _ (.inl rfl) ?_;clear HKK6;refine wpAnyE_done (by kernel_rfl) ?_ _
 go_wp2_with fail
 refine bodyPost_ret (v:=.agg #[.slice e4.A e4.n e4.c,.bool e4.s,.slice e4.b.A e4.b.n e4.b.c,.slice e4.b.A2 e4.b.n2 e4.b.c2]) (by simp [results,Tryz.results28,go_sem,p0,p1,p2,p3]) rfl ?_;have hfr:=store4_fr u4 (w.heap.size+1+1) e4.A e4.n e4.c e4.s e4.b;obtain ⟨g1,g2,g4,g5,g6,g7⟩:=G.out;exact ⟨e4,rfl,g1.fr hfr (typQ_of HX4.out (by decide)),g2.fr hfr (typB_of HX4.out (by decide)),G3.out,g4,g5,g6,g7,store4_bel KB.out (by omega) _ _ _ _ _⟩
end Go.Proofs.YtdefcbfofonabaaGreat

namespace Go.Proofs.YtdefcbfofonabaaGreat
open Go.RowKit
set_option linter.unusedVariables false
set_option linter.unusedSimpArgs false
set_option maxRecDepth 100000 in
set_option maxHeartbeats 4000000 in
theorem xadd_any (ea eb:XE) (ca cb:Rat) (Z K:Nat) (w:World) (hxa:XOk w Z ea ca) (hxb:XOk w Z eb cb) (hZ1:1≤Z) (hZ:Z≤20000) (hK:∀ v,QLe (coT (tmsOf ea.l) v+coT (tmsOf eb.l) v) K) :
 Calls Tryz.prog 85 #[ea.val,eb.val] w fun e w'=>XA w (fun v=>coT (tmsOf ea.l) v+coT (tmsOf eb.l) v) (ca+cb) (ea.n+eb.n) K (fun u=>u ∈ ea.vars∨u ∈ eb.vars) e w':=by
 have hsm:∀ W b1 b2,Below w.heap.size w W→QAt W b1 1→QAt W b2 1→Calls Tryz.prog 58 #[.agg #[.bool (ratNeg 1),.slice b1.A b1.n b1.c,.slice b1.A2 b1.n2 b1.c2],ea.val,.agg #[.bool (ratNeg 1),.slice b2.A b2.n b2.c,.slice b2.A2 b2.n2 b2.c2],eb.val] W fun e w'=>XA W (fun v=>coT (tmsOf ea.l) v+coT (tmsOf eb.l) v) (ca+cb) (ea.n+eb.n) K (fun u=>u ∈ ea.vars∨u ∈ eb.vars) e w':=fun W b1 b2 hW h1 h2=>by
  have e0:∀ x y:Rat,1*x+1*y=x+y:=fun x y=>by grind
  refine (rsum_any b1 b2 1 1 ea eb ca cb Z K W h1 h2 (hxa.below hW) (hxb.below hW) (qone_le Z hZ1) (qone_le Z hZ1) hZ (fun v=>by
   rw [e0]
   exact hK v)).mono ?_
  rintro e w' ⟨e',rfl,g1,g2,g3,g4,g5,g6,g7,g8⟩;rw [e0] at g2 g3;exact ⟨e',rfl,g1,g2,g3,g4,g5,fun v=>by rw [g6 v,e0],g7,g8⟩
 have hi:=fun W=>qint1 W
 unfold XE.val at hsm;unfold RB.val at hi;have HSM:=Lib.hid hsm;have HI:=Lib.hid hi;unfold XE.val;clear hsm hi hxa hxb hK
 go_enter Tryz.func85,Tryz.ntmps85
 go_upto_region 1 with fail
 have hx1:=heap_alloc_new w (.cells #[.slice ea.A ea.n ea.c,.bool ea.s,.slice ea.b.A ea.b.n ea.b.c,.slice ea.b.A2 ea.b.n2 ea.b.c2] 85)
 have zw1:(w.alloc (.cells #[.slice ea.A ea.n ea.c,.bool ea.s,.slice ea.b.A ea.b.n ea.b.c,.slice ea.b.A2 ea.b.n2 ea.b.c2] 85)).heap.size=w.heap.size+1:=by simp
 have aw1:=(Below.refl w.heap.size w).alloc (Nat.le_refl _) (.cells #[.slice ea.A ea.n ea.c,.bool ea.s,.slice ea.b.A ea.b.n ea.b.c,.slice ea.b.A2 ea.b.n2 ea.b.c2] 85)
 obtain ⟨w1,ew1⟩:∃ x,x=w.alloc (.cells #[.slice ea.A ea.n ea.c,.bool ea.s,.slice ea.b.A ea.b.n ea.b.c,.slice ea.b.A2 ea.b.n2 ea.b.c2] 85):=⟨_,rfl⟩
 rw [←ew1] at hx1 zw1 aw1 ⊢;clear ew1;have hx2:=heap_alloc_new w1 (.cells #[.slice eb.A eb.n eb.c,.bool eb.s,.slice eb.b.A eb.b.n eb.b.c,.slice eb.b.A2 eb.b.n2 eb.b.c2] 85)
 have zw2:(w1.alloc (.cells #[.slice eb.A eb.n eb.c,.bool eb.s,.slice eb.b.A eb.b.n eb.b.c,.slice eb.b.A2 eb.b.n2 eb.b.c2] 85)).heap.size=w1.heap.size+1:=by simp
 have aw2:=(Below.refl w1.heap.size w1).alloc (Nat.le_refl _) (.cells #[.slice eb.A eb.n eb.c,.bool eb.s,.slice eb.b.A eb.b.n eb.b.c,.slice eb.b.A2 eb.b.n2 eb.b.c2] 85)
 obtain ⟨w2,ew2⟩:∃ x,x=w1.alloc (.cells #[.slice eb.A eb.n eb.c,.bool eb.s,.slice eb.b.A eb.b.n eb.b.c,.slice eb.b.A2 eb.b.n2 eb.b.c2] 85):=⟨_,rfl⟩
 rw [←ew2] at hx2 zw2 aw2 ⊢;clear ew2;have hx3:=heap_alloc_new w2 (.cells #[.slice none 0 0,.bool false,.slice none 0 0,.slice none 0 0] 85)
 have zw3:(w2.alloc (.cells #[.slice none 0 0,.bool false,.slice none 0 0,.slice none 0 0] 85)).heap.size=w2.heap.size+1:=by simp
 have aw3:=(Below.refl w2.heap.size w2).alloc (Nat.le_refl _) (.cells #[.slice none 0 0,.bool false,.slice none 0 0,.slice none 0 0] 85)
 obtain ⟨w3,ew3⟩:∃ x,x=w2.alloc (.cells #[.slice none 0 0,.bool false,.slice none 0 0,.slice none 0 0] 85):=⟨_,rfl⟩
 rw [←ew3] at hx3 zw3 aw3 ⊢;clear ew3;rw [zw1] at hx2;rw [zw2,zw1] at hx3;have k12:=aw1.trans (aw2.mono aw1.size);have k13:=k12.trans (aw3.mono k12.size);have hv1:=box_keep (box_keep hx1 aw2) aw3;have hv2:=box_keep hx2 aw3
 have hcs:∀ W',Below w3.heap.size w3 W'→(W'.cell? ⟨w.heap.size,0,none⟩=some (.slice ea.A ea.n ea.c)∧W'.cell? ⟨w.heap.size,1,none⟩=some (.bool ea.s)∧W'.cell? ⟨w.heap.size,2,none⟩=some (.slice ea.b.A ea.b.n ea.b.c)∧W'.cell? ⟨w.heap.size,3,none⟩=some (.slice ea.b.A2 ea.b.n2 ea.b.c2))∧(W'.cell? ⟨w.heap.size+1,0,none⟩=some (.slice eb.A eb.n eb.c)∧W'.cell? ⟨w.heap.size+1,1,none⟩=some (.bool eb.s)∧W'.cell? ⟨w.heap.size+1,2,none⟩=some (.slice eb.b.A eb.b.n eb.b.c)∧W'.cell? ⟨w.heap.size+1,3,none⟩=some (.slice eb.b.A2 eb.b.n2 eb.b.c2)):=fun W' h=>⟨box4 (box_keep hv1 h),box4 (box_keep hv2 h)⟩
 have HCS:=Lib.hid hcs;have HB3:=Lib.hid k13;have HX3:=Lib.hid hx3;clear hcs k12 k13 hv1 hv2 hx1 hx2 hx3 aw1 aw2 aw3 zw1 zw2 zw3;have kb:Below w3.heap.size w3 w3.drew:=below_drew2 (Below.refl _ _);have hS:=HCS.out w3.drew kb;refine wp_region_E 5 (fun W'=>(W'.cell? ⟨w.heap.size,0,none⟩=some (.slice ea.A ea.n ea.c)∧W'.cell? ⟨w.heap.size,1,none⟩=some (.bool ea.s)∧W'.cell? ⟨w.heap.size,2,none⟩=some (.slice ea.b.A ea.b.n ea.b.c)∧W'.cell? ⟨w.heap.size,3,none⟩=some (.slice ea.b.A2 ea.b.n2 ea.b.c2))∧(W'.cell? ⟨w.heap.size+1,0,none⟩=some (.slice eb.A eb.n eb.c)∧W'.cell? ⟨w.heap.size+1,1,none⟩=some (.bool eb.s)∧W'.cell? ⟨w.heap.size+1,2,none⟩=some (.slice eb.b.A eb.b.n eb.b.c)∧W'.cell? ⟨w.heap.size+1,3,none⟩=some (.slice eb.b.A2 eb.b.n2 eb.b.c2))) (by kernel_rfl) ?_;generalize w3.drew=w4 at kb hS ⊢;refine tkE 1 hS ?_;simp only [Act.put,sA,sZ,sS];refine tkE 3 hS ?_;simp only [Act.put,sA,sZ,sS]
 refine onE 0 fun KK HKK0=>?_
 go_simp
 go_at_call 29
 refine (HI.out _).mono ?_;rintro e u1 ⟨b1,rfl,hr1,hb1⟩;have hS:=HCS.out u1 (kb.trans (hb1.mono kb.size));replace kb:=kb.trans (hb1.mono kb.size);clear hb1;refine HKK0.out _ _ (.inr hS) ?_;clear HKK0
 try simp only [Act.put,sA,sZ,sS]
 refine onE 2 fun KK HKK2=>?_
 go_simp
 go_at_call 29
 refine (HI.out _).mono ?_;rintro e u2 ⟨b2,rfl,hr2,hb2⟩;replace hr1:=hr1.below hb2;have hS:=HCS.out u2 (kb.trans (hb2.mono kb.size));replace kb:=kb.trans (hb2.mono kb.size);clear hb2;refine HKK2.out _ _ (.inr hS) ?_;clear HKK2
 try simp only [Act.put,sA,sZ,sS]
 refine onE 4 fun KK HKK4=>?_
 go_simp
 go_at_call 58
 refine (HSM.out _ b1 b2 (HB3.out.trans (kb.mono HB3.out.size)) hr1 hr2).mono ?_;rintro e u4 ⟨e4,rfl,g1,g2,g3,g4,g5,g6,g7,hb4⟩;unfold XE.val;have hx4:=box_keep HX3.out (kb.trans (hb4.mono kb.size));have hS:=HCS.out u4 (kb.trans (hb4.mono kb.size));replace kb:=kb.trans (hb4.mono kb.size);clear hb4;refine HKK4.out _ _ (.inr hS) ?_;clear HKK4
 try simp only [Act.put,sA,sZ,sS]
 refine onE 5 fun KK HKK5=>?_
 obtain ⟨p0,p1,p2,p3⟩:=box4 hx4;have z0:=frozen_of_blk hx4 0;have z1:=frozen_of_blk hx4 1;have z2:=frozen_of_blk hx4 2;have z3:=frozen_of_blk hx4 3;have HX4:=Lib.hid hx4;have G:=Lib.hid (And.intro g1 (And.intro g2 (And.intro g4 (And.intro g5 (And.intro g6 g7)))));have G3:=Lib.hid g3;have KB:=Lib.hid (HB3.out.trans (kb.mono HB3.out.size));clear hS hx4 g1 g2 g3 g4 g5 g6 g7 kb hr1 hr2;go_simp;refine HKK5.out _ _ (.inl rfl) ?_;clear HKK5;refine wpAnyE_done (by kernel_rfl) ?_ _
 go_wp2_with fail
 refine bodyPost_ret (v:=.agg #[.slice e4.A e4.n e4.c,.bool e4.s,.slice e4.b.A e4.b.n e4.b.c,.slice e4.b.A2 e4.b.n2 e4.b.c2]) (by simp [results,Tryz.results85,go_sem,p0,p1,p2,p3]) rfl ?_;have hfr:=store4_fr u4 (w.heap.size+1+1) e4.A e4.n e4.c e4.s e4.b;obtain ⟨g1,g2,g4,g5,g6,g7⟩:=G.out;exact ⟨e4,rfl,g1.fr hfr (typQ_of HX4.out (by decide)),g2.fr hfr (typB_of HX4.out (by decide)),G3.out,g4,g5,g6,g7,store4_bel KB.out (by omega) _ _ _ _ _⟩
end Go.Proofs.YtdefcbfofonabaaGreat
