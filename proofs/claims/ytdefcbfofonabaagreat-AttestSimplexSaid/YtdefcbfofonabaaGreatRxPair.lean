/- Contract of attestref21.pair. -/
import Derived.Test.YtdefcbfofonabaaGreatRxOps
import Derived.Test.YtdefcbfofonabaaGreatSxE
namespace Go.Proofs.YtdefcbfofonabaaGreat
open Go.RowKit
set_option linter.unusedVariables false
set_option linter.unusedSimpArgs false
theorem put3_far {w:World} {g h:Nat} {o:Obj} (hx:w.heap[h]?=some o) (hne:h≠g) (s:Bool) (b:RB):(put3 w g s b).heap[h]?=some o :=
 (set_far hne _).trans ((set_far hne _).trans ((set_far hne _).trans hx))
section
variable {P:Program} {ops:Array Oper} {Q:Exit→Act→World→Prop} {S:World→Prop} {md:Region.Mode} {z:Nat}
theorem wpAnyE_three {i j k:Nat} {oi oj ok:Oper} {fuel:Nat} {listed:Array Bool} {a:Act} {w:World} (hr:Region.ready md ops listed=[i,j,k]) (hi:ops[i]?=some oi) (hj:ops[j]?=some oj) (hk:ops[k]?=some ok)
 (h1:∀ K':Act→World→Prop,(∀ a w,(i=z∨S w)→wpAnyE P md ops Q S z fuel (listed.setIfInBounds i true) a w→K' a w)→if Region.wanted oi (yielded ops a.tmps)=true then Oper.wp P oi a w K' Q else K' (a.put oi.dst undef) w)
 (h2:∀ K':Act→World→Prop,(∀ a w,(j=z∨S w)→wpAnyE P md ops Q S z fuel (listed.setIfInBounds j true) a w→K' a w)→if Region.wanted oj (yielded ops a.tmps)=true then Oper.wp P oj a w K' Q else K' (a.put oj.dst undef) w)
 (h3:∀ K':Act→World→Prop,(∀ a w,(k=z∨S w)→wpAnyE P md ops Q S z fuel (listed.setIfInBounds k true) a w→K' a w)→if Region.wanted ok (yielded ops a.tmps)=true then Oper.wp P ok a w K' Q else K' (a.put ok.dst undef) w):wpAnyE P md ops Q S z (fuel+1) listed a w:=by
 refine ⟨fun h0=>(by rw [hr] at h0;cases h0),fun l hl=>?_⟩;rw [hr] at hl;simp only [List.mem_cons,List.not_mem_nil,or_false] at hl;rcases hl with rfl | rfl | rfl
 · exact wpOp_step hi fun K' hK=>h1 K' fun a w hS hE=>hK a w ⟨hS,hE⟩
 · exact wpOp_step hj fun K' hK=>h2 K' fun a w hS hE=>hK a w ⟨hS,hE⟩
 · exact wpOp_step hk fun K' hK=>h3 K' fun a w hS hE=>hK a w ⟨hS,hE⟩
end
structure BB where
 e:XE
 s:Bool
def BB.val (x:BB):Value:=.agg #[.slice x.e.A x.e.n x.e.c,.bool x.e.s,.slice x.e.b.A x.e.b.n x.e.b.c,.slice x.e.b.A2 x.e.b.n2 x.e.b.c2,.bool x.s]
structure BOk (w:World) (K:Nat) (x:BB) (d:Bd):Prop where
 ok:XOk w K x.e d.k
 co:∀ v,d.c v=coT (tmsOf x.e.l) v
 st:d.s=x.s
 vs:∀ u ∈ x.e.vars,u=0∨u=1∨u=2
theorem BOk.below {w w':World} {K:Nat} {x:BB} {d:Bd} (h:BOk w K x d) (hb:Below w.heap.size w w'):BOk w' K x d:=⟨h.ok.below hb,h.co,h.st,h.vs⟩
theorem cnt1:∀ (l:List Int),l.Nodup→∀ a,l.count a≤1
 | [],_,a=>by simp
 | b :: l,h,a=>by
   obtain ⟨h1,h2⟩:=List.nodup_cons.1 h;rw [List.count_cons]
   by_cases e:b=a
   · subst e
     have:=List.count_eq_zero.2 h1;simp [this]
   · have:=cnt1 l h2 a
     simp [e];omega
theorem cnt3:∀ (l:List Int),(∀ u ∈ l,u=0∨u=1∨u=2)→l.length=l.count 0+l.count 1+l.count 2
 | [],_=>by simp
 | b :: l,h=>by
   have:=cnt3 l (fun u hu=>h u (by simp [hu]));rw [List.length_cons,List.count_cons,List.count_cons,List.count_cons]
   rcases h b (by simp) with rfl | rfl | rfl<;>simp<;>omega
theorem few3 {vs:List Int} (hn:vs.Nodup) (h:∀ u ∈ vs,u=0∨u=1∨u=2):vs.length≤3:=by
 have h1:=cnt3 vs h;have h2:=cnt1 vs hn 0;have h3:=cnt1 vs hn 1;have h4:=cnt1 vs hn 2;omega
theorem box5b {w:World} {g:Nat} {a b c d e:Value} {t:TypeId} (h:w.heap[g]?=some (.cells #[a,b,c,d,e] t (0,0))):w.cell? ⟨g,0,none⟩=some a∧w.cell? ⟨g,1,none⟩=some b∧w.cell? ⟨g,2,none⟩=some c∧w.cell? ⟨g,3,none⟩=some d∧w.cell? ⟨g,4,none⟩=some e :=
 ⟨cell_of_blk h 0,cell_of_blk h 1,cell_of_blk h 2,cell_of_blk h 3,cell_of_blk h 4⟩
theorem xok_of {w:World} {k:Rat} {K:Nat} {e:XE} (hK:1≤K) (hk:QLe k K) (hn:e.n≤100) (g1:QsAt w e.A e.n e.c e.l K) (g2:QAt w e.b k) (g3:e.s=ratNeg k) (g5:((tmsOf e.l).map (·.1)).Nodup):XOk w K e k :=
 ⟨g1,g2,g3,hk,hn,fun v i=>coT_take hK v _ g5 (fun t ht=>by
   obtain ⟨u,hu,rfl⟩:=List.mem_map.1 ht
   exact (g1.each u hu).le) i⟩
set_option maxRecDepth 100000 in
set_option maxHeartbeats 8000000 in
theorem pair_any (ea eb:XE) (sa sb:Bool) (da db:Bd) (K:Nat) (v:Int) (w:World) (ha:BOk w K ⟨ea,sa⟩ da) (hb:BOk w K ⟨eb,sb⟩ db) (hK1:1≤K) (hK:K≤9000) :
 Calls Tryz.prog 64 #[(BB.mk ea sa).val,(BB.mk eb sb).val,.int .i64 v] w fun r w'=>∃ x:BB,r=.returned x.val∧BOk w' (4*K+8) x (pairB da db v)∧Below w.heap.size w w':=by
 have hxa:=ha.ok;have hxb:=hb.ok;have hca:∀ i,QLe (coT ((tmsOf ea.l).take i) v) K:=hxa.co v;have hcb:∀ i,QLe (coT ((tmsOf eb.l).take i) v) K:=hxb.co v
 have hcfa:=fun W (hW:Below w.heap.size w W)=>coef_any ea.A ea.n ea.c ea.s ea.b ea.l K v W (hxa.tms.below hW) hxa.few (by omega) hca
 have hcfb:=fun W (hW:Below w.heap.size w W)=>coef_any eb.A eb.n eb.c eb.s eb.b eb.l K v W (hxb.tms.below hW) hxb.few (by omega) hcb
 unfold RB.val at hcfa hcfb;unfold BB.val;have HA:=Lib.hid ha;have HB:=Lib.hid hb;clear ha hb hxa hxb hca hcb
 go_enter Tryz.func64,Tryz.ntmps64
 go_upto_region 1 with fail
 have hx1:=heap_alloc_new w (.cells #[.slice ea.A ea.n ea.c,.bool ea.s,.slice ea.b.A ea.b.n ea.b.c,.slice ea.b.A2 ea.b.n2 ea.b.c2,.bool sa] 89)
 have zw1:(w.alloc (.cells #[.slice ea.A ea.n ea.c,.bool ea.s,.slice ea.b.A ea.b.n ea.b.c,.slice ea.b.A2 ea.b.n2 ea.b.c2,.bool sa] 89)).heap.size=w.heap.size+1:=by simp
 have aw1:=(Below.refl w.heap.size w).alloc (Nat.le_refl _) (.cells #[.slice ea.A ea.n ea.c,.bool ea.s,.slice ea.b.A ea.b.n ea.b.c,.slice ea.b.A2 ea.b.n2 ea.b.c2,.bool sa] 89)
 obtain ⟨w1,ew1⟩:∃ x,x=w.alloc (.cells #[.slice ea.A ea.n ea.c,.bool ea.s,.slice ea.b.A ea.b.n ea.b.c,.slice ea.b.A2 ea.b.n2 ea.b.c2,.bool sa] 89):=⟨_,rfl⟩
 rw [←ew1] at hx1 zw1 aw1 ⊢;clear ew1;have hx2:=heap_alloc_new w1 (.cells #[.slice eb.A eb.n eb.c,.bool eb.s,.slice eb.b.A eb.b.n eb.b.c,.slice eb.b.A2 eb.b.n2 eb.b.c2,.bool sb] 89)
 have zw2:(w1.alloc (.cells #[.slice eb.A eb.n eb.c,.bool eb.s,.slice eb.b.A eb.b.n eb.b.c,.slice eb.b.A2 eb.b.n2 eb.b.c2,.bool sb] 89)).heap.size=w1.heap.size+1:=by simp
 have aw2:=(Below.refl w1.heap.size w1).alloc (Nat.le_refl _) (.cells #[.slice eb.A eb.n eb.c,.bool eb.s,.slice eb.b.A eb.b.n eb.b.c,.slice eb.b.A2 eb.b.n2 eb.b.c2,.bool sb] 89)
 obtain ⟨w2,ew2⟩:∃ x,x=w1.alloc (.cells #[.slice eb.A eb.n eb.c,.bool eb.s,.slice eb.b.A eb.b.n eb.b.c,.slice eb.b.A2 eb.b.n2 eb.b.c2,.bool sb] 89):=⟨_,rfl⟩
 rw [←ew2] at hx2 zw2 aw2 ⊢;clear ew2;have hx3:=heap_alloc_new w2 (.cells #[.slice none 0 0,.bool false,.slice none 0 0,.slice none 0 0,.bool false] 89)
 have zw3:(w2.alloc (.cells #[.slice none 0 0,.bool false,.slice none 0 0,.slice none 0 0,.bool false] 89)).heap.size=w2.heap.size+1:=by simp
 have aw3:=(Below.refl w2.heap.size w2).alloc (Nat.le_refl _) (.cells #[.slice none 0 0,.bool false,.slice none 0 0,.slice none 0 0,.bool false] 89)
 obtain ⟨w3,ew3⟩:∃ x,x=w2.alloc (.cells #[.slice none 0 0,.bool false,.slice none 0 0,.slice none 0 0,.bool false] 89):=⟨_,rfl⟩
 rw [←ew3] at hx3 zw3 aw3 ⊢;clear ew3;rw [zw1] at hx2;rw [zw2,zw1] at hx3;have k12:=aw1.trans (aw2.mono aw1.size);have k13:=k12.trans (aw3.mono k12.size);have hv1:=box_keep (box_keep hx1 aw2) aw3;have hv2:=box_keep hx2 aw3
 have hcs:∀ W',Below w3.heap.size w3 W'→(W'.cell? ⟨w.heap.size,0,none⟩=some (.slice ea.A ea.n ea.c)∧W'.cell? ⟨w.heap.size,1,none⟩=some (.bool ea.s)∧W'.cell? ⟨w.heap.size,2,none⟩=some (.slice ea.b.A ea.b.n ea.b.c)∧W'.cell? ⟨w.heap.size,3,none⟩=some (.slice ea.b.A2 ea.b.n2 ea.b.c2)∧W'.cell? ⟨w.heap.size,4,none⟩=some (.bool sa))∧(W'.cell? ⟨w.heap.size+1,0,none⟩=some (.slice eb.A eb.n eb.c)∧W'.cell? ⟨w.heap.size+1,1,none⟩=some (.bool eb.s)∧W'.cell? ⟨w.heap.size+1,2,none⟩=some (.slice eb.b.A eb.b.n eb.b.c)∧W'.cell? ⟨w.heap.size+1,3,none⟩=some (.slice eb.b.A2 eb.b.n2 eb.b.c2)∧W'.cell? ⟨w.heap.size+1,4,none⟩=some (.bool sb)):=fun W' h=>⟨box5b (box_keep hv1 h),box5b (box_keep hv2 h)⟩
 have HCS:=Lib.hid hcs;have HB3:=Lib.hid k13;have HX3:=Lib.hid hx3;have HCA:=Lib.hid (fun W (hW:Below w3.heap.size w3 W)=>hcfa W (k13.trans (hW.mono k13.size)));have HCB:=Lib.hid (fun W (hW:Below w3.heap.size w3 W)=>hcfb W (k13.trans (hW.mono k13.size)));clear hcs k12 k13 hv1 hv2 hx1 hx2 hx3 aw1 aw2 aw3 zw1 zw2 zw3 hcfa hcfb
 go_cut [7,8] (fun x y wx=>∃ (g8 g9:Nat) (b1 b2:RB),x=.pointer (some ⟨g8,0,none⟩)∧y=.pointer (some ⟨g9,0,none⟩)∧w3.heap.size≤g8∧w3.heap.size≤g9∧wx.heap[g8]?=some (.cells #[.bool (ratNeg (coT (tmsOf ea.l) v)),.slice b1.A b1.n b1.c,.slice b1.A2 b1.n2 b1.c2] 83 (0,0))∧wx.heap[g9]?=some (.cells #[.bool (ratNeg (coT (tmsOf eb.l) v)),.slice b2.A b2.n b2.c,.slice b2.A2 b2.n2 b2.c2] 83 (0,0))∧QAt wx b1 (coT (tmsOf ea.l) v)∧QAt wx b2 (coT (tmsOf eb.l) v)∧Below w3.heap.size w3 wx)
 case first =>
  as_aux_lemma =>
   have kb:Below w3.heap.size w3 w3.drew:=below_drew2 (Below.refl _ _);have hS:=HCS.out w3.drew kb;refine wp_region_E 11 (fun W'=>(W'.cell? ⟨w.heap.size,0,none⟩=some (.slice ea.A ea.n ea.c)∧W'.cell? ⟨w.heap.size,1,none⟩=some (.bool ea.s)∧W'.cell? ⟨w.heap.size,2,none⟩=some (.slice ea.b.A ea.b.n ea.b.c)∧W'.cell? ⟨w.heap.size,3,none⟩=some (.slice ea.b.A2 ea.b.n2 ea.b.c2)∧W'.cell? ⟨w.heap.size,4,none⟩=some (.bool sa))∧(W'.cell? ⟨w.heap.size+1,0,none⟩=some (.slice eb.A eb.n eb.c)∧W'.cell? ⟨w.heap.size+1,1,none⟩=some (.bool eb.s)∧W'.cell? ⟨w.heap.size+1,2,none⟩=some (.slice eb.b.A eb.b.n eb.b.c)∧W'.cell? ⟨w.heap.size+1,3,none⟩=some (.slice eb.b.A2 eb.b.n2 eb.b.c2)∧W'.cell? ⟨w.heap.size+1,4,none⟩=some (.bool sb))) (by kernel_rfl) ?_;generalize w3.drew=w4 at kb hS ⊢;refine tkE 0 hS ?_;simp only [Act.put,sA,sZ,sS];refine tkE 1 hS ?_;simp only [Act.put,sA,sZ,sS];refine tkE 2 hS ?_;simp only [Act.put,sA,sZ,sS];refine tkE 4 hS ?_;simp only [Act.put,sA,sZ,sS];refine tkE 5 hS ?_;simp only [Act.put,sA,sZ,sS];refine tkE 6 hS ?_;simp only [Act.put,sA,sZ,sS];refine wpAnyE_three (i:=3) (j:=8) (k:=9) (by kernel_rfl) rfl rfl rfl (fun KK hKK=>?_) (fun KK hKK=>?_) (fun KK hKK=>?_)
   · have HKK3:=Lib.hid hKK
     clear hKK;go_simp
     go_at_call 63
     refine (HCA.out _ kb).mono ?_;rintro e u1 ⟨b1,rfl,hr1,hb1⟩;have hS:=HCS.out u1 (kb.trans (hb1.mono kb.size));replace kb:=kb.trans (hb1.mono kb.size);clear hb1;refine HKK3.out _ _ (.inr hS) ?_;clear HKK3
     try simp only [Act.put,sA,sZ,sS]
     refine wpAnyE_three (i:=7) (j:=8) (k:=9) (by kernel_rfl) rfl rfl rfl (fun KK hKK=>?_) (fun KK hKK=>?_) (fun KK hKK=>?_)
     · have HKK7:=Lib.hid hKK
       clear hKK;go_simp
       go_at_call 63
       refine (HCB.out _ kb).mono ?_;rintro e u2 ⟨b2,rfl,hr2,hb2⟩;replace hr1:=hr1.below hb2;have hS:=HCS.out u2 (kb.trans (hb2.mono kb.size));replace kb:=kb.trans (hb2.mono kb.size);clear hb2;refine HKK7.out _ _ (.inr hS) ?_;clear HKK7
       try simp only [Act.put,sA,sZ,sS]
       refine wpAnyE_two (i:=8) (j:=9) (by kernel_rfl) rfl rfl (fun KK hKK=>?_) (fun KK hKK=>?_)
       · have HKK8:=Lib.hid hKK
         clear hKK;go_simp;have hx8:=heap_alloc_new u2 (.cells #[.bool false,.slice none 0 0,.slice none 0 0] 83);have hal8:=(Below.refl u2.heap.size u2).alloc (Nat.le_refl _) (.cells #[.bool false,.slice none 0 0,.slice none 0 0] 83);have hgl8:=kb.size
         obtain ⟨g8,hsz⟩:∃ x,x=u2.heap.size:=⟨_,rfl⟩
         rw [←hsz] at hx8 hgl8 ⊢
         obtain ⟨u8,hu8⟩:∃ x,x=u2.alloc (.cells #[.bool false,.slice none 0 0,.slice none 0 0] 83):=⟨_,rfl⟩
         rw [←hu8] at hx8 hal8 ⊢;clear hu8;replace hr1:=hr1.below hal8;replace hr2:=hr2.below hal8;have hS:=HCS.out u8 (kb.trans (hal8.mono kb.size));replace kb:=kb.trans (hal8.mono kb.size);clear hal8;clear hsz;refine HKK8.out _ _ (.inr hS) ?_;clear HKK8
         try simp only [Act.put,sA,sZ,sS]
         refine onE 9 fun KK HKK9=>?_
         go_simp;have hx9:=heap_alloc_new u8 (.cells #[.bool false,.slice none 0 0,.slice none 0 0] 83);have hal9:=(Below.refl u8.heap.size u8).alloc (Nat.le_refl _) (.cells #[.bool false,.slice none 0 0,.slice none 0 0] 83);have hgl9:=kb.size
         obtain ⟨g9,hsz⟩:∃ x,x=u8.heap.size:=⟨_,rfl⟩
         rw [←hsz] at hx9 hgl9 ⊢
         obtain ⟨u9,hu9⟩:∃ x,x=u8.alloc (.cells #[.bool false,.slice none 0 0,.slice none 0 0] 83):=⟨_,rfl⟩
         rw [←hu9] at hx9 hal9 ⊢;clear hu9
         have hne:g8≠g9:=by have:=lt_of_blk hx8;omega
         replace hx8:=box_keep hx8 hal9;replace hr1:=hr1.below hal9;replace hr2:=hr2.below hal9;have hS:=HCS.out u9 (kb.trans (hal9.mono kb.size));replace kb:=kb.trans (hal9.mono kb.size);clear hal9;clear hsz;refine HKK9.out _ _ (.inr hS) ?_;clear HKK9
         try simp only [Act.put,sA,sZ,sS]
         obtain ⟨p0,p1,p2⟩:=Box.of hx8;have z0:=frozen_of_blk hx8 0;have z1:=frozen_of_blk hx8 1;have z2:=frozen_of_blk hx8 2;have HX8:=Lib.hid hx8;have HX9:=Lib.hid hx9;have HR1:=Lib.hid hr1;have HR2:=Lib.hid hr2;have HNE:=Lib.hid hne;have HKB:=Lib.hid kb;clear hx8 hx9 hr1 hr2 hne kb hS
         refine onE 10 fun KK HKK10=>?_
         go_simp;have hkb3:Below w3.heap.size w3 (put3 u9 g8 (ratNeg (coT (tmsOf ea.l) v)) b1):=bl_set (bl_set (bl_set HKB.out hgl8) hgl8) hgl8;have hS:=HCS.out _ hkb3;refine HKK10.out _ (put3 u9 g8 (ratNeg (coT (tmsOf ea.l) v)) b1) (.inr hS) ?_;clear HKK10 p0 p1 p2 z0 z1 z2;have hf:=put3_fr u9 g8 (ratNeg (coT (tmsOf ea.l) v)) b1;have hx8:=put3_blk HX8.out (ratNeg (coT (tmsOf ea.l) v)) b1;have hx9:=put3_far HX9.out (Ne.symm HNE.out) (ratNeg (coT (tmsOf ea.l) v)) b1;have hr1:=HR1.out.fr hf (typB_of HX8.out (by decide));have hr2:=HR2.out.fr hf (typB_of HX8.out (by decide));clear hf HX8 HX9 HR1 HR2 HKB
         obtain ⟨us,hus⟩:∃ x,x=put3 u9 g8 (ratNeg (coT (tmsOf ea.l) v)) b1:=⟨_,rfl⟩
         rw [←hus] at hx8 hx9 hr1 hr2 hkb3 hS ⊢;clear hus;obtain ⟨p0,p1,p2⟩:=Box.of hx9;have z0:=frozen_of_blk hx9 0;have z1:=frozen_of_blk hx9 1;have z2:=frozen_of_blk hx9 2;have HX8:=Lib.hid hx8;have HX9:=Lib.hid hx9;have HR1:=Lib.hid hr1;have HR2:=Lib.hid hr2;have HKB:=Lib.hid hkb3;clear hx8 hx9 hr1 hr2 hkb3 hS
         refine onE 11 fun KK HKK11=>?_
         go_simp;refine HKK11.out _ _ (.inl rfl) ?_;clear HKK11;refine wpAnyE_done (by kernel_rfl) ?_ _
         go_wp2_with fail
         go_meet;exact ⟨g8,g9,b1,b2,rfl,rfl,hgl8,hgl9,put3_far HX8.out HNE.out _ b2,put3_blk HX9.out _ b2,HR1.out.fr (put3_fr us g9 _ b2) (typB_of HX9.out (by decide)),HR2.out.fr (put3_fr us g9 _ b2) (typB_of HX9.out (by decide)),bl_set (bl_set (bl_set HKB.out hgl9) hgl9) hgl9⟩
       · have HKK9:=Lib.hid hKK
         clear hKK;go_simp;have hx9:=heap_alloc_new u2 (.cells #[.bool false,.slice none 0 0,.slice none 0 0] 83);have hal9:=(Below.refl u2.heap.size u2).alloc (Nat.le_refl _) (.cells #[.bool false,.slice none 0 0,.slice none 0 0] 83);have hgl9:=kb.size
         obtain ⟨g9,hsz⟩:∃ x,x=u2.heap.size:=⟨_,rfl⟩
         rw [←hsz] at hx9 hgl9 ⊢
         obtain ⟨u9,hu9⟩:∃ x,x=u2.alloc (.cells #[.bool false,.slice none 0 0,.slice none 0 0] 83):=⟨_,rfl⟩
         rw [←hu9] at hx9 hal9 ⊢;clear hu9;replace hr1:=hr1.below hal9;replace hr2:=hr2.below hal9;have hS:=HCS.out u9 (kb.trans (hal9.mono kb.size));replace kb:=kb.trans (hal9.mono kb.size);clear hal9;clear hsz;refine HKK9.out _ _ (.inr hS) ?_;clear HKK9
         try simp only [Act.put,sA,sZ,sS]
         refine onE 8 fun KK HKK8=>?_
         go_simp;have hx8:=heap_alloc_new u9 (.cells #[.bool false,.slice none 0 0,.slice none 0 0] 83);have hal8:=(Below.refl u9.heap.size u9).alloc (Nat.le_refl _) (.cells #[.bool false,.slice none 0 0,.slice none 0 0] 83);have hgl8:=kb.size
         obtain ⟨g8,hsz⟩:∃ x,x=u9.heap.size:=⟨_,rfl⟩
         rw [←hsz] at hx8 hgl8 ⊢
         obtain ⟨u8,hu8⟩:∃ x,x=u9.alloc (.cells #[.bool false,.slice none 0 0,.slice none 0 0] 83):=⟨_,rfl⟩
         rw [←hu8] at hx8 hal8 ⊢;clear hu8
         have hne:g8≠g9:=by have:=lt_of_blk hx9;omega
         replace hx9:=box_keep hx9 hal8;replace hr1:=hr1.below hal8;replace hr2:=hr2.below hal8;have hS:=HCS.out u8 (kb.trans (hal8.mono kb.size));replace kb:=kb.trans (hal8.mono kb.size);clear hal8;clear hsz;refine HKK8.out _ _ (.inr hS) ?_;clear HKK8
         try simp only [Act.put,sA,sZ,sS]
         obtain ⟨p0,p1,p2⟩:=Box.of hx8;have z0:=frozen_of_blk hx8 0;have z1:=frozen_of_blk hx8 1;have z2:=frozen_of_blk hx8 2;have HX8:=Lib.hid hx8;have HX9:=Lib.hid hx9;have HR1:=Lib.hid hr1;have HR2:=Lib.hid hr2;have HNE:=Lib.hid hne;have HKB:=Lib.hid kb;clear hx8 hx9 hr1 hr2 hne kb hS
         refine onE 10 fun KK HKK10=>?_
         go_simp;have hkb3:Below w3.heap.size w3 (put3 u8 g8 (ratNeg (coT (tmsOf ea.l) v)) b1):=bl_set (bl_set (bl_set HKB.out hgl8) hgl8) hgl8;have hS:=HCS.out _ hkb3;refine HKK10.out _ (put3 u8 g8 (ratNeg (coT (tmsOf ea.l) v)) b1) (.inr hS) ?_;clear HKK10 p0 p1 p2 z0 z1 z2;have hf:=put3_fr u8 g8 (ratNeg (coT (tmsOf ea.l) v)) b1;have hx8:=put3_blk HX8.out (ratNeg (coT (tmsOf ea.l) v)) b1;have hx9:=put3_far HX9.out (Ne.symm HNE.out) (ratNeg (coT (tmsOf ea.l) v)) b1;have hr1:=HR1.out.fr hf (typB_of HX8.out (by decide));have hr2:=HR2.out.fr hf (typB_of HX8.out (by decide));clear hf HX8 HX9 HR1 HR2 HKB
         obtain ⟨us,hus⟩:∃ x,x=put3 u8 g8 (ratNeg (coT (tmsOf ea.l) v)) b1:=⟨_,rfl⟩
         rw [←hus] at hx8 hx9 hr1 hr2 hkb3 hS ⊢;clear hus;obtain ⟨p0,p1,p2⟩:=Box.of hx9;have z0:=frozen_of_blk hx9 0;have z1:=frozen_of_blk hx9 1;have z2:=frozen_of_blk hx9 2;have HX8:=Lib.hid hx8;have HX9:=Lib.hid hx9;have HR1:=Lib.hid hr1;have HR2:=Lib.hid hr2;have HKB:=Lib.hid hkb3;clear hx8 hx9 hr1 hr2 hkb3 hS
         refine onE 11 fun KK HKK11=>?_
         go_simp;refine HKK11.out _ _ (.inl rfl) ?_;clear HKK11;refine wpAnyE_done (by kernel_rfl) ?_ _
         go_wp2_with fail
         go_meet;exact ⟨g8,g9,b1,b2,rfl,rfl,hgl8,hgl9,put3_far HX8.out HNE.out _ b2,put3_blk HX9.out _ b2,HR1.out.fr (put3_fr us g9 _ b2) (typB_of HX9.out (by decide)),HR2.out.fr (put3_fr us g9 _ b2) (typB_of HX9.out (by decide)),bl_set (bl_set (bl_set HKB.out hgl9) hgl9) hgl9⟩
     · have HKK8:=Lib.hid hKK
       clear hKK;go_simp;have hx8:=heap_alloc_new u1 (.cells #[.bool false,.slice none 0 0,.slice none 0 0] 83);have hal8:=(Below.refl u1.heap.size u1).alloc (Nat.le_refl _) (.cells #[.bool false,.slice none 0 0,.slice none 0 0] 83);have hgl8:=kb.size
       obtain ⟨g8,hsz⟩:∃ x,x=u1.heap.size:=⟨_,rfl⟩
       rw [←hsz] at hx8 hgl8 ⊢
       obtain ⟨u8,hu8⟩:∃ x,x=u1.alloc (.cells #[.bool false,.slice none 0 0,.slice none 0 0] 83):=⟨_,rfl⟩
       rw [←hu8] at hx8 hal8 ⊢;clear hu8;replace hr1:=hr1.below hal8;have hS:=HCS.out u8 (kb.trans (hal8.mono kb.size));replace kb:=kb.trans (hal8.mono kb.size);clear hal8;clear hsz;refine HKK8.out _ _ (.inr hS) ?_;clear HKK8
       try simp only [Act.put,sA,sZ,sS]
       refine wpAnyE_two (i:=7) (j:=9) (by kernel_rfl) rfl rfl (fun KK hKK=>?_) (fun KK hKK=>?_)
       · have HKK7:=Lib.hid hKK
         clear hKK;go_simp
         go_at_call 63
         refine (HCB.out _ kb).mono ?_;rintro e u2 ⟨b2,rfl,hr2,hb2⟩;replace hx8:=box_keep hx8 hb2;replace hr1:=hr1.below hb2;have hS:=HCS.out u2 (kb.trans (hb2.mono kb.size));replace kb:=kb.trans (hb2.mono kb.size);clear hb2;refine HKK7.out _ _ (.inr hS) ?_;clear HKK7
         try simp only [Act.put,sA,sZ,sS]
         refine onE 9 fun KK HKK9=>?_
         go_simp;have hx9:=heap_alloc_new u2 (.cells #[.bool false,.slice none 0 0,.slice none 0 0] 83);have hal9:=(Below.refl u2.heap.size u2).alloc (Nat.le_refl _) (.cells #[.bool false,.slice none 0 0,.slice none 0 0] 83);have hgl9:=kb.size
         obtain ⟨g9,hsz⟩:∃ x,x=u2.heap.size:=⟨_,rfl⟩
         rw [←hsz] at hx9 hgl9 ⊢
         obtain ⟨u9,hu9⟩:∃ x,x=u2.alloc (.cells #[.bool false,.slice none 0 0,.slice none 0 0] 83):=⟨_,rfl⟩
         rw [←hu9] at hx9 hal9 ⊢;clear hu9
         have hne:g8≠g9:=by have:=lt_of_blk hx8;omega
         replace hx8:=box_keep hx8 hal9;replace hr1:=hr1.below hal9;replace hr2:=hr2.below hal9;have hS:=HCS.out u9 (kb.trans (hal9.mono kb.size));replace kb:=kb.trans (hal9.mono kb.size);clear hal9;clear hsz;refine HKK9.out _ _ (.inr hS) ?_;clear HKK9
         try simp only [Act.put,sA,sZ,sS]
         obtain ⟨p0,p1,p2⟩:=Box.of hx8;have z0:=frozen_of_blk hx8 0;have z1:=frozen_of_blk hx8 1;have z2:=frozen_of_blk hx8 2;have HX8:=Lib.hid hx8;have HX9:=Lib.hid hx9;have HR1:=Lib.hid hr1;have HR2:=Lib.hid hr2;have HNE:=Lib.hid hne;have HKB:=Lib.hid kb;clear hx8 hx9 hr1 hr2 hne kb hS
         refine onE 10 fun KK HKK10=>?_
         go_simp;have hkb3:Below w3.heap.size w3 (put3 u9 g8 (ratNeg (coT (tmsOf ea.l) v)) b1):=bl_set (bl_set (bl_set HKB.out hgl8) hgl8) hgl8;have hS:=HCS.out _ hkb3;refine HKK10.out _ (put3 u9 g8 (ratNeg (coT (tmsOf ea.l) v)) b1) (.inr hS) ?_;clear HKK10 p0 p1 p2 z0 z1 z2;have hf:=put3_fr u9 g8 (ratNeg (coT (tmsOf ea.l) v)) b1;have hx8:=put3_blk HX8.out (ratNeg (coT (tmsOf ea.l) v)) b1;have hx9:=put3_far HX9.out (Ne.symm HNE.out) (ratNeg (coT (tmsOf ea.l) v)) b1;have hr1:=HR1.out.fr hf (typB_of HX8.out (by decide));have hr2:=HR2.out.fr hf (typB_of HX8.out (by decide));clear hf HX8 HX9 HR1 HR2 HKB
         obtain ⟨us,hus⟩:∃ x,x=put3 u9 g8 (ratNeg (coT (tmsOf ea.l) v)) b1:=⟨_,rfl⟩
         rw [←hus] at hx8 hx9 hr1 hr2 hkb3 hS ⊢;clear hus;obtain ⟨p0,p1,p2⟩:=Box.of hx9;have z0:=frozen_of_blk hx9 0;have z1:=frozen_of_blk hx9 1;have z2:=frozen_of_blk hx9 2;have HX8:=Lib.hid hx8;have HX9:=Lib.hid hx9;have HR1:=Lib.hid hr1;have HR2:=Lib.hid hr2;have HKB:=Lib.hid hkb3;clear hx8 hx9 hr1 hr2 hkb3 hS
         refine onE 11 fun KK HKK11=>?_
         go_simp;refine HKK11.out _ _ (.inl rfl) ?_;clear HKK11;refine wpAnyE_done (by kernel_rfl) ?_ _
         go_wp2_with fail
         go_meet;exact ⟨g8,g9,b1,b2,rfl,rfl,hgl8,hgl9,put3_far HX8.out HNE.out _ b2,put3_blk HX9.out _ b2,HR1.out.fr (put3_fr us g9 _ b2) (typB_of HX9.out (by decide)),HR2.out.fr (put3_fr us g9 _ b2) (typB_of HX9.out (by decide)),bl_set (bl_set (bl_set HKB.out hgl9) hgl9) hgl9⟩
       · have HKK9:=Lib.hid hKK
         clear hKK;go_simp;have hx9:=heap_alloc_new u8 (.cells #[.bool false,.slice none 0 0,.slice none 0 0] 83);have hal9:=(Below.refl u8.heap.size u8).alloc (Nat.le_refl _) (.cells #[.bool false,.slice none 0 0,.slice none 0 0] 83);have hgl9:=kb.size
         obtain ⟨g9,hsz⟩:∃ x,x=u8.heap.size:=⟨_,rfl⟩
         rw [←hsz] at hx9 hgl9 ⊢
         obtain ⟨u9,hu9⟩:∃ x,x=u8.alloc (.cells #[.bool false,.slice none 0 0,.slice none 0 0] 83):=⟨_,rfl⟩
         rw [←hu9] at hx9 hal9 ⊢;clear hu9
         have hne:g8≠g9:=by have:=lt_of_blk hx8;omega
         replace hx8:=box_keep hx8 hal9;replace hr1:=hr1.below hal9;have hS:=HCS.out u9 (kb.trans (hal9.mono kb.size));replace kb:=kb.trans (hal9.mono kb.size);clear hal9;clear hsz;refine HKK9.out _ _ (.inr hS) ?_;clear HKK9
         try simp only [Act.put,sA,sZ,sS]
         refine onE 7 fun KK HKK7=>?_
         go_simp
         go_at_call 63
         refine (HCB.out _ kb).mono ?_;rintro e u2 ⟨b2,rfl,hr2,hb2⟩;replace hx8:=box_keep hx8 hb2;replace hx9:=box_keep hx9 hb2;replace hr1:=hr1.below hb2;have hS:=HCS.out u2 (kb.trans (hb2.mono kb.size));replace kb:=kb.trans (hb2.mono kb.size);clear hb2;refine HKK7.out _ _ (.inr hS) ?_;clear HKK7
         try simp only [Act.put,sA,sZ,sS]
         obtain ⟨p0,p1,p2⟩:=Box.of hx8;have z0:=frozen_of_blk hx8 0;have z1:=frozen_of_blk hx8 1;have z2:=frozen_of_blk hx8 2;have HX8:=Lib.hid hx8;have HX9:=Lib.hid hx9;have HR1:=Lib.hid hr1;have HR2:=Lib.hid hr2;have HNE:=Lib.hid hne;have HKB:=Lib.hid kb;clear hx8 hx9 hr1 hr2 hne kb hS
         refine onE 10 fun KK HKK10=>?_
         go_simp;have hkb3:Below w3.heap.size w3 (put3 u2 g8 (ratNeg (coT (tmsOf ea.l) v)) b1):=bl_set (bl_set (bl_set HKB.out hgl8) hgl8) hgl8;have hS:=HCS.out _ hkb3;refine HKK10.out _ (put3 u2 g8 (ratNeg (coT (tmsOf ea.l) v)) b1) (.inr hS) ?_;clear HKK10 p0 p1 p2 z0 z1 z2;have hf:=put3_fr u2 g8 (ratNeg (coT (tmsOf ea.l) v)) b1;have hx8:=put3_blk HX8.out (ratNeg (coT (tmsOf ea.l) v)) b1;have hx9:=put3_far HX9.out (Ne.symm HNE.out) (ratNeg (coT (tmsOf ea.l) v)) b1;have hr1:=HR1.out.fr hf (typB_of HX8.out (by decide));have hr2:=HR2.out.fr hf (typB_of HX8.out (by decide));clear hf HX8 HX9 HR1 HR2 HKB
         obtain ⟨us,hus⟩:∃ x,x=put3 u2 g8 (ratNeg (coT (tmsOf ea.l) v)) b1:=⟨_,rfl⟩
         rw [←hus] at hx8 hx9 hr1 hr2 hkb3 hS ⊢;clear hus;obtain ⟨p0,p1,p2⟩:=Box.of hx9;have z0:=frozen_of_blk hx9 0;have z1:=frozen_of_blk hx9 1;have z2:=frozen_of_blk hx9 2;have HX8:=Lib.hid hx8;have HX9:=Lib.hid hx9;have HR1:=Lib.hid hr1;have HR2:=Lib.hid hr2;have HKB:=Lib.hid hkb3;clear hx8 hx9 hr1 hr2 hkb3 hS
         refine onE 11 fun KK HKK11=>?_
         go_simp;refine HKK11.out _ _ (.inl rfl) ?_;clear HKK11;refine wpAnyE_done (by kernel_rfl) ?_ _
         go_wp2_with fail
         go_meet;exact ⟨g8,g9,b1,b2,rfl,rfl,hgl8,hgl9,put3_far HX8.out HNE.out _ b2,put3_blk HX9.out _ b2,HR1.out.fr (put3_fr us g9 _ b2) (typB_of HX9.out (by decide)),HR2.out.fr (put3_fr us g9 _ b2) (typB_of HX9.out (by decide)),bl_set (bl_set (bl_set HKB.out hgl9) hgl9) hgl9⟩
     · have HKK9:=Lib.hid hKK
       clear hKK;go_simp;have hx9:=heap_alloc_new u1 (.cells #[.bool false,.slice none 0 0,.slice none 0 0] 83);have hal9:=(Below.refl u1.heap.size u1).alloc (Nat.le_refl _) (.cells #[.bool false,.slice none 0 0,.slice none 0 0] 83);have hgl9:=kb.size
       obtain ⟨g9,hsz⟩:∃ x,x=u1.heap.size:=⟨_,rfl⟩
       rw [←hsz] at hx9 hgl9 ⊢
       obtain ⟨u9,hu9⟩:∃ x,x=u1.alloc (.cells #[.bool false,.slice none 0 0,.slice none 0 0] 83):=⟨_,rfl⟩
       rw [←hu9] at hx9 hal9 ⊢;clear hu9;replace hr1:=hr1.below hal9;have hS:=HCS.out u9 (kb.trans (hal9.mono kb.size));replace kb:=kb.trans (hal9.mono kb.size);clear hal9;clear hsz;refine HKK9.out _ _ (.inr hS) ?_;clear HKK9
       try simp only [Act.put,sA,sZ,sS]
       refine wpAnyE_two (i:=7) (j:=8) (by kernel_rfl) rfl rfl (fun KK hKK=>?_) (fun KK hKK=>?_)
       · have HKK7:=Lib.hid hKK
         clear hKK;go_simp
         go_at_call 63
         refine (HCB.out _ kb).mono ?_;rintro e u2 ⟨b2,rfl,hr2,hb2⟩;replace hx9:=box_keep hx9 hb2;replace hr1:=hr1.below hb2;have hS:=HCS.out u2 (kb.trans (hb2.mono kb.size));replace kb:=kb.trans (hb2.mono kb.size);clear hb2;refine HKK7.out _ _ (.inr hS) ?_;clear HKK7
         try simp only [Act.put,sA,sZ,sS]
         refine onE 8 fun KK HKK8=>?_
         go_simp;have hx8:=heap_alloc_new u2 (.cells #[.bool false,.slice none 0 0,.slice none 0 0] 83);have hal8:=(Below.refl u2.heap.size u2).alloc (Nat.le_refl _) (.cells #[.bool false,.slice none 0 0,.slice none 0 0] 83);have hgl8:=kb.size
         obtain ⟨g8,hsz⟩:∃ x,x=u2.heap.size:=⟨_,rfl⟩
         rw [←hsz] at hx8 hgl8 ⊢
         obtain ⟨u8,hu8⟩:∃ x,x=u2.alloc (.cells #[.bool false,.slice none 0 0,.slice none 0 0] 83):=⟨_,rfl⟩
         rw [←hu8] at hx8 hal8 ⊢;clear hu8
         have hne:g8≠g9:=by have:=lt_of_blk hx9;omega
         replace hx9:=box_keep hx9 hal8;replace hr1:=hr1.below hal8;replace hr2:=hr2.below hal8;have hS:=HCS.out u8 (kb.trans (hal8.mono kb.size));replace kb:=kb.trans (hal8.mono kb.size);clear hal8;clear hsz;refine HKK8.out _ _ (.inr hS) ?_;clear HKK8
         try simp only [Act.put,sA,sZ,sS]
         obtain ⟨p0,p1,p2⟩:=Box.of hx8;have z0:=frozen_of_blk hx8 0;have z1:=frozen_of_blk hx8 1;have z2:=frozen_of_blk hx8 2;have HX8:=Lib.hid hx8;have HX9:=Lib.hid hx9;have HR1:=Lib.hid hr1;have HR2:=Lib.hid hr2;have HNE:=Lib.hid hne;have HKB:=Lib.hid kb;clear hx8 hx9 hr1 hr2 hne kb hS
         refine onE 10 fun KK HKK10=>?_
         go_simp;have hkb3:Below w3.heap.size w3 (put3 u8 g8 (ratNeg (coT (tmsOf ea.l) v)) b1):=bl_set (bl_set (bl_set HKB.out hgl8) hgl8) hgl8;have hS:=HCS.out _ hkb3;refine HKK10.out _ (put3 u8 g8 (ratNeg (coT (tmsOf ea.l) v)) b1) (.inr hS) ?_;clear HKK10 p0 p1 p2 z0 z1 z2;have hf:=put3_fr u8 g8 (ratNeg (coT (tmsOf ea.l) v)) b1;have hx8:=put3_blk HX8.out (ratNeg (coT (tmsOf ea.l) v)) b1;have hx9:=put3_far HX9.out (Ne.symm HNE.out) (ratNeg (coT (tmsOf ea.l) v)) b1;have hr1:=HR1.out.fr hf (typB_of HX8.out (by decide));have hr2:=HR2.out.fr hf (typB_of HX8.out (by decide));clear hf HX8 HX9 HR1 HR2 HKB
         obtain ⟨us,hus⟩:∃ x,x=put3 u8 g8 (ratNeg (coT (tmsOf ea.l) v)) b1:=⟨_,rfl⟩
         rw [←hus] at hx8 hx9 hr1 hr2 hkb3 hS ⊢;clear hus;obtain ⟨p0,p1,p2⟩:=Box.of hx9;have z0:=frozen_of_blk hx9 0;have z1:=frozen_of_blk hx9 1;have z2:=frozen_of_blk hx9 2;have HX8:=Lib.hid hx8;have HX9:=Lib.hid hx9;have HR1:=Lib.hid hr1;have HR2:=Lib.hid hr2;have HKB:=Lib.hid hkb3;clear hx8 hx9 hr1 hr2 hkb3 hS
         refine onE 11 fun KK HKK11=>?_
         go_simp;refine HKK11.out _ _ (.inl rfl) ?_;clear HKK11;refine wpAnyE_done (by kernel_rfl) ?_ _
         go_wp2_with fail
         go_meet;exact ⟨g8,g9,b1,b2,rfl,rfl,hgl8,hgl9,put3_far HX8.out HNE.out _ b2,put3_blk HX9.out _ b2,HR1.out.fr (put3_fr us g9 _ b2) (typB_of HX9.out (by decide)),HR2.out.fr (put3_fr us g9 _ b2) (typB_of HX9.out (by decide)),bl_set (bl_set (bl_set HKB.out hgl9) hgl9) hgl9⟩
       · have HKK8:=Lib.hid hKK
         clear hKK;go_simp;have hx8:=heap_alloc_new u9 (.cells #[.bool false,.slice none 0 0,.slice none 0 0] 83);have hal8:=(Below.refl u9.heap.size u9).alloc (Nat.le_refl _) (.cells #[.bool false,.slice none 0 0,.slice none 0 0] 83);have hgl8:=kb.size
         obtain ⟨g8,hsz⟩:∃ x,x=u9.heap.size:=⟨_,rfl⟩
         rw [←hsz] at hx8 hgl8 ⊢
         obtain ⟨u8,hu8⟩:∃ x,x=u9.alloc (.cells #[.bool false,.slice none 0 0,.slice none 0 0] 83):=⟨_,rfl⟩
         rw [←hu8] at hx8 hal8 ⊢;clear hu8
         have hne:g8≠g9:=by have:=lt_of_blk hx9;omega
         replace hx9:=box_keep hx9 hal8;replace hr1:=hr1.below hal8;have hS:=HCS.out u8 (kb.trans (hal8.mono kb.size));replace kb:=kb.trans (hal8.mono kb.size);clear hal8;clear hsz;refine HKK8.out _ _ (.inr hS) ?_;clear HKK8
         try simp only [Act.put,sA,sZ,sS]
         refine onE 7 fun KK HKK7=>?_
         go_simp
         go_at_call 63
         refine (HCB.out _ kb).mono ?_;rintro e u2 ⟨b2,rfl,hr2,hb2⟩;replace hx8:=box_keep hx8 hb2;replace hx9:=box_keep hx9 hb2;replace hr1:=hr1.below hb2;have hS:=HCS.out u2 (kb.trans (hb2.mono kb.size));replace kb:=kb.trans (hb2.mono kb.size);clear hb2;refine HKK7.out _ _ (.inr hS) ?_;clear HKK7
         try simp only [Act.put,sA,sZ,sS]
         obtain ⟨p0,p1,p2⟩:=Box.of hx8;have z0:=frozen_of_blk hx8 0;have z1:=frozen_of_blk hx8 1;have z2:=frozen_of_blk hx8 2;have HX8:=Lib.hid hx8;have HX9:=Lib.hid hx9;have HR1:=Lib.hid hr1;have HR2:=Lib.hid hr2;have HNE:=Lib.hid hne;have HKB:=Lib.hid kb;clear hx8 hx9 hr1 hr2 hne kb hS
         refine onE 10 fun KK HKK10=>?_
         go_simp;have hkb3:Below w3.heap.size w3 (put3 u2 g8 (ratNeg (coT (tmsOf ea.l) v)) b1):=bl_set (bl_set (bl_set HKB.out hgl8) hgl8) hgl8;have hS:=HCS.out _ hkb3;refine HKK10.out _ (put3 u2 g8 (ratNeg (coT (tmsOf ea.l) v)) b1) (.inr hS) ?_;clear HKK10 p0 p1 p2 z0 z1 z2;have hf:=put3_fr u2 g8 (ratNeg (coT (tmsOf ea.l) v)) b1;have hx8:=put3_blk HX8.out (ratNeg (coT (tmsOf ea.l) v)) b1;have hx9:=put3_far HX9.out (Ne.symm HNE.out) (ratNeg (coT (tmsOf ea.l) v)) b1;have hr1:=HR1.out.fr hf (typB_of HX8.out (by decide));have hr2:=HR2.out.fr hf (typB_of HX8.out (by decide));clear hf HX8 HX9 HR1 HR2 HKB
         obtain ⟨us,hus⟩:∃ x,x=put3 u2 g8 (ratNeg (coT (tmsOf ea.l) v)) b1:=⟨_,rfl⟩
         rw [←hus] at hx8 hx9 hr1 hr2 hkb3 hS ⊢;clear hus;obtain ⟨p0,p1,p2⟩:=Box.of hx9;have z0:=frozen_of_blk hx9 0;have z1:=frozen_of_blk hx9 1;have z2:=frozen_of_blk hx9 2;have HX8:=Lib.hid hx8;have HX9:=Lib.hid hx9;have HR1:=Lib.hid hr1;have HR2:=Lib.hid hr2;have HKB:=Lib.hid hkb3;clear hx8 hx9 hr1 hr2 hkb3 hS
         refine onE 11 fun KK HKK11=>?_
         go_simp;refine HKK11.out _ _ (.inl rfl) ?_;clear HKK11;refine wpAnyE_done (by kernel_rfl) ?_ _
         go_wp2_with fail
         go_meet;exact ⟨g8,g9,b1,b2,rfl,rfl,hgl8,hgl9,put3_far HX8.out HNE.out _ b2,put3_blk HX9.out _ b2,HR1.out.fr (put3_fr us g9 _ b2) (typB_of HX9.out (by decide)),HR2.out.fr (put3_fr us g9 _ b2) (typB_of HX9.out (by decide)),bl_set (bl_set (bl_set HKB.out hgl9) hgl9) hgl9⟩
   · have HKK8:=Lib.hid hKK
     clear hKK;go_simp;have hx8:=heap_alloc_new w4 (.cells #[.bool false,.slice none 0 0,.slice none 0 0] 83);have hal8:=(Below.refl w4.heap.size w4).alloc (Nat.le_refl _) (.cells #[.bool false,.slice none 0 0,.slice none 0 0] 83);have hgl8:=kb.size
     obtain ⟨g8,hsz⟩:∃ x,x=w4.heap.size:=⟨_,rfl⟩
     rw [←hsz] at hx8 hgl8 ⊢
     obtain ⟨u8,hu8⟩:∃ x,x=w4.alloc (.cells #[.bool false,.slice none 0 0,.slice none 0 0] 83):=⟨_,rfl⟩
     rw [←hu8] at hx8 hal8 ⊢;clear hu8;have hS:=HCS.out u8 (kb.trans (hal8.mono kb.size));replace kb:=kb.trans (hal8.mono kb.size);clear hal8;clear hsz;refine HKK8.out _ _ (.inr hS) ?_;clear HKK8
     try simp only [Act.put,sA,sZ,sS]
     refine wpAnyE_two (i:=3) (j:=9) (by kernel_rfl) rfl rfl (fun KK hKK=>?_) (fun KK hKK=>?_)
     · have HKK3:=Lib.hid hKK
       clear hKK;go_simp
       go_at_call 63
       refine (HCA.out _ kb).mono ?_;rintro e u1 ⟨b1,rfl,hr1,hb1⟩;replace hx8:=box_keep hx8 hb1;have hS:=HCS.out u1 (kb.trans (hb1.mono kb.size));replace kb:=kb.trans (hb1.mono kb.size);clear hb1;refine HKK3.out _ _ (.inr hS) ?_;clear HKK3
       try simp only [Act.put,sA,sZ,sS]
       refine wpAnyE_two (i:=7) (j:=9) (by kernel_rfl) rfl rfl (fun KK hKK=>?_) (fun KK hKK=>?_)
       · have HKK7:=Lib.hid hKK
         clear hKK;go_simp
         go_at_call 63
         refine (HCB.out _ kb).mono ?_;rintro e u2 ⟨b2,rfl,hr2,hb2⟩;replace hx8:=box_keep hx8 hb2;replace hr1:=hr1.below hb2;have hS:=HCS.out u2 (kb.trans (hb2.mono kb.size));replace kb:=kb.trans (hb2.mono kb.size);clear hb2;refine HKK7.out _ _ (.inr hS) ?_;clear HKK7
         try simp only [Act.put,sA,sZ,sS]
         refine onE 9 fun KK HKK9=>?_
         go_simp;have hx9:=heap_alloc_new u2 (.cells #[.bool false,.slice none 0 0,.slice none 0 0] 83);have hal9:=(Below.refl u2.heap.size u2).alloc (Nat.le_refl _) (.cells #[.bool false,.slice none 0 0,.slice none 0 0] 83);have hgl9:=kb.size
         obtain ⟨g9,hsz⟩:∃ x,x=u2.heap.size:=⟨_,rfl⟩
         rw [←hsz] at hx9 hgl9 ⊢
         obtain ⟨u9,hu9⟩:∃ x,x=u2.alloc (.cells #[.bool false,.slice none 0 0,.slice none 0 0] 83):=⟨_,rfl⟩
         rw [←hu9] at hx9 hal9 ⊢;clear hu9
         have hne:g8≠g9:=by have:=lt_of_blk hx8;omega
         replace hx8:=box_keep hx8 hal9;replace hr1:=hr1.below hal9;replace hr2:=hr2.below hal9;have hS:=HCS.out u9 (kb.trans (hal9.mono kb.size));replace kb:=kb.trans (hal9.mono kb.size);clear hal9;clear hsz;refine HKK9.out _ _ (.inr hS) ?_;clear HKK9
         try simp only [Act.put,sA,sZ,sS]
         obtain ⟨p0,p1,p2⟩:=Box.of hx8;have z0:=frozen_of_blk hx8 0;have z1:=frozen_of_blk hx8 1;have z2:=frozen_of_blk hx8 2;have HX8:=Lib.hid hx8;have HX9:=Lib.hid hx9;have HR1:=Lib.hid hr1;have HR2:=Lib.hid hr2;have HNE:=Lib.hid hne;have HKB:=Lib.hid kb;clear hx8 hx9 hr1 hr2 hne kb hS
         refine onE 10 fun KK HKK10=>?_
         go_simp;have hkb3:Below w3.heap.size w3 (put3 u9 g8 (ratNeg (coT (tmsOf ea.l) v)) b1):=bl_set (bl_set (bl_set HKB.out hgl8) hgl8) hgl8;have hS:=HCS.out _ hkb3;refine HKK10.out _ (put3 u9 g8 (ratNeg (coT (tmsOf ea.l) v)) b1) (.inr hS) ?_;clear HKK10 p0 p1 p2 z0 z1 z2;have hf:=put3_fr u9 g8 (ratNeg (coT (tmsOf ea.l) v)) b1;have hx8:=put3_blk HX8.out (ratNeg (coT (tmsOf ea.l) v)) b1;have hx9:=put3_far HX9.out (Ne.symm HNE.out) (ratNeg (coT (tmsOf ea.l) v)) b1;have hr1:=HR1.out.fr hf (typB_of HX8.out (by decide));have hr2:=HR2.out.fr hf (typB_of HX8.out (by decide));clear hf HX8 HX9 HR1 HR2 HKB
         obtain ⟨us,hus⟩:∃ x,x=put3 u9 g8 (ratNeg (coT (tmsOf ea.l) v)) b1:=⟨_,rfl⟩
         rw [←hus] at hx8 hx9 hr1 hr2 hkb3 hS ⊢;clear hus;obtain ⟨p0,p1,p2⟩:=Box.of hx9;have z0:=frozen_of_blk hx9 0;have z1:=frozen_of_blk hx9 1;have z2:=frozen_of_blk hx9 2;have HX8:=Lib.hid hx8;have HX9:=Lib.hid hx9;have HR1:=Lib.hid hr1;have HR2:=Lib.hid hr2;have HKB:=Lib.hid hkb3;clear hx8 hx9 hr1 hr2 hkb3 hS
         refine onE 11 fun KK HKK11=>?_
         go_simp;refine HKK11.out _ _ (.inl rfl) ?_;clear HKK11;refine wpAnyE_done (by kernel_rfl) ?_ _
         go_wp2_with fail
         go_meet;exact ⟨g8,g9,b1,b2,rfl,rfl,hgl8,hgl9,put3_far HX8.out HNE.out _ b2,put3_blk HX9.out _ b2,HR1.out.fr (put3_fr us g9 _ b2) (typB_of HX9.out (by decide)),HR2.out.fr (put3_fr us g9 _ b2) (typB_of HX9.out (by decide)),bl_set (bl_set (bl_set HKB.out hgl9) hgl9) hgl9⟩
       · have HKK9:=Lib.hid hKK
         clear hKK;go_simp;have hx9:=heap_alloc_new u1 (.cells #[.bool false,.slice none 0 0,.slice none 0 0] 83);have hal9:=(Below.refl u1.heap.size u1).alloc (Nat.le_refl _) (.cells #[.bool false,.slice none 0 0,.slice none 0 0] 83);have hgl9:=kb.size
         obtain ⟨g9,hsz⟩:∃ x,x=u1.heap.size:=⟨_,rfl⟩
         rw [←hsz] at hx9 hgl9 ⊢
         obtain ⟨u9,hu9⟩:∃ x,x=u1.alloc (.cells #[.bool false,.slice none 0 0,.slice none 0 0] 83):=⟨_,rfl⟩
         rw [←hu9] at hx9 hal9 ⊢;clear hu9
         have hne:g8≠g9:=by have:=lt_of_blk hx8;omega
         replace hx8:=box_keep hx8 hal9;replace hr1:=hr1.below hal9;have hS:=HCS.out u9 (kb.trans (hal9.mono kb.size));replace kb:=kb.trans (hal9.mono kb.size);clear hal9;clear hsz;refine HKK9.out _ _ (.inr hS) ?_;clear HKK9
         try simp only [Act.put,sA,sZ,sS]
         refine onE 7 fun KK HKK7=>?_
         go_simp
         go_at_call 63
         refine (HCB.out _ kb).mono ?_;rintro e u2 ⟨b2,rfl,hr2,hb2⟩;replace hx8:=box_keep hx8 hb2;replace hx9:=box_keep hx9 hb2;replace hr1:=hr1.below hb2;have hS:=HCS.out u2 (kb.trans (hb2.mono kb.size));replace kb:=kb.trans (hb2.mono kb.size);clear hb2;refine HKK7.out _ _ (.inr hS) ?_;clear HKK7
         try simp only [Act.put,sA,sZ,sS]
         obtain ⟨p0,p1,p2⟩:=Box.of hx8;have z0:=frozen_of_blk hx8 0;have z1:=frozen_of_blk hx8 1;have z2:=frozen_of_blk hx8 2;have HX8:=Lib.hid hx8;have HX9:=Lib.hid hx9;have HR1:=Lib.hid hr1;have HR2:=Lib.hid hr2;have HNE:=Lib.hid hne;have HKB:=Lib.hid kb;clear hx8 hx9 hr1 hr2 hne kb hS
         refine onE 10 fun KK HKK10=>?_
         go_simp;have hkb3:Below w3.heap.size w3 (put3 u2 g8 (ratNeg (coT (tmsOf ea.l) v)) b1):=bl_set (bl_set (bl_set HKB.out hgl8) hgl8) hgl8;have hS:=HCS.out _ hkb3;refine HKK10.out _ (put3 u2 g8 (ratNeg (coT (tmsOf ea.l) v)) b1) (.inr hS) ?_;clear HKK10 p0 p1 p2 z0 z1 z2;have hf:=put3_fr u2 g8 (ratNeg (coT (tmsOf ea.l) v)) b1;have hx8:=put3_blk HX8.out (ratNeg (coT (tmsOf ea.l) v)) b1;have hx9:=put3_far HX9.out (Ne.symm HNE.out) (ratNeg (coT (tmsOf ea.l) v)) b1;have hr1:=HR1.out.fr hf (typB_of HX8.out (by decide));have hr2:=HR2.out.fr hf (typB_of HX8.out (by decide));clear hf HX8 HX9 HR1 HR2 HKB
         obtain ⟨us,hus⟩:∃ x,x=put3 u2 g8 (ratNeg (coT (tmsOf ea.l) v)) b1:=⟨_,rfl⟩
         rw [←hus] at hx8 hx9 hr1 hr2 hkb3 hS ⊢;clear hus;obtain ⟨p0,p1,p2⟩:=Box.of hx9;have z0:=frozen_of_blk hx9 0;have z1:=frozen_of_blk hx9 1;have z2:=frozen_of_blk hx9 2;have HX8:=Lib.hid hx8;have HX9:=Lib.hid hx9;have HR1:=Lib.hid hr1;have HR2:=Lib.hid hr2;have HKB:=Lib.hid hkb3;clear hx8 hx9 hr1 hr2 hkb3 hS
         refine onE 11 fun KK HKK11=>?_
         go_simp;refine HKK11.out _ _ (.inl rfl) ?_;clear HKK11;refine wpAnyE_done (by kernel_rfl) ?_ _
         go_wp2_with fail
         go_meet;exact ⟨g8,g9,b1,b2,rfl,rfl,hgl8,hgl9,put3_far HX8.out HNE.out _ b2,put3_blk HX9.out _ b2,HR1.out.fr (put3_fr us g9 _ b2) (typB_of HX9.out (by decide)),HR2.out.fr (put3_fr us g9 _ b2) (typB_of HX9.out (by decide)),bl_set (bl_set (bl_set HKB.out hgl9) hgl9) hgl9⟩
     · have HKK9:=Lib.hid hKK
       clear hKK;go_simp;have hx9:=heap_alloc_new u8 (.cells #[.bool false,.slice none 0 0,.slice none 0 0] 83);have hal9:=(Below.refl u8.heap.size u8).alloc (Nat.le_refl _) (.cells #[.bool false,.slice none 0 0,.slice none 0 0] 83);have hgl9:=kb.size
       obtain ⟨g9,hsz⟩:∃ x,x=u8.heap.size:=⟨_,rfl⟩
       rw [←hsz] at hx9 hgl9 ⊢
       obtain ⟨u9,hu9⟩:∃ x,x=u8.alloc (.cells #[.bool false,.slice none 0 0,.slice none 0 0] 83):=⟨_,rfl⟩
       rw [←hu9] at hx9 hal9 ⊢;clear hu9
       have hne:g8≠g9:=by have:=lt_of_blk hx8;omega
       replace hx8:=box_keep hx8 hal9;have hS:=HCS.out u9 (kb.trans (hal9.mono kb.size));replace kb:=kb.trans (hal9.mono kb.size);clear hal9;clear hsz;refine HKK9.out _ _ (.inr hS) ?_;clear HKK9
       try simp only [Act.put,sA,sZ,sS]
       refine onE 3 fun KK HKK3=>?_
       go_simp
       go_at_call 63
       refine (HCA.out _ kb).mono ?_;rintro e u1 ⟨b1,rfl,hr1,hb1⟩;replace hx8:=box_keep hx8 hb1;replace hx9:=box_keep hx9 hb1;have hS:=HCS.out u1 (kb.trans (hb1.mono kb.size));replace kb:=kb.trans (hb1.mono kb.size);clear hb1;refine HKK3.out _ _ (.inr hS) ?_;clear HKK3
       try simp only [Act.put,sA,sZ,sS]
       refine onE 7 fun KK HKK7=>?_
       go_simp
       go_at_call 63
       refine (HCB.out _ kb).mono ?_;rintro e u2 ⟨b2,rfl,hr2,hb2⟩;replace hx8:=box_keep hx8 hb2;replace hx9:=box_keep hx9 hb2;replace hr1:=hr1.below hb2;have hS:=HCS.out u2 (kb.trans (hb2.mono kb.size));replace kb:=kb.trans (hb2.mono kb.size);clear hb2;refine HKK7.out _ _ (.inr hS) ?_;clear HKK7
       try simp only [Act.put,sA,sZ,sS]
       obtain ⟨p0,p1,p2⟩:=Box.of hx8;have z0:=frozen_of_blk hx8 0;have z1:=frozen_of_blk hx8 1;have z2:=frozen_of_blk hx8 2;have HX8:=Lib.hid hx8;have HX9:=Lib.hid hx9;have HR1:=Lib.hid hr1;have HR2:=Lib.hid hr2;have HNE:=Lib.hid hne;have HKB:=Lib.hid kb;clear hx8 hx9 hr1 hr2 hne kb hS
       refine onE 10 fun KK HKK10=>?_
       go_simp;have hkb3:Below w3.heap.size w3 (put3 u2 g8 (ratNeg (coT (tmsOf ea.l) v)) b1):=bl_set (bl_set (bl_set HKB.out hgl8) hgl8) hgl8;have hS:=HCS.out _ hkb3;refine HKK10.out _ (put3 u2 g8 (ratNeg (coT (tmsOf ea.l) v)) b1) (.inr hS) ?_;clear HKK10 p0 p1 p2 z0 z1 z2;have hf:=put3_fr u2 g8 (ratNeg (coT (tmsOf ea.l) v)) b1;have hx8:=put3_blk HX8.out (ratNeg (coT (tmsOf ea.l) v)) b1;have hx9:=put3_far HX9.out (Ne.symm HNE.out) (ratNeg (coT (tmsOf ea.l) v)) b1;have hr1:=HR1.out.fr hf (typB_of HX8.out (by decide));have hr2:=HR2.out.fr hf (typB_of HX8.out (by decide));clear hf HX8 HX9 HR1 HR2 HKB
       obtain ⟨us,hus⟩:∃ x,x=put3 u2 g8 (ratNeg (coT (tmsOf ea.l) v)) b1:=⟨_,rfl⟩
       rw [←hus] at hx8 hx9 hr1 hr2 hkb3 hS ⊢;clear hus;obtain ⟨p0,p1,p2⟩:=Box.of hx9;have z0:=frozen_of_blk hx9 0;have z1:=frozen_of_blk hx9 1;have z2:=frozen_of_blk hx9 2;have HX8:=Lib.hid hx8;have HX9:=Lib.hid hx9;have HR1:=Lib.hid hr1;have HR2:=Lib.hid hr2;have HKB:=Lib.hid hkb3;clear hx8 hx9 hr1 hr2 hkb3 hS
       refine onE 11 fun KK HKK11=>?_
       go_simp;refine HKK11.out _ _ (.inl rfl) ?_;clear HKK11;refine wpAnyE_done (by kernel_rfl) ?_ _
       go_wp2_with fail
       go_meet;exact ⟨g8,g9,b1,b2,rfl,rfl,hgl8,hgl9,put3_far HX8.out HNE.out _ b2,put3_blk HX9.out _ b2,HR1.out.fr (put3_fr us g9 _ b2) (typB_of HX9.out (by decide)),HR2.out.fr (put3_fr us g9 _ b2) (typB_of HX9.out (by decide)),bl_set (bl_set (bl_set HKB.out hgl9) hgl9) hgl9⟩
   · have HKK9:=Lib.hid hKK
     clear hKK;go_simp;have hx9:=heap_alloc_new w4 (.cells #[.bool false,.slice none 0 0,.slice none 0 0] 83);have hal9:=(Below.refl w4.heap.size w4).alloc (Nat.le_refl _) (.cells #[.bool false,.slice none 0 0,.slice none 0 0] 83);have hgl9:=kb.size
     obtain ⟨g9,hsz⟩:∃ x,x=w4.heap.size:=⟨_,rfl⟩
     rw [←hsz] at hx9 hgl9 ⊢
     obtain ⟨u9,hu9⟩:∃ x,x=w4.alloc (.cells #[.bool false,.slice none 0 0,.slice none 0 0] 83):=⟨_,rfl⟩
     rw [←hu9] at hx9 hal9 ⊢;clear hu9;have hS:=HCS.out u9 (kb.trans (hal9.mono kb.size));replace kb:=kb.trans (hal9.mono kb.size);clear hal9;clear hsz;refine HKK9.out _ _ (.inr hS) ?_;clear HKK9
     try simp only [Act.put,sA,sZ,sS]
     refine wpAnyE_two (i:=3) (j:=8) (by kernel_rfl) rfl rfl (fun KK hKK=>?_) (fun KK hKK=>?_)
     · have HKK3:=Lib.hid hKK
       clear hKK;go_simp
       go_at_call 63
       refine (HCA.out _ kb).mono ?_;rintro e u1 ⟨b1,rfl,hr1,hb1⟩;replace hx9:=box_keep hx9 hb1;have hS:=HCS.out u1 (kb.trans (hb1.mono kb.size));replace kb:=kb.trans (hb1.mono kb.size);clear hb1;refine HKK3.out _ _ (.inr hS) ?_;clear HKK3
       try simp only [Act.put,sA,sZ,sS]
       refine wpAnyE_two (i:=7) (j:=8) (by kernel_rfl) rfl rfl (fun KK hKK=>?_) (fun KK hKK=>?_)
       · have HKK7:=Lib.hid hKK
         clear hKK;go_simp
         go_at_call 63
         refine (HCB.out _ kb).mono ?_;rintro e u2 ⟨b2,rfl,hr2,hb2⟩;replace hx9:=box_keep hx9 hb2;replace hr1:=hr1.below hb2;have hS:=HCS.out u2 (kb.trans (hb2.mono kb.size));replace kb:=kb.trans (hb2.mono kb.size);clear hb2;refine HKK7.out _ _ (.inr hS) ?_;clear HKK7
         try simp only [Act.put,sA,sZ,sS]
         refine onE 8 fun KK HKK8=>?_
         go_simp;have hx8:=heap_alloc_new u2 (.cells #[.bool false,.slice none 0 0,.slice none 0 0] 83);have hal8:=(Below.refl u2.heap.size u2).alloc (Nat.le_refl _) (.cells #[.bool false,.slice none 0 0,.slice none 0 0] 83);have hgl8:=kb.size
         obtain ⟨g8,hsz⟩:∃ x,x=u2.heap.size:=⟨_,rfl⟩
         rw [←hsz] at hx8 hgl8 ⊢
         obtain ⟨u8,hu8⟩:∃ x,x=u2.alloc (.cells #[.bool false,.slice none 0 0,.slice none 0 0] 83):=⟨_,rfl⟩
         rw [←hu8] at hx8 hal8 ⊢;clear hu8
         have hne:g8≠g9:=by have:=lt_of_blk hx9;omega
         replace hx9:=box_keep hx9 hal8;replace hr1:=hr1.below hal8;replace hr2:=hr2.below hal8;have hS:=HCS.out u8 (kb.trans (hal8.mono kb.size));replace kb:=kb.trans (hal8.mono kb.size);clear hal8;clear hsz;refine HKK8.out _ _ (.inr hS) ?_;clear HKK8
         try simp only [Act.put,sA,sZ,sS]
         obtain ⟨p0,p1,p2⟩:=Box.of hx8;have z0:=frozen_of_blk hx8 0;have z1:=frozen_of_blk hx8 1;have z2:=frozen_of_blk hx8 2;have HX8:=Lib.hid hx8;have HX9:=Lib.hid hx9;have HR1:=Lib.hid hr1;have HR2:=Lib.hid hr2;have HNE:=Lib.hid hne;have HKB:=Lib.hid kb;clear hx8 hx9 hr1 hr2 hne kb hS
         refine onE 10 fun KK HKK10=>?_
         go_simp;have hkb3:Below w3.heap.size w3 (put3 u8 g8 (ratNeg (coT (tmsOf ea.l) v)) b1):=bl_set (bl_set (bl_set HKB.out hgl8) hgl8) hgl8;have hS:=HCS.out _ hkb3;refine HKK10.out _ (put3 u8 g8 (ratNeg (coT (tmsOf ea.l) v)) b1) (.inr hS) ?_;clear HKK10 p0 p1 p2 z0 z1 z2;have hf:=put3_fr u8 g8 (ratNeg (coT (tmsOf ea.l) v)) b1;have hx8:=put3_blk HX8.out (ratNeg (coT (tmsOf ea.l) v)) b1;have hx9:=put3_far HX9.out (Ne.symm HNE.out) (ratNeg (coT (tmsOf ea.l) v)) b1;have hr1:=HR1.out.fr hf (typB_of HX8.out (by decide));have hr2:=HR2.out.fr hf (typB_of HX8.out (by decide));clear hf HX8 HX9 HR1 HR2 HKB
         obtain ⟨us,hus⟩:∃ x,x=put3 u8 g8 (ratNeg (coT (tmsOf ea.l) v)) b1:=⟨_,rfl⟩
         rw [←hus] at hx8 hx9 hr1 hr2 hkb3 hS ⊢;clear hus;obtain ⟨p0,p1,p2⟩:=Box.of hx9;have z0:=frozen_of_blk hx9 0;have z1:=frozen_of_blk hx9 1;have z2:=frozen_of_blk hx9 2;have HX8:=Lib.hid hx8;have HX9:=Lib.hid hx9;have HR1:=Lib.hid hr1;have HR2:=Lib.hid hr2;have HKB:=Lib.hid hkb3;clear hx8 hx9 hr1 hr2 hkb3 hS
         refine onE 11 fun KK HKK11=>?_
         go_simp;refine HKK11.out _ _ (.inl rfl) ?_;clear HKK11;refine wpAnyE_done (by kernel_rfl) ?_ _
         go_wp2_with fail
         go_meet;exact ⟨g8,g9,b1,b2,rfl,rfl,hgl8,hgl9,put3_far HX8.out HNE.out _ b2,put3_blk HX9.out _ b2,HR1.out.fr (put3_fr us g9 _ b2) (typB_of HX9.out (by decide)),HR2.out.fr (put3_fr us g9 _ b2) (typB_of HX9.out (by decide)),bl_set (bl_set (bl_set HKB.out hgl9) hgl9) hgl9⟩
       · have HKK8:=Lib.hid hKK
         clear hKK;go_simp;have hx8:=heap_alloc_new u1 (.cells #[.bool false,.slice none 0 0,.slice none 0 0] 83);have hal8:=(Below.refl u1.heap.size u1).alloc (Nat.le_refl _) (.cells #[.bool false,.slice none 0 0,.slice none 0 0] 83);have hgl8:=kb.size
         obtain ⟨g8,hsz⟩:∃ x,x=u1.heap.size:=⟨_,rfl⟩
         rw [←hsz] at hx8 hgl8 ⊢
         obtain ⟨u8,hu8⟩:∃ x,x=u1.alloc (.cells #[.bool false,.slice none 0 0,.slice none 0 0] 83):=⟨_,rfl⟩
         rw [←hu8] at hx8 hal8 ⊢;clear hu8
         have hne:g8≠g9:=by have:=lt_of_blk hx9;omega
         replace hx9:=box_keep hx9 hal8;replace hr1:=hr1.below hal8;have hS:=HCS.out u8 (kb.trans (hal8.mono kb.size));replace kb:=kb.trans (hal8.mono kb.size);clear hal8;clear hsz;refine HKK8.out _ _ (.inr hS) ?_;clear HKK8
         try simp only [Act.put,sA,sZ,sS]
         refine onE 7 fun KK HKK7=>?_
         go_simp
         go_at_call 63
         refine (HCB.out _ kb).mono ?_;rintro e u2 ⟨b2,rfl,hr2,hb2⟩;replace hx8:=box_keep hx8 hb2;replace hx9:=box_keep hx9 hb2;replace hr1:=hr1.below hb2;have hS:=HCS.out u2 (kb.trans (hb2.mono kb.size));replace kb:=kb.trans (hb2.mono kb.size);clear hb2;refine HKK7.out _ _ (.inr hS) ?_;clear HKK7
         try simp only [Act.put,sA,sZ,sS]
         obtain ⟨p0,p1,p2⟩:=Box.of hx8;have z0:=frozen_of_blk hx8 0;have z1:=frozen_of_blk hx8 1;have z2:=frozen_of_blk hx8 2;have HX8:=Lib.hid hx8;have HX9:=Lib.hid hx9;have HR1:=Lib.hid hr1;have HR2:=Lib.hid hr2;have HNE:=Lib.hid hne;have HKB:=Lib.hid kb;clear hx8 hx9 hr1 hr2 hne kb hS
         refine onE 10 fun KK HKK10=>?_
         go_simp;have hkb3:Below w3.heap.size w3 (put3 u2 g8 (ratNeg (coT (tmsOf ea.l) v)) b1):=bl_set (bl_set (bl_set HKB.out hgl8) hgl8) hgl8;have hS:=HCS.out _ hkb3;refine HKK10.out _ (put3 u2 g8 (ratNeg (coT (tmsOf ea.l) v)) b1) (.inr hS) ?_;clear HKK10 p0 p1 p2 z0 z1 z2;have hf:=put3_fr u2 g8 (ratNeg (coT (tmsOf ea.l) v)) b1;have hx8:=put3_blk HX8.out (ratNeg (coT (tmsOf ea.l) v)) b1;have hx9:=put3_far HX9.out (Ne.symm HNE.out) (ratNeg (coT (tmsOf ea.l) v)) b1;have hr1:=HR1.out.fr hf (typB_of HX8.out (by decide));have hr2:=HR2.out.fr hf (typB_of HX8.out (by decide));clear hf HX8 HX9 HR1 HR2 HKB
         obtain ⟨us,hus⟩:∃ x,x=put3 u2 g8 (ratNeg (coT (tmsOf ea.l) v)) b1:=⟨_,rfl⟩
         rw [←hus] at hx8 hx9 hr1 hr2 hkb3 hS ⊢;clear hus;obtain ⟨p0,p1,p2⟩:=Box.of hx9;have z0:=frozen_of_blk hx9 0;have z1:=frozen_of_blk hx9 1;have z2:=frozen_of_blk hx9 2;have HX8:=Lib.hid hx8;have HX9:=Lib.hid hx9;have HR1:=Lib.hid hr1;have HR2:=Lib.hid hr2;have HKB:=Lib.hid hkb3;clear hx8 hx9 hr1 hr2 hkb3 hS
         refine onE 11 fun KK HKK11=>?_
         go_simp;refine HKK11.out _ _ (.inl rfl) ?_;clear HKK11;refine wpAnyE_done (by kernel_rfl) ?_ _
         go_wp2_with fail
         go_meet;exact ⟨g8,g9,b1,b2,rfl,rfl,hgl8,hgl9,put3_far HX8.out HNE.out _ b2,put3_blk HX9.out _ b2,HR1.out.fr (put3_fr us g9 _ b2) (typB_of HX9.out (by decide)),HR2.out.fr (put3_fr us g9 _ b2) (typB_of HX9.out (by decide)),bl_set (bl_set (bl_set HKB.out hgl9) hgl9) hgl9⟩
     · have HKK8:=Lib.hid hKK
       clear hKK;go_simp;have hx8:=heap_alloc_new u9 (.cells #[.bool false,.slice none 0 0,.slice none 0 0] 83);have hal8:=(Below.refl u9.heap.size u9).alloc (Nat.le_refl _) (.cells #[.bool false,.slice none 0 0,.slice none 0 0] 83);have hgl8:=kb.size
       obtain ⟨g8,hsz⟩:∃ x,x=u9.heap.size:=⟨_,rfl⟩
       rw [←hsz] at hx8 hgl8 ⊢
       obtain ⟨u8,hu8⟩:∃ x,x=u9.alloc (.cells #[.bool false,.slice none 0 0,.slice none 0 0] 83):=⟨_,rfl⟩
       rw [←hu8] at hx8 hal8 ⊢;clear hu8
       have hne:g8≠g9:=by have:=lt_of_blk hx9;omega
       replace hx9:=box_keep hx9 hal8;have hS:=HCS.out u8 (kb.trans (hal8.mono kb.size));replace kb:=kb.trans (hal8.mono kb.size);clear hal8;clear hsz;refine HKK8.out _ _ (.inr hS) ?_;clear HKK8
       try simp only [Act.put,sA,sZ,sS]
       refine onE 3 fun KK HKK3=>?_
       go_simp
       go_at_call 63
       refine (HCA.out _ kb).mono ?_;rintro e u1 ⟨b1,rfl,hr1,hb1⟩;replace hx8:=box_keep hx8 hb1;replace hx9:=box_keep hx9 hb1;have hS:=HCS.out u1 (kb.trans (hb1.mono kb.size));replace kb:=kb.trans (hb1.mono kb.size);clear hb1;refine HKK3.out _ _ (.inr hS) ?_;clear HKK3
       try simp only [Act.put,sA,sZ,sS]
       refine onE 7 fun KK HKK7=>?_
       go_simp
       go_at_call 63
       refine (HCB.out _ kb).mono ?_;rintro e u2 ⟨b2,rfl,hr2,hb2⟩;replace hx8:=box_keep hx8 hb2;replace hx9:=box_keep hx9 hb2;replace hr1:=hr1.below hb2;have hS:=HCS.out u2 (kb.trans (hb2.mono kb.size));replace kb:=kb.trans (hb2.mono kb.size);clear hb2;refine HKK7.out _ _ (.inr hS) ?_;clear HKK7
       try simp only [Act.put,sA,sZ,sS]
       obtain ⟨p0,p1,p2⟩:=Box.of hx8;have z0:=frozen_of_blk hx8 0;have z1:=frozen_of_blk hx8 1;have z2:=frozen_of_blk hx8 2;have HX8:=Lib.hid hx8;have HX9:=Lib.hid hx9;have HR1:=Lib.hid hr1;have HR2:=Lib.hid hr2;have HNE:=Lib.hid hne;have HKB:=Lib.hid kb;clear hx8 hx9 hr1 hr2 hne kb hS
       refine onE 10 fun KK HKK10=>?_
       go_simp;have hkb3:Below w3.heap.size w3 (put3 u2 g8 (ratNeg (coT (tmsOf ea.l) v)) b1):=bl_set (bl_set (bl_set HKB.out hgl8) hgl8) hgl8;have hS:=HCS.out _ hkb3;refine HKK10.out _ (put3 u2 g8 (ratNeg (coT (tmsOf ea.l) v)) b1) (.inr hS) ?_;clear HKK10 p0 p1 p2 z0 z1 z2;have hf:=put3_fr u2 g8 (ratNeg (coT (tmsOf ea.l) v)) b1;have hx8:=put3_blk HX8.out (ratNeg (coT (tmsOf ea.l) v)) b1;have hx9:=put3_far HX9.out (Ne.symm HNE.out) (ratNeg (coT (tmsOf ea.l) v)) b1;have hr1:=HR1.out.fr hf (typB_of HX8.out (by decide));have hr2:=HR2.out.fr hf (typB_of HX8.out (by decide));clear hf HX8 HX9 HR1 HR2 HKB
       obtain ⟨us,hus⟩:∃ x,x=put3 u2 g8 (ratNeg (coT (tmsOf ea.l) v)) b1:=⟨_,rfl⟩
       rw [←hus] at hx8 hx9 hr1 hr2 hkb3 hS ⊢;clear hus;obtain ⟨p0,p1,p2⟩:=Box.of hx9;have z0:=frozen_of_blk hx9 0;have z1:=frozen_of_blk hx9 1;have z2:=frozen_of_blk hx9 2;have HX8:=Lib.hid hx8;have HX9:=Lib.hid hx9;have HR1:=Lib.hid hr1;have HR2:=Lib.hid hr2;have HKB:=Lib.hid hkb3;clear hx8 hx9 hr1 hr2 hkb3 hS
       refine onE 11 fun KK HKK11=>?_
       go_simp;refine HKK11.out _ _ (.inl rfl) ?_;clear HKK11;refine wpAnyE_done (by kernel_rfl) ?_ _
       go_wp2_with fail
       go_meet;exact ⟨g8,g9,b1,b2,rfl,rfl,hgl8,hgl9,put3_far HX8.out HNE.out _ b2,put3_blk HX9.out _ b2,HR1.out.fr (put3_fr us g9 _ b2) (typB_of HX9.out (by decide)),HR2.out.fr (put3_fr us g9 _ b2) (typB_of HX9.out (by decide)),bl_set (bl_set (bl_set HKB.out hgl9) hgl9) hgl9⟩
 case rest =>
  obtain ⟨g8,g9,b1,b2,rfl,rfl,hgl8,hgl9,hx8,hx9,hr1,hr2,hbx⟩:=hcut
  obtain ⟨w5,rfl⟩:∃ x,x=wc:=⟨_,rfl⟩
  have k05:=HB3.out.trans (hbx.mono HB3.out.size);have hx3:=box_keep HX3.out hbx
  have hcoa:∀ u,QLe (coT (tmsOf ea.l) u) K:=fun u=>by
   have:=HA.out.ok.co u (tmsOf ea.l).length
   rwa [List.take_length] at this
  have hcob:∀ u,QLe (coT (tmsOf eb.l) u) K:=fun u=>by
   have:=HB.out.ok.co u (tmsOf eb.l).length
   rwa [List.take_length] at this
  obtain ⟨p,hp⟩:∃ p,p=coT (tmsOf ea.l) v:=⟨_,rfl⟩
  obtain ⟨n,hn⟩:∃ n,n=coT (tmsOf eb.l) v:=⟨_,rfl⟩
  have lp:QLe p K:=by rw [hp];exact hcoa v
  have ln:QLe (-n) K:=by rw [hn];exact qneg_le (hcob v)
  rw [←hp] at hx8 hr1;rw [←hn] at hx9 hr2
  have hneg:=fun W (hW:Below w5.heap.size w5 W)=>qneg_any b2 n W (hr2.below hW)
  have hsca:=fun W bb (hW:Below w5.heap.size w5 W) (h:QAt W bb (-n))=>xscale_any bb (-n) ea da.k K (2*K) W h ln (HA.out.ok.below (k05.trans (hW.mono k05.size))) hK1 (by omega) (fun u=>(qmul_le ln (hcoa u)).up (by omega))
  have hscb:=fun W (hW:Below w5.heap.size w5 W)=>xscale_any b1 p eb db.k K (2*K) W (hr1.below hW) lp (HB.out.ok.below (k05.trans (hW.mono k05.size))) hK1 (by omega) (fun u=>(qmul_le lp (hcob u)).up (by omega))
  have lka:QLe (-n*da.k) (2*K):=(qmul_le ln HA.out.ok.le).up (by omega);have lkb:QLe (p*db.k) (2*K):=(qmul_le lp HB.out.ok.le).up (by omega)
  have hadd:=fun W (e1 e2:XE) (h1:XOk W (2*K) e1 (-n*da.k)) (h2:XOk W (2*K) e2 (p*db.k)) (f1:∀ u,coT (tmsOf e1.l) u = -n*coT (tmsOf ea.l) u) (f2:∀ u,coT (tmsOf e2.l) u=p*coT (tmsOf eb.l) u)=>xadd_any e1 e2 (-n*da.k) (p*db.k) (2*K) (4*K+8) W h1 h2 (by omega) (by omega) (fun u=>by
   rw [f1,f2]
   exact (qadd_le ((qmul_le ln (hcoa u)).up (show K+K≤2*K by omega)) ((qmul_le lp (hcob u)).up (show K+K≤2*K by omega))).up (by omega))
  obtain ⟨sp,hsp⟩:∃ sp,sp=ratNeg p:=⟨_,rfl⟩
  obtain ⟨sn,hsn⟩:∃ sn,sn=ratNeg n:=⟨_,rfl⟩
  rw [←hsp] at hx8 hscb;rw [←hsn] at hx9 hneg;unfold RB.val at hneg;unfold XE.val at hsca hscb hadd
  have hcs2:∀ W',Below w5.heap.size w5 W'→((W'.cell? ⟨w.heap.size,0,none⟩=some (.slice ea.A ea.n ea.c)∧W'.cell? ⟨w.heap.size,1,none⟩=some (.bool ea.s)∧W'.cell? ⟨w.heap.size,2,none⟩=some (.slice ea.b.A ea.b.n ea.b.c)∧W'.cell? ⟨w.heap.size,3,none⟩=some (.slice ea.b.A2 ea.b.n2 ea.b.c2)∧W'.cell? ⟨w.heap.size,4,none⟩=some (.bool sa))∧(W'.cell? ⟨w.heap.size+1,0,none⟩=some (.slice eb.A eb.n eb.c)∧W'.cell? ⟨w.heap.size+1,1,none⟩=some (.bool eb.s)∧W'.cell? ⟨w.heap.size+1,2,none⟩=some (.slice eb.b.A eb.b.n eb.b.c)∧W'.cell? ⟨w.heap.size+1,3,none⟩=some (.slice eb.b.A2 eb.b.n2 eb.b.c2)∧W'.cell? ⟨w.heap.size+1,4,none⟩=some (.bool sb)))∧(W'.cell? ⟨g8,0,none⟩=some (.bool sp)∧W'.cell? ⟨g8,1,none⟩=some (.slice b1.A b1.n b1.c)∧W'.cell? ⟨g8,2,none⟩=some (.slice b1.A2 b1.n2 b1.c2))∧(W'.cell? ⟨g9,0,none⟩=some (.bool sn)∧W'.cell? ⟨g9,1,none⟩=some (.slice b2.A b2.n b2.c)∧W'.cell? ⟨g9,2,none⟩=some (.slice b2.A2 b2.n2 b2.c2)):=fun W' h=>⟨HCS.out W' (hbx.trans (h.mono hbx.size)),Box.of (box_keep hx8 h),Box.of (box_keep hx9 h)⟩
  clear HCS;have HCS:=Lib.hid hcs2;have HNEG:=Lib.hid hneg;have HSCA:=Lib.hid hsca;have HSCB:=Lib.hid hscb;have HADD:=Lib.hid hadd;have HLK:=Lib.hid (And.intro lka lkb)
  have hpc:da.c v=p:=by rw [hp];exact HA.out.co v
  have hnc:db.c v=n:=by rw [hn];exact HB.out.co v
  have HW:=Lib.hid (And.intro hpc hnc);have HLP:=Lib.hid (And.intro lp ln);have HX3':=Lib.hid hx3;have HB5:=Lib.hid k05;clear hcs2 hneg hsca hscb hadd lka lkb lp ln hp hn hpc hnc hx3 k05 hx8 hx9 hr1 hr2 hbx hcoa hcob hsp hsn hgl8 hgl9 HCA HCB
  go_upto_region 2 with fail
  have kb:Below w5.heap.size w5 w5.drew:=below_drew2 (Below.refl _ _);have hS:=HCS.out w5.drew kb;refine wp_region_E 17 (fun W'=>((W'.cell? ⟨w.heap.size,0,none⟩=some (.slice ea.A ea.n ea.c)∧W'.cell? ⟨w.heap.size,1,none⟩=some (.bool ea.s)∧W'.cell? ⟨w.heap.size,2,none⟩=some (.slice ea.b.A ea.b.n ea.b.c)∧W'.cell? ⟨w.heap.size,3,none⟩=some (.slice ea.b.A2 ea.b.n2 ea.b.c2)∧W'.cell? ⟨w.heap.size,4,none⟩=some (.bool sa))∧(W'.cell? ⟨w.heap.size+1,0,none⟩=some (.slice eb.A eb.n eb.c)∧W'.cell? ⟨w.heap.size+1,1,none⟩=some (.bool eb.s)∧W'.cell? ⟨w.heap.size+1,2,none⟩=some (.slice eb.b.A eb.b.n eb.b.c)∧W'.cell? ⟨w.heap.size+1,3,none⟩=some (.slice eb.b.A2 eb.b.n2 eb.b.c2)∧W'.cell? ⟨w.heap.size+1,4,none⟩=some (.bool sb)))∧(W'.cell? ⟨g8,0,none⟩=some (.bool sp)∧W'.cell? ⟨g8,1,none⟩=some (.slice b1.A b1.n b1.c)∧W'.cell? ⟨g8,2,none⟩=some (.slice b1.A2 b1.n2 b1.c2))∧(W'.cell? ⟨g9,0,none⟩=some (.bool sn)∧W'.cell? ⟨g9,1,none⟩=some (.slice b2.A b2.n b2.c)∧W'.cell? ⟨g9,2,none⟩=some (.slice b2.A2 b2.n2 b2.c2))) (by kernel_rfl) ?_;generalize w5.drew=w6 at kb hS ⊢;refine tkE 0 hS ?_;simp only [Act.put,sA,sZ,sS];refine tkE 2 hS ?_;simp only [Act.put,sA,sZ,sS];refine tkE 3 hS ?_;simp only [Act.put,sA,sZ,sS];refine tkE 5 hS ?_;simp only [Act.put,sA,sZ,sS];refine tkE 6 hS ?_;simp only [Act.put,sA,sZ,sS];refine tkE 7 hS ?_;simp only [Act.put,sA,sZ,sS];refine tkE 10 hS ?_;simp only [Act.put,sA,sZ,sS];refine tkE 11 hS ?_;simp only [Act.put,sA,sZ,sS]
  refine onE 1 fun KK HKK1=>?_
  go_simp
  go_at_call 86
  refine (HNEG.out _ kb).mono ?_;rintro e u1 ⟨b3,rfl,hr3,hb1⟩;have hS:=HCS.out u1 (kb.trans (hb1.mono kb.size));replace kb:=kb.trans (hb1.mono kb.size);clear hb1;refine HKK1.out _ _ (.inr hS) ?_;clear HKK1
  try simp only [Act.put,sA,sZ,sS]
  refine onE 4 fun KK HKK4=>?_
  go_simp
  go_at_call 28
  refine (HSCA.out _ b3 kb hr3).mono ?_;rintro e u2 ⟨e1,rfl,g1,g2,g3,g4,g5,g6,g7,hb2⟩;clear hr3;unfold XE.val;have hok1:=xok_of (by omega) HLK.out.1 (Nat.le_trans g4 HA.out.ok.few) g1 g2 g3 g5;have HG1:=Lib.hid (And.intro g6 g7);clear g1 g2 g3 g4 g5 g6 g7;have hS:=HCS.out u2 (kb.trans (hb2.mono kb.size));replace kb:=kb.trans (hb2.mono kb.size);clear hb2;refine HKK4.out _ _ (.inr hS) ?_;clear HKK4
  try simp only [Act.put,sA,sZ,sS]
  refine onE 8 fun KK HKK8=>?_
  go_simp
  go_at_call 28
  refine (HSCB.out _ kb).mono ?_;rintro e u3 ⟨e2,rfl,g1,g2,g3,g4,g5,g6,g7,hb3⟩;unfold XE.val;have hok2:=xok_of (by omega) HLK.out.2 (Nat.le_trans g4 HB.out.ok.few) g1 g2 g3 g5;have HG2:=Lib.hid (And.intro g6 g7);clear g1 g2 g3 g4 g5 g6 g7;replace hok1:=hok1.below hb3;have hS:=HCS.out u3 (kb.trans (hb3.mono kb.size));replace kb:=kb.trans (hb3.mono kb.size);clear hb3;refine HKK8.out _ _ (.inr hS) ?_;clear HKK8
  try simp only [Act.put,sA,sZ,sS]
  refine onE 9 fun KK HKK9=>?_
  go_simp
  go_at_call 85
  refine (HADD.out _ e1 e2 hok1 hok2 HG1.out.1 HG2.out.1).mono ?_;rintro e u4 ⟨e4,rfl,g1,g2,g3,g4,g5,g6,g7,hb4⟩;unfold XE.val;have G:=Lib.hid (And.intro g1 (And.intro g2 (And.intro g3 (And.intro g5 (And.intro g6 g7)))));clear g1 g2 g3 g4 g5 g6 g7 hok1 hok2;have hx3:=box_keep HX3'.out (kb.trans (hb4.mono kb.size));have hS:=HCS.out u4 (kb.trans (hb4.mono kb.size));replace kb:=kb.trans (hb4.mono kb.size);clear hb4;refine HKK9.out _ _ (.inr hS) ?_;clear HKK9
  try simp only [Act.put,sA,sZ,sS]
  refine tkE 12 hS ?_;simp only [Act.put,sA,sZ,sS];have HX:=Lib.hid hx3;have KB:=Lib.hid (HB5.out.trans (kb.mono HB5.out.size));clear hx3
  cases sa
  · skip
    refine tkE 13 hS ?_;simp only [Act.put,sA,sZ,sS];refine tkE 14 hS ?_;simp only [Act.put,sA,sZ,sS];refine tkE 15 hS ?_;simp only [Act.put,sA,sZ,sS];refine tkE 16 hS ?_;simp only [Act.put,sA,sZ,sS];obtain ⟨p0,p1,p2,p3,p4⟩:=box5b HX.out;have z0:=frozen_of_blk HX.out 0;have z1:=frozen_of_blk HX.out 1;have z2:=frozen_of_blk HX.out 2;have z3:=frozen_of_blk HX.out 3;have z4:=frozen_of_blk HX.out 4;clear hS kb
    refine onE 17 fun KK HKK17=>?_
    go_simp;refine HKK17.out _ _ (.inl rfl) ?_;clear HKK17;refine wpAnyE_done (by kernel_rfl) ?_ _
    go_wp2_with fail
    refine bodyPost_ret (v:=.agg #[.slice e4.A e4.n e4.c,.bool e4.s,.slice e4.b.A e4.b.n e4.b.c,.slice e4.b.A2 e4.b.n2 e4.b.c2,.bool sb]) (by simp [results,Tryz.results64,go_sem,p0,p1,p2,p3,p4]) rfl ?_;obtain ⟨g1,g2,g3,g5,g6,g7⟩:=G.out;have hfr:=fr_set (u:=.bool sb) (p:=⟨w.heap.size+1+1,4,none⟩) (store4_fr u4 (w.heap.size+1+1) e4.A e4.n e4.c e4.s e4.b) (.inl rfl)
    have hvs:∀ u ∈ e4.vars,u=0∨u=1∨u=2:=fun u hu=>by
     rcases g7 u hu with h | h
     · exact HA.out.vs u (HG1.out.2 u h)
     · exact HB.out.vs u (HG2.out.2 u h)
    have hfew:e4.n≤100:=by
     have h1:=few3 g5 hvs;rw [List.length_map] at h1;have h2:(tmsOf e4.l).length=e4.l.length:=List.length_map _;rw [h2,g1.len] at h1;omega
    have hkk:QLe (-n*da.k+p*db.k) (4*K+8):=(qadd_le HLK.out.1 HLK.out.2).up (by omega)
    have hpk:(pairB da db v).k = -n*da.k+p*db.k:=by
     unfold pairB;simp only [HW.out.1,HW.out.2]
    refine ⟨⟨e4,sb⟩,rfl,⟨?_,fun u=>?_,?_,hvs⟩,bl_set (store4_bel KB.out (by omega) _ _ _ _ _) (by dsimp only;omega)⟩
    · rw [hpk]
      exact xok_of (by omega) hkk hfew (g1.fr hfr (typQ_of HX.out (by decide))) (g2.fr hfr (typB_of HX.out (by decide))) g3 g5
    · rw [g6 u]
      unfold pairB;simp only [HW.out.1,HW.out.2,HG1.out.1,HG2.out.1,HA.out.co u,HB.out.co u]
    · unfold pairB
      simp only [HA.out.st,HB.out.st]
      first | rfl | simp
  · skip
    refine wpAnyE_skip (i:=13) (by kernel_rfl) rfl (by kernel_rfl) (by kernel_rfl) (by kernel_rfl) (fun _ _ _ h=>h) (by rfl) hS ?_;simp only [Act.put,sA,sZ,sS];refine wpAnyE_skip (i:=14) (by kernel_rfl) rfl (by kernel_rfl) (by kernel_rfl) (by kernel_rfl) (fun _ _ _ h=>h) (by rfl) hS ?_;simp only [Act.put,sA,sZ,sS];refine tkE 15 hS ?_;simp only [Act.put,sA,sZ,sS];refine tkE 16 hS ?_;simp only [Act.put,sA,sZ,sS];obtain ⟨p0,p1,p2,p3,p4⟩:=box5b HX.out;have z0:=frozen_of_blk HX.out 0;have z1:=frozen_of_blk HX.out 1;have z2:=frozen_of_blk HX.out 2;have z3:=frozen_of_blk HX.out 3;have z4:=frozen_of_blk HX.out 4;clear hS kb
    refine onE 17 fun KK HKK17=>?_
    go_simp;refine HKK17.out _ _ (.inl rfl) ?_;clear HKK17;refine wpAnyE_done (by kernel_rfl) ?_ _
    go_wp2_with fail
    refine bodyPost_ret (v:=.agg #[.slice e4.A e4.n e4.c,.bool e4.s,.slice e4.b.A e4.b.n e4.b.c,.slice e4.b.A2 e4.b.n2 e4.b.c2,.bool true]) (by simp [results,Tryz.results64,go_sem,p0,p1,p2,p3,p4]) rfl ?_;obtain ⟨g1,g2,g3,g5,g6,g7⟩:=G.out;have hfr:=fr_set (u:=.bool true) (p:=⟨w.heap.size+1+1,4,none⟩) (store4_fr u4 (w.heap.size+1+1) e4.A e4.n e4.c e4.s e4.b) (.inl rfl)
    have hvs:∀ u ∈ e4.vars,u=0∨u=1∨u=2:=fun u hu=>by
     rcases g7 u hu with h | h
     · exact HA.out.vs u (HG1.out.2 u h)
     · exact HB.out.vs u (HG2.out.2 u h)
    have hfew:e4.n≤100:=by
     have h1:=few3 g5 hvs;rw [List.length_map] at h1;have h2:(tmsOf e4.l).length=e4.l.length:=List.length_map _;rw [h2,g1.len] at h1;omega
    have hkk:QLe (-n*da.k+p*db.k) (4*K+8):=(qadd_le HLK.out.1 HLK.out.2).up (by omega)
    have hpk:(pairB da db v).k = -n*da.k+p*db.k:=by
     unfold pairB;simp only [HW.out.1,HW.out.2]
    refine ⟨⟨e4,true⟩,rfl,⟨?_,fun u=>?_,?_,hvs⟩,bl_set (store4_bel KB.out (by omega) _ _ _ _ _) (by dsimp only;omega)⟩
    · rw [hpk]
      exact xok_of (by omega) hkk hfew (g1.fr hfr (typQ_of HX.out (by decide))) (g2.fr hfr (typB_of HX.out (by decide))) g3 g5
    · rw [g6 u]
      unfold pairB;simp only [HW.out.1,HW.out.2,HG1.out.1,HG2.out.1,HA.out.co u,HB.out.co u]
    · unfold pairB
      simp only [HA.out.st,HB.out.st]
      first | rfl | simp
end Go.Proofs.YtdefcbfofonabaaGreat
