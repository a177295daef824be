/- Contract of (*simplex.table).point: it returns. -/
import Derived.Test.YtdefcbfofonabaaGreatSmChoose
import Derived.Test.YtdefcbfofonabaaGreatSmMake
namespace Go.Proofs.YtdefcbfofonabaaGreat
open Go.RowKit
set_option linter.unusedVariables false
set_option linter.unusedSimpArgs false
theorem lit3R_rd (w:World) (b:RB) (q:Rat):Rd (w.alloc (.cells #[.bool (ratNeg q),.slice b.A b.n b.c,.slice b.A2 b.n2 b.c2] 26)) 3 (some ⟨w.heap.size,0,none⟩) 1 [.bool (ratNeg q),.slice b.A b.n b.c,.slice b.A2 b.n2 b.c2]:=by
 have hown:=World.ownsRow_lit (base:=0) (e:=26) (size:=3) w #[.bool (ratNeg q),.slice b.A b.n b.c,.slice b.A2 b.n2 b.c2] 1 (Nat.zero_le _) (by unfold maxLen;omega) rfl;obtain ⟨A,c,e,_,hr⟩:=ownsRow_form hown
 injection e with e1
 subst e1;exact hr
def SomeSl (w:World) (e:Ending) (w':World):Prop:=∃ A n c,e=.returned (.slice A n c)∧Below w.heap.size w w'
theorem three_one (s:Bool) (A A2:Option Addr) (n c n2 c2:Nat):∀ u ∈ [Value.bool s,.slice A n c,.slice A2 n2 c2],u.oneCell'=true:=by
 intro u hu;simp at hu
 rcases hu with rfl | rfl | rfl<;>rfl
set_option maxRecDepth 100000 in
set_option maxHeartbeats 4000000 in
theorem point_any (B:Nat) (T:TL) (P:Pb) (S:Sx) (k:Nat) (w:World) (h:TabAt w B T P S k) (hk:k≤1000) (hk1:1≤k) (hle:∀ u,u<P.m→cmpD (S.val (P.nv+u)) (P.hi u)≤0) :
 Calls Tryz.prog 18 #[.pointer (some ⟨T.g,0,none⟩)] w fun e w'=>SomeSl w e w':=by
 have hm8:=h.mm;have hn3:=h.nvm;have hcv:=h.cv;have H:=Lib.hid h
 have hd2:∀ W,Below w.heap.size w W→DSl W T.hA P.m P.hi k:=fun W hb j hj=>by
  refine ⟨T.gh,0,h.hA (by omega),?_⟩;rw [Nat.zero_add];exact ((h.his.at_ j hj).below hb)
 have hd1:∀ W,Below w.heap.size w W→∀ A,A=(some ⟨T.gv,P.nv*6,none⟩:Option Addr)∨P.m=0→DSl W A P.m (fun u=>S.val (P.nv+u)) k:=fun W hb A hA j hj=>by
  rcases hA with rfl | e
  · refine ⟨T.gv,P.nv*6,rfl,?_⟩
    rw [show P.nv*6+j*6=(P.nv+j)*6 by omega];exact (h.val.at_ (P.nv+j) (by omega)).below hb
  · omega
 have hch:=fun W (hb:Below w.heap.size w W) A (hA:A=(some ⟨T.gv,P.nv*6,none⟩:Option Addr)∨P.m=0) c1=>choose_any A T.hA P.m c1 T.hc k _ _ W (by omega) (hd1 W hb A hA) (hd2 W hb) (by omega) hk1 hle
 unfold RB.val at hch
 have hcs:∀ W',Below w.heap.size w W'→W'.cell? ⟨T.g,0,none⟩=some (.int .i64 (P.nv:Int))∧W'.cell? ⟨T.g,5,none⟩=some (.slice (some ⟨T.gv,0,none⟩) (P.nv+P.m) T.vc)∧W'.cell? ⟨T.g,6,none⟩=some (.slice T.hA P.m T.hc):=fun W' hb=>by
  obtain ⟨x0,_,_,_,_,x5,x6⟩:=box7 (h.below hb);exact ⟨x0,x5,x6⟩
 have HCS:=Lib.hid hcs
 have c1:(0:Int)≤(P.nv:Int):=by omega
 have c2:(P.nv:Int)≤(P.nv:Int)+(P.m:Int):=by omega
 have c3:(P.nv:Int)≤(T.vc:Int):=by omega
 have c4:(P.nv:Int)+(P.m:Int)≤(T.vc:Int):=by omega
 obtain ⟨i0,hi,hz0,hz1,hz2⟩:=info_parts info_rat3;have HCA:=Lib.hid hch;have kb:Below w.heap.size w w.drew:=below_drew2 (Below.refl _ _);have hS:=hcs w.drew kb;clear h hle hd1 hd2 hch hcs
 go_enter Tryz.func18,Tryz.ntmps18
 go_upto_region 1 with fail
 go_cut [3] (fun v wx=>∃ (g3:Nat) (b3:RB) (q3:Rat),v=.pointer (some ⟨g3,0,none⟩)∧w.heap.size≤g3∧wx.heap[g3]?=some (.cells #[.bool (ratNeg q3),.slice b3.A b3.n b3.c,.slice b3.A2 b3.n2 b3.c2] 26 (0,0))∧RatAt wx b3 q3∧RatLe q3 (4*k+2)∧Below w.heap.size w wx)
 case first =>
  as_aux_lemma =>
   by_cases hvc:T.vc=P.nv
   · have hm0:P.m=0:=by omega
     have HM0:=Lib.hid hm0;have HCH:=Lib.hid (fun W hb=>HCA.out W hb (some ⟨T.gv,0,none⟩) (.inr HM0.out) 0);clear hm0;refine wp_region_E 19 (fun W'=>W'.cell? ⟨T.g,0,none⟩=some (.int .i64 (P.nv:Int))∧W'.cell? ⟨T.g,5,none⟩=some (.slice (some ⟨T.gv,0,none⟩) (P.nv+P.m) T.vc)∧W'.cell? ⟨T.g,6,none⟩=some (.slice T.hA P.m T.hc)) (by kernel_rfl) ?_;generalize w.drew=w8 at kb hS ⊢;clear HCA;refine tkE 0 hS ?_;simp only [Act.put,sA,sZ,sS];refine tkE 1 hS ?_;simp only [Act.put,sA,sZ,sS];refine tkE 2 hS ?_;simp only [Act.put,sA,sZ,sS];refine tkE 3 hS ?_;simp only [Act.put,sA,sZ,sS];refine tkE 4 hS ?_;simp only [Act.put,sA,sZ,sS];refine tkE 5 hS ?_;simp only [Act.put,sA,sZ,sS];refine tkE 6 hS ?_;simp only [Act.put,sA,sZ,sS];refine tkE 7 hS ?_;simp only [Act.put,sA,sZ,sS];refine tkE 8 hS ?_;simp only [Act.put,sA,sZ,sS];refine tkE 9 hS ?_;simp only [Act.put,sA,sZ,sS];refine tkE 10 hS ?_;simp only [Act.put,sA,sZ,sS];refine tkE 11 hS ?_;simp only [Act.put,sA,sZ,sS];refine tkE 12 hS ?_;simp only [Act.put,sA,sZ,sS];refine wpAnyE_two (i:=13) (j:=17) (by kernel_rfl) rfl rfl (fun KK hKK=>?_) (fun KK hKK=>?_)
     · have HKK13:=Lib.hid hKK
       clear hKK;go_simp
       go_at_call 42
       refine (HCH.out _ kb).mono ?_;rintro e u1 ⟨b1,q1,rfl,hr1,hl1,hb1⟩;have hS:=HCS.out u1 (kb.trans (hb1.mono kb.size));replace kb:=kb.trans (hb1.mono kb.size);clear hb1;refine HKK13.out _ _ (.inr hS) ?_;clear HKK13
       try simp only [Act.put,sA,sZ,sS]
       refine tkE 14 hS ?_;simp only [Act.put,sA,sZ,sS];refine tkE 15 hS ?_;simp only [Act.put,sA,sZ,sS];refine tkE 16 hS ?_;simp only [Act.put,sA,sZ,sS]
       refine onE 17 fun KK HKK17=>?_
       go_simp;have hxg:=heap_alloc_new u1 (.cells #[.bool false,.slice none 0 0,.slice none 0 0] 26);have hal:=(Below.refl u1.heap.size u1).alloc (Nat.le_refl _) (.cells #[.bool false,.slice none 0 0,.slice none 0 0] 26);have hgl:=kb.size
       obtain ⟨g3,hg⟩:∃ x0,x0=u1.heap.size:=⟨_,rfl⟩
       rw [←hg] at hxg hgl ⊢
       obtain ⟨ua,hua⟩:∃ x0,x0=u1.alloc (.cells #[.bool false,.slice none 0 0,.slice none 0 0] 26):=⟨_,rfl⟩
       rw [←hua] at hxg hal ⊢;clear hg hua;replace hr1:=hr1.below hal;have hS:=HCS.out ua (kb.trans (hal.mono kb.size));replace kb:=kb.trans (hal.mono kb.size);clear hal;refine HKK17.out _ _ (.inr hS) ?_;clear HKK17
       try simp only [Act.put,sA,sZ,sS]
       obtain ⟨p0,p1,p2⟩:=box3 hxg;have z0:=frozen_of_blk hxg 0;have z1:=frozen_of_blk hxg 1;have z2:=frozen_of_blk hxg 2;have hS2:=HCS.out _ (bl_set (p:=⟨g3,2,none⟩) (u:=.slice b1.A2 b1.n2 b1.c2) (bl_set (p:=⟨g3,1,none⟩) (u:=.slice b1.A b1.n b1.c) (bl_set (p:=⟨g3,0,none⟩) (u:=.bool (ratNeg q1)) kb hgl) hgl) hgl);have HXG:=Lib.hid hxg;have HR3:=Lib.hid (And.intro hr1 hl1);have HKB:=Lib.hid (And.intro kb hgl);clear hS hxg hr1 hl1 kb hgl
       refine onE 18 fun KK HKK18=>?_
       go_simp;refine HKK18.out _ _ (.inr hS2) ?_;clear HKK18
       try simp only [Act.put,sA,sZ,sS]
       refine onE 19 fun KK HKK19=>?_
       go_simp;refine HKK19.out _ _ (.inl rfl) ?_;clear HKK19;refine wpAnyE_done (by kernel_rfl) ?_ _
       go_wp2_with fail
       go_meet;exact ⟨g3,b1,q1,rfl,HKB.out.2,set_blk (set_blk (set_blk HXG.out 0 (.bool (ratNeg q1))) 1 (.slice b1.A b1.n b1.c)) 2 (.slice b1.A2 b1.n2 b1.c2),HR3.out.1.frT (store3_fr _ g3 (ratNeg q1) b1) (typU_of HXG.out (by decide)),HR3.out.2,store3_bel HKB.out.1 HKB.out.2 _ _⟩
     · have HKK17:=Lib.hid hKK
       clear hKK;go_simp;have hxg:=heap_alloc_new w8 (.cells #[.bool false,.slice none 0 0,.slice none 0 0] 26);have hal:=(Below.refl w8.heap.size w8).alloc (Nat.le_refl _) (.cells #[.bool false,.slice none 0 0,.slice none 0 0] 26);have hgl:=kb.size
       obtain ⟨g3,hg⟩:∃ x0,x0=w8.heap.size:=⟨_,rfl⟩
       rw [←hg] at hxg hgl ⊢
       obtain ⟨ua,hua⟩:∃ x0,x0=w8.alloc (.cells #[.bool false,.slice none 0 0,.slice none 0 0] 26):=⟨_,rfl⟩
       rw [←hua] at hxg hal ⊢;clear hg hua;have hS:=HCS.out ua (kb.trans (hal.mono kb.size));replace kb:=kb.trans (hal.mono kb.size);clear hal;refine HKK17.out _ _ (.inr hS) ?_;clear HKK17
       try simp only [Act.put,sA,sZ,sS]
       refine onE 13 fun KK HKK13=>?_
       go_simp
       go_at_call 42
       refine (HCH.out _ kb).mono ?_;rintro e u1 ⟨b1,q1,rfl,hr1,hl1,hb1⟩;replace hxg:=box_keep hxg hb1;have hS:=HCS.out u1 (kb.trans (hb1.mono kb.size));replace kb:=kb.trans (hb1.mono kb.size);clear hb1;refine HKK13.out _ _ (.inr hS) ?_;clear HKK13
       try simp only [Act.put,sA,sZ,sS]
       refine tkE 14 hS ?_;simp only [Act.put,sA,sZ,sS];refine tkE 15 hS ?_;simp only [Act.put,sA,sZ,sS];refine tkE 16 hS ?_;simp only [Act.put,sA,sZ,sS];obtain ⟨p0,p1,p2⟩:=box3 hxg;have z0:=frozen_of_blk hxg 0;have z1:=frozen_of_blk hxg 1;have z2:=frozen_of_blk hxg 2;have hS2:=HCS.out _ (bl_set (p:=⟨g3,2,none⟩) (u:=.slice b1.A2 b1.n2 b1.c2) (bl_set (p:=⟨g3,1,none⟩) (u:=.slice b1.A b1.n b1.c) (bl_set (p:=⟨g3,0,none⟩) (u:=.bool (ratNeg q1)) kb hgl) hgl) hgl);have HXG:=Lib.hid hxg;have HR3:=Lib.hid (And.intro hr1 hl1);have HKB:=Lib.hid (And.intro kb hgl);clear hS hxg hr1 hl1 kb hgl
       refine onE 18 fun KK HKK18=>?_
       go_simp;refine HKK18.out _ _ (.inr hS2) ?_;clear HKK18
       try simp only [Act.put,sA,sZ,sS]
       refine onE 19 fun KK HKK19=>?_
       go_simp;refine HKK19.out _ _ (.inl rfl) ?_;clear HKK19;refine wpAnyE_done (by kernel_rfl) ?_ _
       go_wp2_with fail
       go_meet;exact ⟨g3,b1,q1,rfl,HKB.out.2,set_blk (set_blk (set_blk HXG.out 0 (.bool (ratNeg q1))) 1 (.slice b1.A b1.n b1.c)) 2 (.slice b1.A2 b1.n2 b1.c2),HR3.out.1.frT (store3_fr _ g3 (ratNeg q1) b1) (typU_of HXG.out (by decide)),HR3.out.2,store3_bel HKB.out.1 HKB.out.2 _ _⟩
   · have hvc2:¬ ((T.vc:Int)=(P.nv:Int)):=by omega
     have HCH:=Lib.hid (fun W hb=>HCA.out W hb (some ⟨T.gv,P.nv*6,none⟩) (.inl rfl) (T.vc - P.nv));refine wp_region_E 19 (fun W'=>W'.cell? ⟨T.g,0,none⟩=some (.int .i64 (P.nv:Int))∧W'.cell? ⟨T.g,5,none⟩=some (.slice (some ⟨T.gv,0,none⟩) (P.nv+P.m) T.vc)∧W'.cell? ⟨T.g,6,none⟩=some (.slice T.hA P.m T.hc)) (by kernel_rfl) ?_;generalize w.drew=w8 at kb hS ⊢;clear HCA;refine tkE 0 hS ?_;simp only [Act.put,sA,sZ,sS];refine tkE 1 hS ?_;simp only [Act.put,sA,sZ,sS];refine tkE 2 hS ?_;simp only [Act.put,sA,sZ,sS];refine tkE 3 hS ?_;simp only [Act.put,sA,sZ,sS];refine tkE 4 hS ?_;simp only [Act.put,sA,sZ,sS];refine tkE 5 hS ?_;simp only [Act.put,sA,sZ,sS];refine tkE 6 hS ?_;simp only [Act.put,sA,sZ,sS];refine tkE 7 hS ?_;simp only [Act.put,sA,sZ,sS];refine tkE 8 hS ?_;simp only [Act.put,sA,sZ,sS];refine tkE 9 hS ?_;simp only [Act.put,sA,sZ,sS];refine tkE 10 hS ?_;simp only [Act.put,sA,sZ,sS];refine tkE 11 hS ?_;simp only [Act.put,sA,sZ,sS];refine tkE 12 hS ?_;simp only [Act.put,sA,sZ,sS];refine wpAnyE_two (i:=13) (j:=17) (by kernel_rfl) rfl rfl (fun KK hKK=>?_) (fun KK hKK=>?_)
     · have HKK13:=Lib.hid hKK
       clear hKK;go_simp
       go_at_call 42
       refine (HCH.out _ kb).mono ?_;rintro e u1 ⟨b1,q1,rfl,hr1,hl1,hb1⟩;have hS:=HCS.out u1 (kb.trans (hb1.mono kb.size));replace kb:=kb.trans (hb1.mono kb.size);clear hb1;refine HKK13.out _ _ (.inr hS) ?_;clear HKK13
       try simp only [Act.put,sA,sZ,sS]
       refine tkE 14 hS ?_;simp only [Act.put,sA,sZ,sS];refine tkE 15 hS ?_;simp only [Act.put,sA,sZ,sS];refine tkE 16 hS ?_;simp only [Act.put,sA,sZ,sS]
       refine onE 17 fun KK HKK17=>?_
       go_simp;have hxg:=heap_alloc_new u1 (.cells #[.bool false,.slice none 0 0,.slice none 0 0] 26);have hal:=(Below.refl u1.heap.size u1).alloc (Nat.le_refl _) (.cells #[.bool false,.slice none 0 0,.slice none 0 0] 26);have hgl:=kb.size
       obtain ⟨g3,hg⟩:∃ x0,x0=u1.heap.size:=⟨_,rfl⟩
       rw [←hg] at hxg hgl ⊢
       obtain ⟨ua,hua⟩:∃ x0,x0=u1.alloc (.cells #[.bool false,.slice none 0 0,.slice none 0 0] 26):=⟨_,rfl⟩
       rw [←hua] at hxg hal ⊢;clear hg hua;replace hr1:=hr1.below hal;have hS:=HCS.out ua (kb.trans (hal.mono kb.size));replace kb:=kb.trans (hal.mono kb.size);clear hal;refine HKK17.out _ _ (.inr hS) ?_;clear HKK17
       try simp only [Act.put,sA,sZ,sS]
       obtain ⟨p0,p1,p2⟩:=box3 hxg;have z0:=frozen_of_blk hxg 0;have z1:=frozen_of_blk hxg 1;have z2:=frozen_of_blk hxg 2;have hS2:=HCS.out _ (bl_set (p:=⟨g3,2,none⟩) (u:=.slice b1.A2 b1.n2 b1.c2) (bl_set (p:=⟨g3,1,none⟩) (u:=.slice b1.A b1.n b1.c) (bl_set (p:=⟨g3,0,none⟩) (u:=.bool (ratNeg q1)) kb hgl) hgl) hgl);have HXG:=Lib.hid hxg;have HR3:=Lib.hid (And.intro hr1 hl1);have HKB:=Lib.hid (And.intro kb hgl);clear hS hxg hr1 hl1 kb hgl
       refine onE 18 fun KK HKK18=>?_
       go_simp;refine HKK18.out _ _ (.inr hS2) ?_;clear HKK18
       try simp only [Act.put,sA,sZ,sS]
       refine onE 19 fun KK HKK19=>?_
       go_simp;refine HKK19.out _ _ (.inl rfl) ?_;clear HKK19;refine wpAnyE_done (by kernel_rfl) ?_ _
       go_wp2_with fail
       go_meet;exact ⟨g3,b1,q1,rfl,HKB.out.2,set_blk (set_blk (set_blk HXG.out 0 (.bool (ratNeg q1))) 1 (.slice b1.A b1.n b1.c)) 2 (.slice b1.A2 b1.n2 b1.c2),HR3.out.1.frT (store3_fr _ g3 (ratNeg q1) b1) (typU_of HXG.out (by decide)),HR3.out.2,store3_bel HKB.out.1 HKB.out.2 _ _⟩
     · have HKK17:=Lib.hid hKK
       clear hKK;go_simp;have hxg:=heap_alloc_new w8 (.cells #[.bool false,.slice none 0 0,.slice none 0 0] 26);have hal:=(Below.refl w8.heap.size w8).alloc (Nat.le_refl _) (.cells #[.bool false,.slice none 0 0,.slice none 0 0] 26);have hgl:=kb.size
       obtain ⟨g3,hg⟩:∃ x0,x0=w8.heap.size:=⟨_,rfl⟩
       rw [←hg] at hxg hgl ⊢
       obtain ⟨ua,hua⟩:∃ x0,x0=w8.alloc (.cells #[.bool false,.slice none 0 0,.slice none 0 0] 26):=⟨_,rfl⟩
       rw [←hua] at hxg hal ⊢;clear hg hua;have hS:=HCS.out ua (kb.trans (hal.mono kb.size));replace kb:=kb.trans (hal.mono kb.size);clear hal;refine HKK17.out _ _ (.inr hS) ?_;clear HKK17
       try simp only [Act.put,sA,sZ,sS]
       refine onE 13 fun KK HKK13=>?_
       go_simp
       go_at_call 42
       refine (HCH.out _ kb).mono ?_;rintro e u1 ⟨b1,q1,rfl,hr1,hl1,hb1⟩;replace hxg:=box_keep hxg hb1;have hS:=HCS.out u1 (kb.trans (hb1.mono kb.size));replace kb:=kb.trans (hb1.mono kb.size);clear hb1;refine HKK13.out _ _ (.inr hS) ?_;clear HKK13
       try simp only [Act.put,sA,sZ,sS]
       refine tkE 14 hS ?_;simp only [Act.put,sA,sZ,sS];refine tkE 15 hS ?_;simp only [Act.put,sA,sZ,sS];refine tkE 16 hS ?_;simp only [Act.put,sA,sZ,sS];obtain ⟨p0,p1,p2⟩:=box3 hxg;have z0:=frozen_of_blk hxg 0;have z1:=frozen_of_blk hxg 1;have z2:=frozen_of_blk hxg 2;have hS2:=HCS.out _ (bl_set (p:=⟨g3,2,none⟩) (u:=.slice b1.A2 b1.n2 b1.c2) (bl_set (p:=⟨g3,1,none⟩) (u:=.slice b1.A b1.n b1.c) (bl_set (p:=⟨g3,0,none⟩) (u:=.bool (ratNeg q1)) kb hgl) hgl) hgl);have HXG:=Lib.hid hxg;have HR3:=Lib.hid (And.intro hr1 hl1);have HKB:=Lib.hid (And.intro kb hgl);clear hS hxg hr1 hl1 kb hgl
       refine onE 18 fun KK HKK18=>?_
       go_simp;refine HKK18.out _ _ (.inr hS2) ?_;clear HKK18
       try simp only [Act.put,sA,sZ,sS]
       refine onE 19 fun KK HKK19=>?_
       go_simp;refine HKK19.out _ _ (.inl rfl) ?_;clear HKK19;refine wpAnyE_done (by kernel_rfl) ?_ _
       go_wp2_with fail
       go_meet;exact ⟨g3,b1,q1,rfl,HKB.out.2,set_blk (set_blk (set_blk HXG.out 0 (.bool (ratNeg q1))) 1 (.slice b1.A b1.n b1.c)) 2 (.slice b1.A2 b1.n2 b1.c2),HR3.out.1.frT (store3_fr _ g3 (ratNeg q1) b1) (typU_of HXG.out (by decide)),HR3.out.2,store3_bel HKB.out.1 HKB.out.2 _ _⟩
 case rest =>
 obtain ⟨g3,b3,q3,rfl,hg3,hx3,hr3,hl3,hb3⟩:=hcut
 obtain ⟨w1,rfl⟩:∃ x0,x0=wc:=⟨_,rfl⟩
 obtain ⟨x0,x5,x6⟩:=HCS.out w1 hb3;have H1:=Lib.hid (And.intro hx3 (And.intro hr3 (And.intro hl3 hb3)));clear hg3 hx3 hr3 hl3 hb3 HCA hS kb
 go_wp2_with fail
 go_quiet (fail)
 go_wp2_with fail
 clear x0 x5 x6
 go_loopw [5,35] (fun v x wr=>∃ (i:Nat) (xs:List Value),i≤P.nv∧x=.int .i64 i∧wr.ownsRow w1.heap.size 26 3 v i xs∧Below w1.heap.size w1 wr) (fun _ x _=>P.nv - (intOf x).toNat)
 case atStart=>exact ⟨0,[],Nat.zero_le _,by first | rfl | go_num,World.ownsRow_nil _ _ _ _,below_drewN (Below.refl _ _) _⟩
 case round =>
  obtain ⟨i,xs,hin,rfl,hown,hb⟩:=hrel
  obtain ⟨w5,rfl⟩:∃ x,x=wr:=⟨_,rfl⟩
  by_cases hlt:i<P.nv
  · obtain ⟨d,⟨y0,y1,y2,y3,y4,y5⟩,hd,hl⟩:=((H.out.below (H1.out.2.2.2.trans (hb.mono H1.out.2.2.2.size))).val.at_ i (by omega))
    obtain ⟨x,hx⟩:∃ x,x=S.val i:=⟨_,rfl⟩
    rw [←hx] at y0 y3 hd hl
    have b0:(0:Int)≤(i:Int):=by omega
    have b1:(i:Int)<(P.nv:Int):=by omega
    have HD:=Lib.hid (And.intro hd hl);have HB:=Lib.hid (And.intro hb hown);have HOM:=Lib.hid (show (i+1)*56≤140737488355328 by omega);clear hd hl hb hown hx
    go_upto_region 6 with fail
    have hx7:=heap_alloc_new w5 (.cells #[.bool (ratNeg x.a),.slice d.a.A d.a.n d.a.c,.slice d.a.A2 d.a.n2 d.a.c2,.bool (ratNeg x.b),.slice d.b.A d.b.n d.b.c,.slice d.b.A2 d.b.n2 d.b.c2] 108)
    have zw6:(w5.alloc (.cells #[.bool (ratNeg x.a),.slice d.a.A d.a.n d.a.c,.slice d.a.A2 d.a.n2 d.a.c2,.bool (ratNeg x.b),.slice d.b.A d.b.n d.b.c,.slice d.b.A2 d.b.n2 d.b.c2] 108)).heap.size=w5.heap.size+1:=by simp
    have aw6:=(Below.refl w5.heap.size w5).alloc (Nat.le_refl _) (.cells #[.bool (ratNeg x.a),.slice d.a.A d.a.n d.a.c,.slice d.a.A2 d.a.n2 d.a.c2,.bool (ratNeg x.b),.slice d.b.A d.b.n d.b.c,.slice d.b.A2 d.b.n2 d.b.c2] 108)
    obtain ⟨w6,ew6⟩:∃ x0,x0=w5.alloc (.cells #[.bool (ratNeg x.a),.slice d.a.A d.a.n d.a.c,.slice d.a.A2 d.a.n2 d.a.c2,.bool (ratNeg x.b),.slice d.b.A d.b.n d.b.c,.slice d.b.A2 d.b.n2 d.b.c2] 108):=⟨_,rfl⟩
    rw [←ew6] at hx7 zw6 aw6 ⊢;clear ew6;obtain ⟨p0,p1,p2,p3,p4,p5⟩:=box6 hx7;have k16:=HB.out.1.trans (aw6.mono HB.out.1.size);obtain ⟨r0,r1,r2⟩:=box3 (box_keep H1.out.1 k16);have hat:=dat_any d b3 x q3 w6 (HD.out.1.below aw6) (H1.out.2.1.below k16) (4*k+2) (by omega) (HD.out.2.up (by omega)) H1.out.2.2.1;unfold RB.val DB.val at hat;have HAT:=Lib.hid hat;have HOW:=Lib.hid (own_below HB.out.2 aw6);have HK:=Lib.hid k16;clear hat k16 hx7 aw6 zw6 y0 y1 y2 y3 y4 y5
    go_wp2_with (first | (go_at_call 43;refine HAT.out.mono ?_;clear HAT;rintro e w7 ⟨b4,rfl,hr4,hb7⟩;have hown7:=own_below HOW.out (hb7.alloc hb7.size (.cells #[.bool (ratNeg (x.a+x.b*q3)),.slice b4.A b4.n b4.c,.slice b4.A2 b4.n2 b4.c2] 26));have hbel7:=HK.out.trans ((hb7.alloc hb7.size (.cells #[.bool (ratNeg (x.a+x.b*q3)),.slice b4.A b4.n b4.c,.slice b4.A2 b4.n2 b4.c2] 26)).mono HK.out.size);clear hr4 hb7) | (at_builtin;refine appRn w1.heap.size w1 _ 3 26 rfl _ _ 30 rfl i0 _ 56 Tryz.underlying30 hi hz0 hz1 hz2 rfl (by decide) (by decide) _ i xs rfl (Nat.le_refl _) hown7 hbel7 _ 1 1 [.bool (ratNeg (x.a+x.b*q3)),.slice b4.A b4.n b4.c,.slice b4.A2 b4.n2 b4.c2] rfl (lit3R_rd w7 b4 _) (three_one _ _ _ _ _ _ _) HOM.out ?_;intro v8 w8 hown8 hbel8 hg8))
    go_roundw
    case rel=>exact ⟨i+1,_,by omega,by go_num,hown8,hbel8⟩
    case measure=>simp [intOf];omega
  · obtain rfl:i=P.nv:=by omega
    have hlt2:¬ ((P.nv:Int)<(P.nv:Int)):=by omega
    obtain ⟨Ax,cx,rfl,hc,hr⟩:=ownsRow_form hown;have HB:=Lib.hid (H1.out.2.2.2.trans (hb.mono H1.out.2.2.2.size));clear hown hb hc hr
    go_wp2_with fail
    go_ret;exact ⟨Ax,_,cx,rfl,HB.out⟩
end Go.Proofs.YtdefcbfofonabaaGreat
