/- Contracts of package delta: Of, Neg, Add, Sub, Scale, At, Cmp. -/
import Derived.Test.YtdefcbfofonabaaGreatRatE
import Derived.Test.YtdefcbfofonabaaGreatTmIns
import Derived.Test.YtdefcbfofonabaaGreatBtOf
import Derived.Test.YtdefcbfofonabaaGreatRatMath
namespace Go.Proofs.YtdefcbfofonabaaGreat
open Go.RowKit
set_option linter.unusedVariables false
set_option linter.unusedSimpArgs false
structure DB where
 a:RB
 b:RB
def DB.val (d:DB) (x:Dl):Value:=.agg #[.bool (ratNeg x.a),.slice d.a.A d.a.n d.a.c,.slice d.a.A2 d.a.n2 d.a.c2,.bool (ratNeg x.b),.slice d.b.A d.b.n d.b.c,.slice d.b.A2 d.b.n2 d.b.c2]
structure DAt (w:World) (d:DB) (x:Dl):Prop where
 a:RatAt w d.a x.a
 b:RatAt w d.b x.b
structure DLe (x:Dl) (k:Nat):Prop where
 a:RatLe x.a k
 b:RatLe x.b k
theorem DAt.below {w w':World} {d:DB} {x:Dl} (h:DAt w d x) (hb:Below w.heap.size w w'):DAt w' d x:=⟨h.a.below hb,h.b.below hb⟩
theorem DAt.frT {S:Nat→Prop} {w w':World} {d:DB} {x:Dl} (h:DAt w d x) (hf:Fr S w w') (hS:∀ b,S b→∃ cs t m,w.heap[b]?=some (.cells cs t m)∧t≠125):DAt w' d x:=⟨h.a.frT hf hS,h.b.frT hf hS⟩
theorem DLe.up {x:Dl} {k k':Nat} (h:DLe x k) (hk:k≤k'):DLe x k':=⟨h.a.up hk,h.b.up hk⟩
def dneg (x:Dl):Dl:=⟨-x.a, -x.b⟩
theorem dneg_le {x:Dl} {k:Nat} (h:DLe x k):DLe (dneg x) k:=⟨neg_le h.a,neg_le h.b⟩
theorem dadd_neg (x y:Dl):dadd x (dneg y)=dsub x y:=by
 unfold dadd dneg dsub;simp only [Rat.sub_eq_add_neg]
theorem box3 {w:World} {g:Nat} {a b c:Value} {t:TypeId} (h:w.heap[g]?=some (.cells #[a,b,c] t (0,0))):w.cell? ⟨g,0,none⟩=some a∧w.cell? ⟨g,1,none⟩=some b∧w.cell? ⟨g,2,none⟩=some c:=boxk h
theorem box6 {w:World} {g:Nat} {a b c d e f:Value} {t:TypeId} (h:w.heap[g]?=some (.cells #[a,b,c,d,e,f] t (0,0))):w.cell? ⟨g,0,none⟩=some a∧w.cell? ⟨g,1,none⟩=some b∧w.cell? ⟨g,2,none⟩=some c∧w.cell? ⟨g,3,none⟩=some d∧w.cell? ⟨g,4,none⟩=some e∧w.cell? ⟨g,5,none⟩=some f :=
 ⟨cell_of_blk h 0,cell_of_blk h 1,cell_of_blk h 2,cell_of_blk h 3,cell_of_blk h 4,cell_of_blk h 5⟩
theorem typU_of {w:World} {g:Nat} {cs:Array Value} {t:TypeId} {m:Nat × Nat} (h:w.heap[g]?=some (.cells cs t m)) (ht:t≠125):∀ b,b=g→∃ cs t m,w.heap[b]?=some (.cells cs t m)∧t≠125:=fun b hb=>⟨cs,t,m,by rw [hb];exact h,ht⟩
theorem zero_dat (w:World):DAt w ⟨⟨none,0,0,none,0,0⟩,⟨none,0,0,none,0,0⟩⟩ dzero:=⟨zero_at w,zero_at w⟩
set_option maxRecDepth 100000 in
set_option maxHeartbeats 4000000 in
theorem dneg_any (d:DB) (x:Dl) (w:World) (h:DAt w d x) :
 Calls Tryz.prog 72 #[d.val x] w fun r w'=>∃ d':DB,r=.returned (d'.val (dneg x))∧DAt w' d' (dneg x)∧Below w.heap.size w w':=by
 unfold DB.val
 go_enter Tryz.func72,Tryz.ntmps72
 go_upto_region 1 with fail
 have hx1:=heap_alloc_new w (.cells #[.bool (ratNeg x.a),.slice d.a.A d.a.n d.a.c,.slice d.a.A2 d.a.n2 d.a.c2,.bool (ratNeg x.b),.slice d.b.A d.b.n d.b.c,.slice d.b.A2 d.b.n2 d.b.c2] 108)
 have zw1:(w.alloc (.cells #[.bool (ratNeg x.a),.slice d.a.A d.a.n d.a.c,.slice d.a.A2 d.a.n2 d.a.c2,.bool (ratNeg x.b),.slice d.b.A d.b.n d.b.c,.slice d.b.A2 d.b.n2 d.b.c2] 108)).heap.size=w.heap.size+1:=by simp
 have aw1:=(Below.refl w.heap.size w).alloc (Nat.le_refl _) (.cells #[.bool (ratNeg x.a),.slice d.a.A d.a.n d.a.c,.slice d.a.A2 d.a.n2 d.a.c2,.bool (ratNeg x.b),.slice d.b.A d.b.n d.b.c,.slice d.b.A2 d.b.n2 d.b.c2] 108)
 obtain ⟨w1,ew1⟩:∃ x0,x0=w.alloc (.cells #[.bool (ratNeg x.a),.slice d.a.A d.a.n d.a.c,.slice d.a.A2 d.a.n2 d.a.c2,.bool (ratNeg x.b),.slice d.b.A d.b.n d.b.c,.slice d.b.A2 d.b.n2 d.b.c2] 108):=⟨_,rfl⟩
 rw [←ew1] at hx1 zw1 aw1 ⊢;clear ew1;have hx2:=heap_alloc_new w1 (.cells #[.bool false,.slice none 0 0,.slice none 0 0,.bool false,.slice none 0 0,.slice none 0 0] 108)
 have zw2:(w1.alloc (.cells #[.bool false,.slice none 0 0,.slice none 0 0,.bool false,.slice none 0 0,.slice none 0 0] 108)).heap.size=w1.heap.size+1:=by simp
 have aw2:=(Below.refl w1.heap.size w1).alloc (Nat.le_refl _) (.cells #[.bool false,.slice none 0 0,.slice none 0 0,.bool false,.slice none 0 0,.slice none 0 0] 108)
 obtain ⟨w2,ew2⟩:∃ x0,x0=w1.alloc (.cells #[.bool false,.slice none 0 0,.slice none 0 0,.bool false,.slice none 0 0,.slice none 0 0] 108):=⟨_,rfl⟩
 rw [←ew2] at hx2 zw2 aw2 ⊢;clear ew2;rw [zw1] at hx2;have kz2:=aw1.trans (aw2.mono aw1.size)
 have hv1:=(box_keep hx1 aw2)
 have hcs:∀ W',Fr (fun kk=>kk=w.heap.size+1) w2 W'→(W'.cell? ⟨w.heap.size,0,none⟩=some (.bool (ratNeg x.a))∧W'.cell? ⟨w.heap.size,1,none⟩=some (.slice d.a.A d.a.n d.a.c)∧W'.cell? ⟨w.heap.size,2,none⟩=some (.slice d.a.A2 d.a.n2 d.a.c2)∧W'.cell? ⟨w.heap.size,3,none⟩=some (.bool (ratNeg x.b))∧W'.cell? ⟨w.heap.size,4,none⟩=some (.slice d.b.A d.b.n d.b.c)∧W'.cell? ⟨w.heap.size,5,none⟩=some (.slice d.b.A2 d.b.n2 d.b.c2)):=fun W' hb=>box6 ((hb.block _ (lt_of_blk hv1) (by omega)).trans hv1)
 have hbz:Below w.heap.size w w2:=kz2
 have hn1:=fun W (hb:Below w2.heap.size w2 W)=>neg_any d.a x.a W ((h.a.below hbz).below hb)
 have hn2:=fun W (hb:Below w2.heap.size w2 W)=>neg_any d.b x.b W ((h.b.below hbz).below hb)
 unfold RB.val at hn1 hn2;have HN1:=Lib.hid hn1;have HN2:=Lib.hid hn2;clear hn1 hn2 h;have HCS:=Lib.hid hcs;have HXR:=Lib.hid hx2;have HBZ:=Lib.hid hbz;clear hcs hbz hx1 hx2 hv1 aw1 aw2 zw1 zw2 kz2
 go_region_held3 (fun W'=>(W'.cell? ⟨w.heap.size,0,none⟩=some (.bool (ratNeg x.a))∧W'.cell? ⟨w.heap.size,1,none⟩=some (.slice d.a.A d.a.n d.a.c)∧W'.cell? ⟨w.heap.size,2,none⟩=some (.slice d.a.A2 d.a.n2 d.a.c2)∧W'.cell? ⟨w.heap.size,3,none⟩=some (.bool (ratNeg x.b))∧W'.cell? ⟨w.heap.size,4,none⟩=some (.slice d.b.A d.b.n d.b.c)∧W'.cell? ⟨w.heap.size,5,none⟩=some (.slice d.b.A2 d.b.n2 d.b.c2))) ((refine HCS.out _ ?_;repeat' (first | with_reducible exact Fr.of_below k2 | with_reducible exact Fr.of_below k1 | with_reducible exact (Fr.refl _ _).drew | with_reducible refine fr_set ?_ ?_ | exact .inl rfl))) (first | (go_at_call 40;refine (HN1.out _ (below_drew2 (Below.refl _ _))).mono ?_;clear HN1;rintro e u1 ⟨rfl,hr1,hb1⟩;have k1:Below w2.heap.size w2 u1:=(below_drew2 (Below.refl _ _)).trans (hb1.mono (Nat.le_refl _));have R1:=Lib.hid hr1;clear hr1) | (go_at_call 40;refine (HN2.out _ k1).mono ?_;clear HN2;rintro e u2 ⟨rfl,hr2,hb2⟩;have k2:Below w2.heap.size w2 u2:=k1.trans (hb2.mono k1.size);have R2:=Lib.hid (And.intro (R1.out.below hb2) hr2);clear hr2;have HXE:=Lib.hid (box_keep HXR.out k2);obtain ⟨y0,y1,y2,y3,y4,y5⟩:=box6 HXE.out;have z0:=frozen_of_blk HXE.out 0;have z1:=frozen_of_blk HXE.out 1;have z2:=frozen_of_blk HXE.out 2;have z3:=frozen_of_blk HXE.out 3;have z4:=frozen_of_blk HXE.out 4;have z5:=frozen_of_blk HXE.out 5))
 all_goals
  go_wp2_with fail
  refine bodyPost_ret (v:=.agg #[.bool (ratNeg (-x.a)),.slice d.a.A d.a.n d.a.c,.slice d.a.A2 d.a.n2 d.a.c2,.bool (ratNeg (-x.b)),.slice d.b.A d.b.n d.b.c,.slice d.b.A2 d.b.n2 d.b.c2]) (by simp [results,Tryz.results72,go_sem,y0,y1,y2,y3,y4,y5]) rfl ?_;have hbel:=HBZ.out.trans (k2.mono HBZ.out.size);have hty:=typU_of HXE.out (by decide);exact ⟨⟨d.a,d.b⟩,rfl,⟨R2.out.1.frT (S:=fun b=>b=(w.heap.size+1)) (by repeat' (first | with_reducible exact Fr.refl _ _ | with_reducible refine fr_set ?_ ?_ | exact .inl rfl)) hty,R2.out.2.frT (S:=fun b=>b=(w.heap.size+1)) (by repeat' (first | with_reducible exact Fr.refl _ _ | with_reducible refine fr_set ?_ ?_ | exact .inl rfl)) hty⟩,(by repeat' (first | with_reducible exact hbel | with_reducible refine bl_set ?_ ?_ | (show w.heap.size≤(w.heap.size+1);omega)))⟩
set_option maxRecDepth 100000 in
set_option maxHeartbeats 4000000 in
theorem dadd_any (d1 d2:DB) (x y:Dl) (w:World) (h1:DAt w d1 x) (h2:DAt w d2 y) (k:Nat) (hk:k≤1000000) (l1:DLe x k) (l2:DLe y k) :
 Calls Tryz.prog 47 #[d1.val x,d2.val y] w fun r w'=>∃ d':DB,r=.returned (d'.val (dadd x y))∧DAt w' d' (dadd x y)∧Below w.heap.size w w':=by
 unfold DB.val
 go_enter Tryz.func47,Tryz.ntmps47
 go_upto_region 1 with fail
 have hx1:=heap_alloc_new w (.cells #[.bool (ratNeg x.a),.slice d1.a.A d1.a.n d1.a.c,.slice d1.a.A2 d1.a.n2 d1.a.c2,.bool (ratNeg x.b),.slice d1.b.A d1.b.n d1.b.c,.slice d1.b.A2 d1.b.n2 d1.b.c2] 108)
 have zw1:(w.alloc (.cells #[.bool (ratNeg x.a),.slice d1.a.A d1.a.n d1.a.c,.slice d1.a.A2 d1.a.n2 d1.a.c2,.bool (ratNeg x.b),.slice d1.b.A d1.b.n d1.b.c,.slice d1.b.A2 d1.b.n2 d1.b.c2] 108)).heap.size=w.heap.size+1:=by simp
 have aw1:=(Below.refl w.heap.size w).alloc (Nat.le_refl _) (.cells #[.bool (ratNeg x.a),.slice d1.a.A d1.a.n d1.a.c,.slice d1.a.A2 d1.a.n2 d1.a.c2,.bool (ratNeg x.b),.slice d1.b.A d1.b.n d1.b.c,.slice d1.b.A2 d1.b.n2 d1.b.c2] 108)
 obtain ⟨w1,ew1⟩:∃ x0,x0=w.alloc (.cells #[.bool (ratNeg x.a),.slice d1.a.A d1.a.n d1.a.c,.slice d1.a.A2 d1.a.n2 d1.a.c2,.bool (ratNeg x.b),.slice d1.b.A d1.b.n d1.b.c,.slice d1.b.A2 d1.b.n2 d1.b.c2] 108):=⟨_,rfl⟩
 rw [←ew1] at hx1 zw1 aw1 ⊢;clear ew1;have hx2:=heap_alloc_new w1 (.cells #[.bool (ratNeg y.a),.slice d2.a.A d2.a.n d2.a.c,.slice d2.a.A2 d2.a.n2 d2.a.c2,.bool (ratNeg y.b),.slice d2.b.A d2.b.n d2.b.c,.slice d2.b.A2 d2.b.n2 d2.b.c2] 108)
 have zw2:(w1.alloc (.cells #[.bool (ratNeg y.a),.slice d2.a.A d2.a.n d2.a.c,.slice d2.a.A2 d2.a.n2 d2.a.c2,.bool (ratNeg y.b),.slice d2.b.A d2.b.n d2.b.c,.slice d2.b.A2 d2.b.n2 d2.b.c2] 108)).heap.size=w1.heap.size+1:=by simp
 have aw2:=(Below.refl w1.heap.size w1).alloc (Nat.le_refl _) (.cells #[.bool (ratNeg y.a),.slice d2.a.A d2.a.n d2.a.c,.slice d2.a.A2 d2.a.n2 d2.a.c2,.bool (ratNeg y.b),.slice d2.b.A d2.b.n d2.b.c,.slice d2.b.A2 d2.b.n2 d2.b.c2] 108)
 obtain ⟨w2,ew2⟩:∃ x0,x0=w1.alloc (.cells #[.bool (ratNeg y.a),.slice d2.a.A d2.a.n d2.a.c,.slice d2.a.A2 d2.a.n2 d2.a.c2,.bool (ratNeg y.b),.slice d2.b.A d2.b.n d2.b.c,.slice d2.b.A2 d2.b.n2 d2.b.c2] 108):=⟨_,rfl⟩
 rw [←ew2] at hx2 zw2 aw2 ⊢;clear ew2;have hx3:=heap_alloc_new w2 (.cells #[.bool false,.slice none 0 0,.slice none 0 0,.bool false,.slice none 0 0,.slice none 0 0] 108)
 have zw3:(w2.alloc (.cells #[.bool false,.slice none 0 0,.slice none 0 0,.bool false,.slice none 0 0,.slice none 0 0] 108)).heap.size=w2.heap.size+1:=by simp
 have aw3:=(Below.refl w2.heap.size w2).alloc (Nat.le_refl _) (.cells #[.bool false,.slice none 0 0,.slice none 0 0,.bool false,.slice none 0 0,.slice none 0 0] 108)
 obtain ⟨w3,ew3⟩:∃ x0,x0=w2.alloc (.cells #[.bool false,.slice none 0 0,.slice none 0 0,.bool false,.slice none 0 0,.slice none 0 0] 108):=⟨_,rfl⟩
 rw [←ew3] at hx3 zw3 aw3 ⊢;clear ew3;rw [zw1] at hx2;rw [zw2,zw1] at hx3;have kz2:=aw1.trans (aw2.mono aw1.size);have kz3:=kz2.trans (aw3.mono kz2.size)
 have hv1:=(box_keep (box_keep hx1 aw2) aw3)
 have hv2:=(box_keep hx2 aw3)
 have hcs:∀ W',Fr (fun kk=>kk=w.heap.size+1+1) w3 W'→(W'.cell? ⟨w.heap.size,0,none⟩=some (.bool (ratNeg x.a))∧W'.cell? ⟨w.heap.size,1,none⟩=some (.slice d1.a.A d1.a.n d1.a.c)∧W'.cell? ⟨w.heap.size,2,none⟩=some (.slice d1.a.A2 d1.a.n2 d1.a.c2)∧W'.cell? ⟨w.heap.size,3,none⟩=some (.bool (ratNeg x.b))∧W'.cell? ⟨w.heap.size,4,none⟩=some (.slice d1.b.A d1.b.n d1.b.c)∧W'.cell? ⟨w.heap.size,5,none⟩=some (.slice d1.b.A2 d1.b.n2 d1.b.c2))∧(W'.cell? ⟨w.heap.size+1,0,none⟩=some (.bool (ratNeg y.a))∧W'.cell? ⟨w.heap.size+1,1,none⟩=some (.slice d2.a.A d2.a.n d2.a.c)∧W'.cell? ⟨w.heap.size+1,2,none⟩=some (.slice d2.a.A2 d2.a.n2 d2.a.c2)∧W'.cell? ⟨w.heap.size+1,3,none⟩=some (.bool (ratNeg y.b))∧W'.cell? ⟨w.heap.size+1,4,none⟩=some (.slice d2.b.A d2.b.n d2.b.c)∧W'.cell? ⟨w.heap.size+1,5,none⟩=some (.slice d2.b.A2 d2.b.n2 d2.b.c2)):=fun W' hb=>⟨box6 ((hb.block _ (lt_of_blk hv1) (by omega)).trans hv1),box6 ((hb.block _ (lt_of_blk hv2) (by omega)).trans hv2)⟩
 have hbz:Below w.heap.size w w3:=kz3
 have hn1:=fun W (hb:Below w3.heap.size w3 W)=>add_any d1.a d2.a x.a y.a W ((h1.a.below hbz).below hb) ((h2.a.below hbz).below hb) k hk l1.a l2.a
 have hn2:=fun W (hb:Below w3.heap.size w3 W)=>add_any d1.b d2.b x.b y.b W ((h1.b.below hbz).below hb) ((h2.b.below hbz).below hb) k hk l1.b l2.b
 unfold RB.val at hn1 hn2;have HN1:=Lib.hid hn1;have HN2:=Lib.hid hn2;clear hn1 hn2 h1 h2 l1 l2;have HCS:=Lib.hid hcs;have HXR:=Lib.hid hx3;have HBZ:=Lib.hid hbz;clear hcs hbz hx1 hx2 hx3 hv1 hv2 aw1 aw2 aw3 zw1 zw2 zw3 kz2 kz3
 go_region_held3 (fun W'=>(W'.cell? ⟨w.heap.size,0,none⟩=some (.bool (ratNeg x.a))∧W'.cell? ⟨w.heap.size,1,none⟩=some (.slice d1.a.A d1.a.n d1.a.c)∧W'.cell? ⟨w.heap.size,2,none⟩=some (.slice d1.a.A2 d1.a.n2 d1.a.c2)∧W'.cell? ⟨w.heap.size,3,none⟩=some (.bool (ratNeg x.b))∧W'.cell? ⟨w.heap.size,4,none⟩=some (.slice d1.b.A d1.b.n d1.b.c)∧W'.cell? ⟨w.heap.size,5,none⟩=some (.slice d1.b.A2 d1.b.n2 d1.b.c2))∧(W'.cell? ⟨w.heap.size+1,0,none⟩=some (.bool (ratNeg y.a))∧W'.cell? ⟨w.heap.size+1,1,none⟩=some (.slice d2.a.A d2.a.n d2.a.c)∧W'.cell? ⟨w.heap.size+1,2,none⟩=some (.slice d2.a.A2 d2.a.n2 d2.a.c2)∧W'.cell? ⟨w.heap.size+1,3,none⟩=some (.bool (ratNeg y.b))∧W'.cell? ⟨w.heap.size+1,4,none⟩=some (.slice d2.b.A d2.b.n d2.b.c)∧W'.cell? ⟨w.heap.size+1,5,none⟩=some (.slice d2.b.A2 d2.b.n2 d2.b.c2))) ((refine HCS.out _ ?_;repeat' (first | with_reducible exact Fr.of_below k2 | with_reducible exact Fr.of_below k1 | with_reducible exact (Fr.refl _ _).drew | with_reducible refine fr_set ?_ ?_ | exact .inl rfl))) (first | (go_at_call 48;refine (HN1.out _ (below_drew2 (Below.refl _ _))).mono ?_;clear HN1;rintro e u1 ⟨b1,rfl,hr1,hb1⟩;have k1:Below w3.heap.size w3 u1:=(below_drew2 (Below.refl _ _)).trans (hb1.mono (Nat.le_refl _));have R1:=Lib.hid hr1;clear hr1) | (go_at_call 48;refine (HN2.out _ k1).mono ?_;clear HN2;rintro e u2 ⟨b2,rfl,hr2,hb2⟩;have k2:Below w3.heap.size w3 u2:=k1.trans (hb2.mono k1.size);have R2:=Lib.hid (And.intro (R1.out.below hb2) hr2);clear hr2;have HXE:=Lib.hid (box_keep HXR.out k2);obtain ⟨y0,y1,y2,y3,y4,y5⟩:=box6 HXE.out;have z0:=frozen_of_blk HXE.out 0;have z1:=frozen_of_blk HXE.out 1;have z2:=frozen_of_blk HXE.out 2;have z3:=frozen_of_blk HXE.out 3;have z4:=frozen_of_blk HXE.out 4;have z5:=frozen_of_blk HXE.out 5))
 all_goals
  go_wp2_with fail
  refine bodyPost_ret (v:=.agg #[.bool (ratNeg (x.a+y.a)),.slice b1.A b1.n b1.c,.slice b1.A2 b1.n2 b1.c2,.bool (ratNeg (x.b+y.b)),.slice b2.A b2.n b2.c,.slice b2.A2 b2.n2 b2.c2]) (by simp [results,Tryz.results47,go_sem,y0,y1,y2,y3,y4,y5]) rfl ?_;have hbel:=HBZ.out.trans (k2.mono HBZ.out.size);have hty:=typU_of HXE.out (by decide);exact ⟨⟨b1,b2⟩,rfl,⟨R2.out.1.frT (S:=fun b=>b=(w.heap.size+1+1)) (by repeat' (first | with_reducible exact Fr.refl _ _ | with_reducible refine fr_set ?_ ?_ | exact .inl rfl)) hty,R2.out.2.frT (S:=fun b=>b=(w.heap.size+1+1)) (by repeat' (first | with_reducible exact Fr.refl _ _ | with_reducible refine fr_set ?_ ?_ | exact .inl rfl)) hty⟩,(by repeat' (first | with_reducible exact hbel | with_reducible refine bl_set ?_ ?_ | (show w.heap.size≤(w.heap.size+1+1);omega)))⟩
set_option maxRecDepth 100000 in
set_option maxHeartbeats 4000000 in
theorem dscale_any (b:RB) (d:DB) (q:Rat) (x:Dl) (w:World) (h1:RatAt w b q) (h2:DAt w d x) (k:Nat) (hk:k≤1000000) (l1:RatLe q k) (l2:DLe x k) :
 Calls Tryz.prog 45 #[b.val (ratNeg q),d.val x] w fun r w'=>∃ d':DB,r=.returned (d'.val (dmul q x))∧DAt w' d' (dmul q x)∧Below w.heap.size w w':=by
 unfold DB.val RB.val
 go_enter Tryz.func45,Tryz.ntmps45
 go_upto_region 1 with fail
 have hx1:=heap_alloc_new w (.cells #[.bool (ratNeg q),.slice b.A b.n b.c,.slice b.A2 b.n2 b.c2] 26)
 have zw1:(w.alloc (.cells #[.bool (ratNeg q),.slice b.A b.n b.c,.slice b.A2 b.n2 b.c2] 26)).heap.size=w.heap.size+1:=by simp
 have aw1:=(Below.refl w.heap.size w).alloc (Nat.le_refl _) (.cells #[.bool (ratNeg q),.slice b.A b.n b.c,.slice b.A2 b.n2 b.c2] 26)
 obtain ⟨w1,ew1⟩:∃ x0,x0=w.alloc (.cells #[.bool (ratNeg q),.slice b.A b.n b.c,.slice b.A2 b.n2 b.c2] 26):=⟨_,rfl⟩
 rw [←ew1] at hx1 zw1 aw1 ⊢;clear ew1;have hx2:=heap_alloc_new w1 (.cells #[.bool (ratNeg x.a),.slice d.a.A d.a.n d.a.c,.slice d.a.A2 d.a.n2 d.a.c2,.bool (ratNeg x.b),.slice d.b.A d.b.n d.b.c,.slice d.b.A2 d.b.n2 d.b.c2] 108)
 have zw2:(w1.alloc (.cells #[.bool (ratNeg x.a),.slice d.a.A d.a.n d.a.c,.slice d.a.A2 d.a.n2 d.a.c2,.bool (ratNeg x.b),.slice d.b.A d.b.n d.b.c,.slice d.b.A2 d.b.n2 d.b.c2] 108)).heap.size=w1.heap.size+1:=by simp
 have aw2:=(Below.refl w1.heap.size w1).alloc (Nat.le_refl _) (.cells #[.bool (ratNeg x.a),.slice d.a.A d.a.n d.a.c,.slice d.a.A2 d.a.n2 d.a.c2,.bool (ratNeg x.b),.slice d.b.A d.b.n d.b.c,.slice d.b.A2 d.b.n2 d.b.c2] 108)
 obtain ⟨w2,ew2⟩:∃ x0,x0=w1.alloc (.cells #[.bool (ratNeg x.a),.slice d.a.A d.a.n d.a.c,.slice d.a.A2 d.a.n2 d.a.c2,.bool (ratNeg x.b),.slice d.b.A d.b.n d.b.c,.slice d.b.A2 d.b.n2 d.b.c2] 108):=⟨_,rfl⟩
 rw [←ew2] at hx2 zw2 aw2 ⊢;clear ew2;have hx3:=heap_alloc_new w2 (.cells #[.bool false,.slice none 0 0,.slice none 0 0,.bool false,.slice none 0 0,.slice none 0 0] 108)
 have zw3:(w2.alloc (.cells #[.bool false,.slice none 0 0,.slice none 0 0,.bool false,.slice none 0 0,.slice none 0 0] 108)).heap.size=w2.heap.size+1:=by simp
 have aw3:=(Below.refl w2.heap.size w2).alloc (Nat.le_refl _) (.cells #[.bool false,.slice none 0 0,.slice none 0 0,.bool false,.slice none 0 0,.slice none 0 0] 108)
 obtain ⟨w3,ew3⟩:∃ x0,x0=w2.alloc (.cells #[.bool false,.slice none 0 0,.slice none 0 0,.bool false,.slice none 0 0,.slice none 0 0] 108):=⟨_,rfl⟩
 rw [←ew3] at hx3 zw3 aw3 ⊢;clear ew3;rw [zw1] at hx2;rw [zw2,zw1] at hx3;have kz2:=aw1.trans (aw2.mono aw1.size);have kz3:=kz2.trans (aw3.mono kz2.size)
 have hv1:=(box_keep (box_keep hx1 aw2) aw3)
 have hv2:=(box_keep hx2 aw3)
 have hcs:∀ W',Fr (fun kk=>kk=w.heap.size+1+1) w3 W'→(W'.cell? ⟨w.heap.size,0,none⟩=some (.bool (ratNeg q))∧W'.cell? ⟨w.heap.size,1,none⟩=some (.slice b.A b.n b.c)∧W'.cell? ⟨w.heap.size,2,none⟩=some (.slice b.A2 b.n2 b.c2))∧(W'.cell? ⟨w.heap.size+1,0,none⟩=some (.bool (ratNeg x.a))∧W'.cell? ⟨w.heap.size+1,1,none⟩=some (.slice d.a.A d.a.n d.a.c)∧W'.cell? ⟨w.heap.size+1,2,none⟩=some (.slice d.a.A2 d.a.n2 d.a.c2)∧W'.cell? ⟨w.heap.size+1,3,none⟩=some (.bool (ratNeg x.b))∧W'.cell? ⟨w.heap.size+1,4,none⟩=some (.slice d.b.A d.b.n d.b.c)∧W'.cell? ⟨w.heap.size+1,5,none⟩=some (.slice d.b.A2 d.b.n2 d.b.c2)):=fun W' hb=>⟨box3 ((hb.block _ (lt_of_blk hv1) (by omega)).trans hv1),box6 ((hb.block _ (lt_of_blk hv2) (by omega)).trans hv2)⟩
 have hbz:Below w.heap.size w w3:=kz3
 have hn1:=fun W (hb:Below w3.heap.size w3 W)=>rmul_any b d.a q x.a W ((h1.below hbz).below hb) ((h2.a.below hbz).below hb) k hk l1 l2.a
 have hn2:=fun W (hb:Below w3.heap.size w3 W)=>rmul_any b d.b q x.b W ((h1.below hbz).below hb) ((h2.b.below hbz).below hb) k hk l1 l2.b
 unfold RB.val at hn1 hn2;have HN1:=Lib.hid hn1;have HN2:=Lib.hid hn2;clear hn1 hn2 h1 h2 l1 l2;have HCS:=Lib.hid hcs;have HXR:=Lib.hid hx3;have HBZ:=Lib.hid hbz;clear hcs hbz hx1 hx2 hx3 hv1 hv2 aw1 aw2 aw3 zw1 zw2 zw3 kz2 kz3
 go_region_held3 (fun W'=>(W'.cell? ⟨w.heap.size,0,none⟩=some (.bool (ratNeg q))∧W'.cell? ⟨w.heap.size,1,none⟩=some (.slice b.A b.n b.c)∧W'.cell? ⟨w.heap.size,2,none⟩=some (.slice b.A2 b.n2 b.c2))∧(W'.cell? ⟨w.heap.size+1,0,none⟩=some (.bool (ratNeg x.a))∧W'.cell? ⟨w.heap.size+1,1,none⟩=some (.slice d.a.A d.a.n d.a.c)∧W'.cell? ⟨w.heap.size+1,2,none⟩=some (.slice d.a.A2 d.a.n2 d.a.c2)∧W'.cell? ⟨w.heap.size+1,3,none⟩=some (.bool (ratNeg x.b))∧W'.cell? ⟨w.heap.size+1,4,none⟩=some (.slice d.b.A d.b.n d.b.c)∧W'.cell? ⟨w.heap.size+1,5,none⟩=some (.slice d.b.A2 d.b.n2 d.b.c2))) ((refine HCS.out _ ?_;repeat' (first | with_reducible exact Fr.of_below k2 | with_reducible exact Fr.of_below k1 | with_reducible exact (Fr.refl _ _).drew | with_reducible refine fr_set ?_ ?_ | exact .inl rfl))) (first | (go_at_call 22;refine (HN1.out _ (below_drew2 (Below.refl _ _))).mono ?_;clear HN1;rintro e u1 ⟨b1,rfl,hr1,hb1⟩;have k1:Below w3.heap.size w3 u1:=(below_drew2 (Below.refl _ _)).trans (hb1.mono (Nat.le_refl _));have R1:=Lib.hid hr1;clear hr1) | (go_at_call 22;refine (HN2.out _ k1).mono ?_;clear HN2;rintro e u2 ⟨b2,rfl,hr2,hb2⟩;have k2:Below w3.heap.size w3 u2:=k1.trans (hb2.mono k1.size);have R2:=Lib.hid (And.intro (R1.out.below hb2) hr2);clear hr2;have HXE:=Lib.hid (box_keep HXR.out k2);obtain ⟨y0,y1,y2,y3,y4,y5⟩:=box6 HXE.out;have z0:=frozen_of_blk HXE.out 0;have z1:=frozen_of_blk HXE.out 1;have z2:=frozen_of_blk HXE.out 2;have z3:=frozen_of_blk HXE.out 3;have z4:=frozen_of_blk HXE.out 4;have z5:=frozen_of_blk HXE.out 5))
 all_goals
  go_wp2_with fail
  refine bodyPost_ret (v:=.agg #[.bool (ratNeg (q*x.a)),.slice b1.A b1.n b1.c,.slice b1.A2 b1.n2 b1.c2,.bool (ratNeg (q*x.b)),.slice b2.A b2.n b2.c,.slice b2.A2 b2.n2 b2.c2]) (by simp [results,Tryz.results45,go_sem,y0,y1,y2,y3,y4,y5]) rfl ?_;have hbel:=HBZ.out.trans (k2.mono HBZ.out.size);have hty:=typU_of HXE.out (by decide);exact ⟨⟨b1,b2⟩,rfl,⟨R2.out.1.frT (S:=fun b=>b=(w.heap.size+1+1)) (by repeat' (first | with_reducible exact Fr.refl _ _ | with_reducible refine fr_set ?_ ?_ | exact .inl rfl)) hty,R2.out.2.frT (S:=fun b=>b=(w.heap.size+1+1)) (by repeat' (first | with_reducible exact Fr.refl _ _ | with_reducible refine fr_set ?_ ?_ | exact .inl rfl)) hty⟩,(by repeat' (first | with_reducible exact hbel | with_reducible refine bl_set ?_ ?_ | (show w.heap.size≤(w.heap.size+1+1);omega)))⟩
set_option maxRecDepth 100000 in
set_option maxHeartbeats 4000000 in
theorem dsub_any (d1 d2:DB) (x y:Dl) (w:World) (h1:DAt w d1 x) (h2:DAt w d2 y) (k:Nat) (hk:k≤1000000) (l1:DLe x k) (l2:DLe y k) :
 Calls Tryz.prog 46 #[d1.val x,d2.val y] w fun r w'=>∃ d':DB,r=.returned (d'.val (dsub x y))∧DAt w' d' (dsub x y)∧Below w.heap.size w w':=by
 unfold DB.val
 go_enter Tryz.func46,Tryz.ntmps46
 go_upto_region 1 with fail
 have hx1:=heap_alloc_new w (.cells #[.bool (ratNeg x.a),.slice d1.a.A d1.a.n d1.a.c,.slice d1.a.A2 d1.a.n2 d1.a.c2,.bool (ratNeg x.b),.slice d1.b.A d1.b.n d1.b.c,.slice d1.b.A2 d1.b.n2 d1.b.c2] 108)
 have zw1:(w.alloc (.cells #[.bool (ratNeg x.a),.slice d1.a.A d1.a.n d1.a.c,.slice d1.a.A2 d1.a.n2 d1.a.c2,.bool (ratNeg x.b),.slice d1.b.A d1.b.n d1.b.c,.slice d1.b.A2 d1.b.n2 d1.b.c2] 108)).heap.size=w.heap.size+1:=by simp
 have aw1:=(Below.refl w.heap.size w).alloc (Nat.le_refl _) (.cells #[.bool (ratNeg x.a),.slice d1.a.A d1.a.n d1.a.c,.slice d1.a.A2 d1.a.n2 d1.a.c2,.bool (ratNeg x.b),.slice d1.b.A d1.b.n d1.b.c,.slice d1.b.A2 d1.b.n2 d1.b.c2] 108)
 obtain ⟨w1,ew1⟩:∃ x0,x0=w.alloc (.cells #[.bool (ratNeg x.a),.slice d1.a.A d1.a.n d1.a.c,.slice d1.a.A2 d1.a.n2 d1.a.c2,.bool (ratNeg x.b),.slice d1.b.A d1.b.n d1.b.c,.slice d1.b.A2 d1.b.n2 d1.b.c2] 108):=⟨_,rfl⟩
 rw [←ew1] at hx1 zw1 aw1 ⊢;clear ew1;have hx2:=heap_alloc_new w1 (.cells #[.bool (ratNeg y.a),.slice d2.a.A d2.a.n d2.a.c,.slice d2.a.A2 d2.a.n2 d2.a.c2,.bool (ratNeg y.b),.slice d2.b.A d2.b.n d2.b.c,.slice d2.b.A2 d2.b.n2 d2.b.c2] 108)
 have zw2:(w1.alloc (.cells #[.bool (ratNeg y.a),.slice d2.a.A d2.a.n d2.a.c,.slice d2.a.A2 d2.a.n2 d2.a.c2,.bool (ratNeg y.b),.slice d2.b.A d2.b.n d2.b.c,.slice d2.b.A2 d2.b.n2 d2.b.c2] 108)).heap.size=w1.heap.size+1:=by simp
 have aw2:=(Below.refl w1.heap.size w1).alloc (Nat.le_refl _) (.cells #[.bool (ratNeg y.a),.slice d2.a.A d2.a.n d2.a.c,.slice d2.a.A2 d2.a.n2 d2.a.c2,.bool (ratNeg y.b),.slice d2.b.A d2.b.n d2.b.c,.slice d2.b.A2 d2.b.n2 d2.b.c2] 108)
 obtain ⟨w2,ew2⟩:∃ x0,x0=w1.alloc (.cells #[.bool (ratNeg y.a),.slice d2.a.A d2.a.n d2.a.c,.slice d2.a.A2 d2.a.n2 d2.a.c2,.bool (ratNeg y.b),.slice d2.b.A d2.b.n d2.b.c,.slice d2.b.A2 d2.b.n2 d2.b.c2] 108):=⟨_,rfl⟩
 rw [←ew2] at hx2 zw2 aw2 ⊢;clear ew2;have hx3:=heap_alloc_new w2 (.cells #[.bool false,.slice none 0 0,.slice none 0 0,.bool false,.slice none 0 0,.slice none 0 0] 108)
 have zw3:(w2.alloc (.cells #[.bool false,.slice none 0 0,.slice none 0 0,.bool false,.slice none 0 0,.slice none 0 0] 108)).heap.size=w2.heap.size+1:=by simp
 have aw3:=(Below.refl w2.heap.size w2).alloc (Nat.le_refl _) (.cells #[.bool false,.slice none 0 0,.slice none 0 0,.bool false,.slice none 0 0,.slice none 0 0] 108)
 obtain ⟨w3,ew3⟩:∃ x0,x0=w2.alloc (.cells #[.bool false,.slice none 0 0,.slice none 0 0,.bool false,.slice none 0 0,.slice none 0 0] 108):=⟨_,rfl⟩
 rw [←ew3] at hx3 zw3 aw3 ⊢;clear ew3;rw [zw1] at hx2;rw [zw2,zw1] at hx3;have kz2:=aw1.trans (aw2.mono aw1.size);have kz3:=kz2.trans (aw3.mono kz2.size)
 have hv1:=(box_keep (box_keep hx1 aw2) aw3)
 have hv2:=(box_keep hx2 aw3)
 have hcs:∀ W',Fr (fun kk=>kk=w.heap.size+1+1) w3 W'→(W'.cell? ⟨w.heap.size,0,none⟩=some (.bool (ratNeg x.a))∧W'.cell? ⟨w.heap.size,1,none⟩=some (.slice d1.a.A d1.a.n d1.a.c)∧W'.cell? ⟨w.heap.size,2,none⟩=some (.slice d1.a.A2 d1.a.n2 d1.a.c2)∧W'.cell? ⟨w.heap.size,3,none⟩=some (.bool (ratNeg x.b))∧W'.cell? ⟨w.heap.size,4,none⟩=some (.slice d1.b.A d1.b.n d1.b.c)∧W'.cell? ⟨w.heap.size,5,none⟩=some (.slice d1.b.A2 d1.b.n2 d1.b.c2))∧(W'.cell? ⟨w.heap.size+1,0,none⟩=some (.bool (ratNeg y.a))∧W'.cell? ⟨w.heap.size+1,1,none⟩=some (.slice d2.a.A d2.a.n d2.a.c)∧W'.cell? ⟨w.heap.size+1,2,none⟩=some (.slice d2.a.A2 d2.a.n2 d2.a.c2)∧W'.cell? ⟨w.heap.size+1,3,none⟩=some (.bool (ratNeg y.b))∧W'.cell? ⟨w.heap.size+1,4,none⟩=some (.slice d2.b.A d2.b.n d2.b.c)∧W'.cell? ⟨w.heap.size+1,5,none⟩=some (.slice d2.b.A2 d2.b.n2 d2.b.c2)):=fun W' hb=>⟨box6 ((hb.block _ (lt_of_blk hv1) (by omega)).trans hv1),box6 ((hb.block _ (lt_of_blk hv2) (by omega)).trans hv2)⟩
 have hbz:Below w.heap.size w w3:=kz3
 have hn1:=fun W (hb:Below w3.heap.size w3 W)=>dneg_any d2 y W ((h2.below hbz).below hb)
 have hn2:=fun W (d3:DB) (hb:Below w3.heap.size w3 W) (h3:DAt W d3 (dneg y))=>dadd_any d1 d3 x (dneg y) W ((h1.below hbz).below hb) h3 k hk l1 (dneg_le l2)
 simp only [dadd_neg] at hn2;unfold DB.val at hn1 hn2;have HN1:=Lib.hid hn1;have HN2:=Lib.hid hn2;clear hn1 hn2 h1 h2 l1 l2;have HCS:=Lib.hid hcs;have HXR:=Lib.hid hx3;have HBZ:=Lib.hid hbz;clear hcs hbz hx1 hx2 hx3 hv1 hv2 aw1 aw2 aw3 zw1 zw2 zw3 kz2 kz3
 go_region_held3 (fun W'=>(W'.cell? ⟨w.heap.size,0,none⟩=some (.bool (ratNeg x.a))∧W'.cell? ⟨w.heap.size,1,none⟩=some (.slice d1.a.A d1.a.n d1.a.c)∧W'.cell? ⟨w.heap.size,2,none⟩=some (.slice d1.a.A2 d1.a.n2 d1.a.c2)∧W'.cell? ⟨w.heap.size,3,none⟩=some (.bool (ratNeg x.b))∧W'.cell? ⟨w.heap.size,4,none⟩=some (.slice d1.b.A d1.b.n d1.b.c)∧W'.cell? ⟨w.heap.size,5,none⟩=some (.slice d1.b.A2 d1.b.n2 d1.b.c2))∧(W'.cell? ⟨w.heap.size+1,0,none⟩=some (.bool (ratNeg y.a))∧W'.cell? ⟨w.heap.size+1,1,none⟩=some (.slice d2.a.A d2.a.n d2.a.c)∧W'.cell? ⟨w.heap.size+1,2,none⟩=some (.slice d2.a.A2 d2.a.n2 d2.a.c2)∧W'.cell? ⟨w.heap.size+1,3,none⟩=some (.bool (ratNeg y.b))∧W'.cell? ⟨w.heap.size+1,4,none⟩=some (.slice d2.b.A d2.b.n d2.b.c)∧W'.cell? ⟨w.heap.size+1,5,none⟩=some (.slice d2.b.A2 d2.b.n2 d2.b.c2))) ((refine HCS.out _ ?_;repeat' (first | with_reducible exact Fr.of_below k2 | with_reducible exact Fr.of_below k1 | with_reducible exact (Fr.refl _ _).drew | with_reducible refine fr_set ?_ ?_ | exact .inl rfl))) (first | (go_at_call 72;refine (HN1.out _ (below_drew2 (Below.refl _ _))).mono ?_;clear HN1;rintro e u1 ⟨d3,rfl,hr1,hb1⟩;have k1:Below w3.heap.size w3 u1:=(below_drew2 (Below.refl _ _)).trans (hb1.mono (Nat.le_refl _));have R1:=Lib.hid hr1;clear hr1) | (go_at_call 47;refine (HN2.out _ d3 k1 R1.out).mono ?_;clear HN2;rintro e u2 ⟨d4,rfl,hr2,hb2⟩;have k2:Below w3.heap.size w3 u2:=k1.trans (hb2.mono k1.size);have R2:=Lib.hid hr2;clear hr2;have HXE:=Lib.hid (box_keep HXR.out k2);obtain ⟨y0,y1,y2,y3,y4,y5⟩:=box6 HXE.out;have z0:=frozen_of_blk HXE.out 0;have z1:=frozen_of_blk HXE.out 1;have z2:=frozen_of_blk HXE.out 2;have z3:=frozen_of_blk HXE.out 3;have z4:=frozen_of_blk HXE.out 4;have z5:=frozen_of_blk HXE.out 5))
 all_goals
  go_wp2_with fail
  refine bodyPost_ret (v:=.agg #[.bool (ratNeg (dsub x y).a),.slice d4.a.A d4.a.n d4.a.c,.slice d4.a.A2 d4.a.n2 d4.a.c2,.bool (ratNeg (dsub x y).b),.slice d4.b.A d4.b.n d4.b.c,.slice d4.b.A2 d4.b.n2 d4.b.c2]) (by simp [results,Tryz.results46,go_sem,y0,y1,y2,y3,y4,y5]) rfl ?_;have hbel:=HBZ.out.trans (k2.mono HBZ.out.size);have hty:=typU_of HXE.out (by decide);exact ⟨d4,rfl,R2.out.frT (S:=fun b=>b=(w.heap.size+1+1)) (by repeat' (first | with_reducible exact Fr.refl _ _ | with_reducible refine fr_set ?_ ?_ | exact .inl rfl)) hty,(by repeat' (first | with_reducible exact hbel | with_reducible refine bl_set ?_ ?_ | (show w.heap.size≤(w.heap.size+1+1);omega)))⟩
set_option maxRecDepth 100000 in
set_option maxHeartbeats 4000000 in
theorem dat_any (d:DB) (b:RB) (x:Dl) (q:Rat) (w:World) (h1:DAt w d x) (h2:RatAt w b q) (k:Nat) (hk:k≤100000) (l1:DLe x k) (l2:RatLe q k) :
 Calls Tryz.prog 43 #[d.val x,b.val (ratNeg q)] w fun r w'=>∃ b':RB,r=.returned (b'.val (ratNeg (x.a+x.b*q)))∧RatAt w' b' (x.a+x.b*q)∧Below w.heap.size w w':=by
 unfold DB.val RB.val
 go_enter Tryz.func43,Tryz.ntmps43
 go_upto_region 1 with fail
 have hx1:=heap_alloc_new w (.cells #[.bool (ratNeg x.a),.slice d.a.A d.a.n d.a.c,.slice d.a.A2 d.a.n2 d.a.c2,.bool (ratNeg x.b),.slice d.b.A d.b.n d.b.c,.slice d.b.A2 d.b.n2 d.b.c2] 108)
 have zw1:(w.alloc (.cells #[.bool (ratNeg x.a),.slice d.a.A d.a.n d.a.c,.slice d.a.A2 d.a.n2 d.a.c2,.bool (ratNeg x.b),.slice d.b.A d.b.n d.b.c,.slice d.b.A2 d.b.n2 d.b.c2] 108)).heap.size=w.heap.size+1:=by simp
 have aw1:=(Below.refl w.heap.size w).alloc (Nat.le_refl _) (.cells #[.bool (ratNeg x.a),.slice d.a.A d.a.n d.a.c,.slice d.a.A2 d.a.n2 d.a.c2,.bool (ratNeg x.b),.slice d.b.A d.b.n d.b.c,.slice d.b.A2 d.b.n2 d.b.c2] 108)
 obtain ⟨w1,ew1⟩:∃ x0,x0=w.alloc (.cells #[.bool (ratNeg x.a),.slice d.a.A d.a.n d.a.c,.slice d.a.A2 d.a.n2 d.a.c2,.bool (ratNeg x.b),.slice d.b.A d.b.n d.b.c,.slice d.b.A2 d.b.n2 d.b.c2] 108):=⟨_,rfl⟩
 rw [←ew1] at hx1 zw1 aw1 ⊢;clear ew1;have hx2:=heap_alloc_new w1 (.cells #[.bool (ratNeg q),.slice b.A b.n b.c,.slice b.A2 b.n2 b.c2] 26)
 have zw2:(w1.alloc (.cells #[.bool (ratNeg q),.slice b.A b.n b.c,.slice b.A2 b.n2 b.c2] 26)).heap.size=w1.heap.size+1:=by simp
 have aw2:=(Below.refl w1.heap.size w1).alloc (Nat.le_refl _) (.cells #[.bool (ratNeg q),.slice b.A b.n b.c,.slice b.A2 b.n2 b.c2] 26)
 obtain ⟨w2,ew2⟩:∃ x0,x0=w1.alloc (.cells #[.bool (ratNeg q),.slice b.A b.n b.c,.slice b.A2 b.n2 b.c2] 26):=⟨_,rfl⟩
 rw [←ew2] at hx2 zw2 aw2 ⊢;clear ew2;have hx3:=heap_alloc_new w2 (.cells #[.bool false,.slice none 0 0,.slice none 0 0] 26)
 have zw3:(w2.alloc (.cells #[.bool false,.slice none 0 0,.slice none 0 0] 26)).heap.size=w2.heap.size+1:=by simp
 have aw3:=(Below.refl w2.heap.size w2).alloc (Nat.le_refl _) (.cells #[.bool false,.slice none 0 0,.slice none 0 0] 26)
 obtain ⟨w3,ew3⟩:∃ x0,x0=w2.alloc (.cells #[.bool false,.slice none 0 0,.slice none 0 0] 26):=⟨_,rfl⟩
 rw [←ew3] at hx3 zw3 aw3 ⊢;clear ew3;rw [zw1] at hx2;rw [zw2,zw1] at hx3;have kz2:=aw1.trans (aw2.mono aw1.size);have kz3:=kz2.trans (aw3.mono kz2.size)
 have hv1:=(box_keep (box_keep hx1 aw2) aw3)
 have hv2:=(box_keep hx2 aw3)
 have hcs:∀ W',Fr (fun kk=>kk=w.heap.size+1+1) w3 W'→(W'.cell? ⟨w.heap.size,0,none⟩=some (.bool (ratNeg x.a))∧W'.cell? ⟨w.heap.size,1,none⟩=some (.slice d.a.A d.a.n d.a.c)∧W'.cell? ⟨w.heap.size,2,none⟩=some (.slice d.a.A2 d.a.n2 d.a.c2)∧W'.cell? ⟨w.heap.size,3,none⟩=some (.bool (ratNeg x.b))∧W'.cell? ⟨w.heap.size,4,none⟩=some (.slice d.b.A d.b.n d.b.c)∧W'.cell? ⟨w.heap.size,5,none⟩=some (.slice d.b.A2 d.b.n2 d.b.c2))∧(W'.cell? ⟨w.heap.size+1,0,none⟩=some (.bool (ratNeg q))∧W'.cell? ⟨w.heap.size+1,1,none⟩=some (.slice b.A b.n b.c)∧W'.cell? ⟨w.heap.size+1,2,none⟩=some (.slice b.A2 b.n2 b.c2)):=fun W' hb=>⟨box6 ((hb.block _ (lt_of_blk hv1) (by omega)).trans hv1),box3 ((hb.block _ (lt_of_blk hv2) (by omega)).trans hv2)⟩
 have hbz:Below w.heap.size w w3:=kz3
 have hn1:=fun W (hb:Below w3.heap.size w3 W)=>rmul_any d.b b x.b q W ((h1.b.below hbz).below hb) ((h2.below hbz).below hb) k (by omega) l1.b l2
 have hn2:=fun W (b3:RB) (hb:Below w3.heap.size w3 W) (h3:RatAt W b3 (x.b*q))=>add_any d.a b3 x.a (x.b*q) W ((h1.a.below hbz).below hb) h3 (k+k) (by omega) (l1.a.up (by omega)) (mul_le l1.b l2)
 unfold RB.val at hn1 hn2;have HN1:=Lib.hid hn1;have HN2:=Lib.hid hn2;clear hn1 hn2 h1 h2 l1 l2;have HCS:=Lib.hid hcs;have HXR:=Lib.hid hx3;have HBZ:=Lib.hid hbz;clear hcs hbz hx1 hx2 hx3 hv1 hv2 aw1 aw2 aw3 zw1 zw2 zw3 kz2 kz3
 go_region_held3 (fun W'=>(W'.cell? ⟨w.heap.size,0,none⟩=some (.bool (ratNeg x.a))∧W'.cell? ⟨w.heap.size,1,none⟩=some (.slice d.a.A d.a.n d.a.c)∧W'.cell? ⟨w.heap.size,2,none⟩=some (.slice d.a.A2 d.a.n2 d.a.c2)∧W'.cell? ⟨w.heap.size,3,none⟩=some (.bool (ratNeg x.b))∧W'.cell? ⟨w.heap.size,4,none⟩=some (.slice d.b.A d.b.n d.b.c)∧W'.cell? ⟨w.heap.size,5,none⟩=some (.slice d.b.A2 d.b.n2 d.b.c2))∧(W'.cell? ⟨w.heap.size+1,0,none⟩=some (.bool (ratNeg q))∧W'.cell? ⟨w.heap.size+1,1,none⟩=some (.slice b.A b.n b.c)∧W'.cell? ⟨w.heap.size+1,2,none⟩=some (.slice b.A2 b.n2 b.c2))) ((refine HCS.out _ ?_;repeat' (first | with_reducible exact Fr.of_below k2 | with_reducible exact Fr.of_below k1 | with_reducible exact (Fr.refl _ _).drew | with_reducible refine fr_set ?_ ?_ | exact .inl rfl))) (first | (go_at_call 22;refine (HN1.out _ (below_drew2 (Below.refl _ _))).mono ?_;clear HN1;rintro e u1 ⟨b3,rfl,hr1,hb1⟩;have k1:Below w3.heap.size w3 u1:=(below_drew2 (Below.refl _ _)).trans (hb1.mono (Nat.le_refl _));have R1:=Lib.hid hr1;clear hr1) | (go_at_call 48;refine (HN2.out _ b3 k1 R1.out).mono ?_;clear HN2;rintro e u2 ⟨b4,rfl,hr2,hb2⟩;have k2:Below w3.heap.size w3 u2:=k1.trans (hb2.mono k1.size);have R2:=Lib.hid hr2;clear hr2;have HXE:=Lib.hid (box_keep HXR.out k2);obtain ⟨y0,y1,y2⟩:=box3 HXE.out;have z0:=frozen_of_blk HXE.out 0;have z1:=frozen_of_blk HXE.out 1;have z2:=frozen_of_blk HXE.out 2))
 all_goals
  go_wp2_with fail
  refine bodyPost_ret (v:=.agg #[.bool (ratNeg (x.a+x.b*q)),.slice b4.A b4.n b4.c,.slice b4.A2 b4.n2 b4.c2]) (by simp [results,Tryz.results43,go_sem,y0,y1,y2]) rfl ?_;have hbel:=HBZ.out.trans (k2.mono HBZ.out.size);have hty:=typU_of HXE.out (by decide);exact ⟨b4,rfl,R2.out.frT (S:=fun b=>b=(w.heap.size+1+1)) (by repeat' (first | with_reducible exact Fr.refl _ _ | with_reducible refine fr_set ?_ ?_ | exact .inl rfl)) hty,(by repeat' (first | with_reducible exact hbel | with_reducible refine bl_set ?_ ?_ | (show w.heap.size≤(w.heap.size+1+1);omega)))⟩
end Go.Proofs.YtdefcbfofonabaaGreat
