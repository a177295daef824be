/- Contracts of delta.Cmp, delta.Of. -/
import Derived.Test.YtdefcbfofonabaaGreatDeA
import Derived.Test.YtdefcbfofonabaaGreatRatMath
namespace Go.Proofs.YtdefcbfofonabaaGreat
open Go.RowKit
set_option linter.unusedVariables false
set_option linter.unusedSimpArgs false
theorem num_ltz {q:Rat}:q.num<0↔q<0:=by
 have:=@Rat.num_nonneg q
 constructor
 · intro h
   have h1:¬ 0≤q:=fun h2=>by have:=this.2 h2;omega
   grind
 · intro h
   have h1:¬ 0≤q:=by grind
   have h2:¬ 0≤q.num:=fun h2=>h1 (this.1 h2)
   omega
def cmpD (x y:Dl):Int:=if signZ (x.a - y.a)=0 then signZ (x.b - y.b) else signZ (x.a - y.a)
theorem signZ_pos {r:Rat}:0<signZ r↔0<r:=by
 have h0:=num_zero r;unfold signZ
 by_cases h:r.num.natAbs=0
 · rw [if_pos h]
   have:=h0.1 h;subst this;simp
 · rw [if_neg h]
   have hne:r≠0:=fun e=>h (h0.2 e)
   unfold ratNeg
   by_cases h1:r.num<0
   · rw [decide_eq_true h1]
     have:=num_ltz.1 h1;simp
     grind
   · rw [decide_eq_false h1]
     have:=fun h'=>h1 (num_ltz.2 h')
     simp
     grind
theorem signZ_neg {r:Rat}:signZ r<0↔r<0:=by
 have h0:=num_zero r;unfold signZ
 by_cases h:r.num.natAbs=0
 · rw [if_pos h]
   have:=h0.1 h;subst this;simp
 · rw [if_neg h]
   have hne:r≠0:=fun e=>h (h0.2 e)
   unfold ratNeg
   by_cases h1:r.num<0
   · rw [decide_eq_true h1]
     have:=num_ltz.1 h1;simp;exact this
   · rw [decide_eq_false h1]
     have:=fun h'=>h1 (num_ltz.2 h')
     simp
     grind
theorem signZ_nul {r:Rat}:signZ r=0↔r=0:=by
 have:=signZ_zero r
 constructor
 · intro h
   rw [h] at this
   simpa using this.symm
 · intro h
   rw [decide_eq_true h] at this
   simpa using this
theorem cmpD_pos {x y:Dl}:0<cmpD x y↔(dsub x y).pos:=by
 unfold cmpD Dl.pos dsub;simp only
 split
 · rename_i h
   rw [signZ_pos,signZ_nul.1 h];simp
 · rename_i h
   rw [signZ_pos]
   have:x.a - y.a≠0:=fun e=>h (signZ_nul.2 e)
   constructor
   · exact .inl
   · rintro (h1 | ⟨h1,_⟩)
     · exact h1
     · exact absurd h1 this
theorem cmpD_neg {x y:Dl}:cmpD x y<0↔(dsub y x).pos:=by
 unfold cmpD Dl.pos dsub;simp only
 split
 · rename_i h
   have h0:=signZ_nul.1 h;rw [signZ_neg]
   grind
 · rename_i h
   rw [signZ_neg]
   have:x.a - y.a≠0:=fun e=>h (signZ_nul.2 e)
   grind
set_option maxRecDepth 100000 in
set_option maxHeartbeats 4000000 in
theorem dcmp_any (d1 d2:DB) (x y:Dl) (w:World) (h1:DAt w d1 x) (h2:DAt w d2 y) (k:Nat) (hk:k≤1000000) (l1:DLe x k) (l2:DLe y k) :
 Calls Tryz.prog 41 #[d1.val x,d2.val y] w fun r w'=>r=.returned (.int .i64 (cmpD x y))∧Below w.heap.size w w':=by
 unfold cmpD DB.val
 have hn1:=fun W (hb:Below w.heap.size w W)=>cmp_any d1.a d2.a x.a y.a W (h1.a.below hb) (h2.a.below hb) k hk l1.a l2.a
 have hn2:=fun W (hb:Below w.heap.size w W)=>cmp_any d1.b d2.b x.b y.b W (h1.b.below hb) (h2.b.below hb) k hk l1.b l2.b
 unfold RB.val at hn1 hn2
 obtain ⟨z1,hz1⟩:∃ z,z=signZ (x.a - y.a):=⟨_,rfl⟩
 obtain ⟨z2,hz2⟩:∃ z,z=signZ (x.b - y.b):=⟨_,rfl⟩
 rw [←hz1] at hn1 ⊢;rw [←hz2] at hn2 ⊢;have HN1:=Lib.hid hn1;have HN2:=Lib.hid hn2;clear hn1 hn2 h1 h2 l1 l2 hz1 hz2
 by_cases h0:z1=0
 · subst h0
   rw [if_pos rfl]
   go_enter Tryz.func41,Tryz.ntmps41
   go_upto_region 1 with fail
   have hx1:=heap_alloc_new w (.cells #[.bool (ratNeg x.a),.slice d1.a.A d1.a.n d1.a.c,.slice d1.a.A2 d1.a.n2 d1.a.c2,.bool (ratNeg x.b),.slice d1.b.A d1.b.n d1.b.c,.slice d1.b.A2 d1.b.n2 d1.b.c2] 108)
   have zw1:(w.alloc (.cells #[.bool (ratNeg x.a),.slice d1.a.A d1.a.n d1.a.c,.slice d1.a.A2 d1.a.n2 d1.a.c2,.bool (ratNeg x.b),.slice d1.b.A d1.b.n d1.b.c,.slice d1.b.A2 d1.b.n2 d1.b.c2] 108)).heap.size=w.heap.size+1:=by simp
   have aw1:=(Below.refl w.heap.size w).alloc (Nat.le_refl _) (.cells #[.bool (ratNeg x.a),.slice d1.a.A d1.a.n d1.a.c,.slice d1.a.A2 d1.a.n2 d1.a.c2,.bool (ratNeg x.b),.slice d1.b.A d1.b.n d1.b.c,.slice d1.b.A2 d1.b.n2 d1.b.c2] 108)
   obtain ⟨w1,ew1⟩:∃ x0,x0=w.alloc (.cells #[.bool (ratNeg x.a),.slice d1.a.A d1.a.n d1.a.c,.slice d1.a.A2 d1.a.n2 d1.a.c2,.bool (ratNeg x.b),.slice d1.b.A d1.b.n d1.b.c,.slice d1.b.A2 d1.b.n2 d1.b.c2] 108):=⟨_,rfl⟩
   rw [←ew1] at hx1 zw1 aw1 ⊢;clear ew1;have hx2:=heap_alloc_new w1 (.cells #[.bool (ratNeg y.a),.slice d2.a.A d2.a.n d2.a.c,.slice d2.a.A2 d2.a.n2 d2.a.c2,.bool (ratNeg y.b),.slice d2.b.A d2.b.n d2.b.c,.slice d2.b.A2 d2.b.n2 d2.b.c2] 108)
   have zw2:(w1.alloc (.cells #[.bool (ratNeg y.a),.slice d2.a.A d2.a.n d2.a.c,.slice d2.a.A2 d2.a.n2 d2.a.c2,.bool (ratNeg y.b),.slice d2.b.A d2.b.n d2.b.c,.slice d2.b.A2 d2.b.n2 d2.b.c2] 108)).heap.size=w1.heap.size+1:=by simp
   have aw2:=(Below.refl w1.heap.size w1).alloc (Nat.le_refl _) (.cells #[.bool (ratNeg y.a),.slice d2.a.A d2.a.n d2.a.c,.slice d2.a.A2 d2.a.n2 d2.a.c2,.bool (ratNeg y.b),.slice d2.b.A d2.b.n d2.b.c,.slice d2.b.A2 d2.b.n2 d2.b.c2] 108)
   obtain ⟨w2,ew2⟩:∃ x0,x0=w1.alloc (.cells #[.bool (ratNeg y.a),.slice d2.a.A d2.a.n d2.a.c,.slice d2.a.A2 d2.a.n2 d2.a.c2,.bool (ratNeg y.b),.slice d2.b.A d2.b.n d2.b.c,.slice d2.b.A2 d2.b.n2 d2.b.c2] 108):=⟨_,rfl⟩
   rw [←ew2] at hx2 zw2 aw2 ⊢;clear ew2;rw [zw1] at hx2;have kz:=aw1.trans (aw2.mono aw1.size);have hv1:=box_keep hx1 aw2;obtain ⟨p0,p1,p2,p3,p4,p5⟩:=box6 hv1;obtain ⟨q0,q1,q2,q3,q4,q5⟩:=box6 hx2;have HV1:=Lib.hid hv1;have HV2:=Lib.hid hx2;have KZ:=Lib.hid kz;clear hx1 hx2 hv1 aw1 aw2 zw1 zw2 kz
   go_wp2_with (first | (go_at_call 68;refine (HN1.out _ KZ.out).mono ?_;clear HN1 p0 p1 p2 p3 p4 p5 q0 q1 q2 q3 q4 q5;rintro e u1 ⟨rfl,hb1⟩;have HB1:=Lib.hid (KZ.out.trans (hb1.mono KZ.out.size));obtain ⟨p0,p1,p2,p3,p4,p5⟩:=box6 (box_keep HV1.out hb1);obtain ⟨q0,q1,q2,q3,q4,q5⟩:=box6 (box_keep HV2.out hb1);clear hb1) | (go_at_call 68;refine (HN2.out _ HB1.out).mono ?_;rintro e u2 ⟨rfl,hb2⟩))
   go_ret;exact ⟨rfl,HB1.out.trans (hb2.mono HB1.out.size)⟩
 · have hz:(z1 != 0)=true:=by simpa using h0
   rw [if_neg h0];clear h0 HN2
   go_enter Tryz.func41,Tryz.ntmps41
   go_upto_region 1 with fail
   have hx1:=heap_alloc_new w (.cells #[.bool (ratNeg x.a),.slice d1.a.A d1.a.n d1.a.c,.slice d1.a.A2 d1.a.n2 d1.a.c2,.bool (ratNeg x.b),.slice d1.b.A d1.b.n d1.b.c,.slice d1.b.A2 d1.b.n2 d1.b.c2] 108)
   have zw1:(w.alloc (.cells #[.bool (ratNeg x.a),.slice d1.a.A d1.a.n d1.a.c,.slice d1.a.A2 d1.a.n2 d1.a.c2,.bool (ratNeg x.b),.slice d1.b.A d1.b.n d1.b.c,.slice d1.b.A2 d1.b.n2 d1.b.c2] 108)).heap.size=w.heap.size+1:=by simp
   have aw1:=(Below.refl w.heap.size w).alloc (Nat.le_refl _) (.cells #[.bool (ratNeg x.a),.slice d1.a.A d1.a.n d1.a.c,.slice d1.a.A2 d1.a.n2 d1.a.c2,.bool (ratNeg x.b),.slice d1.b.A d1.b.n d1.b.c,.slice d1.b.A2 d1.b.n2 d1.b.c2] 108)
   obtain ⟨w1,ew1⟩:∃ x0,x0=w.alloc (.cells #[.bool (ratNeg x.a),.slice d1.a.A d1.a.n d1.a.c,.slice d1.a.A2 d1.a.n2 d1.a.c2,.bool (ratNeg x.b),.slice d1.b.A d1.b.n d1.b.c,.slice d1.b.A2 d1.b.n2 d1.b.c2] 108):=⟨_,rfl⟩
   rw [←ew1] at hx1 zw1 aw1 ⊢;clear ew1;have hx2:=heap_alloc_new w1 (.cells #[.bool (ratNeg y.a),.slice d2.a.A d2.a.n d2.a.c,.slice d2.a.A2 d2.a.n2 d2.a.c2,.bool (ratNeg y.b),.slice d2.b.A d2.b.n d2.b.c,.slice d2.b.A2 d2.b.n2 d2.b.c2] 108)
   have zw2:(w1.alloc (.cells #[.bool (ratNeg y.a),.slice d2.a.A d2.a.n d2.a.c,.slice d2.a.A2 d2.a.n2 d2.a.c2,.bool (ratNeg y.b),.slice d2.b.A d2.b.n d2.b.c,.slice d2.b.A2 d2.b.n2 d2.b.c2] 108)).heap.size=w1.heap.size+1:=by simp
   have aw2:=(Below.refl w1.heap.size w1).alloc (Nat.le_refl _) (.cells #[.bool (ratNeg y.a),.slice d2.a.A d2.a.n d2.a.c,.slice d2.a.A2 d2.a.n2 d2.a.c2,.bool (ratNeg y.b),.slice d2.b.A d2.b.n d2.b.c,.slice d2.b.A2 d2.b.n2 d2.b.c2] 108)
   obtain ⟨w2,ew2⟩:∃ x0,x0=w1.alloc (.cells #[.bool (ratNeg y.a),.slice d2.a.A d2.a.n d2.a.c,.slice d2.a.A2 d2.a.n2 d2.a.c2,.bool (ratNeg y.b),.slice d2.b.A d2.b.n d2.b.c,.slice d2.b.A2 d2.b.n2 d2.b.c2] 108):=⟨_,rfl⟩
   rw [←ew2] at hx2 zw2 aw2 ⊢;clear ew2;rw [zw1] at hx2;have kz:=aw1.trans (aw2.mono aw1.size);have hv1:=box_keep hx1 aw2;obtain ⟨p0,p1,p2,p3,p4,p5⟩:=box6 hv1;obtain ⟨q0,q1,q2,q3,q4,q5⟩:=box6 hx2;have KZ:=Lib.hid kz;clear hx1 hx2 hv1 aw1 aw2 zw1 zw2 kz
   go_wp2_with (go_at_call 68;refine (HN1.out _ KZ.out).mono ?_;rintro e u1 ⟨rfl,hb1⟩)
   go_ret;exact ⟨rfl,KZ.out.trans (hb1.mono KZ.out.size)⟩
set_option maxRecDepth 100000 in
set_option maxHeartbeats 4000000 in
theorem dof_any (b:RB) (q:Rat) (w:World) (h:RatAt w b q) :
 Calls Tryz.prog 39 #[b.val (ratNeg q)] w fun r w'=>r=.returned ((DB.mk b ⟨none,0,0,none,0,0⟩).val ⟨q,0⟩)∧DAt w' ⟨b,⟨none,0,0,none,0,0⟩⟩ ⟨q,0⟩∧Below w.heap.size w w':=by
 unfold DB.val RB.val;rw [zero_neg]
 obtain ⟨s,hs⟩:∃ s,s=ratNeg q:=⟨_,rfl⟩
 rw [←hs];have H:=Lib.hid h;clear h hs
 go_enter Tryz.func39,Tryz.ntmps39
 go_upto_region 1 with fail
 have hx1:=heap_alloc_new w (.cells #[.bool s,.slice b.A b.n b.c,.slice b.A2 b.n2 b.c2] 26)
 have zw1:(w.alloc (.cells #[.bool s,.slice b.A b.n b.c,.slice b.A2 b.n2 b.c2] 26)).heap.size=w.heap.size+1:=by simp
 have aw1:=(Below.refl w.heap.size w).alloc (Nat.le_refl _) (.cells #[.bool s,.slice b.A b.n b.c,.slice b.A2 b.n2 b.c2] 26)
 obtain ⟨w1,ew1⟩:∃ x0,x0=w.alloc (.cells #[.bool s,.slice b.A b.n b.c,.slice b.A2 b.n2 b.c2] 26):=⟨_,rfl⟩
 rw [←ew1] at hx1 zw1 aw1 ⊢;clear ew1;have hx2:=heap_alloc_new w1 (.cells #[.bool false,.slice none 0 0,.slice none 0 0,.bool false,.slice none 0 0,.slice none 0 0] 108)
 have zw2:(w1.alloc (.cells #[.bool false,.slice none 0 0,.slice none 0 0,.bool false,.slice none 0 0,.slice none 0 0] 108)).heap.size=w1.heap.size+1:=by simp
 have aw2:=(Below.refl w1.heap.size w1).alloc (Nat.le_refl _) (.cells #[.bool false,.slice none 0 0,.slice none 0 0,.bool false,.slice none 0 0,.slice none 0 0] 108)
 obtain ⟨w2,ew2⟩:∃ x0,x0=w1.alloc (.cells #[.bool false,.slice none 0 0,.slice none 0 0,.bool false,.slice none 0 0,.slice none 0 0] 108):=⟨_,rfl⟩
 rw [←ew2] at hx2 zw2 aw2 ⊢;clear ew2;rw [zw1] at hx2;have kz:=aw1.trans (aw2.mono aw1.size);have hv1:=box_keep hx1 aw2;obtain ⟨p0,p1,p2⟩:=box3 hv1;obtain ⟨y0,y1,y2,y3,y4,y5⟩:=box6 hx2;have z0:=frozen_of_blk hx2 0;have z1:=frozen_of_blk hx2 1;have z2:=frozen_of_blk hx2 2;have z3:=frozen_of_blk hx2 3;have z4:=frozen_of_blk hx2 4;have z5:=frozen_of_blk hx2 5;have HX2:=Lib.hid hx2;have KZ:=Lib.hid kz;clear hx1 hx2 hv1 aw1 aw2 zw1 zw2 kz
 go_wp2_with fail
 refine bodyPost_ret (v:=.agg #[.bool s,.slice b.A b.n b.c,.slice b.A2 b.n2 b.c2,.bool false,.slice none 0 0,.slice none 0 0]) (by simp [results,Tryz.results39,go_sem,y0,y1,y2,y3,y4,y5]) rfl ?_;have hty:=typU_of HX2.out (by decide);refine ⟨rfl,⟨(H.out.below KZ.out).frT (S:=fun b=>b=w.heap.size+1) (by repeat' (first | with_reducible exact Fr.refl _ _ | with_reducible refine fr_set ?_ ?_ | exact .inl rfl)) hty,zero_at _⟩,?_⟩
 repeat' (first | with_reducible exact KZ.out | with_reducible refine bl_set ?_ ?_ | (show w.heap.size≤w.heap.size+1;omega))
end Go.Proofs.YtdefcbfofonabaaGreat

namespace Go.Proofs.YtdefcbfofonabaaGreat
open Go.RowKit
set_option linter.unusedVariables false
set_option linter.unusedSimpArgs false
def RCell (w:World) (b o:Nat) (q:Rat) (k:Nat):Prop:=∃ r:RB,w.cell? ⟨b,o,none⟩=some (.bool (ratNeg q))∧w.cell? ⟨b,o+1,none⟩=some (.slice r.A r.n r.c)∧w.cell? ⟨b,o+2,none⟩=some (.slice r.A2 r.n2 r.c2)∧RatAt w r q∧RatLe q k
def DCell (w:World) (b o:Nat) (x:Dl) (k:Nat):Prop:=∃ d:DB,(w.cell? ⟨b,o,none⟩=some (.bool (ratNeg x.a))∧w.cell? ⟨b,o+1,none⟩=some (.slice d.a.A d.a.n d.a.c)∧w.cell? ⟨b,o+2,none⟩=some (.slice d.a.A2 d.a.n2 d.a.c2)∧w.cell? ⟨b,o+3,none⟩=some (.bool (ratNeg x.b))∧w.cell? ⟨b,o+4,none⟩=some (.slice d.b.A d.b.n d.b.c)∧w.cell? ⟨b,o+5,none⟩=some (.slice d.b.A2 d.b.n2 d.b.c2))∧DAt w d x∧DLe x k
def Wrt (w:World) (b:Nat) (t:TypeId):Prop:=∃ cs:Array Value,w.heap[b]?=some (.cells cs t (0,0))
def NoU (w:World) (S:Nat→Prop):Prop:=∀ b,S b→∃ cs t m,w.heap[b]?=some (.cells cs t m)∧t≠125
section
variable {w w':World} {S:Nat→Prop} {b o g n k:Nat} {q:Rat} {x:Dl} {t t':TypeId}
theorem Wrt.lt (h:Wrt w b t):b<w.heap.size:=by
 obtain ⟨cs,hx⟩:=h;exact lt_of_blk hx
theorem Wrt.below (h:Wrt w b t) (hb:Below w.heap.size w w'):Wrt w' b t:=by
 obtain ⟨cs,hx⟩:=h;exact ⟨cs,box_keep hx hb⟩
theorem Wrt.fr (h:Wrt w b t) (hf:Fr S w w') (hn:¬ S b):Wrt w' b t:=by
 obtain ⟨cs,hx⟩:=h;exact ⟨cs,(hf.block b (lt_of_blk hx) hn).trans hx⟩
theorem Wrt.fz (h:Wrt w b t) (i:Nat):w.frozen? ⟨b,i,none⟩=false:=by
 obtain ⟨cs,hx⟩:=h;exact frozen_of_blk hx i
theorem Wrt.ne (h:Wrt w b t) {b':Nat} (h':Wrt w b' t') (hne:t≠t'):b≠b':=by
 rintro rfl;obtain ⟨cs,hx⟩:=h;obtain ⟨cs',hx'⟩:=h';rw [hx] at hx'
 injection hx' with hx'
 injection hx' with _ e
 exact hne e
theorem Wrt.set (h:Wrt w b t) (i:Nat) (u:Value):Wrt (w.setCell ⟨b,i,none⟩ u) b t:=by
 obtain ⟨cs,hx⟩:=h;exact ⟨_,set_blk hx i u⟩
theorem Wrt.noU (h:Wrt w b t) (ht:t≠125):NoU w (fun k=>k=b):=by
 obtain ⟨cs,hx⟩:=h;exact typU_of hx ht
theorem RCell.below (h:RCell w b o q k) (hb:Below w.heap.size w w'):RCell w' b o q k:=by
 obtain ⟨r,h0,h1,h2,h3,h4⟩:=h;have hl:=World.block_lt_of_cell? w _ h0;exact ⟨r,(hb.cell (p:=⟨b,o,none⟩) hl).trans h0,(hb.cell (p:=⟨b,o+1,none⟩) hl).trans h1,(hb.cell (p:=⟨b,o+2,none⟩) hl).trans h2,h3.below hb,h4⟩
theorem RCell.fr (h:RCell w b o q k) (hf:Fr S w w') (hn:¬ S b) (hS:NoU w S):RCell w' b o q k:=by
 obtain ⟨r,h0,h1,h2,h3,h4⟩:=h;have hl:=World.block_lt_of_cell? w _ h0;exact ⟨r,(hf.cell (p:=⟨b,o,none⟩) hl hn).trans h0,(hf.cell (p:=⟨b,o+1,none⟩) hl hn).trans h1,(hf.cell (p:=⟨b,o+2,none⟩) hl hn).trans h2,h3.frT hf hS,h4⟩
theorem DCell.below (h:DCell w b o x k) (hb:Below w.heap.size w w'):DCell w' b o x k:=by
 obtain ⟨d,⟨h0,h1,h2,h3,h4,h5⟩,h6,h7⟩:=h;have hl:=World.block_lt_of_cell? w _ h0;exact ⟨d,⟨(hb.cell (p:=⟨b,o,none⟩) hl).trans h0,(hb.cell (p:=⟨b,o+1,none⟩) hl).trans h1,(hb.cell (p:=⟨b,o+2,none⟩) hl).trans h2,(hb.cell (p:=⟨b,o+3,none⟩) hl).trans h3,(hb.cell (p:=⟨b,o+4,none⟩) hl).trans h4,(hb.cell (p:=⟨b,o+5,none⟩) hl).trans h5⟩,h6.below hb,h7⟩
theorem DCell.fr (h:DCell w b o x k) (hf:Fr S w w') (hn:¬ S b) (hS:NoU w S):DCell w' b o x k:=by
 obtain ⟨d,⟨h0,h1,h2,h3,h4,h5⟩,h6,h7⟩:=h;have hl:=World.block_lt_of_cell? w _ h0;exact ⟨d,⟨(hf.cell (p:=⟨b,o,none⟩) hl hn).trans h0,(hf.cell (p:=⟨b,o+1,none⟩) hl hn).trans h1,(hf.cell (p:=⟨b,o+2,none⟩) hl hn).trans h2,(hf.cell (p:=⟨b,o+3,none⟩) hl hn).trans h3,(hf.cell (p:=⟨b,o+4,none⟩) hl hn).trans h4,(hf.cell (p:=⟨b,o+5,none⟩) hl hn).trans h5⟩,h6.frT hf hS,h7⟩
theorem RCell.up {k':Nat} (h:RCell w b o q k) (hk:k≤k'):RCell w b o q k':=by
 obtain ⟨r,h0,h1,h2,h3,h4⟩:=h;exact ⟨r,h0,h1,h2,h3,h4.up hk⟩
end
structure RRow (w:World) (g n:Nat) (f:Nat→Rat) (k:Nat):Prop where
 wr:0<n→Wrt w g 26
 at_:∀ j,j<n→RCell w g (j*3) (f j) k
structure DRow (w:World) (g n:Nat) (f:Nat→Dl) (k:Nat):Prop where
 wr:0<n→Wrt w g 108
 at_:∀ j,j<n→DCell w g (j*6) (f j) k
structure IRow (w:World) (g n:Nat) (f:Nat→Int):Prop where
 wr:0<n→Wrt w g 3
 at_:∀ j,j<n→w.cell? ⟨g,j,none⟩=some (.int .i64 (f j))
structure SRow (w:World) (g n m:Nat) (rb rc:Nat→Nat):Prop where
 wr:0<n→Wrt w g 30
 at_:∀ j,j<n→w.cell? ⟨g,j,none⟩=some (.slice (some ⟨rb j,0,none⟩) m (rc j))
def updF {α:Type} (f:Nat→α) (j:Nat) (v:α):Nat→α:=fun i=>if i=j then v else f i
theorem updF_self {α:Type} (f:Nat→α) (j:Nat) (v:α):updF f j v j=v:=if_pos rfl
theorem updF_ne {α:Type} (f:Nat→α) {i j:Nat} (v:α) (h:i≠j):updF f j v i=f i:=if_neg h
section
variable {w w':World} {S:Nat→Prop} {g n k m:Nat}
theorem RRow.below {f:Nat→Rat} (h:RRow w g n f k) (hb:Below w.heap.size w w'):RRow w' g n f k:=⟨fun h0=>(h.wr h0).below hb,fun j hj=>(h.at_ j hj).below hb⟩
theorem DRow.below {f:Nat→Dl} (h:DRow w g n f k) (hb:Below w.heap.size w w'):DRow w' g n f k:=⟨fun h0=>(h.wr h0).below hb,fun j hj=>(h.at_ j hj).below hb⟩
theorem IRow.below {f:Nat→Int} (h:IRow w g n f) (hb:Below w.heap.size w w'):IRow w' g n f:=⟨fun h0=>(h.wr h0).below hb,fun j hj=>(hb.cell (p:=⟨g,j,none⟩) (World.block_lt_of_cell? w _ (h.at_ j hj))).trans (h.at_ j hj)⟩
theorem SRow.below {rb rc:Nat→Nat} (h:SRow w g n m rb rc) (hb:Below w.heap.size w w'):SRow w' g n m rb rc:=⟨fun h0=>(h.wr h0).below hb,fun j hj=>(hb.cell (p:=⟨g,j,none⟩) (World.block_lt_of_cell? w _ (h.at_ j hj))).trans (h.at_ j hj)⟩
theorem RRow.fr {f:Nat→Rat} (h:RRow w g n f k) (hf:Fr S w w') (hn:0<n→¬ S g) (hS:NoU w S):RRow w' g n f k:=⟨fun h0=>(h.wr h0).fr hf (hn h0),fun j hj=>(h.at_ j hj).fr hf (hn (by omega)) hS⟩
theorem DRow.fr {f:Nat→Dl} (h:DRow w g n f k) (hf:Fr S w w') (hn:0<n→¬ S g) (hS:NoU w S):DRow w' g n f k:=⟨fun h0=>(h.wr h0).fr hf (hn h0),fun j hj=>(h.at_ j hj).fr hf (hn (by omega)) hS⟩
theorem IRow.fr {f:Nat→Int} (h:IRow w g n f) (hf:Fr S w w') (hn:0<n→¬ S g):IRow w' g n f:=⟨fun h0=>(h.wr h0).fr hf (hn h0),fun j hj=>(hf.cell (p:=⟨g,j,none⟩) (World.block_lt_of_cell? w _ (h.at_ j hj)) (hn (by omega))).trans (h.at_ j hj)⟩
theorem SRow.fr {rb rc:Nat→Nat} (h:SRow w g n m rb rc) (hf:Fr S w w') (hn:0<n→¬ S g):SRow w' g n m rb rc:=⟨fun h0=>(h.wr h0).fr hf (hn h0),fun j hj=>(hf.cell (p:=⟨g,j,none⟩) (World.block_lt_of_cell? w _ (h.at_ j hj)) (hn (by omega))).trans (h.at_ j hj)⟩
theorem RRow.congr {f f':Nat→Rat} (h:RRow w g n f k) (he:∀ j,j<n→f j=f' j):RRow w g n f' k:=⟨h.wr,fun j hj=>by rw [←he j hj];exact h.at_ j hj⟩
theorem DRow.congr {f f':Nat→Dl} (h:DRow w g n f k) (he:∀ j,j<n→f j=f' j):DRow w g n f' k:=⟨h.wr,fun j hj=>by rw [←he j hj];exact h.at_ j hj⟩
theorem IRow.congr {f f':Nat→Int} (h:IRow w g n f) (he:∀ j,j<n→f j=f' j):IRow w g n f':=⟨h.wr,fun j hj=>by rw [←he j hj];exact h.at_ j hj⟩
theorem RRow.up {f:Nat→Rat} {k':Nat} (h:RRow w g n f k) (hk:k≤k'):RRow w g n f k':=⟨h.wr,fun j hj=>(h.at_ j hj).up hk⟩
end
def pu3 (w:World) (g o:Nat) (r:RB) (q:Rat):World:=((w.setCell ⟨g,o,none⟩ (.bool (ratNeg q))).setCell ⟨g,o+1,none⟩ (.slice r.A r.n r.c)).setCell ⟨g,o+2,none⟩ (.slice r.A2 r.n2 r.c2)
def pu6 (w:World) (g o:Nat) (d:DB) (x:Dl):World:=(((((w.setCell ⟨g,o,none⟩ (.bool (ratNeg x.a))).setCell ⟨g,o+1,none⟩ (.slice d.a.A d.a.n d.a.c)).setCell ⟨g,o+2,none⟩ (.slice d.a.A2 d.a.n2 d.a.c2)).setCell ⟨g,o+3,none⟩ (.bool (ratNeg x.b))).setCell ⟨g,o+4,none⟩ (.slice d.b.A d.b.n d.b.c)).setCell ⟨g,o+5,none⟩ (.slice d.b.A2 d.b.n2 d.b.c2)
theorem pu3_fr (w:World) (g o:Nat) (r:RB) (q:Rat):Fr (fun b=>b=g) w (pu3 w g o r q):=fr_set (fr_set (fr_set (Fr.refl _ _) (.inl rfl)) (.inl rfl)) (.inl rfl)
theorem pu6_fr (w:World) (g o:Nat) (d:DB) (x:Dl):Fr (fun b=>b=g) w (pu6 w g o d x):=fr_set (fr_set (fr_set (fr_set (fr_set (fr_set (Fr.refl _ _) (.inl rfl)) (.inl rfl)) (.inl rfl)) (.inl rfl)) (.inl rfl)) (.inl rfl)
section
variable {w w':World} {g n k m:Nat}
theorem addr_ne (g:Nat) {i j:Nat} (h:i≠j):(⟨g,i,none⟩:Addr)≠⟨g,j,none⟩:=fun e=>h (by injection e)
theorem cs_other {w:World} {g i j:Nat} {u:Value} (h:i≠j):(w.setCell ⟨g,i,none⟩ u).cell? ⟨g,j,none⟩=w.cell? ⟨g,j,none⟩:=by
 apply World.cell?_setCell_other
 exact addr_ne g h
theorem cs_same {w:World} {p:Addr} {u v:Value} (h:w.cell? p=some u):(w.setCell p v).cell? p=some v:=by
 apply World.cell?_setCell_same
 exact h
theorem pu3_cells {o:Nat} {q:Rat} (h:RCell w g o q k) (r:RB) (p:Rat):(pu3 w g o r p).cell? ⟨g,o,none⟩=some (.bool (ratNeg p))∧(pu3 w g o r p).cell? ⟨g,o+1,none⟩=some (.slice r.A r.n r.c)∧(pu3 w g o r p).cell? ⟨g,o+2,none⟩=some (.slice r.A2 r.n2 r.c2):=by
 obtain ⟨r0,h0,h1,h2,_⟩:=h;unfold pu3;refine ⟨?_,?_,?_⟩
 · rw [cs_other (by omega),cs_other (by omega),cs_same h0]
 · rw [cs_other (by omega),cs_same (by rw [cs_other (by omega)];exact h1)]
 · rw [cs_same (by rw [cs_other (by omega),cs_other (by omega)];exact h2)]
theorem pu3_other {o i:Nat} (r:RB) (p:Rat) (h0:i≠o) (h1:i≠o+1) (h2:i≠o+2):(pu3 w g o r p).cell? ⟨g,i,none⟩=w.cell? ⟨g,i,none⟩:=by
 unfold pu3;rw [cs_other (Ne.symm h2),cs_other (Ne.symm h1),cs_other (Ne.symm h0)]
theorem pu6_other {o i:Nat} (d:DB) (x:Dl) (h:i<o∨o+5<i):(pu6 w g o d x).cell? ⟨g,i,none⟩=w.cell? ⟨g,i,none⟩:=by
 unfold pu6;rw [cs_other (by omega),cs_other (by omega),cs_other (by omega),cs_other (by omega),cs_other (by omega),cs_other (by omega)]
theorem pu6_cells {o:Nat} {y:Dl} (h:DCell w g o y k) (d:DB) (x:Dl):(pu6 w g o d x).cell? ⟨g,o,none⟩=some (.bool (ratNeg x.a))∧(pu6 w g o d x).cell? ⟨g,o+1,none⟩=some (.slice d.a.A d.a.n d.a.c)∧(pu6 w g o d x).cell? ⟨g,o+2,none⟩=some (.slice d.a.A2 d.a.n2 d.a.c2)∧(pu6 w g o d x).cell? ⟨g,o+3,none⟩=some (.bool (ratNeg x.b))∧(pu6 w g o d x).cell? ⟨g,o+4,none⟩=some (.slice d.b.A d.b.n d.b.c)∧(pu6 w g o d x).cell? ⟨g,o+5,none⟩=some (.slice d.b.A2 d.b.n2 d.b.c2):=by
 obtain ⟨d0,⟨h0,h1,h2,h3,h4,h5⟩,_⟩:=h
 have o1:∀ {w:World} {i j:Nat} {u:Value},i≠j→(w.setCell ⟨g,i,none⟩ u).cell? ⟨g,j,none⟩=w.cell? ⟨g,j,none⟩:=fun hij=>cs_other (hij)
 unfold pu6;refine ⟨?_,?_,?_,?_,?_,?_⟩
 · rw [o1 (by omega),o1 (by omega),o1 (by omega),o1 (by omega),o1 (by omega),cs_same h0]
 · rw [o1 (by omega),o1 (by omega),o1 (by omega),o1 (by omega),cs_same (by rw [o1 (by omega)];exact h1)]
 · rw [o1 (by omega),o1 (by omega),o1 (by omega),cs_same (by rw [o1 (by omega),o1 (by omega)];exact h2)]
 · rw [o1 (by omega),o1 (by omega),cs_same (by rw [o1 (by omega),o1 (by omega),o1 (by omega)];exact h3)]
 · rw [o1 (by omega),cs_same (by rw [o1 (by omega),o1 (by omega),o1 (by omega),o1 (by omega)];exact h4)]
 · rw [cs_same (by rw [o1 (by omega),o1 (by omega),o1 (by omega),o1 (by omega),o1 (by omega)];exact h5)]
theorem RRow.put {f:Nat→Rat} (h:RRow w g n f k) {j:Nat} (hj:j<n) {r:RB} {q:Rat} (hr:RatAt w r q) (hq:RatLe q k):RRow (pu3 w g (j*3) r q) g n (updF f j q) k:=by
 have hw:=h.wr (by omega);have hS:=hw.noU (by decide);have hf:=pu3_fr w g (j*3) r q;refine ⟨fun _=>by unfold pu3;exact ((hw.set _ _).set _ _).set _ _,fun i hi=>?_⟩
 by_cases hij:i=j
 · subst hij
   rw [updF_self];obtain ⟨h0,h1,h2⟩:=pu3_cells (h.at_ i hi) r q;exact ⟨r,h0,h1,h2,hr.frT hf hS,hq⟩
 · rw [updF_ne _ _ hij]
   obtain ⟨r0,h0,h1,h2,h3,h4⟩:=h.at_ i hi;refine ⟨r0,?_,?_,?_,h3.frT hf hS,h4⟩
   · rw [pu3_other r q (by omega) (by omega) (by omega)]
     exact h0
   · rw [pu3_other r q (by omega) (by omega) (by omega)]
     exact h1
   · rw [pu3_other r q (by omega) (by omega) (by omega)]
     exact h2
theorem DRow.put {f:Nat→Dl} (h:DRow w g n f k) {j:Nat} (hj:j<n) {d:DB} {x:Dl} (hr:DAt w d x) (hq:DLe x k):DRow (pu6 w g (j*6) d x) g n (updF f j x) k:=by
 have hw:=h.wr (by omega);have hS:=hw.noU (by decide);have hf:=pu6_fr w g (j*6) d x;refine ⟨fun _=>by unfold pu6;exact (((((hw.set _ _).set _ _).set _ _).set _ _).set _ _).set _ _,fun i hi=>?_⟩
 by_cases hij:i=j
 · subst hij
   rw [updF_self];exact ⟨d,pu6_cells (h.at_ i hi) d x,hr.frT hf hS,hq⟩
 · rw [updF_ne _ _ hij]
   obtain ⟨d0,⟨h0,h1,h2,h3,h4,h5⟩,h6,h7⟩:=h.at_ i hi;refine ⟨d0,⟨?_,?_,?_,?_,?_,?_⟩,h6.frT hf hS,h7⟩
   all_goals
    rw [pu6_other d x (by omega)]
    assumption
theorem IRow.put {f:Nat→Int} (h:IRow w g n f) {j:Nat} (hj:j<n) (z:Int):IRow (w.setCell ⟨g,j,none⟩ (.int .i64 z)) g n (updF f j z):=by
 refine ⟨fun h0=>(h.wr h0).set _ _,fun i hi=>?_⟩
 by_cases hij:i=j
 · subst hij
   rw [updF_self,cs_same (h.at_ i hi)]
 · rw [updF_ne _ _ hij,cs_other (Ne.symm hij)]
   exact h.at_ i hi
theorem SRow.put {rb rc:Nat→Nat} (h:SRow w g n m rb rc) {j:Nat} (hj:j<n) (b c:Nat):SRow (w.setCell ⟨g,j,none⟩ (.slice (some ⟨b,0,none⟩) m c)) g n m (updF rb j b) (updF rc j c):=by
 refine ⟨fun h0=>(h.wr h0).set _ _,fun i hi=>?_⟩
 by_cases hij:i=j
 · subst hij
   rw [updF_self,updF_self,cs_same (h.at_ i hi)]
 · rw [updF_ne _ _ hij,updF_ne _ _ hij,cs_other (Ne.symm hij)]
   exact h.at_ i hi
end
structure TL where
 g:Nat
 LA:Option Addr
 lc:Nat
 gb:Nat
 bA:Option Addr
 bc:Nat
 gr:Nat
 rc:Nat
 ga:Nat
 aA:Option Addr
 ac:Nat
 gv:Nat
 vc:Nat
 gh:Nat
 hA:Option Addr
 hc:Nat
 rb:Nat→Nat
 rbc:Nat→Nat
def TL.cells (T:TL) (P:Pb):Array Value:=#[.int .i64 (P.nv:Int),.slice T.LA P.m T.lc,.slice T.bA P.m T.bc,.slice (some ⟨T.gr,0,none⟩) (P.nv+P.m) T.rc,.slice T.aA P.m T.ac,.slice (some ⟨T.gv,0,none⟩) (P.nv+P.m) T.vc,.slice T.hA P.m T.hc]
structure TabAt (w:World) (B:Nat) (T:TL) (P:Pb) (S:Sx) (k:Nat):Prop where
 tb:w.heap[T.g]?=some (.cells (T.cells P) 106 (0,0))
 opl:∀ i,i<P.m→∃ b off,T.LA=some ⟨b,off,none⟩∧b<B∧w.cell? ⟨b,off+i*5+4,none⟩=some (.int .i64 (P.op i))
 bA:0<P.m→T.bA=some ⟨T.gb,0,none⟩
 aA:0<P.m→T.aA=some ⟨T.ga,0,none⟩
 hA:0<P.m→T.hA=some ⟨T.gh,0,none⟩
 bas:IRow w T.gb P.m (fun i=>(S.bas i:Int))
 row:IRow w T.gr (P.nv+P.m) S.row
 val:DRow w T.gv (P.nv+P.m) S.val k
 his:DRow w T.gh P.m P.hi k
 out:SRow w T.ga P.m (P.nv+P.m) T.rb T.rbc
 rws:∀ i,i<P.m→RRow w (T.rb i) (P.nv+P.m) (S.a i) k
 lg:B≤T.g
 lr:B≤T.gr
 lv:B≤T.gv
 lb:0<P.m→B≤T.gb∧B≤T.ga∧B≤T.gh
 lrb:∀ i,i<P.m→B≤T.rb i
 dbr:0<P.m→T.gb≠T.gr
 dvh:0<P.m→T.gv≠T.gh
 drb:∀ i j,i<P.m→j<P.m→i≠j→T.rb i≠T.rb j
 cv:P.nv+P.m≤T.vc
 nv0:0<P.nv
 nvm:P.nv≤3
 mm:P.m≤8
theorem TabAt.below {w w':World} {B:Nat} {T:TL} {P:Pb} {S:Sx} {k:Nat} (h:TabAt w B T P S k) (hb:Below w.heap.size w w'):TabAt w' B T P S k :=
 ⟨box_keep h.tb hb,fun i hi=>by
   obtain ⟨b,off,e,hlt,hc⟩:=h.opl i hi
   exact ⟨b,off,e,hlt,(hb.cell (p:=⟨b,off+i*5+4,none⟩) (World.block_lt_of_cell? w _ hc)).trans hc⟩,h.bA,h.aA,h.hA,h.bas.below hb,h.row.below hb,h.val.below hb,h.his.below hb,h.out.below hb,fun i hi=>(h.rws i hi).below hb,h.lg,h.lr,h.lv,h.lb,h.lrb,h.dbr,h.dvh,h.drb,h.cv,h.nv0,h.nvm,h.mm⟩
theorem box7 {w:World} {B:Nat} {T:TL} {P:Pb} {S:Sx} {k:Nat} (h:TabAt w B T P S k):w.cell? ⟨T.g,0,none⟩=some (.int .i64 (P.nv:Int))∧w.cell? ⟨T.g,1,none⟩=some (.slice T.LA P.m T.lc)∧w.cell? ⟨T.g,2,none⟩=some (.slice T.bA P.m T.bc)∧w.cell? ⟨T.g,3,none⟩=some (.slice (some ⟨T.gr,0,none⟩) (P.nv+P.m) T.rc)∧w.cell? ⟨T.g,4,none⟩=some (.slice T.aA P.m T.ac)∧w.cell? ⟨T.g,5,none⟩=some (.slice (some ⟨T.gv,0,none⟩) (P.nv+P.m) T.vc)∧w.cell? ⟨T.g,6,none⟩=some (.slice T.hA P.m T.hc) :=
 ⟨cell_of_blk h.tb 0,cell_of_blk h.tb 1,cell_of_blk h.tb 2,cell_of_blk h.tb 3,cell_of_blk h.tb 4,cell_of_blk h.tb 5,cell_of_blk h.tb 6⟩
end Go.Proofs.YtdefcbfofonabaaGreat

namespace Go.Proofs.YtdefcbfofonabaaGreat
open Go.RowKit
set_option linter.unusedVariables false
set_option linter.unusedSimpArgs false
set_option maxRecDepth 100000 in
set_option maxHeartbeats 4000000 in
theorem min_any (b1 b2:RB) (p q:Rat) (w:World) (h1:RatAt w b1 p) (h2:RatAt w b2 q) (k:Nat) (hk:k≤1000000) (l1:RatLe p k) (l2:RatLe q k) :
 Calls Tryz.prog 71 #[b1.val (ratNeg p),b2.val (ratNeg q)] w fun e w'=>∃ (b:RB) (r:Rat),e=.returned (b.val (ratNeg r))∧RatAt w' b r∧(r=p∨r=q)∧Below w.heap.size w w':=by
 unfold RB.val
 have hn1:=fun W (hb:Below w.heap.size w W)=>cmp_any b1 b2 p q W (h1.below hb) (h2.below hb) k hk l1 l2
 unfold RB.val at hn1
 obtain ⟨z,hz⟩:∃ z,z=signZ (p - q):=⟨_,rfl⟩
 obtain ⟨s1,hs1⟩:∃ z,z=ratNeg p:=⟨_,rfl⟩
 obtain ⟨s2,hs2⟩:∃ z,z=ratNeg q:=⟨_,rfl⟩
 rw [←hz,←hs1,←hs2] at hn1;rw [←hs1,←hs2];have HN1:=Lib.hid hn1;have H1:=Lib.hid h1;have H2:=Lib.hid h2;have E1:=Lib.hid hs1;have E2:=Lib.hid hs2;clear hn1 h1 h2 l1 l2 hz hs1 hs2
 by_cases h0:z≤0
 · have h0':decide (z≤0)=true:=by simpa using h0
   go_enter Tryz.func71,Tryz.ntmps71
   go_upto_region 1 with fail
   have hx1:=heap_alloc_new w (.cells #[.bool s1,.slice b1.A b1.n b1.c,.slice b1.A2 b1.n2 b1.c2] 26)
   have zw1:(w.alloc (.cells #[.bool s1,.slice b1.A b1.n b1.c,.slice b1.A2 b1.n2 b1.c2] 26)).heap.size=w.heap.size+1:=by simp
   have aw1:=(Below.refl w.heap.size w).alloc (Nat.le_refl _) (.cells #[.bool s1,.slice b1.A b1.n b1.c,.slice b1.A2 b1.n2 b1.c2] 26)
   obtain ⟨w1,ew1⟩:∃ x0,x0=w.alloc (.cells #[.bool s1,.slice b1.A b1.n b1.c,.slice b1.A2 b1.n2 b1.c2] 26):=⟨_,rfl⟩
   rw [←ew1] at hx1 zw1 aw1 ⊢;clear ew1;have hx2:=heap_alloc_new w1 (.cells #[.bool s2,.slice b2.A b2.n b2.c,.slice b2.A2 b2.n2 b2.c2] 26)
   have zw2:(w1.alloc (.cells #[.bool s2,.slice b2.A b2.n b2.c,.slice b2.A2 b2.n2 b2.c2] 26)).heap.size=w1.heap.size+1:=by simp
   have aw2:=(Below.refl w1.heap.size w1).alloc (Nat.le_refl _) (.cells #[.bool s2,.slice b2.A b2.n b2.c,.slice b2.A2 b2.n2 b2.c2] 26)
   obtain ⟨w2,ew2⟩:∃ x0,x0=w1.alloc (.cells #[.bool s2,.slice b2.A b2.n b2.c,.slice b2.A2 b2.n2 b2.c2] 26):=⟨_,rfl⟩
   rw [←ew2] at hx2 zw2 aw2 ⊢;clear ew2;have hx3:=heap_alloc_new w2 (.cells #[.bool false,.slice none 0 0,.slice none 0 0] 26)
   have zw3:(w2.alloc (.cells #[.bool false,.slice none 0 0,.slice none 0 0] 26)).heap.size=w2.heap.size+1:=by simp
   have aw3:=(Below.refl w2.heap.size w2).alloc (Nat.le_refl _) (.cells #[.bool false,.slice none 0 0,.slice none 0 0] 26)
   obtain ⟨w3,ew3⟩:∃ x0,x0=w2.alloc (.cells #[.bool false,.slice none 0 0,.slice none 0 0] 26):=⟨_,rfl⟩
   rw [←ew3] at hx3 zw3 aw3 ⊢;clear ew3;rw [zw1] at hx2;rw [zw2,zw1] at hx3;have kz:=aw1.trans (aw2.mono aw1.size);have kz3:=kz.trans (aw3.mono kz.size);have hv1:=box_keep (box_keep hx1 aw2) aw3;have hv2:=box_keep hx2 aw3;obtain ⟨p0,p1,p2⟩:=box3 hv1;obtain ⟨q0,q1,q2⟩:=box3 hv2;have HV1:=Lib.hid hv1;have HV2:=Lib.hid hv2;have HV3:=Lib.hid hx3;have KZ:=Lib.hid kz3;clear hx1 hx2 hx3 hv1 hv2 aw1 aw2 aw3 zw1 zw2 zw3 kz kz3
   go_wp2_with (go_at_call 68;refine (HN1.out _ KZ.out).mono ?_;clear HN1 p0 p1 p2 q0 q1 q2;rintro e u1 ⟨rfl,hb1⟩;have HB1:=Lib.hid (KZ.out.trans (hb1.mono KZ.out.size));obtain ⟨p0,p1,p2⟩:=box3 (box_keep HV1.out hb1);obtain ⟨q0,q1,q2⟩:=box3 (box_keep HV2.out hb1);have HXE:=Lib.hid (box_keep HV3.out hb1);obtain ⟨y0,y1,y2⟩:=box3 HXE.out;have z0:=frozen_of_blk HXE.out 0;have z1:=frozen_of_blk HXE.out 1;have z2:=frozen_of_blk HXE.out 2;clear hb1)
   refine bodyPost_ret (v:=.agg #[.bool s1,.slice b1.A b1.n b1.c,.slice b1.A2 b1.n2 b1.c2]) (by simp [results,Tryz.results71,go_sem,y0,y1,y2]) rfl ?_;have hty:=typU_of HXE.out (by decide);refine ⟨b1,p,by rw [E1.out],(H1.out.below HB1.out).frT (S:=fun b=>b=w.heap.size+1+1) (by repeat' (first | with_reducible exact Fr.refl _ _ | with_reducible refine fr_set ?_ ?_ | exact .inl rfl)) hty,by simp,?_⟩
   repeat' (first | with_reducible exact HB1.out | with_reducible refine bl_set ?_ ?_ | (show w.heap.size≤w.heap.size+1+1;omega))
 · have h0':decide (z≤0)=false:=by simpa using h0
   go_enter Tryz.func71,Tryz.ntmps71
   go_upto_region 1 with fail
   have hx1:=heap_alloc_new w (.cells #[.bool s1,.slice b1.A b1.n b1.c,.slice b1.A2 b1.n2 b1.c2] 26)
   have zw1:(w.alloc (.cells #[.bool s1,.slice b1.A b1.n b1.c,.slice b1.A2 b1.n2 b1.c2] 26)).heap.size=w.heap.size+1:=by simp
   have aw1:=(Below.refl w.heap.size w).alloc (Nat.le_refl _) (.cells #[.bool s1,.slice b1.A b1.n b1.c,.slice b1.A2 b1.n2 b1.c2] 26)
   obtain ⟨w1,ew1⟩:∃ x0,x0=w.alloc (.cells #[.bool s1,.slice b1.A b1.n b1.c,.slice b1.A2 b1.n2 b1.c2] 26):=⟨_,rfl⟩
   rw [←ew1] at hx1 zw1 aw1 ⊢;clear ew1;have hx2:=heap_alloc_new w1 (.cells #[.bool s2,.slice b2.A b2.n b2.c,.slice b2.A2 b2.n2 b2.c2] 26)
   have zw2:(w1.alloc (.cells #[.bool s2,.slice b2.A b2.n b2.c,.slice b2.A2 b2.n2 b2.c2] 26)).heap.size=w1.heap.size+1:=by simp
   have aw2:=(Below.refl w1.heap.size w1).alloc (Nat.le_refl _) (.cells #[.bool s2,.slice b2.A b2.n b2.c,.slice b2.A2 b2.n2 b2.c2] 26)
   obtain ⟨w2,ew2⟩:∃ x0,x0=w1.alloc (.cells #[.bool s2,.slice b2.A b2.n b2.c,.slice b2.A2 b2.n2 b2.c2] 26):=⟨_,rfl⟩
   rw [←ew2] at hx2 zw2 aw2 ⊢;clear ew2;have hx3:=heap_alloc_new w2 (.cells #[.bool false,.slice none 0 0,.slice none 0 0] 26)
   have zw3:(w2.alloc (.cells #[.bool false,.slice none 0 0,.slice none 0 0] 26)).heap.size=w2.heap.size+1:=by simp
   have aw3:=(Below.refl w2.heap.size w2).alloc (Nat.le_refl _) (.cells #[.bool false,.slice none 0 0,.slice none 0 0] 26)
   obtain ⟨w3,ew3⟩:∃ x0,x0=w2.alloc (.cells #[.bool false,.slice none 0 0,.slice none 0 0] 26):=⟨_,rfl⟩
   rw [←ew3] at hx3 zw3 aw3 ⊢;clear ew3;rw [zw1] at hx2;rw [zw2,zw1] at hx3;have kz:=aw1.trans (aw2.mono aw1.size);have kz3:=kz.trans (aw3.mono kz.size);have hv1:=box_keep (box_keep hx1 aw2) aw3;have hv2:=box_keep hx2 aw3;obtain ⟨p0,p1,p2⟩:=box3 hv1;obtain ⟨q0,q1,q2⟩:=box3 hv2;have HV1:=Lib.hid hv1;have HV2:=Lib.hid hv2;have HV3:=Lib.hid hx3;have KZ:=Lib.hid kz3;clear hx1 hx2 hx3 hv1 hv2 aw1 aw2 aw3 zw1 zw2 zw3 kz kz3
   go_wp2_with (go_at_call 68;refine (HN1.out _ KZ.out).mono ?_;clear HN1 p0 p1 p2 q0 q1 q2;rintro e u1 ⟨rfl,hb1⟩;have HB1:=Lib.hid (KZ.out.trans (hb1.mono KZ.out.size));obtain ⟨p0,p1,p2⟩:=box3 (box_keep HV1.out hb1);obtain ⟨q0,q1,q2⟩:=box3 (box_keep HV2.out hb1);have HXE:=Lib.hid (box_keep HV3.out hb1);obtain ⟨y0,y1,y2⟩:=box3 HXE.out;have z0:=frozen_of_blk HXE.out 0;have z1:=frozen_of_blk HXE.out 1;have z2:=frozen_of_blk HXE.out 2;clear hb1)
   refine bodyPost_ret (v:=.agg #[.bool s2,.slice b2.A b2.n b2.c,.slice b2.A2 b2.n2 b2.c2]) (by simp [results,Tryz.results71,go_sem,y0,y1,y2]) rfl ?_;have hty:=typU_of HXE.out (by decide);refine ⟨b2,q,by rw [E2.out],(H2.out.below HB1.out).frT (S:=fun b=>b=w.heap.size+1+1) (by repeat' (first | with_reducible exact Fr.refl _ _ | with_reducible refine fr_set ?_ ?_ | exact .inl rfl)) hty,by simp,?_⟩
   repeat' (first | with_reducible exact HB1.out | with_reducible refine bl_set ?_ ?_ | (show w.heap.size≤w.heap.size+1+1;omega))
end Go.Proofs.YtdefcbfofonabaaGreat
