/- Contract of lin.Add. -/
import Derived.Test.YtdefcbfofonabaaGreatLinCanon
import Derived.Test.YtdefcbfofonabaaGreatBools
import Derived.Test.YtdefcbfofonabaaGreatRegE
import Derived.Test.YtdefcbfofonabaaGreatBtOf
namespace Go.Proofs.YtdefcbfofonabaaGreat
open Go.RowKit
set_option linter.unusedVariables false
set_option linter.unusedSimpArgs false
def ExP (w:World) (n:Nat) (l:List TB) (q:Rat) (k kq:Nat) (r:Ending) (w':World):Prop :=
 ∃ (A':Option Addr) (n' c':Nat) (b':RB) (l' ls:List TB),r=.returned (.agg #[.slice A' n' c',.bool (ratNeg q),.slice b'.A b'.n b'.c,.slice b'.A2 b'.n2 b'.c2])∧(tmsOf ls).Perm (tmsOf l)∧SrtV (tmsOf ls)∧tmsOf l'=grp (tmsOf ls)∧TmsAt w' A' n' c' l' (31*(k+1))∧RatAt w' b' q∧RatLe q kq∧n'≤n∧Below w.heap.size w w'
set_option maxRecDepth 100000 in
set_option maxHeartbeats 4000000 in
theorem eadd_any (A:Option Addr) (n c:Nat) (b:RB) (l:List TB) (q:Rat) (A2:Option Addr) (n2 c2:Nat) (b2:RB) (l2:List TB) (q2:Rat) (k:Nat) (w:World) (h:TmsAt w A n c l k) (hr:RatAt w b q) (hq:RatLe q k) (h2:TmsAt w A2 n2 c2 l2 k) (hr2:RatAt w b2 q2) (hq2:RatLe q2 k) (hn:n+n2≤19) (hk:k≤30000) :
 Calls Tryz.prog 66 #[.agg #[.slice A n c,.bool (ratNeg q),.slice b.A b.n b.c,.slice b.A2 b.n2 b.c2],.agg #[.slice A2 n2 c2,.bool (ratNeg q2),.slice b2.A b2.n b2.c,.slice b2.A2 b2.n2 b2.c2]] w fun r w'=>ExP w (n+n2) (l ++ l2) (q+q2) k (k+k+1) r w':=by
 obtain ⟨s,hs⟩:∃ s,s=ratNeg q:=⟨_,rfl⟩
 obtain ⟨s2,hs2⟩:∃ s2,s2=ratNeg q2:=⟨_,rfl⟩
 rw [←hs,←hs2];have HS:=Lib.hid hs;have HS2:=Lib.hid hs2;clear hs hs2
 go_enter Tryz.func66,Tryz.ntmps66
 go_upto_region 1 with fail
 have hx1:=heap_alloc_new w (.cells #[.slice A n c,.bool s,.slice b.A b.n b.c,.slice b.A2 b.n2 b.c2] 28)
 have hw1:(w.alloc (.cells #[.slice A n c,.bool s,.slice b.A b.n b.c,.slice b.A2 b.n2 b.c2] 28)).heap.size=w.heap.size+1:=by simp
 have hbw:=(Below.refl w.heap.size w).alloc (Nat.le_refl _) (.cells #[.slice A n c,.bool s,.slice b.A b.n b.c,.slice b.A2 b.n2 b.c2] 28)
 obtain ⟨wk,hwk⟩:∃ x,x=w.alloc (.cells #[.slice A n c,.bool s,.slice b.A b.n b.c,.slice b.A2 b.n2 b.c2] 28):=⟨_,rfl⟩
 rw [←hwk] at hx1 hbw hw1 ⊢;clear hwk;have hx2:=heap_alloc_new wk (.cells #[.slice A2 n2 c2,.bool s2,.slice b2.A b2.n b2.c,.slice b2.A2 b2.n2 b2.c2] 28);have hx1':=box_keep hx1 ((Below.refl _ _).alloc (Nat.le_refl _) (.cells #[.slice A2 n2 c2,.bool s2,.slice b2.A b2.n b2.c,.slice b2.A2 b2.n2 b2.c2] 28));have hbw2:=hbw.alloc hbw.size (.cells #[.slice A2 n2 c2,.bool s2,.slice b2.A b2.n b2.c,.slice b2.A2 b2.n2 b2.c2] 28)
 have hw2:(wk.alloc (.cells #[.slice A2 n2 c2,.bool s2,.slice b2.A b2.n b2.c,.slice b2.A2 b2.n2 b2.c2] 28)).heap.size=w.heap.size+1+1:=by simp [hw1]
 obtain ⟨wm,hwm⟩:∃ x,x=wk.alloc (.cells #[.slice A2 n2 c2,.bool s2,.slice b2.A b2.n b2.c,.slice b2.A2 b2.n2 b2.c2] 28):=⟨_,rfl⟩
 rw [hw1] at hx2;rw [←hwm] at hx2 hx1' hbw2 hw2 ⊢;clear hwm hx1 hbw hw1;have hx3:=heap_alloc_new wm (.cells #[.slice none 0 0,.bool false,.slice none 0 0,.slice none 0 0] 28);have hx1:=box_keep hx1' ((Below.refl _ _).alloc (Nat.le_refl _) (.cells #[.slice none 0 0,.bool false,.slice none 0 0,.slice none 0 0] 28));have hx2':=box_keep hx2 ((Below.refl _ _).alloc (Nat.le_refl _) (.cells #[.slice none 0 0,.bool false,.slice none 0 0,.slice none 0 0] 28));have hbz:=hbw2.alloc hbw2.size (.cells #[.slice none 0 0,.bool false,.slice none 0 0,.slice none 0 0] 28)
 have hw3:(wm.alloc (.cells #[.slice none 0 0,.bool false,.slice none 0 0,.slice none 0 0] 28)).heap.size=w.heap.size+1+1+1:=by simp [hw2]
 obtain ⟨wz,hwz⟩:∃ x,x=wm.alloc (.cells #[.slice none 0 0,.bool false,.slice none 0 0,.slice none 0 0] 28):=⟨_,rfl⟩
 rw [hw2] at hx3;rw [←hwz] at hx3 hx1 hx2' hbz hw3 ⊢;clear hwz hx1' hx2 hbw2 hw2
 have hcs:∀ W',Fr (fun kk=>kk=w.heap.size+1+1) wz W'→(W'.cell? ⟨w.heap.size,0,none⟩=some (.slice A n c)∧W'.cell? ⟨w.heap.size,1,none⟩=some (.bool s)∧W'.cell? ⟨w.heap.size,2,none⟩=some (.slice b.A b.n b.c)∧W'.cell? ⟨w.heap.size,3,none⟩=some (.slice b.A2 b.n2 b.c2))∧W'.cell? ⟨w.heap.size+1,0,none⟩=some (.slice A2 n2 c2)∧W'.cell? ⟨w.heap.size+1,1,none⟩=some (.bool s2)∧W'.cell? ⟨w.heap.size+1,2,none⟩=some (.slice b2.A b2.n b2.c)∧W'.cell? ⟨w.heap.size+1,3,none⟩=some (.slice b2.A2 b2.n2 b2.c2):=fun W' hb=>⟨box4 ((hb.block _ (lt_of_blk hx1) (by omega)).trans hx1),box4 ((hb.block _ (lt_of_blk hx2') (by omega)).trans hx2')⟩
 have hcl:=fun W (hb:Below wz.heap.size wz W)=>clone_any l A n c W ((h.below hbz).below hb).rd h.len (by omega)
 have hra:=fun W (hb:Below wz.heap.size wz W)=>add_any b b2 q q2 W ((hr.below hbz).below hb) ((hr2.below hbz).below hb) k (by omega) hq hq2
 unfold RB.val at hra;rw [←HS.out,←HS2.out] at hra
 have hca:=fun W A3 n3 c3 b3 (l3:List TB) (ht:TmsAt W A3 n3 c3 l3 k) (hn3:n3≤19)=>canon_any A3 n3 c3 b3 l3 (q+q2) k W ht hn3 hk
 have HCS:=Lib.hid hcs;have HCL:=Lib.hid hcl;have HRA:=Lib.hid hra;have HCA:=Lib.hid hca;have HX3:=Lib.hid hx3;have HBZ:=Lib.hid hbz;have HT:=Lib.hid (h.below hbz);have HT2:=Lib.hid (h2.below hbz);have HQ:=Lib.hid (add_le hq hq2);have HWZ:=Lib.hid hw3;obtain ⟨i0,hi,hz0,hz1,hz2⟩:=info_parts info_term;clear hcs hcl hra hca hx3 hbz h h2 hr hr2 hq hq2 hx1 hx2' hw3
 go_region_held3 (fun W'=>(W'.cell? ⟨w.heap.size,0,none⟩=some (.slice A n c)∧W'.cell? ⟨w.heap.size,1,none⟩=some (.bool s)∧W'.cell? ⟨w.heap.size,2,none⟩=some (.slice b.A b.n b.c)∧W'.cell? ⟨w.heap.size,3,none⟩=some (.slice b.A2 b.n2 b.c2))∧W'.cell? ⟨w.heap.size+1,0,none⟩=some (.slice A2 n2 c2)∧W'.cell? ⟨w.heap.size+1,1,none⟩=some (.bool s2)∧W'.cell? ⟨w.heap.size+1,2,none⟩=some (.slice b2.A b2.n b2.c)∧W'.cell? ⟨w.heap.size+1,3,none⟩=some (.slice b2.A2 b2.n2 b2.c2)) ((refine HCS.out _ ?_;repeat' (first | with_reducible exact Fr.of_below k4 | with_reducible exact Fr.of_below k3 | with_reducible exact Fr.of_below k2 | with_reducible exact Fr.of_below k1 | with_reducible exact (Fr.refl _ _).drew | with_reducible refine fr_set ?_ ?_ | exact .inl rfl))) (first | (go_at_call 52;refine (HCL.out _ (below_drew2 (Below.refl _ _))).mono ?_;rintro e u1 ⟨v1,rfl,ho1,hb1⟩;have k1:Below wz.heap.size wz u1:=(below_drew2 (Below.refl _ _)).trans (hb1.mono (Nat.le_refl _));have HO1:=Lib.hid (show u1.ownsRow wz.heap.size 44 4 v1 n (tmsL l) from ho1);clear ho1 hb1) | (refine stepRS wz.heap.size u1 4 44 rfl (.tmp 7) (.tmp 9) 23 rfl i0 _ 64 Tryz.underlying23 hi hz0 hz1 hz2 rfl (by decide) (by decide) v1 n (tmsL l) rfl k1.size HO1.out A2 n2 c2 (tmsL l2) rfl (HT2.out.below k1).rd (tmsL_one l2) (by omega) ?_;intro v2 u2 ho2 hg2;have k2:Below wz.heap.size wz u2:=k1.grown hg2 k1.size (fun kk hk=>(HO1.out.lt kk hk).1);obtain ⟨A3,c3,rfl,ht3⟩:=TmsAt.of_own (l:=l ++ l2) (k:=k) (by rw [tmsL_app];exact ho2) (fun t ht=>by rcases List.mem_append.1 ht with ht | ht;exact (HT.out.each t ht).below k2;exact (HT2.out.each t ht).below k2);have HT3:=Lib.hid ht3;clear ho2 hg2 ht3) | (go_at_call 48;refine (HRA.out _ k2).mono ?_;rintro e u3 ⟨b3,rfl,hr3,hb3⟩;have k3:Below wz.heap.size wz u3:=k2.trans (hb3.mono k2.size);have HR3:=Lib.hid hr3;have HT3':=Lib.hid (HT3.out.below hb3);clear hr3 hb3) | (go_at_call 23;refine (HCA.out _ A3 (n+n2) c3 b3 (l ++ l2) HT3'.out hn).mono ?_;rintro e u4 ⟨A4,n4,c4,l4,ls4,rfl,hp4,hsr4,hg4,ht4,hn4,hb4⟩;have k4:Below wz.heap.size wz u4:=k3.trans (hb4.mono k3.size);have HR4:=Lib.hid (HR3.out.below hb4);have HT4:=Lib.hid ht4;have HG4:=Lib.hid (And.intro hp4 (And.intro hsr4 (And.intro hg4 hn4)));have HX4:=Lib.hid (box_keep HX3.out k4);obtain ⟨y0,y1,y2,y3⟩:=box4 HX4.out;have z0:=frozen_of_blk HX4.out 0;have z1:=frozen_of_blk HX4.out 1;have z2:=frozen_of_blk HX4.out 2;have z3:=frozen_of_blk HX4.out 3;clear ht4 hp4 hsr4 hg4 hn4 hb4))
 all_goals
  go_wp2_with fail
  refine bodyPost_ret (v:=.agg #[.slice A4 n4 c4,.bool (ratNeg (q+q2)),.slice b3.A b3.n b3.c,.slice b3.A2 b3.n2 b3.c2]) (by simp [results,Tryz.results66,go_sem,y0,y1,y2,y3]) rfl ?_;have hbel:=HBZ.out.trans (k4.mono HBZ.out.size);have hfr:=store4_fr u4 (w.heap.size+1+1) A4 n4 c4 (ratNeg (q+q2)) b3;have hty:=typ_of HX4.out (by decide);obtain ⟨hp4,hsr4,hg4,hn4⟩:=HG4.out;refine ⟨A4,n4,c4,b3,l4,ls4,rfl,hp4.map _,hsr4,hg4,HT4.out.fr hfr hty,HR4.out.frB hfr hty,HQ.out,hn4,store4_bel hbel (by omega) _ _ _ _ _⟩
end Go.Proofs.YtdefcbfofonabaaGreat

namespace Go.Proofs.YtdefcbfofonabaaGreat
open Go.RowKit
set_option linter.unusedVariables false
set_option linter.unusedSimpArgs false
theorem COut.frE {w0 w w':World} {v:Value} {lo:List TB} {K g:Nat} {cs:Array Value} {t:TypeId} (h:COut w0 w v lo K) (hf:Fr (fun k=>k=g) w w') (hx:w.heap[g]?=some (.cells cs t (0,0))) (ht:t≠125∧t≠44):COut w0 w' v lo K:=by
 refine ⟨hf.own h.own ?_,h.new,fun u hu=>⟨(h.each u hu).1.frB hf (typ_of hx ht),(h.each u hu).2⟩⟩;rintro b hb rfl;exact own_type h.own hx (Ne.symm ht.2) hb
set_option maxRecDepth 100000 in
set_option maxHeartbeats 4000000 in
theorem scale_any (br:RB) (r:Rat) (A:Option Addr) (n c:Nat) (b:RB) (l:List TB) (q:Rat) (kr k:Nat) (w:World) (hrr:RatAt w br r) (hrl:RatLe r kr) (h:TmsAt w A n c l k) (hr:RatAt w b q) (hq:RatLe q k) (hn:n≤19) (hk:kr+k≤30000) :
 Calls Tryz.prog 6 #[.agg #[.bool (ratNeg r),.slice br.A br.n br.c,.slice br.A2 br.n2 br.c2],.agg #[.slice A n c,.bool (ratNeg q),.slice b.A b.n b.c,.slice b.A2 b.n2 b.c2]] w fun e w'=>∃ l2:List TB,tmsOf l2=scT r (tmsOf l)∧ExP w n l2 (r*q) (kr+k) (kr+k) e w':=by
 obtain ⟨s,hs⟩:∃ s,s=ratNeg q:=⟨_,rfl⟩
 obtain ⟨s2,hs2⟩:∃ s2,s2=ratNeg r:=⟨_,rfl⟩
 rw [←hs,←hs2];have HS:=Lib.hid hs;have HS2:=Lib.hid hs2;clear hs hs2
 go_enter Tryz.func6,Tryz.ntmps6
 go_upto_region 1 with fail
 have hx1:=heap_alloc_new w (.cells #[.bool s2,.slice br.A br.n br.c,.slice br.A2 br.n2 br.c2] 26)
 have zw1:(w.alloc (.cells #[.bool s2,.slice br.A br.n br.c,.slice br.A2 br.n2 br.c2] 26)).heap.size=w.heap.size+1:=by simp
 have aw1:=(Below.refl w.heap.size w).alloc (Nat.le_refl _) (.cells #[.bool s2,.slice br.A br.n br.c,.slice br.A2 br.n2 br.c2] 26)
 obtain ⟨w1,ew1⟩:∃ x,x=w.alloc (.cells #[.bool s2,.slice br.A br.n br.c,.slice br.A2 br.n2 br.c2] 26):=⟨_,rfl⟩
 rw [←ew1] at hx1 zw1 aw1 ⊢;clear ew1;have hx2:=heap_alloc_new w1 (.cells #[.slice A n c,.bool s,.slice b.A b.n b.c,.slice b.A2 b.n2 b.c2] 28)
 have zw2:(w1.alloc (.cells #[.slice A n c,.bool s,.slice b.A b.n b.c,.slice b.A2 b.n2 b.c2] 28)).heap.size=w1.heap.size+1:=by simp
 have aw2:=(Below.refl w1.heap.size w1).alloc (Nat.le_refl _) (.cells #[.slice A n c,.bool s,.slice b.A b.n b.c,.slice b.A2 b.n2 b.c2] 28)
 obtain ⟨w2,ew2⟩:∃ x,x=w1.alloc (.cells #[.slice A n c,.bool s,.slice b.A b.n b.c,.slice b.A2 b.n2 b.c2] 28):=⟨_,rfl⟩
 rw [←ew2] at hx2 zw2 aw2 ⊢;clear ew2;have hx3:=heap_alloc_new w2 (.cells #[.slice none 0 0,.bool false,.slice none 0 0,.slice none 0 0] 28)
 have zw3:(w2.alloc (.cells #[.slice none 0 0,.bool false,.slice none 0 0,.slice none 0 0] 28)).heap.size=w2.heap.size+1:=by simp
 have aw3:=(Below.refl w2.heap.size w2).alloc (Nat.le_refl _) (.cells #[.slice none 0 0,.bool false,.slice none 0 0,.slice none 0 0] 28)
 obtain ⟨w3,ew3⟩:∃ x,x=w2.alloc (.cells #[.slice none 0 0,.bool false,.slice none 0 0,.slice none 0 0] 28):=⟨_,rfl⟩
 rw [←ew3] at hx3 zw3 aw3 ⊢;clear ew3;rw [zw1] at hx2;rw [zw2,zw1] at hx3;have b2:Below w.heap.size w w2:=aw1.trans (aw2.mono aw1.size);have b3:Below w.heap.size w w3:=b2.trans (aw3.mono b2.size);have hv1:=box_keep (box_keep hx1 aw2) aw3;have hv2:=box_keep hx2 aw3;clear hx1 hx2
 have hz3:w3.heap.size=w.heap.size+1+1+1:=by rw [zw3,zw2,zw1]
 have hml:=rmul_any br b r q w3 (hrr.below b3) (hr.below b3) (kr+k) (by omega) (hrl.up (by omega)) (hq.up (by omega));unfold RB.val at hml;rw [←HS.out,←HS2.out] at hml;obtain ⟨x0,x1,x2⟩:=boxk hv1;obtain ⟨y0,y1,y2,y3⟩:=box4 hv2;have HX1:=Lib.hid hv1;have HX2:=Lib.hid hv2;have HX3:=Lib.hid hx3;have HB3:=Lib.hid b3;have HT3:=Lib.hid (h.below b3);have HR3:=Lib.hid (hrr.below b3);have HRL:=Lib.hid hrl;have HZ3:=Lib.hid hz3;have HML:=Lib.hid hml;have HQ:=Lib.hid (mul_le hrl hq);clear hv1 hv2 hx3 b2 b3 aw1 aw2 aw3 zw1 zw2 zw3 hz3 hml hrr hrl h hr hq w1 w2
 go_upto_region 2 with (go_at_call 22;refine HML.out.mono ?_;rintro e w4 ⟨b4,rfl,hr4,hb4⟩)
 have hx5:=heap_alloc_new w4 (.cells #[.slice none 0 0,.bool (ratNeg (r*q)),.slice b4.A b4.n b4.c,.slice b4.A2 b4.n2 b4.c2] 28)
 have zw5:(w4.alloc (.cells #[.slice none 0 0,.bool (ratNeg (r*q)),.slice b4.A b4.n b4.c,.slice b4.A2 b4.n2 b4.c2] 28)).heap.size=w4.heap.size+1:=by simp
 have aw5:=(Below.refl w4.heap.size w4).alloc (Nat.le_refl _) (.cells #[.slice none 0 0,.bool (ratNeg (r*q)),.slice b4.A b4.n b4.c,.slice b4.A2 b4.n2 b4.c2] 28)
 obtain ⟨w5,ew5⟩:∃ x,x=w4.alloc (.cells #[.slice none 0 0,.bool (ratNeg (r*q)),.slice b4.A b4.n b4.c,.slice b4.A2 b4.n2 b4.c2] 28):=⟨_,rfl⟩
 rw [←ew5] at hx5 zw5 aw5 ⊢;clear ew5;have b5:Below w3.heap.size w3 w5:=hb4.trans (aw5.mono hb4.size);have hv1:=box_keep HX1.out b5;have hv2:=box_keep HX2.out b5;have hv3:=box_keep HX3.out b5
 obtain ⟨go,hgo⟩:∃ go,go=w4.heap.size:=⟨_,rfl⟩
 rw [←hgo] at hx5 ⊢
 have hgo5:go<w5.heap.size:=by rw [hgo,zw5];omega
 have hgo3:w3.heap.size≤go:=by rw [hgo];exact hb4.size
 have HX5:=Lib.hid hx5;have HV1:=Lib.hid hv1;have HV2:=Lib.hid hv2;have HV3:=Lib.hid hv3;have HB5:=Lib.hid b5;have HT5:=Lib.hid (HT3.out.below b5);have HR5:=Lib.hid (HR3.out.below b5);have HQ5:=Lib.hid (hr4.below aw5)
 obtain ⟨K,hK⟩:∃ K,K=kr+k:=⟨_,rfl⟩
 have HKK:=Lib.hid hK;obtain ⟨y0',_,_,_⟩:=box4 hv2;clear b5 hv1 hv2 hv3 hx5 hb4 hr4 aw5 zw5 hgo hK HX1 HX2 HX3 HT3 HR3 x0 x1 x2 y0 y1 y2 y3
 go_wp2_with fail
 clear y0'
 have hcs5:∀ wr,Fr (fun kk=>kk=go) w5 wr→TmsAt wr A n c l k∧RatAt wr br r∧RatAt wr b4 (r*q):=fun wr hf=>by
  have hty:=typ_of HX5.out (by decide);exact ⟨HT5.out.fr hf hty,HR5.out.frB hf hty,HQ5.out.frB hf hty⟩
 have HCS5:=Lib.hid hcs5;clear hcs5
 go_loopw [16] (fun x wr=>∃ (i:Nat) (lo:List TB) (A':Option Addr) (c':Nat),i≤n∧x=.int .i64 i∧wr.heap[go]?=some (.cells #[.slice A' lo.length c',.bool (ratNeg (r*q)),.slice b4.A b4.n b4.c,.slice b4.A2 b4.n2 b4.c2] 28 (0,0))∧COut w5 wr (.slice A' lo.length c') lo K∧tmsOf lo=scT r ((tmsOf l).take i)∧lo.length=i∧Fr (fun kk=>kk=go) w5 wr) (fun x _=>n - (intOf x).toNat)
 case atStart=>exact ⟨0,[],none,0,Nat.zero_le _,by first | rfl | go_num,HX5.out,⟨World.ownsRow_nil _ _ _ _,by simp [Value.ownBlock],by simp⟩,by simp [tmsOf,scT],rfl,Fr.refl _ _⟩
 case round =>
  obtain ⟨i,lo,A',c',hin,rfl,hxo,hco,hlo,hll,hf⟩:=hrel
  obtain ⟨w6,rfl⟩:∃ x,x=wr:=⟨_,rfl⟩
  have HXO:=Lib.hid hxo;have HCO:=Lib.hid hco;have HLO:=Lib.hid hlo;have HLL:=Lib.hid hll;have HF:=Lib.hid hf;clear hxo hco hlo hll hf
  by_cases hlt:i<n
  · obtain ⟨ht6,hr6,hq6⟩:=HCS5.out w6 HF.out
    obtain ⟨g3,o3,t,ea,hti,y0,y1,y2,y3⟩:=ht6.rd.at4 ht6.len hlt;subst ea;have HTI:=Lib.hid hti;have HOK:=Lib.hid (ht6.each t (List.mem_of_getElem? hti));have HR6:=Lib.hid hr6
    have b0:(0:Int)≤(i:Int):=by omega
    clear hti ht6 hr6 hq6
    go_upto_region 5 with fail
    have hxt:=heap_alloc_new w6 (.cells #[.int .i64 t.2.1,.bool (ratNeg t.2.2),.slice t.1.A t.1.n t.1.c,.slice t.1.A2 t.1.n2 t.1.c2] 44)
    have zw7:(w6.alloc (.cells #[.int .i64 t.2.1,.bool (ratNeg t.2.2),.slice t.1.A t.1.n t.1.c,.slice t.1.A2 t.1.n2 t.1.c2] 44)).heap.size=w6.heap.size+1:=by simp
    have aw7:=(Below.refl w6.heap.size w6).alloc (Nat.le_refl _) (.cells #[.int .i64 t.2.1,.bool (ratNeg t.2.2),.slice t.1.A t.1.n t.1.c,.slice t.1.A2 t.1.n2 t.1.c2] 44)
    obtain ⟨w7,ew7⟩:∃ x,x=w6.alloc (.cells #[.int .i64 t.2.1,.bool (ratNeg t.2.2),.slice t.1.A t.1.n t.1.c,.slice t.1.A2 t.1.n2 t.1.c2] 44):=⟨_,rfl⟩
    rw [←ew7] at hxt zw7 aw7 ⊢;clear ew7
    obtain ⟨gt,hgt⟩:∃ x,x=w6.heap.size:=⟨_,rfl⟩
    rw [←hgt] at hxt ⊢;have hco7:=HCO.out.below aw7
    have hnw:∀ kk,ownS (.slice A' lo.length c') kk→kk≠go∧kk≠gt∧kk≠w.heap.size:=by
     intro kk hkk;refine ⟨fun e=>?_,fun e=>?_,fun e=>?_⟩
     · subst e
       exact own_type HCO.out.own HXO.out (by decide) hkk
     · have:=(own_lt HCO.out.own hkk).2
       omega
     · have h1:=HCO.out.new kk hkk
       have h2:=HB5.out.size;have h3:=HZ3.out;omega
    have hxo7:=box_keep HXO.out aw7;have hrb7:=box_keep ((HF.out.block w.heap.size (by have:=HB5.out.size;have:=HZ3.out;omega) (by have:=HZ3.out;omega)).trans HV1.out) aw7
    have hcs7:∀ W',Fr (ownS (.slice A' lo.length c')) w7 W'→(W'.cell? ⟨go,0,none⟩=some (.slice A' lo.length c'))∧(W'.cell? ⟨gt,0,none⟩=some (.int .i64 t.2.1)∧W'.cell? ⟨gt,1,none⟩=some (.bool (ratNeg t.2.2))∧W'.cell? ⟨gt,2,none⟩=some (.slice t.1.A t.1.n t.1.c)∧W'.cell? ⟨gt,3,none⟩=some (.slice t.1.A2 t.1.n2 t.1.c2))∧W'.cell? ⟨w.heap.size,0,none⟩=some (.bool s2)∧W'.cell? ⟨w.heap.size,1,none⟩=some (.slice br.A br.n br.c)∧W'.cell? ⟨w.heap.size,2,none⟩=some (.slice br.A2 br.n2 br.c2):=fun W' hf=>by
     have e1:=(hf.block go (lt_of_blk hxo7) (fun h=>(hnw go h).1 rfl)).trans hxo7;have e2:=(hf.block gt (lt_of_blk hxt) (fun h=>(hnw gt h).2.1 rfl)).trans hxt;have e3:=(hf.block w.heap.size (lt_of_blk hrb7) (fun h=>(hnw _ h).2.2 rfl)).trans hrb7;exact ⟨cell_of_blk e1 0,box4 e2,boxk e3⟩
    have hml:=fun W (hb:Below w7.heap.size w7 W)=>rmul_any br t.1 r t.2.2 W ((HR6.out.below aw7).below hb) ((HOK.out.1.below aw7).below hb) (kr+k) (by omega) (HRL.out.up (by omega)) (HOK.out.2.1.up (by omega))
    unfold RB.val at hml;rw [←HS2.out] at hml;have HCS7:=Lib.hid hcs7;have HML7:=Lib.hid hml;have HCO7:=Lib.hid hco7;have HXO7:=Lib.hid hxo7;have HF7:=Lib.hid (HF.out.trans (Fr.of_below (S:=fun kk=>kk=go) aw7) (fun b hb=>.inl hb));have HA7:=Lib.hid aw7;have HNW:=Lib.hid hnw;obtain ⟨i0,hi,hz0,hz1,hz2⟩:=info_parts info_term
    have hll:lo.length≤30:=by have:=HLL.out;omega
    clear hcs7 hml hco7 hxo7 hrb7 hxt aw7 zw7 hgt hnw y0 y1 y2 y3;have hS:=HCS7.out w7.drew (Fr.refl _ _).drew;refine wp_region_E 12 (fun W'=>(W'.cell? ⟨go,0,none⟩=some (.slice A' lo.length c'))∧(W'.cell? ⟨gt,0,none⟩=some (.int .i64 t.2.1)∧W'.cell? ⟨gt,1,none⟩=some (.bool (ratNeg t.2.2))∧W'.cell? ⟨gt,2,none⟩=some (.slice t.1.A t.1.n t.1.c)∧W'.cell? ⟨gt,3,none⟩=some (.slice t.1.A2 t.1.n2 t.1.c2))∧W'.cell? ⟨w.heap.size,0,none⟩=some (.bool s2)∧W'.cell? ⟨w.heap.size,1,none⟩=some (.slice br.A br.n br.c)∧W'.cell? ⟨w.heap.size,2,none⟩=some (.slice br.A2 br.n2 br.c2)) (by kernel_rfl) ?_;refine tkE 0 hS ?_;simp only [Act.put,sA,sZ,sS];refine tkE 1 hS ?_;simp only [Act.put,sA,sZ,sS];refine tkE 2 hS ?_;simp only [Act.put,sA,sZ,sS];refine tkE 3 hS ?_;simp only [Act.put,sA,sZ,sS];refine tkE 4 hS ?_;simp only [Act.put,sA,sZ,sS];refine tkE 5 hS ?_;simp only [Act.put,sA,sZ,sS];refine tkE 6 hS ?_;simp only [Act.put,sA,sZ,sS]
    refine onE 7 fun KK HKK7=>?_
    go_simp
    go_at_call 22
    refine (HML7.out _ (below_drew2 (Below.refl _ _))).mono ?_;rintro e w8 ⟨b8,rfl,hr8,hb8⟩;have c8:Below w7.heap.size w7 w8:=(below_drew2 (Below.refl _ _)).trans (hb8.mono (Nat.le_refl _));have hS8:=HCS7.out w8 (Fr.of_below c8);have HR8:=Lib.hid hr8;clear hr8 hb8 hS;refine HKK7.out _ _ (.inr hS8) ?_;clear HKK7
    try simp only [Act.put,sA,sZ,sS]
    refine tkE 8 hS8 ?_;simp only [Act.put,sA,sZ,sS]
    refine onE 9 fun KK HKK9=>?_
    go_simp;have c8a:=c8.alloc c8.size (.cells #[.int .i64 t.2.1,.bool (ratNeg (r*t.2.2)),.slice b8.A b8.n b8.c,.slice b8.A2 b8.n2 b8.c2] 44);have hS9:=HCS7.out _ (Fr.of_below c8a);refine HKK9.out _ _ (.inr hS9) ?_;clear HKK9
    try simp only [Act.put,sA,sZ,sS]
    refine onE 10 fun KK HKK10=>?_
    have hco8:=HCO7.out.below c8;refine stepS w8 4 #[.int .i64 t.2.1,.bool (ratNeg (r*t.2.2)),.slice b8.A b8.n b8.c,.slice b8.A2 b8.n2 b8.c2] 44 rfl (.tmp 21) (.tmp 29) 23 rfl i0 _ 64 Tryz.underlying23 hi hz0 hz1 hz2 rfl (by decide) (by decide) rfl (.slice A' lo.length c') lo.length (tmsL lo) rfl hco8.own rfl (tmL_one (b8,(t.2.1,r*t.2.2))) (by omega) ?_;intro v9 w9 ho9 hf9 hk9
    have hok:TOk w8 K (b8,(t.2.1,r*t.2.2)):=⟨HR8.out,by rw [HKK.out];exact mul_le HRL.out HOK.out.2.1,HOK.out.2.2⟩
    have hw58:w5.heap.size≤w8.heap.size:=by
     have h1:=HF7.out.size;have h2:=c8.size;omega
    have hco9:=hco8.app hw58 hok ho9 hf9 hk9;obtain ⟨A9,c9,rfl,_⟩:=ownsRow_form hco9.own;rw [List.length_append,List.length_singleton] at hco9 hk9 ⊢;have hf89:=(Fr.of_below (S:=ownS (.slice A' lo.length c')) c8).trans hf9 (fun b hb=>.inl hb);have hS10:=HCS7.out w9 hf89;refine HKK10.out _ _ (.inr hS10) ?_;clear HKK10
    try simp only [Act.put,sA,sZ,sS]
    refine tkE 11 hS10 ?_;simp only [Act.put,sA,sZ,sS]
    refine onE 12 fun KK HKK12=>?_
    have hx9:=(hf89.block go (lt_of_blk HXO7.out) (fun h=>(HNW.out go h).1 rfl)).trans HXO7.out;obtain ⟨p0,p1,p2,p3⟩:=box4 hx9;have z0:=frozen_of_blk hx9 0;have HX9:=Lib.hid hx9;have HCO9:=Lib.hid hco9;have hfr9:Fr (fun kk=>kk=go) w5 w9:=(HF7.out.trans (Fr.of_below (S:=fun kk=>kk=go) c8) (fun b hb=>.inl hb)).trans hf9 (fun b hb=>.inr (HCO7.out.new b hb));have HF9:=Lib.hid hfr9;clear hx9 hco9 hco8 hf9 hf89 ho9 hk9 hS10 hS9 hS8 hok hw58 c8a hfr9;go_simp;refine HKK12.out _ _ (.inl rfl) ?_;clear HKK12;refine wpAnyE_done (by kernel_rfl) ?_ _
    go_wp2_with fail
    go_roundw
    case rel =>
     refine ⟨i+1,lo ++ [(b8,(t.2.1,r*t.2.2))],A9,c9,by omega,by go_num,?_,?_,?_,by rw [List.length_append,List.length_singleton,HLL.out],fr_set HF9.out (.inl rfl)⟩
     · rw [List.length_append,List.length_singleton]
       exact set_blk HX9.out 0 _
     · rw [List.length_append,List.length_singleton]
       exact HCO9.out.frE (fr_set (Fr.refl _ _) (.inl rfl)) HX9.out (by decide)
     · rw [tmsOf_app,HLO.out,List.take_add_one,show (tmsOf l)[i]?=some t.2 by unfold tmsOf;rw [List.getElem?_map,HTI.out];rfl]
       simp [scT,tmsOf]
    case measure=>simp [intOf];omega
  · obtain rfl:i=n:=by omega
    obtain ⟨ht6,hr6,hq6⟩:=HCS5.out w6 HF.out;have hlen6:=ht6.len;obtain ⟨Ax,cx,ex,htx⟩:=TmsAt.of_own HCO.out.own HCO.out.each
    injection ex with e1 _ e3
    subst e1;subst e3;have hll:=HLL.out;have hca:=canon_any A' lo.length c' b4 lo (r*q) K w6 htx (by omega) (by rw [HKK.out];exact hk);have hx3:=(HF.out.block (w.heap.size+1+1) (by have:=HB5.out.size;have:=HZ3.out;omega) (by have:=HZ3.out;omega)).trans HV3.out;have hxo:=HXO.out;obtain ⟨y0,y1,y2,y3⟩:=box4 hxo;have HCA:=Lib.hid hca;have HX3:=Lib.hid hx3;have HQ6:=Lib.hid hq6;have HLN:=Lib.hid hlen6
    have hlt2:¬ (i<i):=by omega
    clear hca hx3 hq6 ht6 hr6 htx hxo hll hlen6
    go_wp2_with (go_at_call 23;refine HCA.out.mono ?_;rintro e w7 ⟨A7,n7,c7,l7,ls7,rfl,hp7,hsr7,hg7,ht7,hn7,hb7⟩;have hx7:=box_keep HX3.out hb7;obtain ⟨p0,p1,p2,p3⟩:=box4 hx7;have z0:=frozen_of_blk hx7 0;have z1:=frozen_of_blk hx7 1;have z2:=frozen_of_blk hx7 2;have z3:=frozen_of_blk hx7 3;have HX7:=Lib.hid hx7;have HP7:=Lib.hid (And.intro hp7 hsr7);have HG7:=Lib.hid hg7;have HT7:=Lib.hid ht7;have HN7:=Lib.hid hn7;have HB7:=Lib.hid hb7;clear hx7 hp7 hsr7 hg7 ht7 hn7 hb7)
    refine bodyPost_ret (v:=.agg #[.slice A7 n7 c7,.bool (ratNeg (r*q)),.slice b4.A b4.n b4.c,.slice b4.A2 b4.n2 b4.c2]) (by simp [results,Tryz.results6,go_sem,p0,p1,p2,p3]) rfl ?_
    have hbel:Below w.heap.size w w7:=by
     have h1:Below w3.heap.size w3 w6:=(HB5.out.trans (HF.out.below (B:=w3.heap.size) HB5.out.size (fun b hb=>by rw [hb];exact hgo3)))
     exact (HB3.out.trans (h1.mono HB3.out.size)).trans (HB7.out.mono (Nat.le_trans HB3.out.size h1.size))
    have hfr:=store4_fr w7 (w.heap.size+1+1) A7 n7 c7 (ratNeg (r*q)) b4;have hty:=typ_of HX7.out (by decide);refine ⟨lo,?_,A7,n7,c7,b4,l7,ls7,rfl,HP7.out.1.map _,HP7.out.2,HG7.out,?_,(HQ6.out.below HB7.out).frB hfr hty,HQ.out,?_,store4_bel hbel (by omega) _ _ _ _ _⟩
    · rw [HLO.out,List.take_of_length_le (by rw [tmsOf_len,HLN.out];exact Nat.le_refl _)]
    · have:=HT7.out.fr hfr hty
      rw [HKK.out] at this;exact this
    · have:=HN7.out
      have:=HLL.out;omega
end Go.Proofs.YtdefcbfofonabaaGreat
