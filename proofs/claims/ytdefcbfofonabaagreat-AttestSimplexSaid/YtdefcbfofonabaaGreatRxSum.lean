/- Contract of attestref08.sum: its head. -/
import Derived.Test.YtdefcbfofonabaaGreatRxCoef
import Derived.Test.YtdefcbfofonabaaGreatRegE
namespace Go.Proofs.YtdefcbfofonabaaGreat
open Go.RowKit
set_option linter.unusedVariables false
set_option linter.unusedSimpArgs false
theorem st4_box {w:World} {g:Nat} {a b c d:Value} {t:TypeId} (h:w.heap[g]?=some (.cells #[a,b,c,d] t (0,0))) (A:Option Addr) (n k:Nat) (s:Bool) (r:RB):(store4 w g A n k s r).heap[g]?=some (.cells #[.slice A n k,.bool s,.slice r.A r.n r.c,.slice r.A2 r.n2 r.c2] t (0,0)) :=
 set_blk (set_blk (set_blk (set_blk h 0 _) 1 _) 2 _) 3 _
structure XOk (w:World) (K:Nat) (e:XE) (k:Rat):Prop where
 tms:QsAt w e.A e.n e.c e.l K
 cst:QAt w e.b k
 sgn:e.s=ratNeg k
 le:QLe k K
 few:e.n≤100
 co:∀ v i,QLe (coT ((tmsOf e.l).take i) v) K
theorem XOk.below {w w':World} {K:Nat} {e:XE} {k:Rat} (h:XOk w K e k) (hb:Below w.heap.size w w'):XOk w' K e k:=⟨h.tms.below hb,h.cst.below hb,h.sgn,h.le,h.few,h.co⟩
def XE.val (e:XE):Value:=.agg #[.slice e.A e.n e.c,.bool e.s,.slice e.b.A e.b.n e.b.c,.slice e.b.A2 e.b.n2 e.b.c2]
structure COutQ (w0 w:World) (v:Value) (lo:List TB) (K:Nat):Prop where
 own:w.ownsRow 0 153 4 v lo.length (tmsL lo)
 new:∀ b,v.ownBlock=some b→w0.heap.size≤b
 each:∀ t ∈ lo,QOk w K t
theorem COutQ.below {w0 w w':World} {v:Value} {lo:List TB} {K:Nat} (h:COutQ w0 w v lo K) (hb:Below w.heap.size w w'):COutQ w0 w' v lo K:=⟨own_below h.own hb,h.new,fun t ht=>(h.each t ht).below hb⟩
theorem own_base {w:World} {B n size:Nat} {E:TypeId} {v:Value} {xs:List Value} (h:w.ownsRow 0 E size v n xs) (hn:∀ b,v.ownBlock=some b→B≤b):w.ownsRow B E size v n xs:=by
 refine ⟨h.1,?_⟩;rcases h.2 with h' | ⟨g,cap,cur,hv,hg,r⟩
 · exact .inl h'
 · exact .inr ⟨g,cap,cur,hv,hn g (by rw [hv];rfl),r⟩
theorem QOk.frB {S:Nat→Prop} {w w':World} {K:Nat} {t:TB} (h:QOk w K t) (hf:Fr S w w') (hS:∀ b,S b→∃ cs t m,w.heap[b]?=some (.cells cs t m)∧t≠4):QOk w' K t:=⟨h.at_.fr hf hS,h.le,h.lo,h.hi⟩
theorem own_typQ {w:World} {B n:Nat} {v:Value} {xs:List Value} (h:w.ownsRow B 153 4 v n xs):∀ b,ownS v b→∃ cs t m,w.heap[b]?=some (.cells cs t m)∧t≠4:=by
 intro b hb;rcases h.2 with ⟨rfl,_⟩ | ⟨g,cap,cur,rfl,_,hx,_⟩
 · simp [ownS,Value.ownBlock] at hb
 · have:g=b:=by simpa [ownS,Value.ownBlock] using hb
   subst this;exact ⟨cur,_,_,hx,by decide⟩
theorem litT_rd (w:World) (b:RB) (v:Int) (q:Rat):Rd (w.alloc (.cells #[.int .i64 v,.bool (ratNeg q),.slice b.A b.n b.c,.slice b.A2 b.n2 b.c2] 153)) 4 (some ⟨w.heap.size,0,none⟩) 1 (tmL (b,(v,q))):=by
 have hown:=World.ownsRow_lit (base:=0) (e:=153) (size:=4) w #[.int .i64 v,.bool (ratNeg q),.slice b.A b.n b.c,.slice b.A2 b.n2 b.c2] 1 (Nat.zero_le _) (by unfold maxLen;omega) rfl;obtain ⟨A,c,e,_,hr⟩:=ownsRow_form hown
 injection e with e1
 subst e1;exact hr
theorem info_termQ:(Tryz.prog.info? 153).map (fun i=>(i.zero,i.size,i.bytes))=some (some (.agg #[.int .i64 0,.bool false,.slice none 0 0,.slice none 0 0]),4,64):=by kernel_rfl
def SumA (w:World) (p q:Rat) (ea eb:XE) (ca cb:Rat) (K:Nat) (r:Ending) (w':World):Prop :=
 ∃ e:XE,r=.returned e.val∧QsAt w' e.A e.n e.c e.l K∧QAt w' e.b (p*ca+q*cb)∧e.s=ratNeg (p*ca+q*cb)∧e.n≤ea.n+eb.n∧((tmsOf e.l).map (·.1)).Nodup∧(∀ v,coT (tmsOf e.l) v=p*coT (tmsOf ea.l) v+q*coT (tmsOf eb.l) v)∧(∀ u ∈ e.vars,u ∈ ea.vars∨u ∈ eb.vars)∧Below w.heap.size w w'
set_option maxRecDepth 100000 in
set_option maxHeartbeats 8000000 in
theorem rsum_any (pb qb:RB) (p q:Rat) (ea eb:XE) (ca cb:Rat) (Z K:Nat) (w:World) (hp:QAt w pb p) (hq:QAt w qb q) (hxa:XOk w Z ea ca) (hxb:XOk w Z eb cb)
 (lp:QLe p Z) (lq:QLe q Z) (hZ:Z≤20000) (hK:∀ v,QLe (p*coT (tmsOf ea.l) v+q*coT (tmsOf eb.l) v) K) :
 Calls Tryz.prog 58 #[.agg #[.bool (ratNeg p),.slice pb.A pb.n pb.c,.slice pb.A2 pb.n2 pb.c2],ea.val,.agg #[.bool (ratNeg q),.slice qb.A qb.n qb.c,.slice qb.A2 qb.n2 qb.c2],eb.val] w fun e w'=>SumA w p q ea eb ca cb K e w':=by
 have ha:=hxa.cst;have hb:=hxb.cst;have sa:=hxa.sgn;have sb:=hxb.sgn;have la:=hxa.le;have lb:=hxb.le;have hc1:QLe (p*ca) (2*Z):=(qmul_le lp la).up (by omega);have hc2:QLe (q*cb) (2*Z):=(qmul_le lq lb).up (by omega)
 have hcoa:∀ v,QLe (coT (tmsOf ea.l) v) Z:=fun v=>by
  have:=hxa.co v (tmsOf ea.l).length
  rwa [List.take_length] at this
 have hcob:∀ v,QLe (coT (tmsOf eb.l) v) Z:=fun v=>by
  have:=hxb.co v (tmsOf eb.l).length
  rwa [List.take_length] at this
 have hcfa:=fun v W (hW:Below w.heap.size w W)=>coef_any ea.A ea.n ea.c ea.s ea.b ea.l Z v W (hxa.tms.below hW) hxa.few (by omega) (hxa.co v)
 have hcfb:=fun v W (hW:Below w.heap.size w W)=>coef_any eb.A eb.n eb.c eb.s eb.b eb.l Z v W (hxb.tms.below hW) hxb.few (by omega) (hxb.co v)
 have hmpa:=fun v W b (hW:Below w.heap.size w W) (h:QAt W b (coT (tmsOf ea.l) v))=>qmul_any pb b p _ W (hp.below hW) h Z (by omega) lp (hcoa v)
 have hmqb:=fun v W b (hW:Below w.heap.size w W) (h:QAt W b (coT (tmsOf eb.l) v))=>qmul_any qb b q _ W (hq.below hW) h Z (by omega) lq (hcob v)
 have hadd:=fun v W b1 b2 (h1:QAt W b1 (p*coT (tmsOf ea.l) v)) (h2:QAt W b2 (q*coT (tmsOf eb.l) v))=>qadd_any b1 b2 _ _ W h1 h2 (2*Z) (by omega) ((qmul_le lp (hcoa v)).up (by omega)) ((qmul_le lq (hcob v)).up (by omega))
 unfold RB.val at hcfa hcfb hmpa hmqb hadd;unfold XE.val
 have hm1:=fun W (hW:Below w.heap.size w W)=>qmul_any pb ea.b p ca W (hp.below hW) (ha.below hW) Z (by omega) lp la
 have hm2:=fun W (hW:Below w.heap.size w W)=>qmul_any qb eb.b q cb W (hq.below hW) (hb.below hW) Z (by omega) lq lb
 have had:=fun W b1 b2 (h1:QAt W b1 (p*ca)) (h2:QAt W b2 (q*cb))=>qadd_any b1 b2 (p*ca) (q*cb) W h1 h2 (2*Z) (by omega) hc1 hc2
 unfold RB.val at hm1 hm2 had;rw [←sa] at hm1;rw [←sb] at hm2
 obtain ⟨sp,hsp⟩:∃ sp,sp=ratNeg p:=⟨_,rfl⟩
 obtain ⟨sq,hsq⟩:∃ sq,sq=ratNeg q:=⟨_,rfl⟩
 rw [←hsp] at hm1 hmpa ⊢;rw [←hsq] at hm2 hmqb ⊢;have HXA:=Lib.hid hxa;have HXB:=Lib.hid hxb;have HKK:=Lib.hid hK;clear sa sb hsp hsq hp hq ha hb hxa hxb hK hcoa hcob
 go_enter Tryz.func58,Tryz.ntmps58
 go_upto_region 1 with fail
 have hx1:=heap_alloc_new w (.cells #[.bool sp,.slice pb.A pb.n pb.c,.slice pb.A2 pb.n2 pb.c2] 83)
 have zw1:(w.alloc (.cells #[.bool sp,.slice pb.A pb.n pb.c,.slice pb.A2 pb.n2 pb.c2] 83)).heap.size=w.heap.size+1:=by simp
 have aw1:=(Below.refl w.heap.size w).alloc (Nat.le_refl _) (.cells #[.bool sp,.slice pb.A pb.n pb.c,.slice pb.A2 pb.n2 pb.c2] 83)
 obtain ⟨w1,ew1⟩:∃ x,x=w.alloc (.cells #[.bool sp,.slice pb.A pb.n pb.c,.slice pb.A2 pb.n2 pb.c2] 83):=⟨_,rfl⟩
 rw [←ew1] at hx1 zw1 aw1 ⊢;clear ew1;have hx2:=heap_alloc_new w1 (.cells #[.slice ea.A ea.n ea.c,.bool ea.s,.slice ea.b.A ea.b.n ea.b.c,.slice ea.b.A2 ea.b.n2 ea.b.c2] 85)
 have zw2:(w1.alloc (.cells #[.slice ea.A ea.n ea.c,.bool ea.s,.slice ea.b.A ea.b.n ea.b.c,.slice ea.b.A2 ea.b.n2 ea.b.c2] 85)).heap.size=w1.heap.size+1:=by simp
 have aw2:=(Below.refl w1.heap.size w1).alloc (Nat.le_refl _) (.cells #[.slice ea.A ea.n ea.c,.bool ea.s,.slice ea.b.A ea.b.n ea.b.c,.slice ea.b.A2 ea.b.n2 ea.b.c2] 85)
 obtain ⟨w2,ew2⟩:∃ x,x=w1.alloc (.cells #[.slice ea.A ea.n ea.c,.bool ea.s,.slice ea.b.A ea.b.n ea.b.c,.slice ea.b.A2 ea.b.n2 ea.b.c2] 85):=⟨_,rfl⟩
 rw [←ew2] at hx2 zw2 aw2 ⊢;clear ew2;have hx3:=heap_alloc_new w2 (.cells #[.bool sq,.slice qb.A qb.n qb.c,.slice qb.A2 qb.n2 qb.c2] 83)
 have zw3:(w2.alloc (.cells #[.bool sq,.slice qb.A qb.n qb.c,.slice qb.A2 qb.n2 qb.c2] 83)).heap.size=w2.heap.size+1:=by simp
 have aw3:=(Below.refl w2.heap.size w2).alloc (Nat.le_refl _) (.cells #[.bool sq,.slice qb.A qb.n qb.c,.slice qb.A2 qb.n2 qb.c2] 83)
 obtain ⟨w3,ew3⟩:∃ x,x=w2.alloc (.cells #[.bool sq,.slice qb.A qb.n qb.c,.slice qb.A2 qb.n2 qb.c2] 83):=⟨_,rfl⟩
 rw [←ew3] at hx3 zw3 aw3 ⊢;clear ew3;have hx4:=heap_alloc_new w3 (.cells #[.slice eb.A eb.n eb.c,.bool eb.s,.slice eb.b.A eb.b.n eb.b.c,.slice eb.b.A2 eb.b.n2 eb.b.c2] 85)
 have zw4:(w3.alloc (.cells #[.slice eb.A eb.n eb.c,.bool eb.s,.slice eb.b.A eb.b.n eb.b.c,.slice eb.b.A2 eb.b.n2 eb.b.c2] 85)).heap.size=w3.heap.size+1:=by simp
 have aw4:=(Below.refl w3.heap.size w3).alloc (Nat.le_refl _) (.cells #[.slice eb.A eb.n eb.c,.bool eb.s,.slice eb.b.A eb.b.n eb.b.c,.slice eb.b.A2 eb.b.n2 eb.b.c2] 85)
 obtain ⟨w4,ew4⟩:∃ x,x=w3.alloc (.cells #[.slice eb.A eb.n eb.c,.bool eb.s,.slice eb.b.A eb.b.n eb.b.c,.slice eb.b.A2 eb.b.n2 eb.b.c2] 85):=⟨_,rfl⟩
 rw [←ew4] at hx4 zw4 aw4 ⊢;clear ew4;have hx5:=heap_alloc_new w4 (.cells #[.slice none 0 0,.bool false,.slice none 0 0,.slice none 0 0] 85)
 have zw5:(w4.alloc (.cells #[.slice none 0 0,.bool false,.slice none 0 0,.slice none 0 0] 85)).heap.size=w4.heap.size+1:=by simp
 have aw5:=(Below.refl w4.heap.size w4).alloc (Nat.le_refl _) (.cells #[.slice none 0 0,.bool false,.slice none 0 0,.slice none 0 0] 85)
 obtain ⟨w5,ew5⟩:∃ x,x=w4.alloc (.cells #[.slice none 0 0,.bool false,.slice none 0 0,.slice none 0 0] 85):=⟨_,rfl⟩
 rw [←ew5] at hx5 zw5 aw5 ⊢;clear ew5;rw [zw1] at hx2;rw [zw2,zw1] at hx3;rw [zw3,zw2,zw1] at hx4;rw [zw4,zw3,zw2,zw1] at hx5;have k12:=aw1.trans (aw2.mono aw1.size);have k13:=k12.trans (aw3.mono k12.size);have k14:=k13.trans (aw4.mono k13.size);have k15:=k14.trans (aw5.mono k14.size);have hv1:=box_keep (box_keep (box_keep (box_keep hx1 aw2) aw3) aw4) aw5;have hv2:=box_keep (box_keep (box_keep hx2 aw3) aw4) aw5;have hv3:=box_keep (box_keep hx3 aw4) aw5;have hv4:=box_keep hx4 aw5
 have hz5:w5.heap.size=w.heap.size+1+1+1+1+1:=by rw [zw5,zw4,zw3,zw2,zw1]
 have hcs:∀ W',Below w5.heap.size w5 W'→(W'.cell? ⟨w.heap.size,0,none⟩=some (.bool sp)∧W'.cell? ⟨w.heap.size,1,none⟩=some (.slice pb.A pb.n pb.c)∧W'.cell? ⟨w.heap.size,2,none⟩=some (.slice pb.A2 pb.n2 pb.c2))∧(W'.cell? ⟨w.heap.size+1,0,none⟩=some (.slice ea.A ea.n ea.c)∧W'.cell? ⟨w.heap.size+1,1,none⟩=some (.bool ea.s)∧W'.cell? ⟨w.heap.size+1,2,none⟩=some (.slice ea.b.A ea.b.n ea.b.c)∧W'.cell? ⟨w.heap.size+1,3,none⟩=some (.slice ea.b.A2 ea.b.n2 ea.b.c2))∧(W'.cell? ⟨w.heap.size+1+1,0,none⟩=some (.bool sq)∧W'.cell? ⟨w.heap.size+1+1,1,none⟩=some (.slice qb.A qb.n qb.c)∧W'.cell? ⟨w.heap.size+1+1,2,none⟩=some (.slice qb.A2 qb.n2 qb.c2))∧(W'.cell? ⟨w.heap.size+1+1+1,0,none⟩=some (.slice eb.A eb.n eb.c)∧W'.cell? ⟨w.heap.size+1+1+1,1,none⟩=some (.bool eb.s)∧W'.cell? ⟨w.heap.size+1+1+1,2,none⟩=some (.slice eb.b.A eb.b.n eb.b.c)∧W'.cell? ⟨w.heap.size+1+1+1,3,none⟩=some (.slice eb.b.A2 eb.b.n2 eb.b.c2)):=fun W' h=>⟨Box.of (box_keep hv1 h),box4 (box_keep hv2 h),Box.of (box_keep hv3 h),box4 (box_keep hv4 h)⟩
 have HCS:=Lib.hid hcs;have HM1:=Lib.hid (fun W (hW:Below w5.heap.size w5 W)=>hm1 W (k15.trans (hW.mono k15.size)));have HM2:=Lib.hid (fun W (hW:Below w5.heap.size w5 W)=>hm2 W (k15.trans (hW.mono k15.size)));have HAD:=Lib.hid had;have HCFA:=Lib.hid (fun v W (hW:Below w5.heap.size w5 W)=>hcfa v W (k15.trans (hW.mono k15.size)));have HCFB:=Lib.hid (fun v W (hW:Below w5.heap.size w5 W)=>hcfb v W (k15.trans (hW.mono k15.size)));have HMPA:=Lib.hid (fun v W b (hW:Below w5.heap.size w5 W) h=>hmpa v W b (k15.trans (hW.mono k15.size)) h);have HMQB:=Lib.hid (fun v W b (hW:Below w5.heap.size w5 W) h=>hmqb v W b (k15.trans (hW.mono k15.size)) h);have HADD:=Lib.hid hadd;have HB5:=Lib.hid k15;have HX5:=Lib.hid hx5;have HZ5:=Lib.hid hz5;clear hcs hm1 hm2 had k12 k13 k14 k15 hv1 hv2 hv3 hv4 hx1 hx2 hx3 hx4 hx5 aw1 aw2 aw3 aw4 aw5 zw1 zw2 zw3 zw4 zw5 hz5 lp lq la lb hc1 hc2 hcfa hcfb hmpa hmqb hadd
 go_cut [9] (fun v wx=>∃ (g:Nat) (b3:RB),v=.pointer (some ⟨g,0,none⟩)∧w5.heap.size≤g∧wx.heap[g]?=some (.cells #[.slice none 0 0,.bool (ratNeg (p*ca+q*cb)),.slice b3.A b3.n b3.c,.slice b3.A2 b3.n2 b3.c2] 85 (0,0))∧QAt wx b3 (p*ca+q*cb)∧Below w5.heap.size w5 wx)
 case first =>
  as_aux_lemma =>
   have kb:Below w5.heap.size w5 w5.drew:=below_drew2 (Below.refl _ _);have hS:=HCS.out w5.drew kb;refine wp_region_E 11 (fun W'=>(W'.cell? ⟨w.heap.size,0,none⟩=some (.bool sp)∧W'.cell? ⟨w.heap.size,1,none⟩=some (.slice pb.A pb.n pb.c)∧W'.cell? ⟨w.heap.size,2,none⟩=some (.slice pb.A2 pb.n2 pb.c2))∧(W'.cell? ⟨w.heap.size+1,0,none⟩=some (.slice ea.A ea.n ea.c)∧W'.cell? ⟨w.heap.size+1,1,none⟩=some (.bool ea.s)∧W'.cell? ⟨w.heap.size+1,2,none⟩=some (.slice ea.b.A ea.b.n ea.b.c)∧W'.cell? ⟨w.heap.size+1,3,none⟩=some (.slice ea.b.A2 ea.b.n2 ea.b.c2))∧(W'.cell? ⟨w.heap.size+1+1,0,none⟩=some (.bool sq)∧W'.cell? ⟨w.heap.size+1+1,1,none⟩=some (.slice qb.A qb.n qb.c)∧W'.cell? ⟨w.heap.size+1+1,2,none⟩=some (.slice qb.A2 qb.n2 qb.c2))∧(W'.cell? ⟨w.heap.size+1+1+1,0,none⟩=some (.slice eb.A eb.n eb.c)∧W'.cell? ⟨w.heap.size+1+1+1,1,none⟩=some (.bool eb.s)∧W'.cell? ⟨w.heap.size+1+1+1,2,none⟩=some (.slice eb.b.A eb.b.n eb.b.c)∧W'.cell? ⟨w.heap.size+1+1+1,3,none⟩=some (.slice eb.b.A2 eb.b.n2 eb.b.c2))) (by kernel_rfl) ?_;generalize w5.drew=w6 at kb hS ⊢;refine tkE 0 hS ?_;simp only [Act.put,sA,sZ,sS];refine tkE 1 hS ?_;simp only [Act.put,sA,sZ,sS];refine tkE 2 hS ?_;simp only [Act.put,sA,sZ,sS];refine tkE 4 hS ?_;simp only [Act.put,sA,sZ,sS];refine tkE 5 hS ?_;simp only [Act.put,sA,sZ,sS];refine tkE 6 hS ?_;simp only [Act.put,sA,sZ,sS];refine wpAnyE_two (i:=3) (j:=10) (by kernel_rfl) rfl rfl (fun KK hKK=>?_) (fun KK hKK=>?_)
   · have HKK3:=Lib.hid hKK
     clear hKK;go_simp
     go_at_call 82
     refine (HM1.out _ kb).mono ?_;rintro e u1 ⟨b1,rfl,hr1,hb1⟩;have hS:=HCS.out u1 (kb.trans (hb1.mono kb.size));replace kb:=kb.trans (hb1.mono kb.size);clear hb1;refine HKK3.out _ _ (.inr hS) ?_;clear HKK3
     try simp only [Act.put,sA,sZ,sS]
     refine wpAnyE_two (i:=7) (j:=10) (by kernel_rfl) rfl rfl (fun KK hKK=>?_) (fun KK hKK=>?_)
     · have HKK7:=Lib.hid hKK
       clear hKK;go_simp
       go_at_call 82
       refine (HM2.out _ kb).mono ?_;rintro e u2 ⟨b2,rfl,hr2,hb2⟩;replace hr1:=hr1.below hb2;have hS:=HCS.out u2 (kb.trans (hb2.mono kb.size));replace kb:=kb.trans (hb2.mono kb.size);clear hb2;refine HKK7.out _ _ (.inr hS) ?_;clear HKK7
       try simp only [Act.put,sA,sZ,sS]
       refine wpAnyE_two (i:=8) (j:=10) (by kernel_rfl) rfl rfl (fun KK hKK=>?_) (fun KK hKK=>?_)
       · have HKK8:=Lib.hid hKK
         clear hKK;go_simp
         go_at_call 81
         refine (HAD.out _ b1 b2 hr1 hr2).mono ?_;rintro e u3 ⟨b3,rfl,hr3,hb3⟩;have hS:=HCS.out u3 (kb.trans (hb3.mono kb.size));replace kb:=kb.trans (hb3.mono kb.size);clear hb3;refine HKK8.out _ _ (.inr hS) ?_;clear HKK8
         try simp only [Act.put,sA,sZ,sS]
         refine tkE 9 hS ?_;simp only [Act.put,sA,sZ,sS]
         refine onE 10 fun KK HKK10=>?_
         go_simp;have hxg:=heap_alloc_new u3 (.cells #[.slice none 0 0,.bool false,.slice none 0 0,.slice none 0 0] 85);have hal:=(Below.refl u3.heap.size u3).alloc (Nat.le_refl _) (.cells #[.slice none 0 0,.bool false,.slice none 0 0,.slice none 0 0] 85);have hgl:w5.heap.size≤u3.heap.size:=kb.size
         obtain ⟨g,hg⟩:∃ x,x=u3.heap.size:=⟨_,rfl⟩
         rw [←hg] at hxg hgl ⊢
         obtain ⟨ua,hua⟩:∃ x,x=u3.alloc (.cells #[.slice none 0 0,.bool false,.slice none 0 0,.slice none 0 0] 85):=⟨_,rfl⟩
         rw [←hua] at hxg hal ⊢;clear hg hua;have hS:=HCS.out ua (kb.trans (hal.mono kb.size));replace hr3:=hr3.below hal;replace kb:=kb.trans (hal.mono kb.size);clear hal;refine HKK10.out _ _ (.inr hS) ?_;clear HKK10
         try simp only [Act.put,sA,sZ,sS]
         refine onE 11 fun KK HKK11=>?_
         obtain ⟨p0,p1,p2,p3⟩:=box4 hxg;have z0:=frozen_of_blk hxg 0;have z1:=frozen_of_blk hxg 1;have z2:=frozen_of_blk hxg 2;have z3:=frozen_of_blk hxg 3;have HXG:=Lib.hid hxg;have HR3:=Lib.hid hr3;have HKB:=Lib.hid kb;clear hS hxg hr3 kb;go_simp;refine HKK11.out _ _ (.inl rfl) ?_;clear HKK11;refine wpAnyE_done (by kernel_rfl) ?_ _
         go_wp2_with fail
         go_meet;exact ⟨g,b3,rfl,hgl,st4_box HXG.out none 0 0 _ b3,HR3.out.fr (store4_fr ua g none 0 0 _ b3) (typB_of HXG.out (by decide)),store4_bel HKB.out hgl _ _ _ _ _⟩
       · have HKK10:=Lib.hid hKK
         clear hKK;go_simp;have hxg:=heap_alloc_new u2 (.cells #[.slice none 0 0,.bool false,.slice none 0 0,.slice none 0 0] 85);have hal:=(Below.refl u2.heap.size u2).alloc (Nat.le_refl _) (.cells #[.slice none 0 0,.bool false,.slice none 0 0,.slice none 0 0] 85);have hgl:w5.heap.size≤u2.heap.size:=kb.size
         obtain ⟨g,hg⟩:∃ x,x=u2.heap.size:=⟨_,rfl⟩
         rw [←hg] at hxg hgl ⊢
         obtain ⟨ua,hua⟩:∃ x,x=u2.alloc (.cells #[.slice none 0 0,.bool false,.slice none 0 0,.slice none 0 0] 85):=⟨_,rfl⟩
         rw [←hua] at hxg hal ⊢;clear hg hua;have hS:=HCS.out ua (kb.trans (hal.mono kb.size));replace hr1:=hr1.below hal;replace hr2:=hr2.below hal;replace kb:=kb.trans (hal.mono kb.size);clear hal;refine HKK10.out _ _ (.inr hS) ?_;clear HKK10
         try simp only [Act.put,sA,sZ,sS]
         refine onE 8 fun KK HKK8=>?_
         go_simp
         go_at_call 81
         refine (HAD.out _ b1 b2 hr1 hr2).mono ?_;rintro e u3 ⟨b3,rfl,hr3,hb3⟩;have hS:=HCS.out u3 (kb.trans (hb3.mono kb.size));replace hxg:=box_keep hxg hb3;replace kb:=kb.trans (hb3.mono kb.size);clear hb3;refine HKK8.out _ _ (.inr hS) ?_;clear HKK8
         try simp only [Act.put,sA,sZ,sS]
         refine tkE 9 hS ?_;simp only [Act.put,sA,sZ,sS]
         refine onE 11 fun KK HKK11=>?_
         obtain ⟨p0,p1,p2,p3⟩:=box4 hxg;have z0:=frozen_of_blk hxg 0;have z1:=frozen_of_blk hxg 1;have z2:=frozen_of_blk hxg 2;have z3:=frozen_of_blk hxg 3;have HXG:=Lib.hid hxg;have HR3:=Lib.hid hr3;have HKB:=Lib.hid kb;clear hS hxg hr3 kb;go_simp;refine HKK11.out _ _ (.inl rfl) ?_;clear HKK11;refine wpAnyE_done (by kernel_rfl) ?_ _
         go_wp2_with fail
         go_meet;exact ⟨g,b3,rfl,hgl,st4_box HXG.out none 0 0 _ b3,HR3.out.fr (store4_fr u3 g none 0 0 _ b3) (typB_of HXG.out (by decide)),store4_bel HKB.out hgl _ _ _ _ _⟩
     · have HKK10:=Lib.hid hKK
       clear hKK;go_simp;have hxg:=heap_alloc_new u1 (.cells #[.slice none 0 0,.bool false,.slice none 0 0,.slice none 0 0] 85);have hal:=(Below.refl u1.heap.size u1).alloc (Nat.le_refl _) (.cells #[.slice none 0 0,.bool false,.slice none 0 0,.slice none 0 0] 85);have hgl:w5.heap.size≤u1.heap.size:=kb.size
       obtain ⟨g,hg⟩:∃ x,x=u1.heap.size:=⟨_,rfl⟩
       rw [←hg] at hxg hgl ⊢
       obtain ⟨ua,hua⟩:∃ x,x=u1.alloc (.cells #[.slice none 0 0,.bool false,.slice none 0 0,.slice none 0 0] 85):=⟨_,rfl⟩
       rw [←hua] at hxg hal ⊢;clear hg hua;have hS:=HCS.out ua (kb.trans (hal.mono kb.size));replace hr1:=hr1.below hal;replace kb:=kb.trans (hal.mono kb.size);clear hal;refine HKK10.out _ _ (.inr hS) ?_;clear HKK10
       try simp only [Act.put,sA,sZ,sS]
       refine onE 7 fun KK HKK7=>?_
       go_simp
       go_at_call 82
       refine (HM2.out _ kb).mono ?_;rintro e u2 ⟨b2,rfl,hr2,hb2⟩;replace hr1:=hr1.below hb2;have hS:=HCS.out u2 (kb.trans (hb2.mono kb.size));replace hxg:=box_keep hxg hb2;replace kb:=kb.trans (hb2.mono kb.size);clear hb2;refine HKK7.out _ _ (.inr hS) ?_;clear HKK7
       try simp only [Act.put,sA,sZ,sS]
       refine onE 8 fun KK HKK8=>?_
       go_simp
       go_at_call 81
       refine (HAD.out _ b1 b2 hr1 hr2).mono ?_;rintro e u3 ⟨b3,rfl,hr3,hb3⟩;have hS:=HCS.out u3 (kb.trans (hb3.mono kb.size));replace hxg:=box_keep hxg hb3;replace kb:=kb.trans (hb3.mono kb.size);clear hb3;refine HKK8.out _ _ (.inr hS) ?_;clear HKK8
       try simp only [Act.put,sA,sZ,sS]
       refine tkE 9 hS ?_;simp only [Act.put,sA,sZ,sS]
       refine onE 11 fun KK HKK11=>?_
       obtain ⟨p0,p1,p2,p3⟩:=box4 hxg;have z0:=frozen_of_blk hxg 0;have z1:=frozen_of_blk hxg 1;have z2:=frozen_of_blk hxg 2;have z3:=frozen_of_blk hxg 3;have HXG:=Lib.hid hxg;have HR3:=Lib.hid hr3;have HKB:=Lib.hid kb;clear hS hxg hr3 kb;go_simp;refine HKK11.out _ _ (.inl rfl) ?_;clear HKK11;refine wpAnyE_done (by kernel_rfl) ?_ _
       go_wp2_with fail
       go_meet;exact ⟨g,b3,rfl,hgl,st4_box HXG.out none 0 0 _ b3,HR3.out.fr (store4_fr u3 g none 0 0 _ b3) (typB_of HXG.out (by decide)),store4_bel HKB.out hgl _ _ _ _ _⟩
   · have HKK10:=Lib.hid hKK
     clear hKK;go_simp;have hxg:=heap_alloc_new w6 (.cells #[.slice none 0 0,.bool false,.slice none 0 0,.slice none 0 0] 85);have hal:=(Below.refl w6.heap.size w6).alloc (Nat.le_refl _) (.cells #[.slice none 0 0,.bool false,.slice none 0 0,.slice none 0 0] 85);have hgl:w5.heap.size≤w6.heap.size:=kb.size
     obtain ⟨g,hg⟩:∃ x,x=w6.heap.size:=⟨_,rfl⟩
     rw [←hg] at hxg hgl ⊢
     obtain ⟨ua,hua⟩:∃ x,x=w6.alloc (.cells #[.slice none 0 0,.bool false,.slice none 0 0,.slice none 0 0] 85):=⟨_,rfl⟩
     rw [←hua] at hxg hal ⊢;clear hg hua;have hS:=HCS.out ua (kb.trans (hal.mono kb.size));replace kb:=kb.trans (hal.mono kb.size);clear hal;refine HKK10.out _ _ (.inr hS) ?_;clear HKK10
     try simp only [Act.put,sA,sZ,sS]
     refine onE 3 fun KK HKK3=>?_
     go_simp
     go_at_call 82
     refine (HM1.out _ kb).mono ?_;rintro e u1 ⟨b1,rfl,hr1,hb1⟩;have hS:=HCS.out u1 (kb.trans (hb1.mono kb.size));replace hxg:=box_keep hxg hb1;replace kb:=kb.trans (hb1.mono kb.size);clear hb1;refine HKK3.out _ _ (.inr hS) ?_;clear HKK3
     try simp only [Act.put,sA,sZ,sS]
     refine onE 7 fun KK HKK7=>?_
     go_simp
     go_at_call 82
     refine (HM2.out _ kb).mono ?_;rintro e u2 ⟨b2,rfl,hr2,hb2⟩;replace hr1:=hr1.below hb2;have hS:=HCS.out u2 (kb.trans (hb2.mono kb.size));replace hxg:=box_keep hxg hb2;replace kb:=kb.trans (hb2.mono kb.size);clear hb2;refine HKK7.out _ _ (.inr hS) ?_;clear HKK7
     try simp only [Act.put,sA,sZ,sS]
     refine onE 8 fun KK HKK8=>?_
     go_simp
     go_at_call 81
     refine (HAD.out _ b1 b2 hr1 hr2).mono ?_;rintro e u3 ⟨b3,rfl,hr3,hb3⟩;have hS:=HCS.out u3 (kb.trans (hb3.mono kb.size));replace hxg:=box_keep hxg hb3;replace kb:=kb.trans (hb3.mono kb.size);clear hb3;refine HKK8.out _ _ (.inr hS) ?_;clear HKK8
     try simp only [Act.put,sA,sZ,sS]
     refine tkE 9 hS ?_;simp only [Act.put,sA,sZ,sS]
     refine onE 11 fun KK HKK11=>?_
     obtain ⟨p0,p1,p2,p3⟩:=box4 hxg;have z0:=frozen_of_blk hxg 0;have z1:=frozen_of_blk hxg 1;have z2:=frozen_of_blk hxg 2;have z3:=frozen_of_blk hxg 3;have HXG:=Lib.hid hxg;have HR3:=Lib.hid hr3;have HKB:=Lib.hid kb;clear hS hxg hr3 kb;go_simp;refine HKK11.out _ _ (.inl rfl) ?_;clear HKK11;refine wpAnyE_done (by kernel_rfl) ?_ _
     go_wp2_with fail
     go_meet;exact ⟨g,b3,rfl,hgl,st4_box HXG.out none 0 0 _ b3,HR3.out.fr (store4_fr u3 g none 0 0 _ b3) (typB_of HXG.out (by decide)),store4_bel HKB.out hgl _ _ _ _ _⟩
 case rest =>
  obtain ⟨g,b3,rfl,hgl,hxg,hr3,hbx⟩:=hcut
  obtain ⟨w6,rfl⟩:∃ x,x=wc:=⟨_,rfl⟩
  obtain ⟨⟨x0,x1,x2⟩,⟨y0,y1,y2,y3⟩,⟨q0,q1,q2⟩,⟨v0,v1,v2,v3⟩⟩:=HCS.out w6 hbx;have hal:=(Below.refl w6.heap.size w6).alloc (Nat.le_refl _) (.cells #[.slice ea.A ea.n ea.c,.bool ea.s,.slice ea.b.A ea.b.n ea.b.c,.slice ea.b.A2 ea.b.n2 ea.b.c2,.slice eb.A eb.n eb.c,.bool eb.s,.slice eb.b.A eb.b.n eb.b.c,.slice eb.b.A2 eb.b.n2 eb.b.c2] 85);have hb06:=HB5.out.trans (hbx.mono HB5.out.size);have hb07:=hb06.trans (hal.mono hb06.size);have hown:=World.ownsRow_lit (base:=0) (e:=85) (size:=4) w6 #[.slice ea.A ea.n ea.c,.bool ea.s,.slice ea.b.A ea.b.n ea.b.c,.slice ea.b.A2 ea.b.n2 ea.b.c2,.slice eb.A eb.n eb.c,.bool eb.s,.slice eb.b.A eb.b.n eb.b.c,.slice eb.b.A2 eb.b.n2 eb.b.c2] 2 (Nat.zero_le _) (by unfold maxLen;omega) rfl;obtain ⟨AL,cL,eL,_,hrd⟩:=ownsRow_form hown
  injection eL with e1 _ e3
  subst e1;subst e3
  have hva:=vars_any [ea,eb] _ 2 2 Z _ hrd rfl (by decide) (fun e he=>by
   simp at he;rcases he with rfl | rfl
   · exact ⟨HXA.out.tms.below hb07,HXA.out.few⟩
   · exact ⟨HXB.out.tms.below hb07,HXB.out.few⟩)
  obtain ⟨vs,hvs⟩:∃ vs,vs=foldV (varsUp [ea,eb] 2):=⟨_,rfl⟩
  have hup:varsUp [ea,eb] 2=ea.vars ++ eb.vars:=by simp [varsUp]
  have hnd:vs.Nodup:=by rw [hvs];exact foldV_nodup _
  have hmem:∀ v,v ∈ vs↔v ∈ ea.vars∨v ∈ eb.vars:=fun v=>by rw [hvs,foldV_mem,hup,List.mem_append]
  have hvl:vs.length≤ea.n+eb.n:=by
   rw [hvs,hup];have h1:=foldV_len (varsUp [ea,eb] 2);rw [hup,List.length_append,vars_len,vars_len,HXA.out.tms.len,HXB.out.tms.len] at h1;exact h1
  have h200:vs.length≤200:=by
   have h1:=HXA.out.few;have h2:=HXB.out.few;omega
  rw [←hvs] at hva;have HND:=Lib.hid hnd;have HME:=Lib.hid hmem;have HVL:=Lib.hid hvl;have HXG:=Lib.hid hxg;have HR3:=Lib.hid hr3;have HBX:=Lib.hid hbx;have HAL:=Lib.hid hal;clear hvs hup hnd hmem hvl hxg hr3 hbx hal hb06 hb07 hown hrd HM1 HM2 HAD
  go_wp2_with (go_at_call 83;go_loud (refine hva.mono ?_);clear hva;rintro e w8 ⟨vv,rfl,hown8,hb8⟩;obtain ⟨A8,c8,rfl,hc8,hr8⟩:=ownsRow_form hown8;have HOW8:=Lib.hid hown8;have HB8:=Lib.hid (HAL.out.trans (hb8.mono HAL.out.size));clear hown8 hb8 hr8)
  clear x0 x1 x2 y0 y1 y2 y3 q0 q1 q2 v0 v1 v2 v3;have k58:=HBX.out.trans (HB8.out.mono HBX.out.size);have hx8:=box_keep HXG.out HB8.out;have hr8:=HR3.out.below HB8.out;have K58:=Lib.hid k58;have HX8:=Lib.hid hx8;have HR8:=Lib.hid hr8;have HGL:=Lib.hid (And.intro hgl (lt_of_blk hx8))
  obtain ⟨f,hf⟩:∃ f:Int→Rat,∀ v,f v=p*coT (tmsOf ea.l) v+q*coT (tmsOf eb.l) v:=⟨_,fun _=>rfl⟩
  have HF0:=Lib.hid hf;clear k58 hx8 hr8 hgl HXG HR3 HBX HAL HB8 hf
  go_loopw [28] (fun x wr=>∃ (i:Nat) (lo:List TB) (A':Option Addr) (c':Nat),i≤vs.length∧x=.int .i64 i∧wr.heap[g]?=some (.cells #[.slice A' lo.length c',.bool (ratNeg (p*ca+q*cb)),.slice b3.A b3.n b3.c,.slice b3.A2 b3.n2 b3.c2] 85 (0,0))∧COutQ w8 wr (.slice A' lo.length c') lo K∧tmsOf lo=sumTs f (vs.take i)∧lo.length≤i∧Fr (fun kk=>kk=g) w8 wr) (fun x _=>vs.length - (intOf x).toNat)
  case atStart=>exact ⟨0,[],none,0,Nat.zero_le _,rfl,HX8.out,⟨World.ownsRow_nil _ _ _ _,by simp [Value.ownBlock],by simp⟩,rfl,Nat.le_refl _,Fr.refl _ _⟩
  case round =>
   obtain ⟨i,lo,A',c',hin,rfl,hxo,hco,htl,hll,hfr⟩:=hrel
   obtain ⟨w9,rfl⟩:∃ x,x=wr:=⟨_,rfl⟩
   have h89:Below w5.heap.size w8 w9:=hfr.below K58.out.size (fun b hb=>by have:=HGL.out.1;omega);have k59:=K58.out.trans h89;have hown9:=hfr.own HOW8.out (fun b hb e=>by subst e;exact own_type HOW8.out HX8.out (by decide) hb);have HXO:=Lib.hid hxo;have HCO:=Lib.hid hco;have HTL:=Lib.hid htl;have HFR:=Lib.hid hfr;have K59:=Lib.hid k59;have HOW9:=Lib.hid hown9;clear hxo hco htl hfr h89 k59 hown9
   by_cases hlt:i<vs.length
   · obtain ⟨A9,c9,e9,_,hr9⟩:=ownsRow_form HOW9.out
     injection e9 with e91 _ e93
     subst e91;subst e93;obtain ⟨g9,o9,v,ea9,hvi,z9⟩:=hr9.atI hlt;subst ea9;have hfv:=HF0.out v;have HFV:=Lib.hid hfv;have HVI:=Lib.hid hvi;have HCS9:=Lib.hid (fun W' (h:Below w9.heap.size w9 W')=>HCS.out W' (K59.out.trans (h.mono K59.out.size)));have HCA:=Lib.hid (fun W (h:Below w9.heap.size w9 W)=>HCFA.out v W (K59.out.trans (h.mono K59.out.size)));have HCB:=Lib.hid (fun W (h:Below w9.heap.size w9 W)=>HCFB.out v W (K59.out.trans (h.mono K59.out.size)));have HMA:=Lib.hid (fun W b (h:Below w9.heap.size w9 W) h2=>HMPA.out v W b (K59.out.trans (h.mono K59.out.size)) h2);have HMB:=Lib.hid (fun W b (h:Below w9.heap.size w9 W) h2=>HMQB.out v W b (K59.out.trans (h.mono K59.out.size)) h2);have HAE:=Lib.hid (fun W b1 b2 h1 h2=>HADD.out v W b1 b2 h1 h2);clear hfv hvi hr9
     go_upto_region 5 with fail
     go_cut [12] (fun vv wx=>∃ (g12:Nat) (r5:RB),vv=.pointer (some ⟨g12,0,none⟩)∧w9.heap.size≤g12∧wx.heap[g12]?=some (.cells #[.bool (ratNeg (p*coT (tmsOf ea.l) v+q*coT (tmsOf eb.l) v)),.slice r5.A r5.n r5.c,.slice r5.A2 r5.n2 r5.c2] 83 (0,0))∧QAt wx r5 (p*coT (tmsOf ea.l) v+q*coT (tmsOf eb.l) v)∧Below w9.heap.size w9 wx)
     case first =>
      as_aux_lemma =>
       have kb:Below w9.heap.size w9 w9.drew:=below_drew2 (Below.refl _ _);have hS:=HCS9.out w9.drew kb;clear z9;refine wp_region_E 12 (fun W'=>(W'.cell? ⟨w.heap.size,0,none⟩=some (.bool sp)∧W'.cell? ⟨w.heap.size,1,none⟩=some (.slice pb.A pb.n pb.c)∧W'.cell? ⟨w.heap.size,2,none⟩=some (.slice pb.A2 pb.n2 pb.c2))∧(W'.cell? ⟨w.heap.size+1,0,none⟩=some (.slice ea.A ea.n ea.c)∧W'.cell? ⟨w.heap.size+1,1,none⟩=some (.bool ea.s)∧W'.cell? ⟨w.heap.size+1,2,none⟩=some (.slice ea.b.A ea.b.n ea.b.c)∧W'.cell? ⟨w.heap.size+1,3,none⟩=some (.slice ea.b.A2 ea.b.n2 ea.b.c2))∧(W'.cell? ⟨w.heap.size+1+1,0,none⟩=some (.bool sq)∧W'.cell? ⟨w.heap.size+1+1,1,none⟩=some (.slice qb.A qb.n qb.c)∧W'.cell? ⟨w.heap.size+1+1,2,none⟩=some (.slice qb.A2 qb.n2 qb.c2))∧(W'.cell? ⟨w.heap.size+1+1+1,0,none⟩=some (.slice eb.A eb.n eb.c)∧W'.cell? ⟨w.heap.size+1+1+1,1,none⟩=some (.bool eb.s)∧W'.cell? ⟨w.heap.size+1+1+1,2,none⟩=some (.slice eb.b.A eb.b.n eb.b.c)∧W'.cell? ⟨w.heap.size+1+1+1,3,none⟩=some (.slice eb.b.A2 eb.b.n2 eb.b.c2))) (by kernel_rfl) ?_;generalize w9.drew=w10 at kb hS ⊢;refine tkE 0 hS ?_;simp only [Act.put,sA,sZ,sS];refine tkE 1 hS ?_;simp only [Act.put,sA,sZ,sS];refine tkE 2 hS ?_;simp only [Act.put,sA,sZ,sS];refine tkE 5 hS ?_;simp only [Act.put,sA,sZ,sS];refine tkE 6 hS ?_;simp only [Act.put,sA,sZ,sS];refine tkE 7 hS ?_;simp only [Act.put,sA,sZ,sS];refine wpAnyE_two (i:=3) (j:=11) (by kernel_rfl) rfl rfl (fun KK hKK=>?_) (fun KK hKK=>?_)
       · have HKK3:=Lib.hid hKK
         clear hKK;go_simp
         go_at_call 63
         refine (HCA.out _ kb).mono ?_;rintro e u1 ⟨r1,rfl,hr1,hb1⟩;have hS:=HCS9.out u1 (kb.trans (hb1.mono kb.size));replace kb:=kb.trans (hb1.mono kb.size);clear hb1;refine HKK3.out _ _ (.inr hS) ?_;clear HKK3
         try simp only [Act.put,sA,sZ,sS]
         refine wpAnyE_two (i:=4) (j:=11) (by kernel_rfl) rfl rfl (fun KK hKK=>?_) (fun KK hKK=>?_)
         · have HKK4:=Lib.hid hKK
           clear hKK;go_simp
           go_at_call 82
           refine (HMA.out _ r1 kb hr1).mono ?_;rintro e u2 ⟨r2,rfl,hm1,hb2⟩;clear hr1;have hS:=HCS9.out u2 (kb.trans (hb2.mono kb.size));replace kb:=kb.trans (hb2.mono kb.size);clear hb2;refine HKK4.out _ _ (.inr hS) ?_;clear HKK4
           try simp only [Act.put,sA,sZ,sS]
           refine wpAnyE_two (i:=8) (j:=11) (by kernel_rfl) rfl rfl (fun KK hKK=>?_) (fun KK hKK=>?_)
           · have HKK8:=Lib.hid hKK
             clear hKK;go_simp
             go_at_call 63
             refine (HCB.out _ kb).mono ?_;rintro e u3 ⟨r3,rfl,hr2,hb3⟩;replace hm1:=hm1.below hb3;have hS:=HCS9.out u3 (kb.trans (hb3.mono kb.size));replace kb:=kb.trans (hb3.mono kb.size);clear hb3;refine HKK8.out _ _ (.inr hS) ?_;clear HKK8
             try simp only [Act.put,sA,sZ,sS]
             refine wpAnyE_two (i:=9) (j:=11) (by kernel_rfl) rfl rfl (fun KK hKK=>?_) (fun KK hKK=>?_)
             · have HKK9:=Lib.hid hKK
               clear hKK;go_simp
               go_at_call 82
               refine (HMB.out _ r3 kb hr2).mono ?_;rintro e u4 ⟨r4,rfl,hm2,hb4⟩;clear hr2;replace hm1:=hm1.below hb4;have hS:=HCS9.out u4 (kb.trans (hb4.mono kb.size));replace kb:=kb.trans (hb4.mono kb.size);clear hb4;refine HKK9.out _ _ (.inr hS) ?_;clear HKK9
               try simp only [Act.put,sA,sZ,sS]
               refine wpAnyE_two (i:=10) (j:=11) (by kernel_rfl) rfl rfl (fun KK hKK=>?_) (fun KK hKK=>?_)
               · have HKK10:=Lib.hid hKK
                 clear hKK;go_simp
                 go_at_call 81
                 refine (HAE.out _ r2 r4 hm1 hm2).mono ?_;rintro e u5 ⟨r5,rfl,hr3,hb5⟩;clear hm1 hm2;have hS:=HCS9.out u5 (kb.trans (hb5.mono kb.size));replace kb:=kb.trans (hb5.mono kb.size);clear hb5;refine HKK10.out _ _ (.inr hS) ?_;clear HKK10
                 try simp only [Act.put,sA,sZ,sS]
                 refine onE 11 fun KK HKK11=>?_
                 go_simp;have hxg:=heap_alloc_new u5 (.cells #[.bool false,.slice none 0 0,.slice none 0 0] 83);have hal:=(Below.refl u5.heap.size u5).alloc (Nat.le_refl _) (.cells #[.bool false,.slice none 0 0,.slice none 0 0] 83);have hgl:=kb.size
                 obtain ⟨g12,hg⟩:∃ x,x=u5.heap.size:=⟨_,rfl⟩
                 rw [←hg] at hxg hgl ⊢
                 obtain ⟨ua,hua⟩:∃ x,x=u5.alloc (.cells #[.bool false,.slice none 0 0,.slice none 0 0] 83):=⟨_,rfl⟩
                 rw [←hua] at hxg hal ⊢;clear hg hua;have hS:=HCS9.out ua (kb.trans (hal.mono kb.size));replace hr3:=hr3.below hal;replace kb:=kb.trans (hal.mono kb.size);clear hal;refine HKK11.out _ _ (.inr hS) ?_;clear HKK11
                 try simp only [Act.put,sA,sZ,sS]
                 refine onE 12 fun KK HKK12=>?_
                 obtain ⟨p0,p1,p2⟩:=Box.of hxg;have z0:=frozen_of_blk hxg 0;have z1:=frozen_of_blk hxg 1;have z2:=frozen_of_blk hxg 2;have HXG:=Lib.hid hxg;have HR5:=Lib.hid hr3;have HKB:=Lib.hid kb;clear hS hxg hr3 kb;go_simp;refine HKK12.out _ _ (.inl rfl) ?_;clear HKK12;refine wpAnyE_done (by kernel_rfl) ?_ _
                 go_wp2_with fail
                 go_meet;exact ⟨g12,r5,rfl,hgl,put3_blk HXG.out _ r5,HR5.out.fr (put3_fr ua g12 _ r5) (typB_of HXG.out (by decide)),bl_set (bl_set (bl_set HKB.out hgl) hgl) hgl⟩
               · have HKK11:=Lib.hid hKK
                 clear hKK;go_simp;have hxg:=heap_alloc_new u4 (.cells #[.bool false,.slice none 0 0,.slice none 0 0] 83);have hal:=(Below.refl u4.heap.size u4).alloc (Nat.le_refl _) (.cells #[.bool false,.slice none 0 0,.slice none 0 0] 83);have hgl:=kb.size
                 obtain ⟨g12,hg⟩:∃ x,x=u4.heap.size:=⟨_,rfl⟩
                 rw [←hg] at hxg hgl ⊢
                 obtain ⟨ua,hua⟩:∃ x,x=u4.alloc (.cells #[.bool false,.slice none 0 0,.slice none 0 0] 83):=⟨_,rfl⟩
                 rw [←hua] at hxg hal ⊢;clear hg hua;have hS:=HCS9.out ua (kb.trans (hal.mono kb.size));replace hm1:=hm1.below hal;replace hm2:=hm2.below hal;replace kb:=kb.trans (hal.mono kb.size);clear hal;refine HKK11.out _ _ (.inr hS) ?_;clear HKK11
                 try simp only [Act.put,sA,sZ,sS]
                 refine onE 10 fun KK HKK10=>?_
                 go_simp
                 go_at_call 81
                 refine (HAE.out _ r2 r4 hm1 hm2).mono ?_;rintro e u5 ⟨r5,rfl,hr3,hb5⟩;clear hm1 hm2;have hS:=HCS9.out u5 (kb.trans (hb5.mono kb.size));replace hxg:=box_keep hxg hb5;replace kb:=kb.trans (hb5.mono kb.size);clear hb5;refine HKK10.out _ _ (.inr hS) ?_;clear HKK10
                 try simp only [Act.put,sA,sZ,sS]
                 refine onE 12 fun KK HKK12=>?_
                 obtain ⟨p0,p1,p2⟩:=Box.of hxg;have z0:=frozen_of_blk hxg 0;have z1:=frozen_of_blk hxg 1;have z2:=frozen_of_blk hxg 2;have HXG:=Lib.hid hxg;have HR5:=Lib.hid hr3;have HKB:=Lib.hid kb;clear hS hxg hr3 kb;go_simp;refine HKK12.out _ _ (.inl rfl) ?_;clear HKK12;refine wpAnyE_done (by kernel_rfl) ?_ _
                 go_wp2_with fail
                 go_meet;exact ⟨g12,r5,rfl,hgl,put3_blk HXG.out _ r5,HR5.out.fr (put3_fr u5 g12 _ r5) (typB_of HXG.out (by decide)),bl_set (bl_set (bl_set HKB.out hgl) hgl) hgl⟩
             · have HKK11:=Lib.hid hKK
               clear hKK;go_simp;have hxg:=heap_alloc_new u3 (.cells #[.bool false,.slice none 0 0,.slice none 0 0] 83);have hal:=(Below.refl u3.heap.size u3).alloc (Nat.le_refl _) (.cells #[.bool false,.slice none 0 0,.slice none 0 0] 83);have hgl:=kb.size
               obtain ⟨g12,hg⟩:∃ x,x=u3.heap.size:=⟨_,rfl⟩
               rw [←hg] at hxg hgl ⊢
               obtain ⟨ua,hua⟩:∃ x,x=u3.alloc (.cells #[.bool false,.slice none 0 0,.slice none 0 0] 83):=⟨_,rfl⟩
               rw [←hua] at hxg hal ⊢;clear hg hua;have hS:=HCS9.out ua (kb.trans (hal.mono kb.size));replace hm1:=hm1.below hal;replace hr2:=hr2.below hal;replace kb:=kb.trans (hal.mono kb.size);clear hal;refine HKK11.out _ _ (.inr hS) ?_;clear HKK11
               try simp only [Act.put,sA,sZ,sS]
               refine onE 9 fun KK HKK9=>?_
               go_simp
               go_at_call 82
               refine (HMB.out _ r3 kb hr2).mono ?_;rintro e u4 ⟨r4,rfl,hm2,hb4⟩;clear hr2;replace hm1:=hm1.below hb4;have hS:=HCS9.out u4 (kb.trans (hb4.mono kb.size));replace hxg:=box_keep hxg hb4;replace kb:=kb.trans (hb4.mono kb.size);clear hb4;refine HKK9.out _ _ (.inr hS) ?_;clear HKK9
               try simp only [Act.put,sA,sZ,sS]
               refine onE 10 fun KK HKK10=>?_
               go_simp
               go_at_call 81
               refine (HAE.out _ r2 r4 hm1 hm2).mono ?_;rintro e u5 ⟨r5,rfl,hr3,hb5⟩;clear hm1 hm2;have hS:=HCS9.out u5 (kb.trans (hb5.mono kb.size));replace hxg:=box_keep hxg hb5;replace kb:=kb.trans (hb5.mono kb.size);clear hb5;refine HKK10.out _ _ (.inr hS) ?_;clear HKK10
               try simp only [Act.put,sA,sZ,sS]
               refine onE 12 fun KK HKK12=>?_
               obtain ⟨p0,p1,p2⟩:=Box.of hxg;have z0:=frozen_of_blk hxg 0;have z1:=frozen_of_blk hxg 1;have z2:=frozen_of_blk hxg 2;have HXG:=Lib.hid hxg;have HR5:=Lib.hid hr3;have HKB:=Lib.hid kb;clear hS hxg hr3 kb;go_simp;refine HKK12.out _ _ (.inl rfl) ?_;clear HKK12;refine wpAnyE_done (by kernel_rfl) ?_ _
               go_wp2_with fail
               go_meet;exact ⟨g12,r5,rfl,hgl,put3_blk HXG.out _ r5,HR5.out.fr (put3_fr u5 g12 _ r5) (typB_of HXG.out (by decide)),bl_set (bl_set (bl_set HKB.out hgl) hgl) hgl⟩
           · have HKK11:=Lib.hid hKK
             clear hKK;go_simp;have hxg:=heap_alloc_new u2 (.cells #[.bool false,.slice none 0 0,.slice none 0 0] 83);have hal:=(Below.refl u2.heap.size u2).alloc (Nat.le_refl _) (.cells #[.bool false,.slice none 0 0,.slice none 0 0] 83);have hgl:=kb.size
             obtain ⟨g12,hg⟩:∃ x,x=u2.heap.size:=⟨_,rfl⟩
             rw [←hg] at hxg hgl ⊢
             obtain ⟨ua,hua⟩:∃ x,x=u2.alloc (.cells #[.bool false,.slice none 0 0,.slice none 0 0] 83):=⟨_,rfl⟩
             rw [←hua] at hxg hal ⊢;clear hg hua;have hS:=HCS9.out ua (kb.trans (hal.mono kb.size));replace hm1:=hm1.below hal;replace kb:=kb.trans (hal.mono kb.size);clear hal;refine HKK11.out _ _ (.inr hS) ?_;clear HKK11
             try simp only [Act.put,sA,sZ,sS]
             refine onE 8 fun KK HKK8=>?_
             go_simp
             go_at_call 63
             refine (HCB.out _ kb).mono ?_;rintro e u3 ⟨r3,rfl,hr2,hb3⟩;replace hm1:=hm1.below hb3;have hS:=HCS9.out u3 (kb.trans (hb3.mono kb.size));replace hxg:=box_keep hxg hb3;replace kb:=kb.trans (hb3.mono kb.size);clear hb3;refine HKK8.out _ _ (.inr hS) ?_;clear HKK8
             try simp only [Act.put,sA,sZ,sS]
             refine onE 9 fun KK HKK9=>?_
             go_simp
             go_at_call 82
             refine (HMB.out _ r3 kb hr2).mono ?_;rintro e u4 ⟨r4,rfl,hm2,hb4⟩;clear hr2;replace hm1:=hm1.below hb4;have hS:=HCS9.out u4 (kb.trans (hb4.mono kb.size));replace hxg:=box_keep hxg hb4;replace kb:=kb.trans (hb4.mono kb.size);clear hb4;refine HKK9.out _ _ (.inr hS) ?_;clear HKK9
             try simp only [Act.put,sA,sZ,sS]
             refine onE 10 fun KK HKK10=>?_
             go_simp
             go_at_call 81
             refine (HAE.out _ r2 r4 hm1 hm2).mono ?_;rintro e u5 ⟨r5,rfl,hr3,hb5⟩;clear hm1 hm2;have hS:=HCS9.out u5 (kb.trans (hb5.mono kb.size));replace hxg:=box_keep hxg hb5;replace kb:=kb.trans (hb5.mono kb.size);clear hb5;refine HKK10.out _ _ (.inr hS) ?_;clear HKK10
             try simp only [Act.put,sA,sZ,sS]
             refine onE 12 fun KK HKK12=>?_
             obtain ⟨p0,p1,p2⟩:=Box.of hxg;have z0:=frozen_of_blk hxg 0;have z1:=frozen_of_blk hxg 1;have z2:=frozen_of_blk hxg 2;have HXG:=Lib.hid hxg;have HR5:=Lib.hid hr3;have HKB:=Lib.hid kb;clear hS hxg hr3 kb;go_simp;refine HKK12.out _ _ (.inl rfl) ?_;clear HKK12;refine wpAnyE_done (by kernel_rfl) ?_ _
             go_wp2_with fail
             go_meet;exact ⟨g12,r5,rfl,hgl,put3_blk HXG.out _ r5,HR5.out.fr (put3_fr u5 g12 _ r5) (typB_of HXG.out (by decide)),bl_set (bl_set (bl_set HKB.out hgl) hgl) hgl⟩
         · have HKK11:=Lib.hid hKK
           clear hKK;go_simp;have hxg:=heap_alloc_new u1 (.cells #[.bool false,.slice none 0 0,.slice none 0 0] 83);have hal:=(Below.refl u1.heap.size u1).alloc (Nat.le_refl _) (.cells #[.bool false,.slice none 0 0,.slice none 0 0] 83);have hgl:=kb.size
           obtain ⟨g12,hg⟩:∃ x,x=u1.heap.size:=⟨_,rfl⟩
           rw [←hg] at hxg hgl ⊢
           obtain ⟨ua,hua⟩:∃ x,x=u1.alloc (.cells #[.bool false,.slice none 0 0,.slice none 0 0] 83):=⟨_,rfl⟩
           rw [←hua] at hxg hal ⊢;clear hg hua;have hS:=HCS9.out ua (kb.trans (hal.mono kb.size));replace hr1:=hr1.below hal;replace kb:=kb.trans (hal.mono kb.size);clear hal;refine HKK11.out _ _ (.inr hS) ?_;clear HKK11
           try simp only [Act.put,sA,sZ,sS]
           refine onE 4 fun KK HKK4=>?_
           go_simp
           go_at_call 82
           refine (HMA.out _ r1 kb hr1).mono ?_;rintro e u2 ⟨r2,rfl,hm1,hb2⟩;clear hr1;have hS:=HCS9.out u2 (kb.trans (hb2.mono kb.size));replace hxg:=box_keep hxg hb2;replace kb:=kb.trans (hb2.mono kb.size);clear hb2;refine HKK4.out _ _ (.inr hS) ?_;clear HKK4
           try simp only [Act.put,sA,sZ,sS]
           refine onE 8 fun KK HKK8=>?_
           go_simp
           go_at_call 63
           refine (HCB.out _ kb).mono ?_;rintro e u3 ⟨r3,rfl,hr2,hb3⟩;replace hm1:=hm1.below hb3;have hS:=HCS9.out u3 (kb.trans (hb3.mono kb.size));replace hxg:=box_keep hxg hb3;replace kb:=kb.trans (hb3.mono kb.size);clear hb3;refine HKK8.out _ _ (.inr hS) ?_;clear HKK8
           try simp only [Act.put,sA,sZ,sS]
           refine onE 9 fun KK HKK9=>?_
           go_simp
           go_at_call 82
           refine (HMB.out _ r3 kb hr2).mono ?_;rintro e u4 ⟨r4,rfl,hm2,hb4⟩;clear hr2;replace hm1:=hm1.below hb4;have hS:=HCS9.out u4 (kb.trans (hb4.mono kb.size));replace hxg:=box_keep hxg hb4;replace kb:=kb.trans (hb4.mono kb.size);clear hb4;refine HKK9.out _ _ (.inr hS) ?_;clear HKK9
           try simp only [Act.put,sA,sZ,sS]
           refine onE 10 fun KK HKK10=>?_
           go_simp
           go_at_call 81
           refine (HAE.out _ r2 r4 hm1 hm2).mono ?_;rintro e u5 ⟨r5,rfl,hr3,hb5⟩;clear hm1 hm2;have hS:=HCS9.out u5 (kb.trans (hb5.mono kb.size));replace hxg:=box_keep hxg hb5;replace kb:=kb.trans (hb5.mono kb.size);clear hb5;refine HKK10.out _ _ (.inr hS) ?_;clear HKK10
           try simp only [Act.put,sA,sZ,sS]
           refine onE 12 fun KK HKK12=>?_
           obtain ⟨p0,p1,p2⟩:=Box.of hxg;have z0:=frozen_of_blk hxg 0;have z1:=frozen_of_blk hxg 1;have z2:=frozen_of_blk hxg 2;have HXG:=Lib.hid hxg;have HR5:=Lib.hid hr3;have HKB:=Lib.hid kb;clear hS hxg hr3 kb;go_simp;refine HKK12.out _ _ (.inl rfl) ?_;clear HKK12;refine wpAnyE_done (by kernel_rfl) ?_ _
           go_wp2_with fail
           go_meet;exact ⟨g12,r5,rfl,hgl,put3_blk HXG.out _ r5,HR5.out.fr (put3_fr u5 g12 _ r5) (typB_of HXG.out (by decide)),bl_set (bl_set (bl_set HKB.out hgl) hgl) hgl⟩
       · have HKK11:=Lib.hid hKK
         clear hKK;go_simp;have hxg:=heap_alloc_new w10 (.cells #[.bool false,.slice none 0 0,.slice none 0 0] 83);have hal:=(Below.refl w10.heap.size w10).alloc (Nat.le_refl _) (.cells #[.bool false,.slice none 0 0,.slice none 0 0] 83);have hgl:=kb.size
         obtain ⟨g12,hg⟩:∃ x,x=w10.heap.size:=⟨_,rfl⟩
         rw [←hg] at hxg hgl ⊢
         obtain ⟨ua,hua⟩:∃ x,x=w10.alloc (.cells #[.bool false,.slice none 0 0,.slice none 0 0] 83):=⟨_,rfl⟩
         rw [←hua] at hxg hal ⊢;clear hg hua;have hS:=HCS9.out ua (kb.trans (hal.mono kb.size));replace kb:=kb.trans (hal.mono kb.size);clear hal;refine HKK11.out _ _ (.inr hS) ?_;clear HKK11
         try simp only [Act.put,sA,sZ,sS]
         refine onE 3 fun KK HKK3=>?_
         go_simp
         go_at_call 63
         refine (HCA.out _ kb).mono ?_;rintro e u1 ⟨r1,rfl,hr1,hb1⟩;have hS:=HCS9.out u1 (kb.trans (hb1.mono kb.size));replace hxg:=box_keep hxg hb1;replace kb:=kb.trans (hb1.mono kb.size);clear hb1;refine HKK3.out _ _ (.inr hS) ?_;clear HKK3
         try simp only [Act.put,sA,sZ,sS]
         refine onE 4 fun KK HKK4=>?_
         go_simp
         go_at_call 82
         refine (HMA.out _ r1 kb hr1).mono ?_;rintro e u2 ⟨r2,rfl,hm1,hb2⟩;clear hr1;have hS:=HCS9.out u2 (kb.trans (hb2.mono kb.size));replace hxg:=box_keep hxg hb2;replace kb:=kb.trans (hb2.mono kb.size);clear hb2;refine HKK4.out _ _ (.inr hS) ?_;clear HKK4
         try simp only [Act.put,sA,sZ,sS]
         refine onE 8 fun KK HKK8=>?_
         go_simp
         go_at_call 63
         refine (HCB.out _ kb).mono ?_;rintro e u3 ⟨r3,rfl,hr2,hb3⟩;replace hm1:=hm1.below hb3;have hS:=HCS9.out u3 (kb.trans (hb3.mono kb.size));replace hxg:=box_keep hxg hb3;replace kb:=kb.trans (hb3.mono kb.size);clear hb3;refine HKK8.out _ _ (.inr hS) ?_;clear HKK8
         try simp only [Act.put,sA,sZ,sS]
         refine onE 9 fun KK HKK9=>?_
         go_simp
         go_at_call 82
         refine (HMB.out _ r3 kb hr2).mono ?_;rintro e u4 ⟨r4,rfl,hm2,hb4⟩;clear hr2;replace hm1:=hm1.below hb4;have hS:=HCS9.out u4 (kb.trans (hb4.mono kb.size));replace hxg:=box_keep hxg hb4;replace kb:=kb.trans (hb4.mono kb.size);clear hb4;refine HKK9.out _ _ (.inr hS) ?_;clear HKK9
         try simp only [Act.put,sA,sZ,sS]
         refine onE 10 fun KK HKK10=>?_
         go_simp
         go_at_call 81
         refine (HAE.out _ r2 r4 hm1 hm2).mono ?_;rintro e u5 ⟨r5,rfl,hr3,hb5⟩;clear hm1 hm2;have hS:=HCS9.out u5 (kb.trans (hb5.mono kb.size));replace hxg:=box_keep hxg hb5;replace kb:=kb.trans (hb5.mono kb.size);clear hb5;refine HKK10.out _ _ (.inr hS) ?_;clear HKK10
         try simp only [Act.put,sA,sZ,sS]
         refine onE 12 fun KK HKK12=>?_
         obtain ⟨p0,p1,p2⟩:=Box.of hxg;have z0:=frozen_of_blk hxg 0;have z1:=frozen_of_blk hxg 1;have z2:=frozen_of_blk hxg 2;have HXG:=Lib.hid hxg;have HR5:=Lib.hid hr3;have HKB:=Lib.hid kb;clear hS hxg hr3 kb;go_simp;refine HKK12.out _ _ (.inl rfl) ?_;clear HKK12;refine wpAnyE_done (by kernel_rfl) ?_ _
         go_wp2_with fail
         go_meet;exact ⟨g12,r5,rfl,hgl,put3_blk HXG.out _ r5,HR5.out.fr (put3_fr u5 g12 _ r5) (typB_of HXG.out (by decide)),bl_set (bl_set (bl_set HKB.out hgl) hgl) hgl⟩
     case rest =>
      obtain ⟨g12,r5,rfl,hg12,hx12,hq12,hb12⟩:=hcut
      obtain ⟨w11,rfl⟩:∃ x,x=wc:=⟨_,rfl⟩
      rw [←HFV.out] at hx12 hq12;have hfr11:=HFR.out.trans (Fr.of_below (S:=fun kk=>kk=g) hb12) (fun b hb=>.inl hb);have hxo11:=box_keep HXO.out hb12;have hco11:=HCO.out.below hb12;have hsg:=qsign_any r5 (f v) w11 hq12;have hz:=signZ_zero (f v)
      have hsn:sumTs f (vs.take (i+1))=sumTs f (vs.take i) ++ if f v=0 then [] else [(v,f v)]:=by
       rw [List.take_add_one,HVI.out];exact sumTs_snoc f _ v
      have hvr : -9223372036854775808≤v∧v≤9223372036854775807:=by
       have hm:=(HME.out v).1 (List.mem_of_getElem? HVI.out);rcases hm with hm | hm
       · obtain ⟨u,hu,rfl⟩:=List.mem_map.1 hm
         obtain ⟨u2,hu2,rfl⟩:=List.mem_map.1 hu;exact ⟨(HXA.out.tms.each u2 hu2).lo,(HXA.out.tms.each u2 hu2).hi⟩
       · obtain ⟨u,hu,rfl⟩:=List.mem_map.1 hm
         obtain ⟨u2,hu2,rfl⟩:=List.mem_map.1 hu;exact ⟨(HXB.out.tms.each u2 hu2).lo,(HXB.out.tms.each u2 hu2).hi⟩
      have hkv:=HKK.out v;rw [←HFV.out] at hkv;unfold RB.val at hsg;obtain ⟨p0,p1,p2⟩:=Box.of hx12;have HX12:=Lib.hid hx12;have HQ12:=Lib.hid hq12;have HFR11:=Lib.hid hfr11;have HXO11:=Lib.hid hxo11;have HCO11:=Lib.hid hco11;have HKV:=Lib.hid hkv;have HVR:=Lib.hid hvr;clear hx12 hq12 hb12 hfr11 hxo11 hco11 z9 hkv hvr
      by_cases h0:f v=0
      · rw [decide_eq_true h0,beq_iff_eq] at hz
        rw [hz] at hsg;rw [if_pos h0,List.append_nil] at hsn;have HSN:=Lib.hid hsn;clear hz h0 hsn
        generalize f v=fv at *
        go_upto_region 8 with (go_at_call 62;refine hsg.mono ?_;clear hsg;rintro e w12 ⟨rfl,hb12⟩)
        have HB12:=Lib.hid hb12;clear hb12 p0 p1 p2
        go_wp2_with fail
        go_roundw
        case rel=>exact ⟨i+1,lo,A',c',by omega,by go_num,box_keep HXO11.out HB12.out,HCO11.out.below HB12.out,by rw [HSN.out];exact HTL.out,by omega,HFR11.out.trans (Fr.of_below (S:=fun kk=>kk=g) HB12.out) (fun b hb=>.inl hb)⟩
        case measure=>simp [intOf];omega
      · rw [decide_eq_false h0] at hz
        rw [if_neg h0] at hsn;have HSN:=Lib.hid hsn;clear h0 hsn
        generalize f v=fv at *
        generalize signZ fv=zz at *
        have hz2:(zz != 0)=true:=by simpa using hz
        go_upto_region 7 with (go_at_call 62;refine hsg.mono ?_;clear hsg;rintro e w12 ⟨rfl,hb12⟩)
        obtain ⟨i0,hi,hz0,hz1,hz2'⟩:=info_parts info_termQ;obtain ⟨p0,p1,p2⟩:=Box.of (box_keep HX12.out hb12);have hxo12:=box_keep HXO11.out hb12;obtain ⟨y0,y1,y2,y3⟩:=box4 hxo12;have hco12:=HCO11.out.below hb12;have hal:=(Below.refl w12.heap.size w12).alloc (Nat.le_refl _) (.cells #[.int .i64 v,.bool (ratNeg fv),.slice r5.A r5.n r5.c,.slice r5.A2 r5.n2 r5.c2] 153);have hown12:=own_base (B:=w8.heap.size) (own_below hco12.own hal) hco12.new
        have hz8:w8.heap.size≤(w12.alloc (.cells #[.int .i64 v,.bool (ratNeg fv),.slice r5.A r5.n r5.c,.slice r5.A2 r5.n2 r5.c2] 153)).heap.size:=by
         have h1:=HFR11.out.size;have h2:=hb12.size;have h3:=hal.size;omega
        have HXO12:=Lib.hid (box_keep hxo12 hal);have HCO12:=Lib.hid (hco12.below hal);have HQ13:=Lib.hid ((HQ12.out.below hb12).below hal);have HFR12:=Lib.hid ((HFR11.out.trans (Fr.of_below (S:=fun kk=>kk=g) hb12) (fun b hb=>.inl hb)).trans (Fr.of_below (S:=fun kk=>kk=g) hal) (fun b hb=>.inl hb));clear hb12 hxo12 hco12 hal
        go_wp2_with (at_builtin;refine appRn w8.heap.size (w12.alloc (.cells #[.int .i64 v,.bool (ratNeg fv),.slice r5.A r5.n r5.c,.slice r5.A2 r5.n2 r5.c2] 153)) (w12.alloc (.cells #[.int .i64 v,.bool (ratNeg fv),.slice r5.A r5.n r5.c,.slice r5.A2 r5.n2 r5.c2] 153)) 4 153 rfl _ _ 80 rfl i0 _ 64 Tryz.underlying80 hi hz0 hz1 hz2' rfl (by decide) (by decide) _ lo.length (tmsL lo) rfl hz8 hown12 (Below.refl _ _) _ 1 1 (tmL (r5,(v,fv))) rfl (litT_rd w12 r5 v fv) (tmL_one (r5,(v,fv))) (by omega) ?_;intro v14 w14 hown14 hbel14 hg14;obtain ⟨A14,c14,rfl,_⟩:=ownsRow_form hown14;have hf14:=Fr.of_grown (S:=ownS (.slice A' lo.length c')) hg14 (fun k hk=>.inl hk);have hxo14:=(hf14.block g (lt_of_blk HXO12.out) (fun hh=>own_type HCO12.out.own HXO12.out (by decide) hh)).trans HXO12.out;obtain ⟨p0,p1,p2,p3⟩:=box4 hxo14;have z0:=frozen_of_blk hxo14 0;have HXO14:=Lib.hid hxo14;have HF14:=Lib.hid hf14;have HOW14:=Lib.hid hown14;clear hown14 hbel14 hg14 hf14 hxo14)
        go_roundw
        case rel =>
         have hty:=own_typQ HCO12.out.own;have hse:Fr (fun kk=>kk=g) w14 (w14.setCell ⟨g,0,none⟩ (.slice A14 (lo.length+1) c14)):=fr_set (Fr.refl _ _) (.inl rfl);have htg:=typB_of HXO14.out (show 85≠4 by decide);refine ⟨i+1,lo ++ [(r5,(v,fv))],A14,c14,by omega,by go_num,?_,⟨?_,?_,?_⟩,?_,?_,?_⟩
         · rw [List.length_append,List.length_singleton]
           exact set_blk HXO14.out 0 _
         · rw [List.length_append,List.length_singleton,tmsL_app]
           have:=own_more HOW14.out (Nat.zero_le _)
           have e:tmsL [(r5,(v,fv))]=tmL (r5,(v,fv)):=by rw [tmsL_cons];simp [tmsL]
           rw [e];exact hse.own this (fun b hb e=>by subst e;exact own_type HOW14.out HXO14.out (by decide) hb)
         · intro b hb
           rw [List.length_append,List.length_singleton] at hb;exact (own_lt HOW14.out hb).1
         · intro t ht
           rcases List.mem_append.1 ht with h1 | h1
           · exact ((HCO12.out.each t h1).frB HF14.out hty).frB hse htg
           · simp at h1
             subst h1;exact ⟨(HQ13.out.fr HF14.out hty).fr hse htg,HKV.out,HVR.out.1,HVR.out.2⟩
         · rw [tmsOf_app,HSN.out,HTL.out]
           rfl
         · simp
           omega
         · exact (HFR12.out.trans HF14.out (fun b hb=>.inr (HCO12.out.new b hb))).trans hse (fun b hb=>.inl hb)
        case measure=>simp [intOf];omega
   · have hin2:i=vs.length:=by omega
     have htl:=HTL.out;rw [List.take_of_length_le (by omega)] at htl;have hx9:=box_keep HX5.out K59.out;have hb9:=HB5.out.trans (K59.out.mono HB5.out.size);have hr9:=HR8.out.fr HFR.out (typB_of HX8.out (by decide));obtain ⟨Ax,cx,ex,hqs⟩:=QsAt.of_own HCO.out.own HCO.out.each
     injection ex with e1 _ e3
     subst e1;subst e3;obtain ⟨y0,y1,y2,y3⟩:=box4 HXO.out;obtain ⟨p0,p1,p2,p3⟩:=box4 hx9;have z0:=frozen_of_blk hx9 0;have z1:=frozen_of_blk hx9 1;have z2:=frozen_of_blk hx9 2;have z3:=frozen_of_blk hx9 3;have HX9:=Lib.hid hx9;have HB9:=Lib.hid hb9;have HR9:=Lib.hid hr9;have HQS:=Lib.hid hqs;have HTL2:=Lib.hid htl;have HLN:=Lib.hid (show lo.length≤ea.n+eb.n by have:=HVL.out;omega);clear htl hx9 hb9 hr9 hqs hin2
     go_wp2_with fail
     refine bodyPost_ret (v:=.agg #[.slice A' lo.length c',.bool (ratNeg (p*ca+q*cb)),.slice b3.A b3.n b3.c,.slice b3.A2 b3.n2 b3.c2]) (by simp [results,Tryz.results58,go_sem,p0,p1,p2,p3]) rfl ?_;have hfr:=store4_fr w9 (w.heap.size+1+1+1+1) A' lo.length c' (ratNeg (p*ca+q*cb)) b3;have hsub:=sumTs_vars f vs;rw [←HTL2.out] at hsub;refine ⟨⟨A',lo.length,c',ratNeg (p*ca+q*cb),b3,lo⟩,rfl,HQS.out.fr hfr (typQ_of HX9.out (by decide)),HR9.out.fr hfr (typB_of HX9.out (by decide)),rfl,HLN.out,hsub.nodup HND.out,fun v=>?_,fun u hu=>(HME.out u).1 (hsub.subset hu),store4_bel HB9.out (by omega) _ _ _ _ _⟩
     show coT (tmsOf lo) v=_
     rw [HTL2.out,coT_sumTs f v vs HND.out]
     by_cases hv:v ∈ vs
     · rw [if_pos hv,HF0.out]
     · rw [if_neg hv,coT_out (fun h=>hv ((HME.out v).2 (.inl h))),coT_out (fun h=>hv ((HME.out v).2 (.inr h)))]
       grind
end Go.Proofs.YtdefcbfofonabaaGreat
