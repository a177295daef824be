/- Contract of attesttop.AttestSimplex. -/
import Derived.Test.YtdefcbfofonabaaGreatFkRef
import Derived.Test.YtdefcbfofonabaaGreatLiLight
import Derived.Test.YtdefcbfofonabaaGreatFkMem
namespace Go.Proofs.YtdefcbfofonabaaGreat
open Go.RowKit
set_option linter.unusedVariables false
set_option linter.unusedSimpArgs false
theorem m1_mul (q:Rat):(-1:Rat)*q = -q:=by grind
theorem rd2_of {w:World} {g:Nat} {E3 E2:EB} {l3 l2:List TB} (hy:w.heap[g]?=some (.cells #[.slice E3.A E3.n E3.c,.bool (ratNeg 0),.slice E3.b.A E3.b.n E3.b.c,.slice E3.b.A2 E3.b.n2 E3.b.c2,.int .i64 2,.slice E2.A E2.n E2.c,.bool (ratNeg 0),.slice E2.b.A E2.b.n E2.b.c,.slice E2.b.A2 E2.b.n2 E2.b.c2,.int .i64 2] 37 (0,0))):Rd w 5 (some ⟨g,0,none⟩) 2 (atmsL [⟨E3.A,E3.n,E3.c,E3.b,l3,0,2⟩,⟨E2.A,E2.n,E2.c,E2.b,l2,0,2⟩]):=by
 refine ⟨rfl,fun _=>⟨g,0,rfl,fun j u hu=>?_⟩⟩;rw [Nat.zero_add,cell_of_blk hy];have e:atmsL [(⟨E3.A,E3.n,E3.c,E3.b,l3,0,2⟩:AB),⟨E2.A,E2.n,E2.c,E2.b,l2,0,2⟩]=(#[.slice E3.A E3.n E3.c,.bool (ratNeg 0),.slice E3.b.A E3.b.n E3.b.c,.slice E3.b.A2 E3.b.n2 E3.b.c2,.int .i64 2,.slice E2.A E2.n E2.c,.bool (ratNeg 0),.slice E2.b.A E2.b.n E2.b.c,.slice E2.b.A2 E2.b.n2 E2.b.c2,.int .i64 2]:Array Value).toList:=rfl;rw [e] at hu
 simpa using hu
theorem two_at {w:World} {g:Nat} {E3 E2:EB} {l3 l2:List TB} (hy:w.heap[g]?=some (.cells #[.slice E3.A E3.n E3.c,.bool (ratNeg 0),.slice E3.b.A E3.b.n E3.b.c,.slice E3.b.A2 E3.b.n2 E3.b.c2,.int .i64 2,.slice E2.A E2.n E2.c,.bool (ratNeg 0),.slice E2.b.A E2.b.n E2.b.c,.slice E2.b.A2 E2.b.n2 E2.b.c2,.int .i64 2] 37 (0,0))) (h3:ExC w E3 l3 0 1) (hc3:∀ u,coT (tmsOf l3) u=if (0:Int)=u then 1 else 0) (h2:ExC w E2 l2 0 1) (hc2:∀ u,coT (tmsOf l2) u = -1*coT (tmsOf l3) u) :
 AtmsAt w (some ⟨g,0,none⟩) 2 2 [⟨E3.A,E3.n,E3.c,E3.b,l3,0,2⟩,⟨E2.A,E2.n,E2.c,E2.b,l2,0,2⟩] 16 4∧VarsIn 1 [⟨E3.A,E3.n,E3.c,E3.b,l3,0,2⟩,⟨E2.A,E2.n,E2.c,E2.b,l2,0,2⟩]∧(∀ a ∈ [(⟨E3.A,E3.n,E3.c,E3.b,l3,0,2⟩:AB),⟨E2.A,E2.n,E2.c,E2.b,l2,0,2⟩],Fit9 a)∧¬ ∃ x0 x1 x2,∀ a ∈ [(⟨E3.A,E3.n,E3.c,E3.b,l3,0,2⟩:AB),⟨E2.A,E2.n,E2.c,E2.b,l2,0,2⟩],SatA a x0 x1 x2:=by
 have r3:∀ v,coT (tmsOf l3) v≠0→0≤v∧v<1:=fun v hv=>by
  rw [hc3] at hv
  by_cases e:(0:Int)=v
  · omega
  · rw [if_neg e] at hv
    exact absurd rfl hv
 have r2:∀ v,coT (tmsOf l2) v≠0→0≤v∧v<1:=fun v hv=>r3 v fun e=>hv (by rw [hc2,e];grind)
 have n3:=exc_few h3 fun v hv=>by have:=r3 v hv;omega
 have n2:=exc_few h2 fun v hv=>by have:=r2 v hv;omega
 have hvar:∀ {E:EB} {l:List TB} {q:Rat},ExC w E l q 1→(∀ v,coT (tmsOf l) v≠0→0≤v∧v<1)→∀ t ∈ l,0≤t.2.1∧t.2.1<((1:Nat):Int):=fun h hr t ht=>by
  have h1:=hr t.2.1 ((h.can.mem_iff t.2.1).1 ⟨t.2,List.mem_map.2 ⟨t,ht,rfl⟩,rfl⟩);omega
 have i1:∀ v,IntB (2520*coT (tmsOf l3) v) HB9:=fun v=>by
  rw [hc3]
  split
  · rw [show (2520:Rat)*1=2520 by grind]
    exact int2520.up (by unfold HB9;decide)
  · rw [show (2520:Rat)*0=0 by grind]
    exact IntB.zero _
 have i2:∀ v,IntB (2520*coT (tmsOf l2) v) HB9:=fun v=>by
  rw [hc2]
  have e:(2520:Rat)*(-1*coT (tmsOf l3) v) = -(2520*coT (tmsOf l3) v):=by grind
  rw [e];exact (i1 v).neg
 have iz:IntB (2520*(0:Rat)) HB9:=by
  rw [show (2520:Rat)*0=0 by grind];exact IntB.zero _
 refine ⟨⟨rd2_of hy,rfl,by decide,fun a ha=>?_⟩,fun a ha=>?_,fun a ha=>?_,fun hsat=>?_⟩
 · simp at ha
   rcases ha with rfl | rfl
   · exact ⟨h3.tms.up (by decide),h3.cst,h3.le.up (by decide),by show E3.n≤16;omega,by show (1:Int)≤2;decide,by show (2:Int)≤3;decide⟩
   · exact ⟨h2.tms.up (by decide),h2.cst,h2.le.up (by decide),by show E2.n≤16;omega,by show (1:Int)≤2;decide,by show (2:Int)≤3;decide⟩
 · simp at ha
   rcases ha with rfl | rfl
   · exact hvar h3 r3
   · exact hvar h2 r2
 · simp at ha
   rcases ha with rfl | rfl
   · exact ⟨i1,iz⟩
   · exact ⟨i2,iz⟩
 · exact two_no rfl rfl hc3 (fun u=>by show coT (tmsOf l2) u=_;rw [hc2,hc3]) rfl rfl hsat
theorem AtmsAt.frL {S:Nat→Prop} {w w':World} {A:Option Addr} {n c m k:Nat} {l:List AB} (h:AtmsAt w A n c l m k) (hf:Fr S w w') (hn:∀ b off,A=some ⟨b,off,none⟩→0<n→¬ S b) (hS:∀ b,S b→∃ cs t m,w.heap[b]?=some (.cells cs t m)∧t≠125∧t≠44):AtmsAt w' A n c l m k:=by
 refine ⟨⟨h.rd.1,fun h0=>?_⟩,h.len,h.cap,fun a ha=>(h.each a ha).fr hf hS⟩;obtain ⟨b,o,e,hc⟩:=h.rd.2 h0;refine ⟨b,o,e,fun j u hu=>?_⟩;rw [hf.cell (p:=⟨b,o+j,none⟩) (World.block_lt_of_cell? w _ (hc j u hu)) (hn b o e h0)];exact hc j u hu
theorem AtmsAt.not_nil {w:World} {A:Option Addr} {n c m k g:Nat} {l:List AB} {t:TypeId} (h:AtmsAt w A n c l m k) (hg:w.heap[g]?=some (.cells #[] t (0,0))):∀ b off,A=some ⟨b,off,none⟩→0<n→b≠g∧b<w.heap.size:=fun b off e h0=>by
 obtain ⟨b',o',a,e',_,hc,_⟩:=h.rd.at5 h.len h0;rw [e] at e'
 injection e' with e'
 injection e' with e1 e2
 subst e1;subst e2;refine ⟨fun e3=>?_,World.block_lt_of_cell? w _ hc⟩;subst e3;rw [cell_of_blk hg] at hc;simp at hc
theorem ranA_app {lo:List AB} {P:AB→Prop} (h:∀ a ∈ lo,P a) {t:AB} (ht:P t):∀ a ∈ lo ++ [t],P a:=fun u hu=>by
 rcases List.mem_append.1 hu with h1 | h1
 · exact h u h1
 · simp at h1
   rw [h1];exact ht
structure Tkn (w9 w12 wr:World) (v:Value) (lo la:List AB) (A2:Option Addr) (n2 c2:Nat):Prop where
 own:wr.ownsRow w9.heap.size 37 5 v lo.length (atmsL lo)
 blk:∀ b,v.ownBlock=some b→b=w9.heap.size∨w12.heap.size≤b
 few:lo.length≤5
 each:∀ a ∈ lo,AOk wr 12 8 a
 tin:∀ a ∈ lo,TinA a
 rng:VarsIn 3 lo
 src:AtmsAt wr A2 n2 c2 la 12 8
 bel9:Below w9.heap.size w9 wr
theorem Tkn.below {w9 w12 w w':World} {v:Value} {lo la:List AB} {A2:Option Addr} {n2 c2:Nat} (h:Tkn w9 w12 w v lo la A2 n2 c2) (hb:Below w.heap.size w w'):Tkn w9 w12 w' v lo la A2 n2 c2 :=
 ⟨own_below h.own hb,h.blk,h.few,fun a ha=>(h.each a ha).below hb,h.tin,h.rng,h.src.below hb,h.bel9.trans (hb.mono h.bel9.size)⟩
theorem Tkn.app {w9 w12 w w':World} {v v':Value} {lo la:List AB} {A2:Option Addr} {n2 c2:Nat} {a:AB} (h:Tkn w9 w12 w v lo la A2 n2 c2) (hs:w12.heap.size≤w.heap.size) (hnn:∀ b off,A2=some ⟨b,off,none⟩→0<n2→b≠w9.heap.size∧b<w12.heap.size) (ho:w'.ownsRow w9.heap.size 37 5 v' (lo.length+1) (atmsL lo ++ a.cells)) (hf:Fr (ownS v) w w') (hk:v'.ownBlock=v.ownBlock∨v'.ownBlock=some w.heap.size) (h5:lo.length<5) (ha:AOk w 12 8 a) (ht:TinA a) (hr:∀ t ∈ a.l,0≤t.2.1∧t.2.1<((3:Nat):Int)):Tkn w9 w12 w' v' (lo ++ [a]) la A2 n2 c2:=by
 have hty:=own_typA h.own;refine ⟨?_,fun b hb=>?_,by simp;omega,ranA_app (fun x hx=>(h.each x hx).fr hf hty) (ha.fr hf hty),ranA_app h.tin ht,ranA_app (P:=fun a=>∀ t ∈ a.l,0≤t.2.1∧t.2.1<((3:Nat):Int)) h.rng hr,h.src.frL hf (fun b off e h0 hb=>?_) hty,h.bel9.trans (hf.below h.bel9.size (fun b hb=>(own_lt h.own hb).1))⟩
 · rw [atmsL_app,List.length_append,List.length_singleton]
   simpa [atmsL] using ho
 · rcases hk with hk | hk
   · exact h.blk b (by rw [←hk];exact hb)
   · rw [hb] at hk
     injection hk with hk
     exact .inr (by omega)
 · have h1:=hnn b off e h0
   have h2:=h.blk b hb;omega
theorem usedL_lt {t:Nat→Rat} {n i:Nat} (h:i ∈ usedL t n):i<n:=by
 unfold usedL at h;simp at h;exact h.1
theorem nats_at {w:World} {A:Option Addr} {us:List Nat} (h:Rd w 1 A us.length (natsL us)) {j:Nat} (hj:j<us.length):∃ (g off i:Nat),A=some ⟨g,off,none⟩∧us[j]?=some i∧w.cell? ⟨g,off+j,none⟩=some (.int .i64 (i:Int)):=by
 obtain ⟨g,off,e,hc⟩:=h.2 (by omega);refine ⟨g,off,us[j],e,List.getElem?_eq_getElem hj,hc j _ ?_⟩;unfold natsL;rw [List.getElem?_map,List.getElem?_eq_getElem hj]
 rfl
theorem nats_fr {S:Nat→Prop} {w w':World} {A:Option Addr} {us:List Nat} (h:Rd w 1 A us.length (natsL us)) (hf:Fr S w w') (hn:∀ b off,A=some ⟨b,off,none⟩→0<us.length→¬ S b):Rd w' 1 A us.length (natsL us):=by
 refine ⟨h.1,fun h0=>?_⟩;obtain ⟨b,o,e,hc⟩:=h.2 h0;refine ⟨b,o,e,fun j u hu=>?_⟩;rw [hf.cell (p:=⟨b,o+j,none⟩) (World.block_lt_of_cell? w _ (hc j u hu)) (hn b o e h0)];exact hc j u hu
theorem nats_nil {w:World} {A:Option Addr} {us:List Nat} {g:Nat} {t:TypeId} (h:Rd w 1 A us.length (natsL us)) (hg:w.heap[g]?=some (.cells #[] t (0,0))):∀ b off,A=some ⟨b,off,none⟩→0<us.length→b≠g∧b<w.heap.size:=fun b off e h0=>by
 obtain ⟨b',o',i,e',_,hc⟩:=nats_at h h0;rw [e] at e'
 injection e' with e'
 injection e' with e1 e2
 subst e1;subst e2;refine ⟨fun e3=>?_,World.block_lt_of_cell? w _ hc⟩;subst e3;rw [cell_of_blk hg] at hc;simp at hc
theorem AtmsAt.four {w:World} {A:Option Addr} {n c:Nat} {l:List AB} (h:AtmsAt w A n c l 12 8) (ht:∀ a ∈ l,TinA a):AtmsAt w A n c l 12 4 :=
 ⟨h.rd,h.len,h.cap,fun a ha=>by
   have hk:=h.each a ha
   exact ⟨tms_le hk.tms fun t htl=>ratLe_fit (((ht a ha).1 t htl).up (by unfold HB9;decide)),hk.cst,ratLe_fit ((ht a ha).2.up (by unfold HB9;decide)),hk.few,hk.lo,hk.hi⟩⟩
theorem fits_of {w:World} {A:Option Addr} {n c m k:Nat} {l:List AB} (h:AtmsAt w A n c l m k) (hm:m≤12) (ht:∀ a ∈ l,TinA a):∀ a ∈ l,Fit9 a:=fun a ha=>fit_of (ht a ha) (by
 have h1:=(h.each a ha).tms.len;have h2:=(h.each a ha).few
 omega)
theorem solve2 (A:Option Addr) (n c:Nat) (l:List AB) (w:World) (h:AtmsAt w A n c l 12 8) (hn:n≤5) (ht:∀ a ∈ l,TinA a) (hv:VarsIn 3 l) :
 Calls Tryz.prog 5 #[.int .i64 3,.slice A n c] w fun e w'=>∃ (f:Bool) (A5:Option Addr) (n5 c5:Nat) (A6:Option Addr) (n6 c6:Nat),e=.returned (.tuple #[.agg #[.bool f,.slice A5 n5 c5,.slice A6 n6 c6],.int .i64 0])∧Below w.heap.size w w' ∧
  ((f=true∧∃ x0 x1 x2,∀ a ∈ l,SatA a x0 x1 x2)∨(f=false∧∃ (g:Nat) (t:Nat→Rat),A6=some ⟨g,0,none⟩∧n6=l.length∧w.heap.size≤g∧RRow w' g l.length t 4∧Fark (pbOf 3 l) t)):=by
 refine (solve_any A n c l 12 4 3 w (h.four ht) (by omega) (by decide) (by decide) (.inl rfl) hv (fits_of h (by decide) ht)).mono ?_;rintro e w' ⟨hb,⟨A5,n5,c5,rfl,x0,x1,x2,hs⟩ | ⟨g,t,rfl,hg,hr,hF⟩⟩
 · exact ⟨true,A5,n5,c5,none,0,0,rfl,hb,.inl ⟨rfl,x0,x1,x2,(sat_all x0 x1 x2).1 hs⟩⟩
 · exact ⟨false,none,0,0,some ⟨g,0,none⟩,l.length,l.length,rfl,hb,.inr ⟨rfl,g,t,rfl,rfl,hg,hr,hF⟩⟩
theorem fark_inf {l:List AB} {t:Nat→Rat} (hF:Fark (pbOf 3 l) t) (h:∃ x0 x1 x2,∀ a ∈ l,SatA a x0 x1 x2):False:=by
 obtain ⟨x0,x1,x2,h⟩:=h
 exact hF.no (x0:=x0) (x1:=x1) (x2:=x2) fun i hi _=>(sat_all (nv:=3) x0 x1 x2).2 h i hi
set_option maxRecDepth 100000 in
set_option maxHeartbeats 8000000 in
theorem simplex_any (A:Option Addr) (n c:Nat) (l:List XB) (w:World) (h:XsAt w A n c l) (hbx:∀ x ∈ l,x.n*64≤140737488351232) :
 Calls Tryz.prog 3 #[.slice A n c] w fun r w'=>r=.returned (.bool true)∧Below w.heap.size w w':=by
 have hvx:=varX 0 w (by decide) (by decide)
 have hlt:=fun W (hW:Below w.heap.size w W)=>light_any A n c l W (h.below hW) hbx
 unfold XcP at hvx;have HVX:=Lib.hid hvx;have HLI:=Lib.hid hlt;clear h hbx hvx hlt
 go_enter Tryz.func3,Tryz.ntmps3
 go_upto_region 2 with (go_at_call 4;refine HVX.out.mono ?_;clear HVX;rintro e w1 ⟨E3,l3,rfl,hx3,hc3,hb1⟩;unfold EB.val;have HE3:=Lib.hid (And.intro hx3 (And.intro hc3 hb1));clear hx3 hc3 hb1)
 have hxg3:=heap_alloc_new w1 (.cells #[.slice E3.A E3.n E3.c,.bool (ratNeg 0),.slice E3.b.A E3.b.n E3.b.c,.slice E3.b.A2 E3.b.n2 E3.b.c2] 28)
 have zw2:(w1.alloc (.cells #[.slice E3.A E3.n E3.c,.bool (ratNeg 0),.slice E3.b.A E3.b.n E3.b.c,.slice E3.b.A2 E3.b.n2 E3.b.c2] 28)).heap.size=w1.heap.size+1:=by simp
 have aw2:=(Below.refl w1.heap.size w1).alloc (Nat.le_refl _) (.cells #[.slice E3.A E3.n E3.c,.bool (ratNeg 0),.slice E3.b.A E3.b.n E3.b.c,.slice E3.b.A2 E3.b.n2 E3.b.c2] 28)
 obtain ⟨w2,ew2⟩:∃ x0,x0=w1.alloc (.cells #[.slice E3.A E3.n E3.c,.bool (ratNeg 0),.slice E3.b.A E3.b.n E3.b.c,.slice E3.b.A2 E3.b.n2 E3.b.c2] 28):=⟨_,rfl⟩
 rw [←ew2] at hxg3 zw2 aw2 ⊢;clear ew2
 obtain ⟨g3,hg3⟩:∃ x0,x0=w1.heap.size:=⟨_,rfl⟩
 rw [←hg3] at hxg3 ⊢
 have hcs:∀ W',Below w2.heap.size w2 W'→W'.cell? ⟨g3,0,none⟩=some (.slice E3.A E3.n E3.c)∧W'.cell? ⟨g3,1,none⟩=some (.bool (ratNeg 0))∧W'.cell? ⟨g3,2,none⟩=some (.slice E3.b.A E3.b.n E3.b.c)∧W'.cell? ⟨g3,3,none⟩=some (.slice E3.b.A2 E3.b.n2 E3.b.c2):=fun W' hb=>boxE4 (box_keep hxg3 hb)
 have him:=fun W=>int_m1 W
 have he3:ExC w2 E3 l3 0 1:=HE3.out.1.below aw2
 have hsc:∀ W (b1:RB),Below w2.heap.size w2 W→RatAt W b1 (-1)→Calls Tryz.prog 6 #[b1.val (ratNeg (-1)),E3.val (ratNeg 0)] W fun x w'=>XcP W (fun v => -1*coT (tmsOf l3) v) 0 1 x w':=fun W b1 hW hr=>by
  have hE:=he3.below hW
  have hn:=exc_few hE fun v hv=>by
   rw [HE3.out.2.1] at hv
   by_cases e:(0:Int)=v
   · omega
   · rw [if_neg e] at hv
     exact absurd rfl hv
  have e0:(-1:Rat)*0=0:=by grind
  have hs:=scaleX b1 (-1) E3 l3 0 1 1 1 W hr (m1_le 1 (by decide)) hE.tms hE.cst hE.le (by omega) (by decide) (by rw [m1_mul];exact neg_le (zero_le 1 (by decide))) (fun v=>by
   rw [m1_mul,HE3.out.2.1]
   split
   · exact neg_le (p1_le 1 (by decide))
   · exact neg_le (zero_le 1 (by decide)))
  rw [e0] at hs;exact hs
 unfold RB.val at him hsc;unfold XcP EB.val at hsc;have k02:=HE3.out.2.2.trans (aw2.mono HE3.out.2.2.size);have HE3':=Lib.hid (And.intro he3 HE3.out.2.1);have HK2:=Lib.hid k02;have HCS:=Lib.hid hcs;have HIM:=Lib.hid him;have HSC:=Lib.hid hsc;clear he3 hcs him hsc k02 hxg3 aw2 zw2 hg3 HE3
 obtain ⟨HE3,hHE⟩:∃ x,x=HE3':=⟨_,rfl⟩
 clear hHE HE3'
 go_cut [4,5] (fun x y wx=>∃ g4 g5:Nat,x=.pointer (some ⟨g4,0,none⟩)∧y=.int .i64 0∧w2.heap.size≤g4∧wx.heap[g4]?=some (.cells #[.bool false,.slice none 0 0,.slice (some ⟨g5,0,none⟩) 2 2] 32 (0,0))∧Below w2.heap.size w2 wx)
 case first =>
  have kb:Below w2.heap.size w2 w2.drew:=below_drew2 (Below.refl _ _);have hS:=HCS.out w2.drew kb;refine wp_region_E 13 (fun W'=>W'.cell? ⟨g3,0,none⟩=some (.slice E3.A E3.n E3.c)∧W'.cell? ⟨g3,1,none⟩=some (.bool (ratNeg 0))∧W'.cell? ⟨g3,2,none⟩=some (.slice E3.b.A E3.b.n E3.b.c)∧W'.cell? ⟨g3,3,none⟩=some (.slice E3.b.A2 E3.b.n2 E3.b.c2)) (by kernel_rfl) ?_;generalize w2.drew=w8 at kb hS ⊢;clear HLI;refine tkE 0 hS ?_;simp only [Act.put,sA,sZ,sS];refine tkE 1 hS ?_;simp only [Act.put,sA,sZ,sS];refine tkE 3 hS ?_;simp only [Act.put,sA,sZ,sS];refine wpAnyE_two (i:=2) (j:=11) (by kernel_rfl) rfl rfl (fun KK hKK=>?_) (fun KK hKK=>?_)
  · have HKK2:=Lib.hid hKK
    clear hKK;go_simp
    go_at_call 7
    refine (HIM.out _).mono ?_;rintro e u1 ⟨b1,rfl,hr1,hb1⟩;have hS:=HCS.out u1 (kb.trans (hb1.mono kb.size));replace kb:=kb.trans (hb1.mono kb.size);clear hb1;refine HKK2.out _ _ (.inr hS) ?_;clear HKK2
    try simp only [Act.put,sA,sZ,sS]
    refine wpAnyE_two (i:=4) (j:=11) (by kernel_rfl) rfl rfl (fun KK hKK=>?_) (fun KK hKK=>?_)
    · have HKK4:=Lib.hid hKK
      clear hKK;go_simp
      go_at_call 6
      refine (HSC.out _ b1 kb hr1).mono ?_;rintro e u2 ⟨E2,l2,rfl,hx2,hc2,hb2⟩;clear hr1;have hS:=HCS.out u2 (kb.trans (hb2.mono kb.size));replace kb:=kb.trans (hb2.mono kb.size);clear hb2;refine HKK4.out _ _ (.inr hS) ?_;clear HKK4
      try simp only [Act.put,sA,sZ,sS]
      refine tkE 5 hS ?_;simp only [Act.put,sA,sZ,sS];refine wpAnyE_two (i:=6) (j:=11) (by kernel_rfl) rfl rfl (fun KK hKK=>?_) (fun KK hKK=>?_)
      · have HKK6:=Lib.hid hKK
        clear hKK;go_simp;have hb3:=(Below.refl u2.heap.size u2).alloc (Nat.le_refl _) (.cells #[.slice E3.A E3.n E3.c,.bool (ratNeg 0),.slice E3.b.A E3.b.n E3.b.c,.slice E3.b.A2 E3.b.n2 E3.b.c2,.int .i64 2,.slice E2.A E2.n E2.c,.bool (ratNeg 0),.slice E2.b.A E2.b.n E2.b.c,.slice E2.b.A2 E2.b.n2 E2.b.c2,.int .i64 2] 37);have hy:=heap_alloc_new u2 (.cells #[.slice E3.A E3.n E3.c,.bool (ratNeg 0),.slice E3.b.A E3.b.n E3.b.c,.slice E3.b.A2 E3.b.n2 E3.b.c2,.int .i64 2,.slice E2.A E2.n E2.c,.bool (ratNeg 0),.slice E2.b.A E2.b.n E2.b.c,.slice E2.b.A2 E2.b.n2 E2.b.c2,.int .i64 2] 37);have kb3:=kb.trans (hb3.mono kb.size)
        obtain ⟨gy,hgy⟩:∃ x0,x0=u2.heap.size:=⟨_,rfl⟩
        obtain ⟨u3,hu3⟩:∃ x0,x0=u2.alloc (.cells #[.slice E3.A E3.n E3.c,.bool (ratNeg 0),.slice E3.b.A E3.b.n E3.b.c,.slice E3.b.A2 E3.b.n2 E3.b.c2,.int .i64 2,.slice E2.A E2.n E2.c,.bool (ratNeg 0),.slice E2.b.A E2.b.n E2.b.c,.slice E2.b.A2 E2.b.n2 E2.b.c2,.int .i64 2] 37):=⟨_,rfl⟩
        rw [←hgy] at hy ⊢;rw [←hu3] at hy hb3 kb3 ⊢;clear hgy hu3;obtain ⟨hat1,hat2⟩:=two_at hy (HE3.out.1.below kb3) HE3.out.2 (hx2.below hb3) hc2;clear hx2 hy kb3;have hS:=HCS.out u3 (kb.trans (hb3.mono kb.size));replace kb:=kb.trans (hb3.mono kb.size);clear hb3;refine HKK6.out _ _ (.inr hS) ?_;clear HKK6
        try simp only [Act.put,sA,sZ,sS]
        refine wpAnyE_two (i:=7) (j:=11) (by kernel_rfl) rfl rfl (fun KK hKK=>?_) (fun KK hKK=>?_)
        · have HKK7:=Lib.hid hKK
          clear hKK;go_simp
          go_at_call 5
          refine (solve_any _ 2 2 _ 16 4 1 _ hat1 (by decide) (by decide) (by decide) (.inr rfl) hat2.1 hat2.2.1).mono ?_;rintro e u4 ⟨hb4,hcase⟩
          have hinf:∃ g5:Nat,e=.returned (.tuple #[.agg #[.bool false,.slice none 0 0,.slice (some ⟨g5,0,none⟩) 2 2],.int .i64 0]):=by
           rcases hcase with ⟨A5,n5,c5,_,x0,x1,x2,hs⟩ | ⟨g5,t5,he,_⟩
           · exact absurd (⟨x0,x1,x2,(sat_all x0 x1 x2).1 hs⟩:∃ x0 x1 x2,∀ a ∈ _,SatA a x0 x1 x2) hat2.2.2
           · exact ⟨g5,he⟩
          obtain ⟨g5,rfl⟩:=hinf;clear hat1 hat2 hcase;have hS:=HCS.out u4 (kb.trans (hb4.mono kb.size));replace kb:=kb.trans (hb4.mono kb.size);clear hb4;refine HKK7.out _ _ (.inr hS) ?_;clear HKK7
          try simp only [Act.put,sA,sZ,sS]
          refine tkE 8 hS ?_;simp only [Act.put,sA,sZ,sS];refine tkE 9 hS ?_;simp only [Act.put,sA,sZ,sS];refine tkE 10 hS ?_;simp only [Act.put,sA,sZ,sS]
          refine onE 11 fun KK HKK11=>?_
          go_simp;have hxg:=heap_alloc_new u4 (.cells #[.bool false,.slice none 0 0,.slice none 0 0] 32);have hal:=(Below.refl u4.heap.size u4).alloc (Nat.le_refl _) (.cells #[.bool false,.slice none 0 0,.slice none 0 0] 32);have hgl:=kb.size
          obtain ⟨g4,hg⟩:∃ x0,x0=u4.heap.size:=⟨_,rfl⟩
          rw [←hg] at hxg hgl ⊢
          obtain ⟨ua,hua⟩:∃ x0,x0=u4.alloc (.cells #[.bool false,.slice none 0 0,.slice none 0 0] 32):=⟨_,rfl⟩
          rw [←hua] at hxg hal ⊢;clear hg hua;have hS:=HCS.out ua (kb.trans (hal.mono kb.size));replace kb:=kb.trans (hal.mono kb.size);clear hal;refine HKK11.out _ _ (.inr hS) ?_;clear HKK11
          try simp only [Act.put,sA,sZ,sS]
          obtain ⟨p0,p1,p2⟩:=box3 hxg;have z0:=frozen_of_blk hxg 0;have z1:=frozen_of_blk hxg 1;have z2:=frozen_of_blk hxg 2;have hS2:=HCS.out _ (bl_set (p:=⟨g4,2,none⟩) (u:=.slice (some ⟨g5,0,none⟩) 2 2) (bl_set (p:=⟨g4,1,none⟩) (u:=.slice none 0 0) (bl_set (p:=⟨g4,0,none⟩) (u:=.bool false) kb hgl) hgl) hgl);have HXG:=Lib.hid hxg;have HKB:=Lib.hid (And.intro kb hgl);clear hS hxg kb hgl
          refine onE 12 fun KK HKK12=>?_
          go_simp;refine HKK12.out _ _ (.inr hS2) ?_;clear HKK12
          try simp only [Act.put,sA,sZ,sS]
          refine onE 13 fun KK HKK13=>?_
          go_simp;refine HKK13.out _ _ (.inl rfl) ?_;clear HKK13;refine wpAnyE_done (by kernel_rfl) ?_ _
          go_wp2_with fail
          go_meet;exact ⟨g4,g5,rfl,rfl,HKB.out.2,set_blk (set_blk (set_blk HXG.out 0 (.bool false)) 1 (.slice none 0 0)) 2 (.slice (some ⟨g5,0,none⟩) 2 2),bl_set (bl_set (bl_set HKB.out.1 HKB.out.2) HKB.out.2) HKB.out.2⟩
        · have HKK11:=Lib.hid hKK
          clear hKK;go_simp;have hxg:=heap_alloc_new u3 (.cells #[.bool false,.slice none 0 0,.slice none 0 0] 32);have hal:=(Below.refl u3.heap.size u3).alloc (Nat.le_refl _) (.cells #[.bool false,.slice none 0 0,.slice none 0 0] 32);have hgl:=kb.size
          obtain ⟨g4,hg⟩:∃ x0,x0=u3.heap.size:=⟨_,rfl⟩
          rw [←hg] at hxg hgl ⊢
          obtain ⟨ua,hua⟩:∃ x0,x0=u3.alloc (.cells #[.bool false,.slice none 0 0,.slice none 0 0] 32):=⟨_,rfl⟩
          rw [←hua] at hxg hal ⊢;clear hg hua;replace hat1:=hat1.below hal;have hS:=HCS.out ua (kb.trans (hal.mono kb.size));replace kb:=kb.trans (hal.mono kb.size);clear hal;refine HKK11.out _ _ (.inr hS) ?_;clear HKK11
          try simp only [Act.put,sA,sZ,sS]
          refine onE 7 fun KK HKK7=>?_
          go_simp
          go_at_call 5
          refine (solve_any _ 2 2 _ 16 4 1 _ hat1 (by decide) (by decide) (by decide) (.inr rfl) hat2.1 hat2.2.1).mono ?_;rintro e u4 ⟨hb4,hcase⟩
          have hinf:∃ g5:Nat,e=.returned (.tuple #[.agg #[.bool false,.slice none 0 0,.slice (some ⟨g5,0,none⟩) 2 2],.int .i64 0]):=by
           rcases hcase with ⟨A5,n5,c5,_,x0,x1,x2,hs⟩ | ⟨g5,t5,he,_⟩
           · exact absurd (⟨x0,x1,x2,(sat_all x0 x1 x2).1 hs⟩:∃ x0 x1 x2,∀ a ∈ _,SatA a x0 x1 x2) hat2.2.2
           · exact ⟨g5,he⟩
          obtain ⟨g5,rfl⟩:=hinf;clear hat1 hat2 hcase;replace hxg:=box_keep hxg hb4;have hS:=HCS.out u4 (kb.trans (hb4.mono kb.size));replace kb:=kb.trans (hb4.mono kb.size);clear hb4;refine HKK7.out _ _ (.inr hS) ?_;clear HKK7
          try simp only [Act.put,sA,sZ,sS]
          refine tkE 8 hS ?_;simp only [Act.put,sA,sZ,sS];refine tkE 9 hS ?_;simp only [Act.put,sA,sZ,sS];refine tkE 10 hS ?_;simp only [Act.put,sA,sZ,sS];obtain ⟨p0,p1,p2⟩:=box3 hxg;have z0:=frozen_of_blk hxg 0;have z1:=frozen_of_blk hxg 1;have z2:=frozen_of_blk hxg 2;have hS2:=HCS.out _ (bl_set (p:=⟨g4,2,none⟩) (u:=.slice (some ⟨g5,0,none⟩) 2 2) (bl_set (p:=⟨g4,1,none⟩) (u:=.slice none 0 0) (bl_set (p:=⟨g4,0,none⟩) (u:=.bool false) kb hgl) hgl) hgl);have HXG:=Lib.hid hxg;have HKB:=Lib.hid (And.intro kb hgl);clear hS hxg kb hgl
          refine onE 12 fun KK HKK12=>?_
          go_simp;refine HKK12.out _ _ (.inr hS2) ?_;clear HKK12
          try simp only [Act.put,sA,sZ,sS]
          refine onE 13 fun KK HKK13=>?_
          go_simp;refine HKK13.out _ _ (.inl rfl) ?_;clear HKK13;refine wpAnyE_done (by kernel_rfl) ?_ _
          go_wp2_with fail
          go_meet;exact ⟨g4,g5,rfl,rfl,HKB.out.2,set_blk (set_blk (set_blk HXG.out 0 (.bool false)) 1 (.slice none 0 0)) 2 (.slice (some ⟨g5,0,none⟩) 2 2),bl_set (bl_set (bl_set HKB.out.1 HKB.out.2) HKB.out.2) HKB.out.2⟩
      · have HKK11:=Lib.hid hKK
        clear hKK;go_simp;have hxg:=heap_alloc_new u2 (.cells #[.bool false,.slice none 0 0,.slice none 0 0] 32);have hal:=(Below.refl u2.heap.size u2).alloc (Nat.le_refl _) (.cells #[.bool false,.slice none 0 0,.slice none 0 0] 32);have hgl:=kb.size
        obtain ⟨g4,hg⟩:∃ x0,x0=u2.heap.size:=⟨_,rfl⟩
        rw [←hg] at hxg hgl ⊢
        obtain ⟨ua,hua⟩:∃ x0,x0=u2.alloc (.cells #[.bool false,.slice none 0 0,.slice none 0 0] 32):=⟨_,rfl⟩
        rw [←hua] at hxg hal ⊢;clear hg hua;replace hx2:=hx2.below hal;have hS:=HCS.out ua (kb.trans (hal.mono kb.size));replace kb:=kb.trans (hal.mono kb.size);clear hal;refine HKK11.out _ _ (.inr hS) ?_;clear HKK11
        try simp only [Act.put,sA,sZ,sS]
        refine onE 6 fun KK HKK6=>?_
        go_simp;have hb3:=(Below.refl ua.heap.size ua).alloc (Nat.le_refl _) (.cells #[.slice E3.A E3.n E3.c,.bool (ratNeg 0),.slice E3.b.A E3.b.n E3.b.c,.slice E3.b.A2 E3.b.n2 E3.b.c2,.int .i64 2,.slice E2.A E2.n E2.c,.bool (ratNeg 0),.slice E2.b.A E2.b.n E2.b.c,.slice E2.b.A2 E2.b.n2 E2.b.c2,.int .i64 2] 37);have hy:=heap_alloc_new ua (.cells #[.slice E3.A E3.n E3.c,.bool (ratNeg 0),.slice E3.b.A E3.b.n E3.b.c,.slice E3.b.A2 E3.b.n2 E3.b.c2,.int .i64 2,.slice E2.A E2.n E2.c,.bool (ratNeg 0),.slice E2.b.A E2.b.n E2.b.c,.slice E2.b.A2 E2.b.n2 E2.b.c2,.int .i64 2] 37);have kb3:=kb.trans (hb3.mono kb.size)
        obtain ⟨gy,hgy⟩:∃ x0,x0=ua.heap.size:=⟨_,rfl⟩
        obtain ⟨u3,hu3⟩:∃ x0,x0=ua.alloc (.cells #[.slice E3.A E3.n E3.c,.bool (ratNeg 0),.slice E3.b.A E3.b.n E3.b.c,.slice E3.b.A2 E3.b.n2 E3.b.c2,.int .i64 2,.slice E2.A E2.n E2.c,.bool (ratNeg 0),.slice E2.b.A E2.b.n E2.b.c,.slice E2.b.A2 E2.b.n2 E2.b.c2,.int .i64 2] 37):=⟨_,rfl⟩
        rw [←hgy] at hy ⊢;rw [←hu3] at hy hb3 kb3 ⊢;clear hgy hu3;obtain ⟨hat1,hat2⟩:=two_at hy (HE3.out.1.below kb3) HE3.out.2 (hx2.below hb3) hc2;clear hx2 hy kb3;replace hxg:=box_keep hxg hb3;have hS:=HCS.out u3 (kb.trans (hb3.mono kb.size));replace kb:=kb.trans (hb3.mono kb.size);clear hb3;refine HKK6.out _ _ (.inr hS) ?_;clear HKK6
        try simp only [Act.put,sA,sZ,sS]
        refine onE 7 fun KK HKK7=>?_
        go_simp
        go_at_call 5
        refine (solve_any _ 2 2 _ 16 4 1 _ hat1 (by decide) (by decide) (by decide) (.inr rfl) hat2.1 hat2.2.1).mono ?_;rintro e u4 ⟨hb4,hcase⟩
        have hinf:∃ g5:Nat,e=.returned (.tuple #[.agg #[.bool false,.slice none 0 0,.slice (some ⟨g5,0,none⟩) 2 2],.int .i64 0]):=by
         rcases hcase with ⟨A5,n5,c5,_,x0,x1,x2,hs⟩ | ⟨g5,t5,he,_⟩
         · exact absurd (⟨x0,x1,x2,(sat_all x0 x1 x2).1 hs⟩:∃ x0 x1 x2,∀ a ∈ _,SatA a x0 x1 x2) hat2.2.2
         · exact ⟨g5,he⟩
        obtain ⟨g5,rfl⟩:=hinf;clear hat1 hat2 hcase;replace hxg:=box_keep hxg hb4;have hS:=HCS.out u4 (kb.trans (hb4.mono kb.size));replace kb:=kb.trans (hb4.mono kb.size);clear hb4;refine HKK7.out _ _ (.inr hS) ?_;clear HKK7
        try simp only [Act.put,sA,sZ,sS]
        refine tkE 8 hS ?_;simp only [Act.put,sA,sZ,sS];refine tkE 9 hS ?_;simp only [Act.put,sA,sZ,sS];refine tkE 10 hS ?_;simp only [Act.put,sA,sZ,sS];obtain ⟨p0,p1,p2⟩:=box3 hxg;have z0:=frozen_of_blk hxg 0;have z1:=frozen_of_blk hxg 1;have z2:=frozen_of_blk hxg 2;have hS2:=HCS.out _ (bl_set (p:=⟨g4,2,none⟩) (u:=.slice (some ⟨g5,0,none⟩) 2 2) (bl_set (p:=⟨g4,1,none⟩) (u:=.slice none 0 0) (bl_set (p:=⟨g4,0,none⟩) (u:=.bool false) kb hgl) hgl) hgl);have HXG:=Lib.hid hxg;have HKB:=Lib.hid (And.intro kb hgl);clear hS hxg kb hgl
        refine onE 12 fun KK HKK12=>?_
        go_simp;refine HKK12.out _ _ (.inr hS2) ?_;clear HKK12
        try simp only [Act.put,sA,sZ,sS]
        refine onE 13 fun KK HKK13=>?_
        go_simp;refine HKK13.out _ _ (.inl rfl) ?_;clear HKK13;refine wpAnyE_done (by kernel_rfl) ?_ _
        go_wp2_with fail
        go_meet;exact ⟨g4,g5,rfl,rfl,HKB.out.2,set_blk (set_blk (set_blk HXG.out 0 (.bool false)) 1 (.slice none 0 0)) 2 (.slice (some ⟨g5,0,none⟩) 2 2),bl_set (bl_set (bl_set HKB.out.1 HKB.out.2) HKB.out.2) HKB.out.2⟩
    · have HKK11:=Lib.hid hKK
      clear hKK;go_simp;have hxg:=heap_alloc_new u1 (.cells #[.bool false,.slice none 0 0,.slice none 0 0] 32);have hal:=(Below.refl u1.heap.size u1).alloc (Nat.le_refl _) (.cells #[.bool false,.slice none 0 0,.slice none 0 0] 32);have hgl:=kb.size
      obtain ⟨g4,hg⟩:∃ x0,x0=u1.heap.size:=⟨_,rfl⟩
      rw [←hg] at hxg hgl ⊢
      obtain ⟨ua,hua⟩:∃ x0,x0=u1.alloc (.cells #[.bool false,.slice none 0 0,.slice none 0 0] 32):=⟨_,rfl⟩
      rw [←hua] at hxg hal ⊢;clear hg hua;replace hr1:=hr1.below hal;have hS:=HCS.out ua (kb.trans (hal.mono kb.size));replace kb:=kb.trans (hal.mono kb.size);clear hal;refine HKK11.out _ _ (.inr hS) ?_;clear HKK11
      try simp only [Act.put,sA,sZ,sS]
      refine onE 4 fun KK HKK4=>?_
      go_simp
      go_at_call 6
      refine (HSC.out _ b1 kb hr1).mono ?_;rintro e u2 ⟨E2,l2,rfl,hx2,hc2,hb2⟩;clear hr1;replace hxg:=box_keep hxg hb2;have hS:=HCS.out u2 (kb.trans (hb2.mono kb.size));replace kb:=kb.trans (hb2.mono kb.size);clear hb2;refine HKK4.out _ _ (.inr hS) ?_;clear HKK4
      try simp only [Act.put,sA,sZ,sS]
      refine tkE 5 hS ?_;simp only [Act.put,sA,sZ,sS]
      refine onE 6 fun KK HKK6=>?_
      go_simp;have hb3:=(Below.refl u2.heap.size u2).alloc (Nat.le_refl _) (.cells #[.slice E3.A E3.n E3.c,.bool (ratNeg 0),.slice E3.b.A E3.b.n E3.b.c,.slice E3.b.A2 E3.b.n2 E3.b.c2,.int .i64 2,.slice E2.A E2.n E2.c,.bool (ratNeg 0),.slice E2.b.A E2.b.n E2.b.c,.slice E2.b.A2 E2.b.n2 E2.b.c2,.int .i64 2] 37);have hy:=heap_alloc_new u2 (.cells #[.slice E3.A E3.n E3.c,.bool (ratNeg 0),.slice E3.b.A E3.b.n E3.b.c,.slice E3.b.A2 E3.b.n2 E3.b.c2,.int .i64 2,.slice E2.A E2.n E2.c,.bool (ratNeg 0),.slice E2.b.A E2.b.n E2.b.c,.slice E2.b.A2 E2.b.n2 E2.b.c2,.int .i64 2] 37);have kb3:=kb.trans (hb3.mono kb.size)
      obtain ⟨gy,hgy⟩:∃ x0,x0=u2.heap.size:=⟨_,rfl⟩
      obtain ⟨u3,hu3⟩:∃ x0,x0=u2.alloc (.cells #[.slice E3.A E3.n E3.c,.bool (ratNeg 0),.slice E3.b.A E3.b.n E3.b.c,.slice E3.b.A2 E3.b.n2 E3.b.c2,.int .i64 2,.slice E2.A E2.n E2.c,.bool (ratNeg 0),.slice E2.b.A E2.b.n E2.b.c,.slice E2.b.A2 E2.b.n2 E2.b.c2,.int .i64 2] 37):=⟨_,rfl⟩
      rw [←hgy] at hy ⊢;rw [←hu3] at hy hb3 kb3 ⊢;clear hgy hu3;obtain ⟨hat1,hat2⟩:=two_at hy (HE3.out.1.below kb3) HE3.out.2 (hx2.below hb3) hc2;clear hx2 hy kb3;replace hxg:=box_keep hxg hb3;have hS:=HCS.out u3 (kb.trans (hb3.mono kb.size));replace kb:=kb.trans (hb3.mono kb.size);clear hb3;refine HKK6.out _ _ (.inr hS) ?_;clear HKK6
      try simp only [Act.put,sA,sZ,sS]
      refine onE 7 fun KK HKK7=>?_
      go_simp
      go_at_call 5
      refine (solve_any _ 2 2 _ 16 4 1 _ hat1 (by decide) (by decide) (by decide) (.inr rfl) hat2.1 hat2.2.1).mono ?_;rintro e u4 ⟨hb4,hcase⟩
      have hinf:∃ g5:Nat,e=.returned (.tuple #[.agg #[.bool false,.slice none 0 0,.slice (some ⟨g5,0,none⟩) 2 2],.int .i64 0]):=by
       rcases hcase with ⟨A5,n5,c5,_,x0,x1,x2,hs⟩ | ⟨g5,t5,he,_⟩
       · exact absurd (⟨x0,x1,x2,(sat_all x0 x1 x2).1 hs⟩:∃ x0 x1 x2,∀ a ∈ _,SatA a x0 x1 x2) hat2.2.2
       · exact ⟨g5,he⟩
      obtain ⟨g5,rfl⟩:=hinf;clear hat1 hat2 hcase;replace hxg:=box_keep hxg hb4;have hS:=HCS.out u4 (kb.trans (hb4.mono kb.size));replace kb:=kb.trans (hb4.mono kb.size);clear hb4;refine HKK7.out _ _ (.inr hS) ?_;clear HKK7
      try simp only [Act.put,sA,sZ,sS]
      refine tkE 8 hS ?_;simp only [Act.put,sA,sZ,sS];refine tkE 9 hS ?_;simp only [Act.put,sA,sZ,sS];refine tkE 10 hS ?_;simp only [Act.put,sA,sZ,sS];obtain ⟨p0,p1,p2⟩:=box3 hxg;have z0:=frozen_of_blk hxg 0;have z1:=frozen_of_blk hxg 1;have z2:=frozen_of_blk hxg 2;have hS2:=HCS.out _ (bl_set (p:=⟨g4,2,none⟩) (u:=.slice (some ⟨g5,0,none⟩) 2 2) (bl_set (p:=⟨g4,1,none⟩) (u:=.slice none 0 0) (bl_set (p:=⟨g4,0,none⟩) (u:=.bool false) kb hgl) hgl) hgl);have HXG:=Lib.hid hxg;have HKB:=Lib.hid (And.intro kb hgl);clear hS hxg kb hgl
      refine onE 12 fun KK HKK12=>?_
      go_simp;refine HKK12.out _ _ (.inr hS2) ?_;clear HKK12
      try simp only [Act.put,sA,sZ,sS]
      refine onE 13 fun KK HKK13=>?_
      go_simp;refine HKK13.out _ _ (.inl rfl) ?_;clear HKK13;refine wpAnyE_done (by kernel_rfl) ?_ _
      go_wp2_with fail
      go_meet;exact ⟨g4,g5,rfl,rfl,HKB.out.2,set_blk (set_blk (set_blk HXG.out 0 (.bool false)) 1 (.slice none 0 0)) 2 (.slice (some ⟨g5,0,none⟩) 2 2),bl_set (bl_set (bl_set HKB.out.1 HKB.out.2) HKB.out.2) HKB.out.2⟩
  · have HKK11:=Lib.hid hKK
    clear hKK;go_simp;have hxg:=heap_alloc_new w8 (.cells #[.bool false,.slice none 0 0,.slice none 0 0] 32);have hal:=(Below.refl w8.heap.size w8).alloc (Nat.le_refl _) (.cells #[.bool false,.slice none 0 0,.slice none 0 0] 32);have hgl:=kb.size
    obtain ⟨g4,hg⟩:∃ x0,x0=w8.heap.size:=⟨_,rfl⟩
    rw [←hg] at hxg hgl ⊢
    obtain ⟨ua,hua⟩:∃ x0,x0=w8.alloc (.cells #[.bool false,.slice none 0 0,.slice none 0 0] 32):=⟨_,rfl⟩
    rw [←hua] at hxg hal ⊢;clear hg hua;have hS:=HCS.out ua (kb.trans (hal.mono kb.size));replace kb:=kb.trans (hal.mono kb.size);clear hal;refine HKK11.out _ _ (.inr hS) ?_;clear HKK11
    try simp only [Act.put,sA,sZ,sS]
    refine onE 2 fun KK HKK2=>?_
    go_simp
    go_at_call 7
    refine (HIM.out _).mono ?_;rintro e u1 ⟨b1,rfl,hr1,hb1⟩;replace hxg:=box_keep hxg hb1;have hS:=HCS.out u1 (kb.trans (hb1.mono kb.size));replace kb:=kb.trans (hb1.mono kb.size);clear hb1;refine HKK2.out _ _ (.inr hS) ?_;clear HKK2
    try simp only [Act.put,sA,sZ,sS]
    refine onE 4 fun KK HKK4=>?_
    go_simp
    go_at_call 6
    refine (HSC.out _ b1 kb hr1).mono ?_;rintro e u2 ⟨E2,l2,rfl,hx2,hc2,hb2⟩;clear hr1;replace hxg:=box_keep hxg hb2;have hS:=HCS.out u2 (kb.trans (hb2.mono kb.size));replace kb:=kb.trans (hb2.mono kb.size);clear hb2;refine HKK4.out _ _ (.inr hS) ?_;clear HKK4
    try simp only [Act.put,sA,sZ,sS]
    refine tkE 5 hS ?_;simp only [Act.put,sA,sZ,sS]
    refine onE 6 fun KK HKK6=>?_
    go_simp;have hb3:=(Below.refl u2.heap.size u2).alloc (Nat.le_refl _) (.cells #[.slice E3.A E3.n E3.c,.bool (ratNeg 0),.slice E3.b.A E3.b.n E3.b.c,.slice E3.b.A2 E3.b.n2 E3.b.c2,.int .i64 2,.slice E2.A E2.n E2.c,.bool (ratNeg 0),.slice E2.b.A E2.b.n E2.b.c,.slice E2.b.A2 E2.b.n2 E2.b.c2,.int .i64 2] 37);have hy:=heap_alloc_new u2 (.cells #[.slice E3.A E3.n E3.c,.bool (ratNeg 0),.slice E3.b.A E3.b.n E3.b.c,.slice E3.b.A2 E3.b.n2 E3.b.c2,.int .i64 2,.slice E2.A E2.n E2.c,.bool (ratNeg 0),.slice E2.b.A E2.b.n E2.b.c,.slice E2.b.A2 E2.b.n2 E2.b.c2,.int .i64 2] 37);have kb3:=kb.trans (hb3.mono kb.size)
    obtain ⟨gy,hgy⟩:∃ x0,x0=u2.heap.size:=⟨_,rfl⟩
    obtain ⟨u3,hu3⟩:∃ x0,x0=u2.alloc (.cells #[.slice E3.A E3.n E3.c,.bool (ratNeg 0),.slice E3.b.A E3.b.n E3.b.c,.slice E3.b.A2 E3.b.n2 E3.b.c2,.int .i64 2,.slice E2.A E2.n E2.c,.bool (ratNeg 0),.slice E2.b.A E2.b.n E2.b.c,.slice E2.b.A2 E2.b.n2 E2.b.c2,.int .i64 2] 37):=⟨_,rfl⟩
    rw [←hgy] at hy ⊢;rw [←hu3] at hy hb3 kb3 ⊢;clear hgy hu3;obtain ⟨hat1,hat2⟩:=two_at hy (HE3.out.1.below kb3) HE3.out.2 (hx2.below hb3) hc2;clear hx2 hy kb3;replace hxg:=box_keep hxg hb3;have hS:=HCS.out u3 (kb.trans (hb3.mono kb.size));replace kb:=kb.trans (hb3.mono kb.size);clear hb3;refine HKK6.out _ _ (.inr hS) ?_;clear HKK6
    try simp only [Act.put,sA,sZ,sS]
    refine onE 7 fun KK HKK7=>?_
    go_simp
    go_at_call 5
    refine (solve_any _ 2 2 _ 16 4 1 _ hat1 (by decide) (by decide) (by decide) (.inr rfl) hat2.1 hat2.2.1).mono ?_;rintro e u4 ⟨hb4,hcase⟩
    have hinf:∃ g5:Nat,e=.returned (.tuple #[.agg #[.bool false,.slice none 0 0,.slice (some ⟨g5,0,none⟩) 2 2],.int .i64 0]):=by
     rcases hcase with ⟨A5,n5,c5,_,x0,x1,x2,hs⟩ | ⟨g5,t5,he,_⟩
     · exact absurd (⟨x0,x1,x2,(sat_all x0 x1 x2).1 hs⟩:∃ x0 x1 x2,∀ a ∈ _,SatA a x0 x1 x2) hat2.2.2
     · exact ⟨g5,he⟩
    obtain ⟨g5,rfl⟩:=hinf;clear hat1 hat2 hcase;replace hxg:=box_keep hxg hb4;have hS:=HCS.out u4 (kb.trans (hb4.mono kb.size));replace kb:=kb.trans (hb4.mono kb.size);clear hb4;refine HKK7.out _ _ (.inr hS) ?_;clear HKK7
    try simp only [Act.put,sA,sZ,sS]
    refine tkE 8 hS ?_;simp only [Act.put,sA,sZ,sS];refine tkE 9 hS ?_;simp only [Act.put,sA,sZ,sS];refine tkE 10 hS ?_;simp only [Act.put,sA,sZ,sS];obtain ⟨p0,p1,p2⟩:=box3 hxg;have z0:=frozen_of_blk hxg 0;have z1:=frozen_of_blk hxg 1;have z2:=frozen_of_blk hxg 2;have hS2:=HCS.out _ (bl_set (p:=⟨g4,2,none⟩) (u:=.slice (some ⟨g5,0,none⟩) 2 2) (bl_set (p:=⟨g4,1,none⟩) (u:=.slice none 0 0) (bl_set (p:=⟨g4,0,none⟩) (u:=.bool false) kb hgl) hgl) hgl);have HXG:=Lib.hid hxg;have HKB:=Lib.hid (And.intro kb hgl);clear hS hxg kb hgl
    refine onE 12 fun KK HKK12=>?_
    go_simp;refine HKK12.out _ _ (.inr hS2) ?_;clear HKK12
    try simp only [Act.put,sA,sZ,sS]
    refine onE 13 fun KK HKK13=>?_
    go_simp;refine HKK13.out _ _ (.inl rfl) ?_;clear HKK13;refine wpAnyE_done (by kernel_rfl) ?_ _
    go_wp2_with fail
    go_meet;exact ⟨g4,g5,rfl,rfl,HKB.out.2,set_blk (set_blk (set_blk HXG.out 0 (.bool false)) 1 (.slice none 0 0)) 2 (.slice (some ⟨g5,0,none⟩) 2 2),bl_set (bl_set (bl_set HKB.out.1 HKB.out.2) HKB.out.2) HKB.out.2⟩
 case rest =>
 obtain ⟨g4,g5,rfl,rfl,hg4,hx4,hb4⟩:=hcut
 obtain ⟨w9,rfl⟩:∃ x0,x0=wc:=⟨_,rfl⟩
 have k09:=HK2.out.trans (hb4.mono HK2.out.size);have H9:=Lib.hid (And.intro hx4 (And.intro k09 (Nat.le_trans HK2.out.size hg4)));obtain ⟨p0,p1,p2⟩:=box3 hx4;obtain ⟨i0,hi,hz0,hz1,hz2⟩:=info_parts info_atom;clear hg4 hx4 hb4 k09 HCS HIM HSC HE3 HK2
 go_upto_region 6 with fail
 have hx10:=heap_alloc_new w9 (.cells #[] 37)
 have zw10:(w9.alloc (.cells #[] 37)).heap.size=w9.heap.size+1:=by simp
 have aw10:=(Below.refl w9.heap.size w9).alloc (Nat.le_refl _) (.cells #[] 37)
 obtain ⟨w10,ew10⟩:∃ x0,x0=w9.alloc (.cells #[] 37):=⟨_,rfl⟩
 rw [←ew10] at hx10 zw10 aw10 ⊢;clear ew10
 obtain ⟨g6,hg6⟩:∃ x0,x0=w9.heap.size:=⟨_,rfl⟩
 rw [←hg6] at hx10 ⊢;have H10:=Lib.hid (And.intro hx10 (And.intro aw10 hg6));have hli:=HLI.out w10 (H9.out.2.1.trans (aw10.mono H9.out.2.1.size));have HLI2:=Lib.hid hli;clear hx10 aw10 zw10 hg6 hli HLI p0 p1 p2
 go_wp2_with (first | (go_at_call 9;refine HLI2.out.mono ?_;clear HLI2;rintro e w11 ⟨A1,n1,c1,l1,rfl,hxs,htn,hb11⟩;have H11:=Lib.hid (And.intro hxs (And.intro htn hb11));clear hxs htn hb11) | (go_at_call 8;refine (atoms9 A1 n1 c1 l1 _ H11.out.1 H11.out.2.1).mono ?_;rintro e w12 ⟨A2,n2,c2,la,rfl,hat,hn2,hta,hb12⟩;have H12:=Lib.hid (And.intro hat (And.intro hta (H11.out.2.2.trans (hb12.mono H11.out.2.2.size))));clear hat hta hb12))
 have hk912:Below w9.heap.size w9 w12:=H10.out.2.1.trans (H12.out.2.2.mono H10.out.2.1.size)
 have hown0:w12.ownsRow w9.heap.size 37 5 (.slice (some ⟨g6,0,none⟩) 0 0) 0 (atmsL []):=by
  refine ⟨rfl,.inr ⟨g6,0,#[],rfl,by rw [H10.out.2.2];exact Nat.le_refl _,box_keep H10.out.1 H12.out.2.2,Nat.le_refl _,by unfold maxLen;omega,rfl,rfl⟩⟩
 have hblk0:∀ b,(Value.slice (some ⟨g6,0,none⟩) 0 0).ownBlock=some b→b=w9.heap.size∨w12.heap.size≤b:=fun b hb=>by
  have h1:g6=b:=by simpa [Value.ownBlock] using hb
  rw [←h1,H10.out.2.2];exact .inl rfl
 have htk0:Tkn w9 w12 w12 (.slice (some ⟨g6,0,none⟩) 0 0) [] la A2 n2 c2:=⟨hown0,hblk0,by simp,by simp,by simp,fun a ha=>by simp at ha,H12.out.1,hk912⟩
 have HT0:=Lib.hid htk0;have HNN:=Lib.hid (H12.out.1.not_nil (box_keep H10.out.1 H12.out.2.2));have HGE:=Lib.hid H10.out.2.2;have HTA:=Lib.hid H12.out.2.1;clear hk912 hown0 hblk0 htk0 H11 H12 H10
 go_loopw [6,42] (fun v x wr=>∃ (i:Nat) (lo:List AB),i≤n2∧x=.int .i64 i∧Tkn w9 w12 wr v lo la A2 n2 c2∧w12.heap.size≤wr.heap.size) (fun _ x _=>n2 - (intOf x).toNat)
 case atStart=>exact ⟨0,[],Nat.zero_le _,by first | rfl | go_num,HT0.out,Nat.le_refl _⟩
 case round =>
  obtain ⟨i,lo,hin,rfl,htk,hs12⟩:=hrel
  obtain ⟨w13,rfl⟩:∃ x,x=wr:=⟨_,rfl⟩
  have HS12:=Lib.hid hs12;clear HT0 hs12
  by_cases hlt:i<n2
  · obtain ⟨gA,oA,a,ea,hai,y0,y1,y2,y3,y4⟩:=htk.src.rd.at5 htk.src.len hlt
    subst ea;obtain ⟨Av,cv,ev,_,_⟩:=ownsRow_form htk.own;subst ev;have hma:=List.mem_of_getElem? hai;have hok:=htk.src.each a hma;have hta:=HTA.out a hma
    obtain ⟨aA,haA⟩:∃ x,x=a.A:=⟨_,rfl⟩
    rw [←haA] at y0
    have c1:(0:Int)≤(i:Int):=by omega
    have c2:(i:Int)<(n2:Int):=by omega
    have hn12:a.n≤12:=hok.few;have HAA:=Lib.hid haA;have HTK:=Lib.hid htk;have HOK:=Lib.hid (And.intro hok hta);clear haA htk hok hta hai hma
    go_upto_region 9 with fail
    have hx8:=heap_alloc_new w13 (.cells #[.slice aA a.n a.c,.bool (ratNeg a.q),.slice a.b.A a.b.n a.b.c,.slice a.b.A2 a.b.n2 a.b.c2,.int .i64 a.op] 37)
    have zw14:(w13.alloc (.cells #[.slice aA a.n a.c,.bool (ratNeg a.q),.slice a.b.A a.b.n a.b.c,.slice a.b.A2 a.b.n2 a.b.c2,.int .i64 a.op] 37)).heap.size=w13.heap.size+1:=by simp
    have aw14:=(Below.refl w13.heap.size w13).alloc (Nat.le_refl _) (.cells #[.slice aA a.n a.c,.bool (ratNeg a.q),.slice a.b.A a.b.n a.b.c,.slice a.b.A2 a.b.n2 a.b.c2,.int .i64 a.op] 37)
    obtain ⟨w14,ew14⟩:∃ x0,x0=w13.alloc (.cells #[.slice aA a.n a.c,.bool (ratNeg a.q),.slice a.b.A a.b.n a.b.c,.slice a.b.A2 a.b.n2 a.b.c2,.int .i64 a.op] 37):=⟨_,rfl⟩
    rw [←ew14] at hx8 zw14 aw14 ⊢;clear ew14
    obtain ⟨g8,hg8⟩:∃ x0,x0=w13.heap.size:=⟨_,rfl⟩
    rw [←hg8] at hx8 ⊢;obtain ⟨x0,x1,x2,x3,x4⟩:=bx5 hx8;have H14:=Lib.hid (And.intro hx8 aw14);have HOK14:=Lib.hid (HOK.out.1.below aw14);clear hx8 aw14 zw14 hg8 y0 y1 y2 y3 y4
    go_wp2_with fail
    clear x0 x1 x2 x3 x4
    go_loopw [9,53] (fun y x wr=>∃ (j:Nat) (b:Bool),j≤a.n∧x=.int .i64 j∧y=.bool b∧(b=true→lo.length<5∧∀ t ∈ a.l.take j,0≤t.2.1∧t.2.1<((3:Nat):Int))∧Below w14.heap.size w14 wr) (fun _ x _=>a.n - (intOf x).toNat)
    case atStart=>exact ⟨0,_,Nat.zero_le _,by first | rfl | go_num,rfl,fun hb=>⟨by have:=of_decide_eq_true hb;omega,by simp⟩,Below.refl _ _⟩
    case round =>
     obtain ⟨j,b,hjn,rfl,rfl,hbt,hbw⟩:=hrel
     obtain ⟨w15,rfl⟩:∃ x,x=wr:=⟨_,rfl⟩
     by_cases hlt2:j<a.n
     · obtain ⟨gT,oT,t,eT,hti,z0,z1,z2,z3⟩:=(HOK14.out.tms.below hbw).rd.at4 HOK14.out.tms.len hlt2
       have e2:=HAA.out.trans eT;subst e2
       have d1:(0:Int)≤(j:Int):=by omega
       have d2:(j:Int)<(a.n:Int):=by omega
       have HTI:=Lib.hid hti;have HBT:=Lib.hid hbt;have HBW:=Lib.hid hbw;clear eT hti hbt hbw
       go_upto_region 13 with fail
       have hx11:=heap_alloc_new w15 (.cells #[.int .i64 t.2.1,.bool (ratNeg t.2.2),.slice t.1.A t.1.n t.1.c,.slice t.1.A2 t.1.n2 t.1.c2] 44)
       have zw16:(w15.alloc (.cells #[.int .i64 t.2.1,.bool (ratNeg t.2.2),.slice t.1.A t.1.n t.1.c,.slice t.1.A2 t.1.n2 t.1.c2] 44)).heap.size=w15.heap.size+1:=by simp
       have aw16:=(Below.refl w15.heap.size w15).alloc (Nat.le_refl _) (.cells #[.int .i64 t.2.1,.bool (ratNeg t.2.2),.slice t.1.A t.1.n t.1.c,.slice t.1.A2 t.1.n2 t.1.c2] 44)
       obtain ⟨w16,ew16⟩:∃ x0,x0=w15.alloc (.cells #[.int .i64 t.2.1,.bool (ratNeg t.2.2),.slice t.1.A t.1.n t.1.c,.slice t.1.A2 t.1.n2 t.1.c2] 44):=⟨_,rfl⟩
       rw [←ew16] at hx11 zw16 aw16 ⊢;clear ew16;have r0:=cell_of_blk hx11 0;have HA16:=Lib.hid (HBW.out.trans (aw16.mono HBW.out.size));clear hx11 aw16 zw16 z0 z1 z2 z3
       obtain ⟨tv,htv⟩:∃ x,x=t.2.1:=⟨_,rfl⟩
       simp only [List.getElem?_toArray,List.getElem?_cons_zero] at r0;rw [←htv] at r0;have HTV:=Lib.hid htv;clear htv
       by_cases hb1:b=true∧0≤tv∧tv<3
       · obtain ⟨hb0,h1,h2⟩:=hb1
         subst hb0;have h1':tv≥0:=h1
         go_wp2_with fail
         go_roundw
         case rel =>
          refine ⟨j+1,true,by omega,by go_num,rfl,fun _=>⟨(HBT.out rfl).1,fun u hu=>?_⟩,HA16.out⟩;rw [List.take_add_one,HTI.out] at hu;rcases List.mem_append.1 hu with hu | hu
          · exact (HBT.out rfl).2 u hu
          · simp at hu
            rw [hu,←HTV.out];exact ⟨h1,h2⟩
         case measure=>simp [intOf];omega
       · cases b
         · go_wp2_with fail
           go_roundw
           case rel=>exact ⟨j+1,false,by omega,by go_num,rfl,(fun hb=>absurd hb (by decide)),HA16.out⟩
           case measure=>simp [intOf];omega
         · by_cases h1:0≤tv
           · have h2:¬ tv<3:=fun h2=>hb1 ⟨rfl,h1,h2⟩
             have h1':tv≥0:=h1;clear hb1
             go_wp2_with fail
             go_roundw
             case rel=>exact ⟨j+1,false,by omega,by go_num,rfl,(fun hb=>absurd hb (by decide)),HA16.out⟩
             case measure=>simp [intOf];omega
           · have h1':¬ tv≥0:=h1
             clear hb1
             go_wp2_with fail
             go_roundw
             case rel=>exact ⟨j+1,false,by omega,by go_num,rfl,(fun hb=>absurd hb (by decide)),HA16.out⟩
             case measure=>simp [intOf];omega
     · have hjn2:j=a.n:=by omega
       have hlt3:¬ ((j:Int)<(a.n:Int)):=by omega
       have k16:=H14.out.2.trans (hbw.mono H14.out.2.size);have hx8:=box_keep H14.out.1 hbw;have htk:=HTK.out.below k16;have hok:=HOK.out.1.below k16
       have hall:∀ t ∈ a.l.take j,t ∈ a.l:=fun t ht=>List.mem_of_mem_take ht
       have hful:a.l.take j=a.l:=by rw [hjn2,←hok.tms.len,List.take_length]
       rw [hful] at hbt;clear hbw hall hful
       cases b
       · have HTK2:=Lib.hid htk
         have HSK:=Lib.hid (Nat.le_trans HS12.out k16.size);clear htk hok hbt hx8 k16
         go_wp2_with fail
         go_roundw
         case rel=>exact ⟨i+1,lo,by omega,by go_num,HTK2.out,HSK.out⟩
         case measure=>simp [intOf];omega
       · obtain ⟨h5,hr⟩:=hbt rfl
         obtain ⟨x0,x1,x2,x3,x4⟩:=bx5 hx8;have hal:=(Below.refl w15.heap.size w15).alloc (Nat.le_refl _) (.cells #[.slice aA a.n a.c,.bool (ratNeg a.q),.slice a.b.A a.b.n a.b.c,.slice a.b.A2 a.b.n2 a.b.c2,.int .i64 a.op] 37);have HRD:=Lib.hid (rd_of_blk (heap_alloc_new w15 (.cells #[.slice aA a.n a.c,.bool (ratNeg a.q),.slice a.b.A a.b.n a.b.c,.slice a.b.A2 a.b.n2 a.b.c2,.int .i64 a.op] 37)) (by rfl:(#[.slice aA a.n a.c,.bool (ratNeg a.q),.slice a.b.A a.b.n a.b.c,.slice a.b.A2 a.b.n2 a.b.c2,.int .i64 a.op]:Array Value).size=5));have HTK2:=Lib.hid (htk.below hal);have HOK2:=Lib.hid (And.intro (hok.below hal) (And.intro h5 hr));have HSZ:=Lib.hid (Nat.le_trans HS12.out (Nat.le_trans k16.size hal.size));have HLB:=Lib.hid (show (lo.length+1)*88≤140737488355328 by omega);clear htk hok hbt hx8 k16 hal h5 hr
         go_wp2_with (at_builtin;refine appRk w9.heap.size _ 5 37 rfl _ _ 40 rfl i0 _ 88 Tryz.underlying40 hi hz0 hz1 hz2 rfl (by decide) (by decide) (.slice Av lo.length cv) lo.length (atmsL lo) rfl HTK2.out.bel9.size HTK2.out.own _ 1 1 [.slice aA a.n a.c,.bool (ratNeg a.q),.slice a.b.A a.b.n a.b.c,.slice a.b.A2 a.b.n2 a.b.c2,.int .i64 a.op] rfl HRD.out (five_one _ _ _ _ _ _ _ _ _ _ _) HLB.out ?_;intro v17 w17 ho17 hf17 hk17;have HTK3:=Lib.hid (HTK2.out.app (a:=a) HSZ.out (by rw [←HGE.out];exact HNN.out) (by unfold AB.cells;rw [←HAA.out];exact ho17) hf17 hk17 HOK2.out.2.1 HOK2.out.1 HOK.out.2 HOK2.out.2.2);have HFS:=Lib.hid hf17.size;clear ho17 hf17 hk17)
         go_roundw
         case rel=>exact ⟨i+1,lo ++ [a],by omega,by go_num,HTK3.out,Nat.le_trans HSZ.out HFS.out⟩
         case measure=>simp [intOf];omega
  · obtain rfl:n2=i:=by omega
    have hlt2:¬ ((n2:Int)<(n2:Int)):=by omega
    obtain ⟨Av,cv,ev,hcv,hrdv⟩:=ownsRow_form htk.own;subst ev
    have hav:AtmsAt w13 Av lo.length cv lo 12 8:=⟨hrdv,rfl,hcv,htk.each⟩
    have hsl:=solve2 Av lo.length cv lo w13 hav htk.few htk.tin htk.rng;have hx4:=box_keep H9.out.1 htk.bel9
    have hblk:∀ b off,Av=some ⟨b,off,none⟩→w9.heap.size≤b:=fun b off e=>by
     subst e;exact (own_lt htk.own rfl).1
    have hg49:g4<w9.heap.size:=lt_of_blk H9.out.1;have H13:=Lib.hid (And.intro hav (And.intro hx4 (And.intro htk.tin (And.intro htk.rng htk.bel9))));have HBLK:=Lib.hid (And.intro hblk hg49);have HSL:=Lib.hid hsl;have hfew:lo.length≤5:=htk.few;clear hav hsl hx4 htk hcv hrdv hblk hg49 HTA HNN HGE hin hlt
    go_upto_region 18 with fail
    clear hlt2
    go_upto_region 19 with (go_at_call 5;refine HSL.out.mono ?_;clear HSL;rintro e w14 ⟨f,A5,n5,c5,A6,n6,c6,rfl,hb14,hcase⟩;have H14:=Lib.hid (And.intro hcase (And.intro hb14 (box_keep H13.out.2.1 hb14)));obtain ⟨p0,p1,p2⟩:=box3 H14.out.2.2;have z0:=frozen_of_blk H14.out.2.2 0;have z1:=frozen_of_blk H14.out.2.2 1;have z2:=frozen_of_blk H14.out.2.2 2;clear hb14 hcase)
    obtain ⟨w15,hw15⟩:∃ x0,x0=((w14.setCell ⟨g4,0,none⟩ (.bool f)).setCell ⟨g4,1,none⟩ (.slice A5 n5 c5)).setCell ⟨g4,2,none⟩ (.slice A6 n6 c6):=⟨_,rfl⟩
    rw [←hw15]
    have hx15:w15.heap[g4]?=some (.cells #[.bool f,.slice A5 n5 c5,.slice A6 n6 c6] 32 (0,0)):=by
     rw [hw15];exact set_blk (set_blk (set_blk H14.out.2.2 0 (.bool f)) 1 (.slice A5 n5 c5)) 2 (.slice A6 n6 c6)
    have hfr:Fr (fun b=>b=g4) w14 w15:=by
     rw [hw15];exact fr_set (fr_set (fr_set (Fr.refl _ _) (.inl rfl)) (.inl rfl)) (.inl rfl)
    have hav:AtmsAt w15 Av lo.length cv lo 12 8:=(H13.out.1.below H14.out.2.1).frL hfr (fun b off e _ hb=>by
     have h1:=HBLK.out.1 b off e;have h2:=HBLK.out.2
     omega) (typ_of H14.out.2.2 (by decide))
    have hk15:Below w.heap.size w w15:=by
     have h1:=H9.out.2.1.trans (H13.out.2.2.2.2.mono H9.out.2.1.size);have h2:=h1.trans (H14.out.2.1.mono h1.size);exact h2.trans (hfr.below h2.size (fun b hb=>by rw [hb];exact H9.out.2.2))
    have hcase:(f=true∧∃ x0 x1 x2,∀ a ∈ lo,SatA a x0 x1 x2)∨(f=false∧∃ (g:Nat) (t:Nat→Rat),A6=some ⟨g,0,none⟩∧n6=lo.length∧RRow w15 g lo.length t 4∧Fark (pbOf 3 lo) t):=by
     rcases H14.out.1 with h | ⟨h,g,t,e1,e2,hg,hr,hF⟩
     · exact .inl h
     · refine .inr ⟨h,g,t,e1,e2,hr.fr hfr (fun _ e=>?_) (typU_of H14.out.2.2 (by decide)),hF⟩
       have h1:=HBLK.out.2;have h2:=H13.out.2.2.2.2.size;omega
    have htg:(elimN (bdsL lo) 3).all okB=f:=by
     have hi:=tog_iff (l:=lo) (fun a ha=>⟨(hav.each a ha).lo,(hav.each a ha).hi⟩);rcases hcase with ⟨h,hs⟩ | ⟨h,g,t,_,_,_,hF⟩
     · rw [h]
       exact hi.2 hs
     · rw [h]
       cases hh:(elimN (bdsL lo) 3).all okB with
       | false=>rfl
       | true=>exact (fark_inf hF (hi.1 hh)).elim
    have hli:=fun W (hW:Below w15.heap.size w15 W)=>tlist_any Av lo.length cv lo 12 8 98 W (hav.below hW) (by omega) (by decide) (by decide) (fun a ha t ht=>qle_fit (((H13.out.2.2.1 a ha).1 t ht).up (by unfold HB9;decide)))
    have hto:=fun W A' c' lt (h:TasAt W A' lo.length c' lt lo 98)=>together_any A' lo.length c' lt lo W h hfew (fun a ha=>tfit_of (H13.out.2.2.1 a ha) (by have h1:=(hav.each a ha).tms.len;have h2:=(hav.each a ha).few;omega) (hav.each a ha).few (H13.out.2.2.2.1 a ha)) (fun a ha=>⟨(hav.each a ha).lo,(hav.each a ha).hi⟩)
    rw [htg] at hto
    have hcs:∀ W',Below w15.heap.size w15 W'→W'.cell? ⟨g4,0,none⟩=some (.bool f):=fun W' hb=>cell_of_blk (box_keep hx15 hb) 0
    have H15:=Lib.hid (And.intro hx15 (And.intro hav (And.intro hk15 hcase)));have HLI:=Lib.hid hli;have HTO:=Lib.hid hto;have HCS:=Lib.hid hcs;clear hw15 hx15 hfr hav hk15 hcase htg hli hto hcs p0 p1 p2 z0 z1 z2
    go_cut [90] (fun x wx=>x=.bool false∧Below w15.heap.size w15 wx)
    case first =>
     have kb:Below w15.heap.size w15 w15.drew:=below_drew2 (Below.refl _ _);have hS:=HCS.out w15.drew kb;refine wp_region_E 99 (fun W'=>W'.cell? ⟨g4,0,none⟩=some (.bool f)) (by kernel_rfl) ?_;generalize w15.drew=w16 at kb hS ⊢;clear H15;refine tkE 0 hS ?_;simp only [Act.put,sA,sZ,sS];refine tkE 1 hS ?_;simp only [Act.put,sA,sZ,sS];refine tkE 2 hS ?_;simp only [Act.put,sA,sZ,sS];refine tkE 3 hS ?_;simp only [Act.put,sA,sZ,sS];refine tkE 4 hS ?_;simp only [Act.put,sA,sZ,sS];refine tkE 5 hS ?_;simp only [Act.put,sA,sZ,sS]
     refine onE 6 fun KK HKK6=>?_
     go_simp
     go_at_call 11
     refine (HLI.out _ kb).mono ?_;rintro e u1 ⟨A7,c7,lt,rfl,hta7,hb1⟩;have hS:=HCS.out u1 (kb.trans (hb1.mono kb.size));replace kb:=kb.trans (hb1.mono kb.size);clear hb1;refine HKK6.out _ _ (.inr hS) ?_;clear HKK6
     try simp only [Act.put,sA,sZ,sS]
     refine onE 7 fun KK HKK7=>?_
     go_simp
     go_at_call 10
     refine (HTO.out _ A7 c7 lt hta7).mono ?_;rintro e u2 ⟨rfl,hb2⟩;clear hta7;have hS:=HCS.out u2 (kb.trans (hb2.mono kb.size));replace kb:=kb.trans (hb2.mono kb.size);clear hb2;refine HKK7.out _ _ (.inr hS) ?_;clear HKK7
     try simp only [Act.put,sA,sZ,sS]
     refine onE 8 fun KK HKK8=>?_
     go_simp;refine HKK8.out _ _ (.inr hS) ?_;clear HKK8
     try simp only [Act.put,sA,sZ,sS]
     refine onE 9 fun KK HKK9=>?_
     go_simp;refine HKK9.out _ _ (.inr hS) ?_;clear HKK9
     try simp only [Act.put,sA,sZ,sS]
     refine wpAnyE_done (by kernel_rfl) ?_ _;have HKB:=Lib.hid kb;clear kb hS
     go_wp2_with fail
     go_meet;exact ⟨by simp,HKB.out⟩
    case rest =>
    obtain ⟨rfl,hb16⟩:=hcut
    obtain ⟨w17,rfl⟩:∃ x0,x0=wc:=⟨_,rfl⟩
    have H17:=Lib.hid (And.intro (box_keep H15.out.1 hb16) (And.intro (H15.out.2.1.below hb16) (H15.out.2.2.1.trans (hb16.mono H15.out.2.2.1.size))));obtain ⟨p0,p1,p2⟩:=box3 H17.out.1;have HB16:=Lib.hid hb16;clear hb16 HLI HTO HCS
    cases f
    · obtain ⟨gt,t,e6,en6,hrt,hF⟩:∃ (g:Nat) (t:Nat→Rat),A6=some ⟨g,0,none⟩∧n6=lo.length∧RRow w15 g lo.length t 4∧Fark (pbOf 3 lo) t:=by
       rcases H15.out.2.2.2 with ⟨h,_⟩ | ⟨_,h⟩
       · cases h
       · exact h
      subst e6;subst en6;have hlen:=fark_len hF;have hrt17:=hrt.below HB16.out
      have hle:=fun W (hW:Below w17.heap.size w17 W)=>least_any gt lo.length c6 4 t W (hrt17.below hW) (by omega) hlen (by decide)
      have hus:=fun W (hW:Below w17.heap.size w17 W)=>used_any gt lo.length c6 4 t W (hrt17.below hW) (by omega)
      have hrf:=fun W go c8 (s8:Rat) (hW:Below w17.heap.size w17 W) (hr:RRow W go lo.length (fun i=>t i*s8) 8) (hs:0<s8)=>refutes_any Av lo.length cv lo 12 4 go c8 (fun i=>t i*s8) W ((H17.out.2.1.four H13.out.2.2.1).below hW) (by omega) (by decide) (by decide) hr H13.out.2.2.2.1 (fits_of H17.out.2.1 (by decide) H13.out.2.2.1) (hF.scale hs)
      have HLE:=Lib.hid hle;have HUS:=Lib.hid hus;have HRF:=Lib.hid hrf;have HFK:=Lib.hid hF;clear hle hus hrf hF hrt hrt17 hlen H15 H14
      go_upto_region 24 with (first | (go_at_call 13;refine (HLE.out _ (Below.refl _ _)).mono ?_;clear HLE;rintro e w18 ⟨go,c8,s8,rfl,hr8,hs8,hb18⟩;have H18:=Lib.hid (And.intro hr8 (And.intro hs8 hb18));clear hr8 hs8 hb18) | (go_at_call 12;refine (HRF.out _ go c8 s8 H18.out.2.2 H18.out.1 H18.out.2.1).mono ?_;clear HRF;rintro e w19 ⟨rfl,hb19⟩;have H19:=Lib.hid (H18.out.2.2.trans (hb19.mono H18.out.2.2.size));clear hb19))
      go_upto_region 25 with fail
      have hx20:=heap_alloc_new w19 (.cells #[] 37)
      have zw20:(w19.alloc (.cells #[] 37)).heap.size=w19.heap.size+1:=by simp
      have aw20:=(Below.refl w19.heap.size w19).alloc (Nat.le_refl _) (.cells #[] 37)
      obtain ⟨w20,ew20⟩:∃ x0,x0=w19.alloc (.cells #[] 37):=⟨_,rfl⟩
      rw [←ew20] at hx20 zw20 aw20 ⊢;clear ew20
      obtain ⟨g14,hg14⟩:∃ x0,x0=w19.heap.size:=⟨_,rfl⟩
      rw [←hg14] at hx20 ⊢;have k1720:=H19.out.trans (aw20.mono H19.out.size);have H20:=Lib.hid (And.intro hx20 (And.intro aw20 (And.intro hg14 k1720)));clear hx20 aw20 zw20 hg14 k1720 p0 p1 p2;obtain ⟨p0,p1,p2⟩:=box3 (box_keep H17.out.1 H20.out.2.2.2)
      go_upto_region 26 with (go_at_call 14;refine (HUS.out _ H20.out.2.2.2).mono ?_;clear HUS;rintro e w21 ⟨Au,cu,rfl,hru,hb21⟩;have H21:=Lib.hid (And.intro hru hb21);clear hru hb21)
      clear p0 p1 p2
      obtain ⟨us,hue⟩:∃ x,x=usedL t lo.length:=⟨_,rfl⟩
      have hun:us.length≤lo.length:=by rw [hue];exact usedL_len t _
      have hult:∀ i ∈ us,i<lo.length:=fun i hi=>by rw [hue] at hi;exact usedL_lt hi
      have hpn:¬ ∃ x0 x1 x2,∀ a ∈ pickL lo us,SatA a x0 x1 x2:=fun h=>by rw [hue] at h;exact pick_no HFK.out h
      have hru:Rd w21 1 Au us.length (natsL us):=by rw [hue];exact H21.out.1
      rw [←hue];have hx21:=box_keep H20.out.1 H21.out.2;have k1721:=H20.out.2.2.2.trans (H21.out.2.mono H20.out.2.2.2.size);have k1921:Below w19.heap.size w19 w21:=H20.out.2.1.trans (H21.out.2.mono H20.out.2.1.size);have hsrc:=H17.out.2.1.below k1721
      have hnn:∀ b off,Av=some ⟨b,off,none⟩→0<lo.length→b≠w19.heap.size∧b<w21.heap.size:=fun b off e h0=>by
       have h1:=hsrc.not_nil hx21 b off e h0;rw [H20.out.2.2.1] at h1;exact h1
      have hnu:∀ b off,Au=some ⟨b,off,none⟩→0<us.length→b≠w19.heap.size∧b<w21.heap.size:=fun b off e h0=>by
       have h1:=nats_nil hru hx21 b off e h0;rw [H20.out.2.2.1] at h1;exact h1
      have hown0:w21.ownsRow w19.heap.size 37 5 (.slice (some ⟨g14,0,none⟩) 0 0) 0 (atmsL []):=by
       refine ⟨rfl,.inr ⟨g14,0,#[],rfl,by rw [H20.out.2.2.1];exact Nat.le_refl _,hx21,Nat.le_refl _,by unfold maxLen;omega,rfl,rfl⟩⟩
      have hblk0:∀ b,(Value.slice (some ⟨g14,0,none⟩) 0 0).ownBlock=some b→b=w19.heap.size∨w21.heap.size≤b:=fun b hb=>by
       have h1:g14=b:=by simpa [Value.ownBlock] using hb
       rw [←h1,H20.out.2.2.1];exact .inl rfl
      have htk0:Tkn w19 w21 w21 (.slice (some ⟨g14,0,none⟩) 0 0) [] lo Av lo.length cv:=⟨hown0,hblk0,by simp,by simp,by simp,fun a ha=>by simp at ha,hsrc,k1921⟩
      have HT0:=Lib.hid (And.intro htk0 hru);have HNN:=Lib.hid hnn;have HNU:=Lib.hid hnu;have HUL:=Lib.hid hult;have HPN:=Lib.hid hpn;have HK:=Lib.hid (H17.out.2.2.trans (H19.out.mono H17.out.2.2.size));have HTI:=Lib.hid (And.intro H13.out.2.2.1 H13.out.2.2.2.1);clear hue hult hpn hru hx21 k1721 k1921 hsrc hnn hnu hown0 hblk0 htk0 H21 H20 HFK H19 H17 H13
      go_loopw [14,106] (fun v x wr=>∃ (j:Nat) (so:List AB),j≤us.length∧x=.int .i64 j∧so=pickL lo (us.take j)∧Tkn w19 w21 wr v so lo Av lo.length cv∧Rd wr 1 Au us.length (natsL us)∧w21.heap.size≤wr.heap.size) (fun _ x _=>us.length - (intOf x).toNat)
      case atStart=>exact ⟨0,[],Nat.zero_le _,by first | rfl | go_num,rfl,HT0.out.1,HT0.out.2,Nat.le_refl _⟩
      case round =>
       obtain ⟨j,so,hjn,rfl,hso,htk,hru,hs21⟩:=hrel
       obtain ⟨w22,rfl⟩:∃ x,x=wr:=⟨_,rfl⟩
       have HS21:=Lib.hid hs21;have HSO:=Lib.hid hso;clear HT0 hs21 hso;obtain ⟨As,cs,ev,hcs,hrds⟩:=ownsRow_form htk.own;subst ev
       by_cases hlt:j<us.length
       · obtain ⟨gU,oU,i,eU,hui,y0⟩:=nats_at hru hlt
         subst eU;have hil:i<lo.length:=HUL.out i (List.mem_of_getElem? hui);obtain ⟨gA,oA,a,ea,hai,y1,y2,y3,y4,y5⟩:=htk.src.rd.at5 htk.src.len hil;subst ea;have hma:=List.mem_of_getElem? hai;have hok:=htk.src.each a hma
         have hso5:so.length≤j:=by rw [HSO.out];exact Nat.le_trans (pickL_len _ _) (by rw [List.length_take];exact Nat.min_le_left _ _)
         have c1:(0:Int)≤(j:Int):=by omega
         have c2:(j:Int)<(us.length:Int):=by omega
         have c3:(0:Int)≤(i:Int):=by omega
         have c4:(i:Int)<(lo.length:Int):=by omega
         have c5:¬ (i:Int)<0:=by omega
         have c6:¬ (i:Int)≥(lo.length:Int):=by omega
         have c7:¬ (lo.length:Int)≤(i:Int):=by omega
         have hal:=(Below.refl w22.heap.size w22).alloc (Nat.le_refl _) (.cells #[.slice a.A a.n a.c,.bool (ratNeg a.q),.slice a.b.A a.b.n a.b.c,.slice a.b.A2 a.b.n2 a.b.c2,.int .i64 a.op] 37);have HRD:=Lib.hid (rd_of_blk (heap_alloc_new w22 (.cells #[.slice a.A a.n a.c,.bool (ratNeg a.q),.slice a.b.A a.b.n a.b.c,.slice a.b.A2 a.b.n2 a.b.c2,.int .i64 a.op] 37)) (by rfl:(#[.slice a.A a.n a.c,.bool (ratNeg a.q),.slice a.b.A a.b.n a.b.c,.slice a.b.A2 a.b.n2 a.b.c2,.int .i64 a.op]:Array Value).size=5));have HTK2:=Lib.hid (htk.below hal);have HRU2:=Lib.hid (hru.below hal);have HOK2:=Lib.hid (And.intro (hok.below hal) (And.intro (HTI.out.1 a hma) (HTI.out.2 a hma)));have HSZ:=Lib.hid (Nat.le_trans HS21.out hal.size);have HLB:=Lib.hid (show (so.length+1)*88≤140737488355328 by omega);have HL5:=Lib.hid (show so.length<5 by omega)
         have HPK:so ++ [a]=pickL lo (us.take (j+1)):=by
          rw [List.take_add_one,hui,HSO.out];exact (pickL_app lo _ hai).symm
         have HPK2:=Lib.hid HPK;clear htk hru hok hma hai hui hal hso5 hcs hrds hlt HPK
         go_wp2_with (at_builtin;refine appRk w19.heap.size _ 5 37 rfl _ _ 40 rfl i0 _ 88 Tryz.underlying40 hi hz0 hz1 hz2 rfl (by decide) (by decide) (.slice As so.length cs) so.length (atmsL so) rfl HTK2.out.bel9.size HTK2.out.own _ 1 1 [.slice a.A a.n a.c,.bool (ratNeg a.q),.slice a.b.A a.b.n a.b.c,.slice a.b.A2 a.b.n2 a.b.c2,.int .i64 a.op] rfl HRD.out (five_one _ _ _ _ _ _ _ _ _ _ _) HLB.out ?_;intro v23 w23 ho23 hf23 hk23;have HTK3:=Lib.hid (HTK2.out.app (a:=a) HSZ.out HNN.out (by unfold AB.cells;exact ho23) hf23 hk23 HL5.out HOK2.out.1 HOK2.out.2.1 HOK2.out.2.2);have HRU3:=Lib.hid (nats_fr HRU2.out hf23 (fun b off e h0 hb=>by have h1:=HNU.out b off e h0;have h2:=HTK2.out.blk b hb;omega));have HFS:=Lib.hid hf23.size;clear ho23 hf23 hk23)
         go_roundw
         case rel=>exact ⟨j+1,so ++ [a],by omega,by go_num,HPK2.out,HTK3.out,HRU3.out,Nat.le_trans HSZ.out HFS.out⟩
         case measure=>simp [intOf];omega
       · have hlt2:¬ ((j:Int)<(us.length:Int)):=by omega
         have hful:so=pickL lo us:=by rw [HSO.out,List.take_of_length_le (by omega)]
         have hsl:=solve2 As so.length cs so w22 ⟨hrds,rfl,hcs,htk.each⟩ htk.few htk.tin htk.rng;have HB22:=Lib.hid (HK.out.trans (htk.bel9.mono HK.out.size));have HSL:=Lib.hid hsl
         have hno:¬ ∃ x0 x1 x2,∀ a ∈ so,SatA a x0 x1 x2:=by rw [hful];exact HPN.out
         have HNO:=Lib.hid hno;clear hful hsl htk hru hrds hcs hno HPN HSO HTI HUL HNU HNN HK HS21
         go_upto_region 32 with fail
         clear hlt2
         go_upto_region 33 with (go_at_call 5;refine HSL.out.mono ?_;clear HSL;rintro e w23 ⟨f2,A7,n7,c7,A8,n8,c8,rfl,hb23,hcase⟩;obtain rfl:f2=false:=hcase.elim (fun h=>(HNO.out h.2).elim) (fun h=>h.1);have HB23:=Lib.hid (HB22.out.trans (hb23.mono HB22.out.size));clear hb23 hcase)
         have hx24:=heap_alloc_new w23 (.cells #[.bool false,.slice A7 n7 c7,.slice A8 n8 c8] 32)
         have zw24:(w23.alloc (.cells #[.bool false,.slice A7 n7 c7,.slice A8 n8 c8] 32)).heap.size=w23.heap.size+1:=by simp
         have aw24:=(Below.refl w23.heap.size w23).alloc (Nat.le_refl _) (.cells #[.bool false,.slice A7 n7 c7,.slice A8 n8 c8] 32)
         obtain ⟨w24,ew24⟩:∃ x0,x0=w23.alloc (.cells #[.bool false,.slice A7 n7 c7,.slice A8 n8 c8] 32):=⟨_,rfl⟩
         rw [←ew24] at hx24 zw24 aw24 ⊢;clear ew24;have q0:=cell_of_blk hx24 0;simp only [List.getElem?_toArray,List.getElem?_cons_zero] at q0;have HEND:=Lib.hid (HB23.out.trans (aw24.mono HB23.out.size));clear hx24 aw24 zw24
         go_wp2_with fail
         go_ret;exact ⟨rfl,HEND.out⟩
    · go_wp2_with fail
      go_ret;exact ⟨rfl,H17.out.2.2⟩
end Go.Proofs.YtdefcbfofonabaaGreat
