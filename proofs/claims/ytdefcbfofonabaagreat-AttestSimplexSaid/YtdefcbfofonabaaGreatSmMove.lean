/- Contract of (*simplex.table).move. -/
import Derived.Test.YtdefcbfofonabaaGreatSmMake
import Derived.Test.YtdefcbfofonabaaGreatSmRoom
import Derived.Test.YtdefcbfofonabaaGreatSmCheck
import Derived.Test.YtdefcbfofonabaaGreatRegE
import Derived.Test.YtdefcbfofonabaaGreatRatE
import Derived.BigRegion
import Derived.RegionTactic
namespace Go.Proofs.YtdefcbfofonabaaGreat
open Go.RowKit
set_option linter.unusedVariables false
set_option linter.unusedSimpArgs false
theorem dsub_le {x y:Dl} {k:Nat} (h1:DLe x k) (h2:DLe y k):DLe (dsub x y) (k+k+1):=by
 refine ⟨?_,?_⟩
 · show RatLe (x.a - y.a) _
   rw [Rat.sub_eq_add_neg];exact add_le h1.a (neg_le h2.a)
 · show RatLe (x.b - y.b) _
   rw [Rat.sub_eq_add_neg];exact add_le h1.b (neg_le h2.b)
theorem tab_cells {w:World} {B:Nat} {T:TL} {P:Pb} {S:Sx} {k:Nat} (h:TabAt w B T P S k) (h0:0<P.m) (W':World) (hb:w=W'):W'.cell? ⟨T.g,0,none⟩=some (.int .i64 (P.nv:Int))∧W'.cell? ⟨T.g,2,none⟩=some (.slice (some ⟨T.gb,0,none⟩) P.m T.bc)∧W'.cell? ⟨T.g,3,none⟩=some (.slice (some ⟨T.gr,0,none⟩) (P.nv+P.m) T.rc)∧W'.cell? ⟨T.g,4,none⟩=some (.slice (some ⟨T.ga,0,none⟩) P.m T.ac)∧W'.cell? ⟨T.g,5,none⟩=some (.slice (some ⟨T.gv,0,none⟩) (P.nv+P.m) T.vc)∧W'.cell? ⟨T.g,6,none⟩=some (.slice (some ⟨T.gh,0,none⟩) P.m T.hc):=by
 subst hb;obtain ⟨x0,x1,x2,x3,x4,x5,x6⟩:=box7 h;rw [h.bA h0] at x2;rw [h.aA h0] at x4;rw [h.hA h0] at x6;exact ⟨x0,x2,x3,x4,x5,x6⟩
structure MvC (w0 w:World) (B:Nat) (T:TL) (P:Pb) (S:Sx) (K:Nat) (g7:Nat) (b7:RB) (by_:Rat) (g9:Nat) (d9:DB) (st:Dl):Prop where
 tab:TabAt w B T P S K
 x7:w.heap[g7]?=some (.cells #[.bool (ratNeg by_),.slice b7.A b7.n b7.c,.slice b7.A2 b7.n2 b7.c2] 26 (0,0))
 r7:RatAt w b7 by_
 x9:w.heap[g9]?=some (.cells #[.bool (ratNeg st.a),.slice d9.a.A d9.a.n d9.a.c,.slice d9.a.A2 d9.a.n2 d9.a.c2,.bool (ratNeg st.b),.slice d9.b.A d9.b.n d9.b.c,.slice d9.b.A2 d9.b.n2 d9.b.c2] 108 (0,0))
 r9:DAt w d9 st
 bel:Below B w0 w
section
variable {w0 w w':World} {B:Nat} {T:TL} {P:Pb} {S S':Sx} {K g7 g9:Nat} {b7:RB} {by_:Rat} {d9:DB} {st:Dl}
theorem MvC.below (h:MvC w0 w B T P S K g7 b7 by_ g9 d9 st) (hB:B≤w0.heap.size) (hb:Below w.heap.size w w'):MvC w0 w' B T P S K g7 b7 by_ g9 d9 st :=
 ⟨h.tab.below hb,box_keep h.x7 hb,h.r7.below hb,box_keep h.x9 hb,h.r9.below hb,h.bel.trans (hb.mono (Nat.le_trans hB h.bel.size))⟩
theorem MvC.turn {b:Nat} (h:MvC w0 w B T P S K g7 b7 by_ g9 d9 st) (hB:B≤w0.heap.size) (hf:Fr (fun x=>x=b) w w') (hS:NoU w (fun x=>x=b)) (hb:B≤b) (h7:g7≠b) (h9:g9≠b) (ht:TabAt w' B T P S' K):MvC w0 w' B T P S' K g7 b7 by_ g9 d9 st :=
 ⟨ht,(hf.block g7 (lt_of_blk h.x7) h7).trans h.x7,h.r7.frT hf hS,(hf.block g9 (lt_of_blk h.x9) h9).trans h.x9,h.r9.frT hf hS,h.bel.trans (hf.below (Nat.le_trans hB h.bel.size) (fun x hx=>by rw [hx];exact hb))⟩
theorem TabAt.far {N b:Nat} (h:TabAt w B T P S K) (ho:TOld T P N) (hb:N≤b) (hB:B≤N) (hf:Fr (fun x=>x=b) w w') (hS:NoU w (fun x=>x=b)):TabAt w' B T P S K :=
 h.turn hf (by omega) (by have:=ho.g;omega) (h.bas.fr hf fun h0=>by have:=(ho.b h0).1;omega) (h.row.fr hf fun _=>by have:=ho.r;omega) (h.val.fr hf (fun _=>by have:=ho.v;omega) hS) (h.his.fr hf (fun h0=>by have:=(ho.b h0).2.2;omega) hS) (h.out.fr hf fun h0=>by have:=(ho.b h0).2.1;omega) (fun i hi=>(h.rws i hi).fr hf (fun _=>by have:=ho.rb i hi;omega) hS)
theorem MvC.far {b:Nat} (h:MvC w0 w B T P S K g7 b7 by_ g9 d9 st) (ho:TOld T P w0.heap.size) (hb:w0.heap.size≤b) (hB:B≤w0.heap.size) (hf:Fr (fun x=>x=b) w w') (hS:NoU w (fun x=>x=b)) (h7:g7≠b) (h9:g9≠b):MvC w0 w' B T P S K g7 b7 by_ g9 d9 st :=
 h.turn hB hf hS (by omega) h7 h9 (h.tab.far ho hb hB hf hS)
theorem MvC.as {S':Sx} (h:MvC w0 w B T P S K g7 b7 by_ g9 d9 st) (ht:TabAt w B T P S' K):MvC w0 w B T P S' K g7 b7 by_ g9 d9 st:=⟨ht,h.x7,h.r7,h.x9,h.r9,h.bel⟩
theorem nwI_zero (S:Sx) (kx r:Nat) (by_:Rat):(fun _=>(0:Rat))=nwI S kx r by_ 0:=by
 funext i
 unfold nwI;rw [if_neg (by omega)]
end
set_option maxRecDepth 100000 in
set_option maxHeartbeats 8000000 in
theorem move_any (B:Nat) (T:TL) (P:Pb) (S:Sx) (K v u kx r:Nat) (w:World) (h:TabAt w B T P S K) (hB:B≤w.heap.size) (hK:K≤100000) (hK1:1≤K) (hv:v=P.nv+u) (hum:u<P.m) (hkN:kx<P.nv+P.m) (hr:S.row v=(r:Int)) (hrm:r<P.m) (hkr:S.row kx = -1) (ha:S.a r kx≠0) (hav:S.a r v=0)
 (hb1:∀ i,i<P.m→S.bas i<P.nv+P.m∧S.row (S.bas i)=(i:Int)) (hb2:∀ (j i:Nat),S.row j=(i:Int)→i<P.m∧S.bas i=j)
 (hla:∀ i j,i<P.m→j<P.nv+P.m→RatLe ((mov P S v kx).a i j) K) (hlv:∀ j,j<P.nv+P.m→DLe ((mov P S v kx).val j) K) :
 Calls Tryz.prog 21 #[.pointer (some ⟨T.g,0,none⟩),.int .i64 (v:Int),.int .i64 (kx:Int)] w fun e w'=>e=.returned (.tuple #[])∧∃ T':TL,T'.g=T.g∧TabAt w' B T' P (mov P S v kx) K∧Below B w w':=by
 have hm8:=h.mm;have hn3:=h.nvm
 have hm0:0<P.m:=by omega
 have hrow:rowOf S v=r:=by unfold rowOf;omega
 have hvN:v<P.nv+P.m:=by omega
 have hvk:v≠kx:=fun e=>by rw [e] at hr;omega
 have H:=Lib.hid h;have HV:=Lib.hid hv;have HRO:=Lib.hid (And.intro hrow hr);have HB:=Lib.hid (And.intro hb1 hb2);have HL:=Lib.hid (And.intro hla hlv);have HKR:=Lib.hid (And.intro hkr hav);have HOLD:=Lib.hid h.old
 have c1:(0:Int)≤(v:Int):=by omega
 have c2:(v:Int)<(P.nv:Int)+(P.m:Int):=by omega
 have c3:(0:Int)≤(r:Int):=by omega
 have c4:(r:Int)<(P.m:Int):=by omega
 have c5:IntKind.i64.wrap ((v:Int) - (P.nv:Int))=(u:Int):=by rw [IntWalk.i64_in _ (by omega)];omega
 have c6:(u:Int)<(P.m:Int):=by omega
 have c7:(0:Int)≤(u:Int):=by omega
 have c8:(0:Int)≤(kx:Int):=by omega
 have c9:(kx:Int)<(P.nv:Int)+(P.m:Int):=by omega
 obtain ⟨by_,hby⟩:∃ x,x=byOf S v kx:=⟨_,rfl⟩
 obtain ⟨st,hst⟩:∃ x,x=stepOf P S v kx:=⟨_,rfl⟩
 have hlby:RatLe by_ K:=by
  have:=hla r v hrm hvN;unfold mov nowOf at this;simp only [hrow,if_true] at this
  rwa [←hby] at this
 have hlst:DLe st (K+(K+K+1)):=by
  rw [hst];unfold stepOf dmul;rw [←hby]
  have h1:=(h.his.at_ u hum)
  have h2:=(h.val.at_ v hvN)
  obtain ⟨_,_,_,l1⟩:=h1;obtain ⟨_,_,_,l2⟩:=h2
  have e1:hiOf P v=P.hi u:=by
   unfold hiOf;rw [if_neg (by omega),hv,show P.nv+u - P.nv=u by omega]
  rw [e1];exact ⟨mul_le hlby (dsub_le l1 l2).a,mul_le hlby (dsub_le l1 l2).b⟩
 have HBY:=Lib.hid hby;have HST:=Lib.hid hst;have HLBY:=Lib.hid hlby;have HLST:=Lib.hid hlst;obtain ⟨x0,x2,x3,x4,x5,x6⟩:=tab_cells h hm0 w rfl;have hrv:=h.row.at_ v hvN;rw [hr] at hrv;have hor:=h.out.at_ r hrm;obtain ⟨rk,y0,y1,y2,hra,hrl⟩:=(h.rws r hrm).at_ kx hkN;have hinv:=inv_any rk (S.a r kx) w hra K (by omega) hrl ha
 have e1:(S.a r kx)⁻¹=by_:=by rw [hby];unfold byOf;rw [hrow]
 rw [e1] at hinv;unfold RB.val at hinv;have HINV:=Lib.hid hinv;clear hinv e1 hra hrl h hv hrow hr hb1 hb2 hla hlv hkr hav hby hst hlby hlst ha
 go_enter Tryz.func21,Tryz.ntmps21
 go_upto_region 2 with (go_at_call 34;refine HINV.out.mono ?_;clear HINV;rintro e w2 ⟨b7,rfl,hr7,hb2⟩;have HR7:=Lib.hid hr7;have HB2:=Lib.hid hb2;clear hr7 hb2)
 have hx7:=heap_alloc_new w2 (.cells #[.bool (ratNeg by_),.slice b7.A b7.n b7.c,.slice b7.A2 b7.n2 b7.c2] 26)
 have zw3:(w2.alloc (.cells #[.bool (ratNeg by_),.slice b7.A b7.n b7.c,.slice b7.A2 b7.n2 b7.c2] 26)).heap.size=w2.heap.size+1:=by simp
 have aw3:=(Below.refl w2.heap.size w2).alloc (Nat.le_refl _) (.cells #[.bool (ratNeg by_),.slice b7.A b7.n b7.c,.slice b7.A2 b7.n2 b7.c2] 26)
 obtain ⟨w3,ew3⟩:∃ x0,x0=w2.alloc (.cells #[.bool (ratNeg by_),.slice b7.A b7.n b7.c,.slice b7.A2 b7.n2 b7.c2] 26):=⟨_,rfl⟩
 rw [←ew3] at hx7 zw3 aw3 ⊢;clear ew3
 obtain ⟨g7,hg7⟩:∃ x0,x0=w2.heap.size:=⟨_,rfl⟩
 rw [←hg7] at hx7 ⊢;have hk3:=HB2.out.trans (aw3.mono HB2.out.size);have hr7:=HR7.out.below aw3
 have hg7o:w.heap.size≤g7:=by rw [hg7];exact HB2.out.size
 have h3:=H.out.below hk3;obtain ⟨dv,hvc,hvd,hvl⟩:=h3.val.at_ v hvN;obtain ⟨dh,hhc,hhd,hhl⟩:=h3.his.at_ u hum
 obtain ⟨xv,hxv⟩:∃ x,x=S.val v:=⟨_,rfl⟩
 obtain ⟨xh,hxh⟩:∃ x,x=P.hi u:=⟨_,rfl⟩
 rw [←hxv] at hvc hvd hvl;rw [←hxh] at hhc hhd hhl
 have hst3:st=dmul by_ (dsub xh xv):=by
  rw [HST.out,hxv,hxh,HBY.out];unfold stepOf hiOf;rw [if_neg (by have:=HV.out;omega),HV.out,show P.nv+u - P.nv=u by omega]
 have hcs:∀ W',Below w3.heap.size w3 W'→(W'.cell? ⟨T.g,0,none⟩=some (.int .i64 (P.nv:Int))∧W'.cell? ⟨T.g,2,none⟩=some (.slice (some ⟨T.gb,0,none⟩) P.m T.bc)∧W'.cell? ⟨T.g,3,none⟩=some (.slice (some ⟨T.gr,0,none⟩) (P.nv+P.m) T.rc)∧W'.cell? ⟨T.g,4,none⟩=some (.slice (some ⟨T.ga,0,none⟩) P.m T.ac)∧W'.cell? ⟨T.g,5,none⟩=some (.slice (some ⟨T.gv,0,none⟩) (P.nv+P.m) T.vc)∧W'.cell? ⟨T.g,6,none⟩=some (.slice (some ⟨T.gh,0,none⟩) P.m T.hc))∧(W'.cell? ⟨T.gv,v*6,none⟩=some (.bool (ratNeg xv.a))∧W'.cell? ⟨T.gv,v*6+1,none⟩=some (.slice dv.a.A dv.a.n dv.a.c)∧W'.cell? ⟨T.gv,v*6+2,none⟩=some (.slice dv.a.A2 dv.a.n2 dv.a.c2)∧W'.cell? ⟨T.gv,v*6+3,none⟩=some (.bool (ratNeg xv.b))∧W'.cell? ⟨T.gv,v*6+4,none⟩=some (.slice dv.b.A dv.b.n dv.b.c)∧W'.cell? ⟨T.gv,v*6+5,none⟩=some (.slice dv.b.A2 dv.b.n2 dv.b.c2))∧(W'.cell? ⟨T.gh,u*6,none⟩=some (.bool (ratNeg xh.a))∧W'.cell? ⟨T.gh,u*6+1,none⟩=some (.slice dh.a.A dh.a.n dh.a.c)∧W'.cell? ⟨T.gh,u*6+2,none⟩=some (.slice dh.a.A2 dh.a.n2 dh.a.c2)∧W'.cell? ⟨T.gh,u*6+3,none⟩=some (.bool (ratNeg xh.b))∧W'.cell? ⟨T.gh,u*6+4,none⟩=some (.slice dh.b.A dh.b.n dh.b.c)∧W'.cell? ⟨T.gh,u*6+5,none⟩=some (.slice dh.b.A2 dh.b.n2 dh.b.c2))∧(W'.cell? ⟨g7,0,none⟩=some (.bool (ratNeg by_))∧W'.cell? ⟨g7,1,none⟩=some (.slice b7.A b7.n b7.c)∧W'.cell? ⟨g7,2,none⟩=some (.slice b7.A2 b7.n2 b7.c2)):=fun W' hb=>by
  refine ⟨tab_cells (h3.below hb) hm0 W' rfl,?_,?_,box3 (box_keep hx7 hb)⟩
  · have k1:∀ {g i:Nat} {x:Value},w3.cell? ⟨g,i,none⟩=some x→W'.cell? ⟨g,i,none⟩=some x:=fun {g i x} e=>(hb.cell (p:=⟨g,i,none⟩) (World.block_lt_of_cell? w3 _ e)).trans e
    exact ⟨k1 hvc.1,k1 hvc.2.1,k1 hvc.2.2.1,k1 hvc.2.2.2.1,k1 hvc.2.2.2.2.1,k1 hvc.2.2.2.2.2⟩
  · have k1:∀ {g i:Nat} {x:Value},w3.cell? ⟨g,i,none⟩=some x→W'.cell? ⟨g,i,none⟩=some x:=fun {g i x} e=>(hb.cell (p:=⟨g,i,none⟩) (World.block_lt_of_cell? w3 _ e)).trans e
    exact ⟨k1 hhc.1,k1 hhc.2.1,k1 hhc.2.2.1,k1 hhc.2.2.2.1,k1 hhc.2.2.2.2.1,k1 hhc.2.2.2.2.2⟩
 have hsub:=fun W (hW:Below w3.heap.size w3 W)=>dsub_any dh dv xh xv W (hhd.below hW) (hvd.below hW) K (by omega) hhl hvl
 have hscl:=fun W (d:DB) (hW:Below w3.heap.size w3 W) (hd:DAt W d (dsub xh xv))=>dscale_any b7 d by_ (dsub xh xv) W (hr7.below hW) hd (K+K+1) (by omega) (HLBY.out.up (by omega)) (dsub_le hhl hvl)
 rw [←hst3] at hscl;unfold DB.val at hsub hscl;unfold RB.val at hscl;have HCS:=Lib.hid hcs;have HSUB:=Lib.hid hsub;have HSCL:=Lib.hid hscl;have H3:=Lib.hid (And.intro h3 (And.intro hx7 (And.intro hr7 (And.intro hk3 hg7o))));have HZ3:=Lib.hid (And.intro zw3 hg7);have HXX:=Lib.hid (And.intro hxv hxh);clear hcs hsub hscl h3 hx7 hr7 hk3 hg7o zw3 hg7 hxv hxh hvc hvd hvl hhc hhd hhl hst3 aw3 x0 x2 x3 x4 x5 x6 y0 y1 y2 hrv hor
 go_cut [9] (fun x wx=>∃ (g9:Nat) (d9:DB),x=.pointer (some ⟨g9,0,none⟩)∧w3.heap.size≤g9∧wx.heap[g9]?=some (.cells #[.bool (ratNeg st.a),.slice d9.a.A d9.a.n d9.a.c,.slice d9.a.A2 d9.a.n2 d9.a.c2,.bool (ratNeg st.b),.slice d9.b.A d9.b.n d9.b.c,.slice d9.b.A2 d9.b.n2 d9.b.c2] 108 (0,0))∧DAt wx d9 st∧Below w3.heap.size w3 wx)
 case first =>
  as_aux_lemma =>
   go_region_held3 (fun W'=>(W'.cell? ⟨T.g,0,none⟩=some (.int .i64 (P.nv:Int))∧W'.cell? ⟨T.g,2,none⟩=some (.slice (some ⟨T.gb,0,none⟩) P.m T.bc)∧W'.cell? ⟨T.g,3,none⟩=some (.slice (some ⟨T.gr,0,none⟩) (P.nv+P.m) T.rc)∧W'.cell? ⟨T.g,4,none⟩=some (.slice (some ⟨T.ga,0,none⟩) P.m T.ac)∧W'.cell? ⟨T.g,5,none⟩=some (.slice (some ⟨T.gv,0,none⟩) (P.nv+P.m) T.vc)∧W'.cell? ⟨T.g,6,none⟩=some (.slice (some ⟨T.gh,0,none⟩) P.m T.hc))∧(W'.cell? ⟨T.gv,v*6,none⟩=some (.bool (ratNeg xv.a))∧W'.cell? ⟨T.gv,v*6+1,none⟩=some (.slice dv.a.A dv.a.n dv.a.c)∧W'.cell? ⟨T.gv,v*6+2,none⟩=some (.slice dv.a.A2 dv.a.n2 dv.a.c2)∧W'.cell? ⟨T.gv,v*6+3,none⟩=some (.bool (ratNeg xv.b))∧W'.cell? ⟨T.gv,v*6+4,none⟩=some (.slice dv.b.A dv.b.n dv.b.c)∧W'.cell? ⟨T.gv,v*6+5,none⟩=some (.slice dv.b.A2 dv.b.n2 dv.b.c2))∧(W'.cell? ⟨T.gh,u*6,none⟩=some (.bool (ratNeg xh.a))∧W'.cell? ⟨T.gh,u*6+1,none⟩=some (.slice dh.a.A dh.a.n dh.a.c)∧W'.cell? ⟨T.gh,u*6+2,none⟩=some (.slice dh.a.A2 dh.a.n2 dh.a.c2)∧W'.cell? ⟨T.gh,u*6+3,none⟩=some (.bool (ratNeg xh.b))∧W'.cell? ⟨T.gh,u*6+4,none⟩=some (.slice dh.b.A dh.b.n dh.b.c)∧W'.cell? ⟨T.gh,u*6+5,none⟩=some (.slice dh.b.A2 dh.b.n2 dh.b.c2))∧(W'.cell? ⟨g7,0,none⟩=some (.bool (ratNeg by_))∧W'.cell? ⟨g7,1,none⟩=some (.slice b7.A b7.n b7.c)∧W'.cell? ⟨g7,2,none⟩=some (.slice b7.A2 b7.n2 b7.c2))) ((refine HCS.out _ ?_;repeat' (first | with_reducible exact below_drew2 ((Below.refl _ _).alloc (Nat.le_refl _) _) | with_reducible exact k2 | with_reducible exact k1 | with_reducible exact below_drew2 (Below.refl _ _) | with_reducible refine bl_set ?_ ?_ | with_reducible refine bl_alloc ?_ ?_ | (simp;done) | (have:=k1.size;have:=k2.size;simp;omega) | (have:=k1.size;simp;omega)))) (first | (go_at_call 46;refine (HSUB.out _ (by first | with_reducible exact below_drew2 (Below.refl _ _) | exact below_drew2 ((Below.refl _ _).alloc (Nat.le_refl _) _))).mono ?_;rintro e u1 ⟨d3,rfl,hr1,hb1⟩;have k1:Below w3.heap.size w3 u1:=(by first | exact (below_drew2 (Below.refl _ _)).trans (hb1.mono (Nat.le_refl _)) | exact (below_drew2 ((Below.refl _ _).alloc (Nat.le_refl _) _)).trans (hb1.mono (by simp)));have R1:=Lib.hid hr1;(first | (have HXG:=Lib.hid (box_keep (heap_alloc_new _ _) (below_drew' hb1))) | skip);clear hr1 hb1) | (go_at_call 45;refine (HSCL.out _ d3 (by first | with_reducible exact k1 | exact k1.alloc k1.size _) (by first | with_reducible exact R1.out | exact R1.out.below ((Below.refl _ _).alloc (Nat.le_refl _) _))).mono ?_;rintro e u2 ⟨d9,rfl,hr2,hb2⟩;have k2:Below w3.heap.size w3 u2:=(by first | exact k1.trans (hb2.mono k1.size) | exact (k1.alloc k1.size _).trans (hb2.mono (k1.alloc k1.size _).size));have R2:=Lib.hid hr2;(first | (replace HXG:=Lib.hid (box_keep HXG.out hb2)) | (have HXG:=Lib.hid (box_keep (heap_alloc_new _ _) hb2)) | skip);clear hr2 hb2;(first | (obtain ⟨p0,p1,p2,p3,p4,p5⟩:=box6 HXG.out;have z0:=frozen_of_blk HXG.out 0;have z1:=frozen_of_blk HXG.out 1;have z2:=frozen_of_blk HXG.out 2;have z3:=frozen_of_blk HXG.out 3;have z4:=frozen_of_blk HXG.out 4;have z5:=frozen_of_blk HXG.out 5) | skip)))
   all_goals
    go_wp2_with fail
    go_meet;have k22:=k2;have hs1:=k1.size
    first
     | exact ⟨_,d9,rfl,k2.size,heap_alloc_new _ _,R2.out.below ((Below.refl _ _).alloc (Nat.le_refl _) _),k2.alloc k2.size _⟩
     | (refine ⟨_,d9,rfl,(by first | exact hs1 | exact Nat.le_refl _),set_blk (set_blk (set_blk (set_blk (set_blk (set_blk HXG.out 0 _) 1 _) 2 _) 3 _) 4 _) 5 _,R2.out.frT (S:=fun b=>b=_) (fr_set (fr_set (fr_set (fr_set (fr_set (fr_set (Fr.refl _ _) (.inl rfl)) (.inl rfl)) (.inl rfl)) (.inl rfl)) (.inl rfl)) (.inl rfl)) (typU_of HXG.out (by decide)),?_⟩
        refine bl_set (bl_set (bl_set (bl_set (bl_set (bl_set k2 ?_) ?_) ?_) ?_) ?_) ?_
        all_goals first | exact hs1 | exact Nat.le_refl _)
 case rest =>
 obtain ⟨g9,d9,rfl,hg9,hx9,hr9,hb9⟩:=hcut
 obtain ⟨w5,rfl⟩:∃ x0,x0=wc:=⟨_,rfl⟩
 have hne:∀ b,b<w.heap.size→g7≠b∧g9≠b:=fun b hb=>by
  have h1:=H3.out.2.2.2.2;have h2:=H3.out.2.2.2.1.size
  constructor<;>omega
 have hg7N:=H3.out.2.2.2.2;have hg9N:w.heap.size≤g9:=Nat.le_trans H3.out.2.2.2.1.size hg9;have hk5:=H3.out.2.2.2.1.trans (hb9.mono H3.out.2.2.2.1.size)
 have hM5:MvC w w5 B T P S K g7 b7 by_ g9 d9 st:=⟨H.out.below hk5,box_keep H3.out.2.1 hb9,H3.out.2.2.1.below hb9,hx9,hr9,hk5.mono hB⟩
 obtain ⟨dh,hhc,hhd,hhl⟩:=hM5.tab.his.at_ u hum;rw [←HXX.out.2] at hhc hhd hhl
 have hcs5:∀ W',Below w5.heap.size w5 W'→(W'.cell? ⟨T.g,0,none⟩=some (.int .i64 (P.nv:Int))∧W'.cell? ⟨T.g,2,none⟩=some (.slice (some ⟨T.gb,0,none⟩) P.m T.bc)∧W'.cell? ⟨T.g,3,none⟩=some (.slice (some ⟨T.gr,0,none⟩) (P.nv+P.m) T.rc)∧W'.cell? ⟨T.g,4,none⟩=some (.slice (some ⟨T.ga,0,none⟩) P.m T.ac)∧W'.cell? ⟨T.g,5,none⟩=some (.slice (some ⟨T.gv,0,none⟩) (P.nv+P.m) T.vc)∧W'.cell? ⟨T.g,6,none⟩=some (.slice (some ⟨T.gh,0,none⟩) P.m T.hc))∧(W'.cell? ⟨T.gh,u*6,none⟩=some (.bool (ratNeg xh.a))∧W'.cell? ⟨T.gh,u*6+1,none⟩=some (.slice dh.a.A dh.a.n dh.a.c)∧W'.cell? ⟨T.gh,u*6+2,none⟩=some (.slice dh.a.A2 dh.a.n2 dh.a.c2)∧W'.cell? ⟨T.gh,u*6+3,none⟩=some (.bool (ratNeg xh.b))∧W'.cell? ⟨T.gh,u*6+4,none⟩=some (.slice dh.b.A dh.b.n dh.b.c)∧W'.cell? ⟨T.gh,u*6+5,none⟩=some (.slice dh.b.A2 dh.b.n2 dh.b.c2)):=fun W' hb=>by
  refine ⟨tab_cells (hM5.tab.below hb) hm0 W' rfl,?_⟩
  have k1:∀ {g i:Nat} {x:Value},w5.cell? ⟨g,i,none⟩=some x→W'.cell? ⟨g,i,none⟩=some x:=fun {g i x} e=>(hb.cell (p:=⟨g,i,none⟩) (World.block_lt_of_cell? w5 _ e)).trans e
  exact ⟨k1 hhc.1,k1 hhc.2.1,k1 hhc.2.2.1,k1 hhc.2.2.2.1,k1 hhc.2.2.2.2.1,k1 hhc.2.2.2.2.2⟩
 have HCS5:=Lib.hid hcs5;have HM5:=Lib.hid hM5;have HNE:=Lib.hid hne;have HH5:=Lib.hid (And.intro hhd hhl);have HGN:=Lib.hid (And.intro hg7N hg9N);clear hne hk5 hM5 hcs5 hhc hhd hhl hg9 hx9 hr9 hb9 H3 HCS HSUB HSCL HZ3 hg7N hg9N
 go_upto_region 3 with fail
 go_cut [9] (fun x wx=>x=.pointer (some ⟨g9,0,none⟩)∧MvC w wx B T P (S.setVal v xh) K g7 b7 by_ g9 d9 st)
 case first =>
  as_aux_lemma =>
   have kb:Below w5.heap.size w5 w5.drew:=below_drew2 (Below.refl _ _);have hS:=HCS5.out w5.drew kb;refine wp_region_E 18 (fun W'=>(W'.cell? ⟨T.g,0,none⟩=some (.int .i64 (P.nv:Int))∧W'.cell? ⟨T.g,2,none⟩=some (.slice (some ⟨T.gb,0,none⟩) P.m T.bc)∧W'.cell? ⟨T.g,3,none⟩=some (.slice (some ⟨T.gr,0,none⟩) (P.nv+P.m) T.rc)∧W'.cell? ⟨T.g,4,none⟩=some (.slice (some ⟨T.ga,0,none⟩) P.m T.ac)∧W'.cell? ⟨T.g,5,none⟩=some (.slice (some ⟨T.gv,0,none⟩) (P.nv+P.m) T.vc)∧W'.cell? ⟨T.g,6,none⟩=some (.slice (some ⟨T.gh,0,none⟩) P.m T.hc))∧(W'.cell? ⟨T.gh,u*6,none⟩=some (.bool (ratNeg xh.a))∧W'.cell? ⟨T.gh,u*6+1,none⟩=some (.slice dh.a.A dh.a.n dh.a.c)∧W'.cell? ⟨T.gh,u*6+2,none⟩=some (.slice dh.a.A2 dh.a.n2 dh.a.c2)∧W'.cell? ⟨T.gh,u*6+3,none⟩=some (.bool (ratNeg xh.b))∧W'.cell? ⟨T.gh,u*6+4,none⟩=some (.slice dh.b.A dh.b.n dh.b.c)∧W'.cell? ⟨T.gh,u*6+5,none⟩=some (.slice dh.b.A2 dh.b.n2 dh.b.c2))) (by kernel_rfl) ?_;generalize w5.drew=w8 at kb hS ⊢;refine tkE 0 hS ?_;simp only [Act.put,sA,sZ,sS];refine tkE 1 hS ?_;simp only [Act.put,sA,sZ,sS];refine tkE 2 hS ?_;simp only [Act.put,sA,sZ,sS];refine tkE 3 hS ?_;simp only [Act.put,sA,sZ,sS];refine tkE 4 hS ?_;simp only [Act.put,sA,sZ,sS];refine tkE 5 hS ?_;simp only [Act.put,sA,sZ,sS];refine tkE 6 hS ?_;simp only [Act.put,sA,sZ,sS];refine tkE 7 hS ?_;simp only [Act.put,sA,sZ,sS];refine tkE 8 hS ?_;simp only [Act.put,sA,sZ,sS];refine tkE 9 hS ?_;simp only [Act.put,sA,sZ,sS];refine tkE 10 hS ?_;simp only [Act.put,sA,sZ,sS];refine tkE 11 hS ?_;simp only [Act.put,sA,sZ,sS];refine tkE 12 hS ?_;simp only [Act.put,sA,sZ,sS];refine tkE 13 hS ?_;simp only [Act.put,sA,sZ,sS];refine tkE 14 hS ?_;simp only [Act.put,sA,sZ,sS];refine tkE 15 hS ?_;simp only [Act.put,sA,sZ,sS];refine tkE 16 hS ?_;simp only [Act.put,sA,sZ,sS];refine tkE 17 hS ?_;simp only [Act.put,sA,sZ,sS];have hM9:=HM5.out.below hB kb;obtain ⟨dv9,⟨q0,q1,q2,q3,q4,q5⟩,_,_⟩:=hM9.tab.val.at_ v hvN
   have z0:=fun i=>hM9.tab.wv.fz i
   have HM9:=Lib.hid hM9;have HR1:=Lib.hid (HH5.out.1.below kb);clear hS hM9 kb
   refine onE 18 fun KK HKK18=>?_
   go_simp;refine HKK18.out _ _ (.inl rfl) ?_;clear HKK18;refine wpAnyE_done (by kernel_rfl) ?_ _
   go_wp2_with fail
   go_meet;have hm:=HM9.out;have hn:=HNE.out _ HOLD.out.v;exact ⟨rfl,hm.turn hB (pu6_fr w8 T.gv (v*6) dh xh) (hm.tab.wv.noU (by decide)) hm.tab.lv hn.1 hn.2 (hm.tab.setVal hvN HR1.out HH5.out.2)⟩
 case rest =>
 obtain ⟨rfl,hM6⟩:=hcut
 obtain ⟨w6,rfl⟩:∃ x0,x0=wc:=⟨_,rfl⟩
 clear HH5 HM5 HCS5;obtain ⟨dk,hkc,hkd,hkl⟩:=hM6.tab.val.at_ kx hkN;have hvk6:(S.setVal v xh).val kx=S.val kx:=updF_ne _ _ (Ne.symm hvk);rw [hvk6] at hkc hkd hkl
 obtain ⟨xk,hxk⟩:∃ x,x=S.val kx:=⟨_,rfl⟩
 rw [←hxk] at hkc hkd hkl
 have hcs6:∀ W',Below w6.heap.size w6 W'→(W'.cell? ⟨T.g,0,none⟩=some (.int .i64 (P.nv:Int))∧W'.cell? ⟨T.g,2,none⟩=some (.slice (some ⟨T.gb,0,none⟩) P.m T.bc)∧W'.cell? ⟨T.g,3,none⟩=some (.slice (some ⟨T.gr,0,none⟩) (P.nv+P.m) T.rc)∧W'.cell? ⟨T.g,4,none⟩=some (.slice (some ⟨T.ga,0,none⟩) P.m T.ac)∧W'.cell? ⟨T.g,5,none⟩=some (.slice (some ⟨T.gv,0,none⟩) (P.nv+P.m) T.vc)∧W'.cell? ⟨T.g,6,none⟩=some (.slice (some ⟨T.gh,0,none⟩) P.m T.hc))∧(W'.cell? ⟨T.gv,kx*6,none⟩=some (.bool (ratNeg xk.a))∧W'.cell? ⟨T.gv,kx*6+1,none⟩=some (.slice dk.a.A dk.a.n dk.a.c)∧W'.cell? ⟨T.gv,kx*6+2,none⟩=some (.slice dk.a.A2 dk.a.n2 dk.a.c2)∧W'.cell? ⟨T.gv,kx*6+3,none⟩=some (.bool (ratNeg xk.b))∧W'.cell? ⟨T.gv,kx*6+4,none⟩=some (.slice dk.b.A dk.b.n dk.b.c)∧W'.cell? ⟨T.gv,kx*6+5,none⟩=some (.slice dk.b.A2 dk.b.n2 dk.b.c2))∧(W'.cell? ⟨g9,0,none⟩=some (.bool (ratNeg st.a))∧W'.cell? ⟨g9,1,none⟩=some (.slice d9.a.A d9.a.n d9.a.c)∧W'.cell? ⟨g9,2,none⟩=some (.slice d9.a.A2 d9.a.n2 d9.a.c2)∧W'.cell? ⟨g9,3,none⟩=some (.bool (ratNeg st.b))∧W'.cell? ⟨g9,4,none⟩=some (.slice d9.b.A d9.b.n d9.b.c)∧W'.cell? ⟨g9,5,none⟩=some (.slice d9.b.A2 d9.b.n2 d9.b.c2)):=fun W' hb=>by
  refine ⟨tab_cells (hM6.tab.below hb) hm0 W' rfl,?_,box6 (box_keep hM6.x9 hb)⟩
  have k1:∀ {g i:Nat} {x:Value},w6.cell? ⟨g,i,none⟩=some x→W'.cell? ⟨g,i,none⟩=some x:=fun {g i x} e=>(hb.cell (p:=⟨g,i,none⟩) (World.block_lt_of_cell? w6 _ e)).trans e
  exact ⟨k1 hkc.1,k1 hkc.2.1,k1 hkc.2.2.1,k1 hkc.2.2.2.1,k1 hkc.2.2.2.2.1,k1 hkc.2.2.2.2.2⟩
 have hadd:=fun W (hW:Below w6.heap.size w6 W)=>dadd_any dk d9 xk st W (hkd.below hW) (hM6.r9.below hW) (K+(K+K+1)) (by omega) (hkl.up (by omega)) HLST.out
 unfold DB.val at hadd;have HCS:=Lib.hid hcs6;have HADD:=Lib.hid hadd;have HM6:=Lib.hid hM6;have HXK:=Lib.hid hxk;clear hcs6 hadd hM6 hkc hkd hkl hvk6 hxk
 go_upto_region 4 with fail
 go_cut [9] (fun x wx=>x=.pointer (some ⟨g9,0,none⟩)∧MvC w wx B T P ((S.setVal v xh).setVal kx (dadd xk st)) K g7 b7 by_ g9 d9 st)
 case first =>
  as_aux_lemma =>
   have kb:Below w6.heap.size w6 w6.drew:=below_drew2 (Below.refl _ _);have hS:=HCS.out w6.drew kb;refine wp_region_E 15 (fun W'=>(W'.cell? ⟨T.g,0,none⟩=some (.int .i64 (P.nv:Int))∧W'.cell? ⟨T.g,2,none⟩=some (.slice (some ⟨T.gb,0,none⟩) P.m T.bc)∧W'.cell? ⟨T.g,3,none⟩=some (.slice (some ⟨T.gr,0,none⟩) (P.nv+P.m) T.rc)∧W'.cell? ⟨T.g,4,none⟩=some (.slice (some ⟨T.ga,0,none⟩) P.m T.ac)∧W'.cell? ⟨T.g,5,none⟩=some (.slice (some ⟨T.gv,0,none⟩) (P.nv+P.m) T.vc)∧W'.cell? ⟨T.g,6,none⟩=some (.slice (some ⟨T.gh,0,none⟩) P.m T.hc))∧(W'.cell? ⟨T.gv,kx*6,none⟩=some (.bool (ratNeg xk.a))∧W'.cell? ⟨T.gv,kx*6+1,none⟩=some (.slice dk.a.A dk.a.n dk.a.c)∧W'.cell? ⟨T.gv,kx*6+2,none⟩=some (.slice dk.a.A2 dk.a.n2 dk.a.c2)∧W'.cell? ⟨T.gv,kx*6+3,none⟩=some (.bool (ratNeg xk.b))∧W'.cell? ⟨T.gv,kx*6+4,none⟩=some (.slice dk.b.A dk.b.n dk.b.c)∧W'.cell? ⟨T.gv,kx*6+5,none⟩=some (.slice dk.b.A2 dk.b.n2 dk.b.c2))∧(W'.cell? ⟨g9,0,none⟩=some (.bool (ratNeg st.a))∧W'.cell? ⟨g9,1,none⟩=some (.slice d9.a.A d9.a.n d9.a.c)∧W'.cell? ⟨g9,2,none⟩=some (.slice d9.a.A2 d9.a.n2 d9.a.c2)∧W'.cell? ⟨g9,3,none⟩=some (.bool (ratNeg st.b))∧W'.cell? ⟨g9,4,none⟩=some (.slice d9.b.A d9.b.n d9.b.c)∧W'.cell? ⟨g9,5,none⟩=some (.slice d9.b.A2 d9.b.n2 d9.b.c2))) (by kernel_rfl) ?_;generalize w6.drew=w8 at kb hS ⊢;refine tkE 0 hS ?_;simp only [Act.put,sA,sZ,sS];refine tkE 1 hS ?_;simp only [Act.put,sA,sZ,sS];refine tkE 2 hS ?_;simp only [Act.put,sA,sZ,sS];refine tkE 3 hS ?_;simp only [Act.put,sA,sZ,sS];refine tkE 4 hS ?_;simp only [Act.put,sA,sZ,sS];refine tkE 5 hS ?_;simp only [Act.put,sA,sZ,sS];refine tkE 6 hS ?_;simp only [Act.put,sA,sZ,sS];refine tkE 7 hS ?_;simp only [Act.put,sA,sZ,sS];refine tkE 8 hS ?_;simp only [Act.put,sA,sZ,sS];refine tkE 9 hS ?_;simp only [Act.put,sA,sZ,sS];refine tkE 10 hS ?_;simp only [Act.put,sA,sZ,sS];refine tkE 11 hS ?_;simp only [Act.put,sA,sZ,sS];refine tkE 12 hS ?_;simp only [Act.put,sA,sZ,sS]
   refine onE 13 fun KK HKK13=>?_
   go_simp
   go_at_call 47
   refine (HADD.out _ kb).mono ?_;rintro e u1 ⟨d4,rfl,hr1,hb1⟩;have hS:=HCS.out u1 (kb.trans (hb1.mono kb.size));replace kb:=kb.trans (hb1.mono kb.size);clear hb1;refine HKK13.out _ _ (.inr hS) ?_;clear HKK13
   try simp only [Act.put,sA,sZ,sS]
   refine tkE 14 hS ?_;simp only [Act.put,sA,sZ,sS];have hM9:=HM6.out.below hB kb;obtain ⟨dk9,⟨q0,q1,q2,q3,q4,q5⟩,_,_⟩:=hM9.tab.val.at_ kx hkN
   have z0:=fun i=>hM9.tab.wv.fz i
   have HM9:=Lib.hid hM9;have HR1:=Lib.hid hr1;clear hS hM9 hr1 kb
   refine onE 15 fun KK HKK15=>?_
   go_simp;refine HKK15.out _ _ (.inl rfl) ?_;clear HKK15;refine wpAnyE_done (by kernel_rfl) ?_ _
   go_wp2_with fail
   go_meet;have hm:=HM9.out;have hn:=HNE.out _ HOLD.out.v
   have hdle:DLe (dadd xk st) K:=by
    have:=HL.out.2 kx hkN;unfold mov at this;simp only [if_neg (Ne.symm hvk),if_true] at this;rw [←HST.out,←HXK.out] at this;exact this
   exact ⟨rfl,hm.turn hB (pu6_fr u1 T.gv (kx*6) d4 (dadd xk st)) (hm.tab.wv.noU (by decide)) hm.tab.lv hn.1 hn.2 (hm.tab.setVal hkN HR1.out hdle)⟩
 case rest =>
 obtain ⟨rfl,hM7⟩:=hcut
 obtain ⟨w7,rfl⟩:∃ x0,x0=wc:=⟨_,rfl⟩
 rw [mv_start hvk (by rw [HXX.out.2,HV.out];unfold hiOf;rw [if_neg (by omega),show P.nv+u - P.nv=u by omega]) HXK.out HST.out] at hM7;have HM7:=Lib.hid hM7;have hx2:=(tab_cells hM7.tab hm0 w7 rfl).2.1;clear hM7 HCS HADD HM6
 go_upto_region 6 with fail
 clear hx2
 go_loopw [99] (fun x wr=>∃ i:Nat,i≤P.m∧x=.int .i64 i∧MvC w wr B T P (S.withVal (mvV P S v kx i)) K g7 b7 by_ g9 d9 st) (fun x _=>P.m - (intOf x).toNat)
 case atStart=>exact ⟨0,Nat.zero_le _,rfl,HM7.out⟩
 case round =>
  obtain ⟨i,him,rfl,hM⟩:=hrel
  obtain ⟨w8,rfl⟩:∃ x,x=wr:=⟨_,rfl⟩
  by_cases hlt:i<P.m
  · obtain ⟨hbN,hrb⟩:=HB.out.1 i hlt
    have hbc:w8.cell? ⟨T.gb,i,none⟩=some (.int .i64 (S.bas i:Int)):=hM.tab.bas.at_ i hlt
    have e1:(0:Int)≤(i:Int):=by omega
    have e2:(i:Int)<(P.m:Int):=by omega
    have HM:=Lib.hid hM
    by_cases hir:i=r
    · have e3:¬ ((i:Int)≠(r:Int)):=by omega
      have e4:((i:Int) != (r:Int))=false:=by simp [hir]
      have HIR:=Lib.hid hir;clear hM hir
      as_aux_lemma =>
       go_wp2_with fail
       go_roundw
       case rel =>
        refine ⟨i+1,by omega,by go_num,?_⟩
        rw [←mvV_same (fun j hj=>by
         have h1:=(HB.out.2 j i hj).2;have h2:=(HB.out.2 v r HRO.out.2).2;rw [HIR.out] at h1
         omega)]
        exact HM.out
       case measure=>simp [intOf];omega
    · have e4:((i:Int) != (r:Int))=true:=by simp;omega
      have hbv:S.bas i≠v:=fun e=>by rw [e,HRO.out.2] at hrb;omega
      have hbk:S.bas i≠kx:=fun e=>by rw [e,HKR.out.1] at hrb;omega
      obtain ⟨b,hb⟩:∃ b,b=S.bas i:=⟨_,rfl⟩
      rw [←hb] at hbc hbN hrb hbv hbk
      have e5:(0:Int)≤(b:Int):=by omega
      have e6:(b:Int)<(P.nv:Int)+(P.m:Int):=by omega
      have hvb:(S.withVal (mvV P S v kx i)).val b=S.val b:=by
       show mvV P S v kx i b=_
       unfold mvV;rw [if_neg hbv,if_neg hbk,if_neg (by omega)]
      obtain ⟨db,hbcell,hbd,hbl⟩:=hM.tab.val.at_ b hbN;rw [hvb] at hbcell hbd hbl;obtain ⟨rq,q0,q1,q2,hqa,hql⟩:=(hM.tab.rws i hlt).at_ kx hkN;have hoi:=hM.tab.out.at_ i hlt
      obtain ⟨xb,hxb⟩:∃ x,x=S.val b:=⟨_,rfl⟩
      rw [←hxb] at hbcell hbd hbl
      obtain ⟨q,hq⟩:∃ x,x=(S.withVal (mvV P S v kx i)).a i kx:=⟨_,rfl⟩
      rw [←hq] at q0 hqa hql;have hq':q=S.a i kx:=hq
      have hcs:∀ W',Below w8.heap.size w8 W'→(W'.cell? ⟨T.g,0,none⟩=some (.int .i64 (P.nv:Int))∧W'.cell? ⟨T.g,2,none⟩=some (.slice (some ⟨T.gb,0,none⟩) P.m T.bc)∧W'.cell? ⟨T.g,3,none⟩=some (.slice (some ⟨T.gr,0,none⟩) (P.nv+P.m) T.rc)∧W'.cell? ⟨T.g,4,none⟩=some (.slice (some ⟨T.ga,0,none⟩) P.m T.ac)∧W'.cell? ⟨T.g,5,none⟩=some (.slice (some ⟨T.gv,0,none⟩) (P.nv+P.m) T.vc)∧W'.cell? ⟨T.g,6,none⟩=some (.slice (some ⟨T.gh,0,none⟩) P.m T.hc))∧(W'.cell? ⟨T.gv,b*6,none⟩=some (.bool (ratNeg xb.a))∧W'.cell? ⟨T.gv,b*6+1,none⟩=some (.slice db.a.A db.a.n db.a.c)∧W'.cell? ⟨T.gv,b*6+2,none⟩=some (.slice db.a.A2 db.a.n2 db.a.c2)∧W'.cell? ⟨T.gv,b*6+3,none⟩=some (.bool (ratNeg xb.b))∧W'.cell? ⟨T.gv,b*6+4,none⟩=some (.slice db.b.A db.b.n db.b.c)∧W'.cell? ⟨T.gv,b*6+5,none⟩=some (.slice db.b.A2 db.b.n2 db.b.c2))∧(W'.cell? ⟨T.ga,i,none⟩=some (.slice (some ⟨T.rb i,0,none⟩) (P.nv+P.m) (T.rbc i))∧W'.cell? ⟨T.rb i,kx*3,none⟩=some (.bool (ratNeg q))∧W'.cell? ⟨T.rb i,kx*3+1,none⟩=some (.slice rq.A rq.n rq.c)∧W'.cell? ⟨T.rb i,kx*3+2,none⟩=some (.slice rq.A2 rq.n2 rq.c2))∧(W'.cell? ⟨g9,0,none⟩=some (.bool (ratNeg st.a))∧W'.cell? ⟨g9,1,none⟩=some (.slice d9.a.A d9.a.n d9.a.c)∧W'.cell? ⟨g9,2,none⟩=some (.slice d9.a.A2 d9.a.n2 d9.a.c2)∧W'.cell? ⟨g9,3,none⟩=some (.bool (ratNeg st.b))∧W'.cell? ⟨g9,4,none⟩=some (.slice d9.b.A d9.b.n d9.b.c)∧W'.cell? ⟨g9,5,none⟩=some (.slice d9.b.A2 d9.b.n2 d9.b.c2)):=fun W' hb'=>by
       have k1:∀ {g i:Nat} {x:Value},w8.cell? ⟨g,i,none⟩=some x→W'.cell? ⟨g,i,none⟩=some x:=fun {g i x} e=>(hb'.cell (p:=⟨g,i,none⟩) (World.block_lt_of_cell? w8 _ e)).trans e
       exact ⟨tab_cells (hM.tab.below hb') hm0 W' rfl,⟨k1 hbcell.1,k1 hbcell.2.1,k1 hbcell.2.2.1,k1 hbcell.2.2.2.1,k1 hbcell.2.2.2.2.1,k1 hbcell.2.2.2.2.2⟩,⟨k1 hoi,k1 q0,k1 q1,k1 q2⟩,box6 (box_keep hM.x9 hb')⟩
      have hscl:=fun W (hW:Below w8.heap.size w8 W)=>dscale_any rq d9 q st W (hqa.below hW) (hM.r9.below hW) (K+(K+K+1)) (by omega) (hql.up (by omega)) HLST.out
      have hadd:=fun W (d:DB) (hW:Below w8.heap.size w8 W) (hd:DAt W d (dmul q st))=>dadd_any db d xb (dmul q st) W (hbd.below hW) hd (K+(K+(K+K+1))) (by omega) (hbl.up (by omega)) ⟨mul_le hql HLST.out.a,mul_le hql HLST.out.b⟩
      unfold DB.val at hscl hadd;unfold RB.val at hscl;have HCS:=Lib.hid hcs;have HSCL:=Lib.hid hscl;have HADD:=Lib.hid hadd;have HXB:=Lib.hid (And.intro hxb (And.intro hq' hrb));have HB2:=Lib.hid (And.intro hbv hbk);have HBI:=Lib.hid hb;clear hcs hscl hadd hxb hq hq' hrb hbv hbk hvb hbcell hbd hbl q0 q1 q2 hqa hql hoi hM hb
      as_aux_lemma =>
       go_upto_region 9 with fail
       have kb:Below w8.heap.size w8 w8.drew:=below_drew2 (Below.refl _ _);have hS:=HCS.out w8.drew kb;refine wp_region_E 26 (fun W'=>(W'.cell? ⟨T.g,0,none⟩=some (.int .i64 (P.nv:Int))∧W'.cell? ⟨T.g,2,none⟩=some (.slice (some ⟨T.gb,0,none⟩) P.m T.bc)∧W'.cell? ⟨T.g,3,none⟩=some (.slice (some ⟨T.gr,0,none⟩) (P.nv+P.m) T.rc)∧W'.cell? ⟨T.g,4,none⟩=some (.slice (some ⟨T.ga,0,none⟩) P.m T.ac)∧W'.cell? ⟨T.g,5,none⟩=some (.slice (some ⟨T.gv,0,none⟩) (P.nv+P.m) T.vc)∧W'.cell? ⟨T.g,6,none⟩=some (.slice (some ⟨T.gh,0,none⟩) P.m T.hc))∧(W'.cell? ⟨T.gv,b*6,none⟩=some (.bool (ratNeg xb.a))∧W'.cell? ⟨T.gv,b*6+1,none⟩=some (.slice db.a.A db.a.n db.a.c)∧W'.cell? ⟨T.gv,b*6+2,none⟩=some (.slice db.a.A2 db.a.n2 db.a.c2)∧W'.cell? ⟨T.gv,b*6+3,none⟩=some (.bool (ratNeg xb.b))∧W'.cell? ⟨T.gv,b*6+4,none⟩=some (.slice db.b.A db.b.n db.b.c)∧W'.cell? ⟨T.gv,b*6+5,none⟩=some (.slice db.b.A2 db.b.n2 db.b.c2))∧(W'.cell? ⟨T.ga,i,none⟩=some (.slice (some ⟨T.rb i,0,none⟩) (P.nv+P.m) (T.rbc i))∧W'.cell? ⟨T.rb i,kx*3,none⟩=some (.bool (ratNeg q))∧W'.cell? ⟨T.rb i,kx*3+1,none⟩=some (.slice rq.A rq.n rq.c)∧W'.cell? ⟨T.rb i,kx*3+2,none⟩=some (.slice rq.A2 rq.n2 rq.c2))∧(W'.cell? ⟨g9,0,none⟩=some (.bool (ratNeg st.a))∧W'.cell? ⟨g9,1,none⟩=some (.slice d9.a.A d9.a.n d9.a.c)∧W'.cell? ⟨g9,2,none⟩=some (.slice d9.a.A2 d9.a.n2 d9.a.c2)∧W'.cell? ⟨g9,3,none⟩=some (.bool (ratNeg st.b))∧W'.cell? ⟨g9,4,none⟩=some (.slice d9.b.A d9.b.n d9.b.c)∧W'.cell? ⟨g9,5,none⟩=some (.slice d9.b.A2 d9.b.n2 d9.b.c2))) (by kernel_rfl) ?_;generalize w8.drew=w9 at kb hS ⊢;refine tkE 0 hS ?_;simp only [Act.put,sA,sZ,sS];refine tkE 1 hS ?_;simp only [Act.put,sA,sZ,sS];refine tkE 2 hS ?_;simp only [Act.put,sA,sZ,sS];refine tkE 3 hS ?_;simp only [Act.put,sA,sZ,sS];refine tkE 4 hS ?_;simp only [Act.put,sA,sZ,sS];refine tkE 5 hS ?_;simp only [Act.put,sA,sZ,sS];refine tkE 6 hS ?_;simp only [Act.put,sA,sZ,sS];refine tkE 7 hS ?_;simp only [Act.put,sA,sZ,sS];refine tkE 8 hS ?_;simp only [Act.put,sA,sZ,sS];refine tkE 9 hS ?_;simp only [Act.put,sA,sZ,sS];refine tkE 10 hS ?_;simp only [Act.put,sA,sZ,sS];refine tkE 11 hS ?_;simp only [Act.put,sA,sZ,sS];refine tkE 12 hS ?_;simp only [Act.put,sA,sZ,sS];refine tkE 13 hS ?_;simp only [Act.put,sA,sZ,sS];refine tkE 14 hS ?_;simp only [Act.put,sA,sZ,sS];refine tkE 15 hS ?_;simp only [Act.put,sA,sZ,sS];refine tkE 16 hS ?_;simp only [Act.put,sA,sZ,sS];refine tkE 17 hS ?_;simp only [Act.put,sA,sZ,sS];refine tkE 18 hS ?_;simp only [Act.put,sA,sZ,sS];refine tkE 19 hS ?_;simp only [Act.put,sA,sZ,sS];refine tkE 20 hS ?_;simp only [Act.put,sA,sZ,sS];refine tkE 21 hS ?_;simp only [Act.put,sA,sZ,sS];refine tkE 22 hS ?_;simp only [Act.put,sA,sZ,sS]
       refine onE 23 fun KK HKK23=>?_
       go_simp
       go_at_call 45
       refine (HSCL.out _ kb).mono ?_;rintro e u1 ⟨d3,rfl,hr1,hb1⟩;have hS:=HCS.out u1 (kb.trans (hb1.mono kb.size));replace kb:=kb.trans (hb1.mono kb.size);clear hb1;refine HKK23.out _ _ (.inr hS) ?_;clear HKK23
       try simp only [Act.put,sA,sZ,sS]
       refine onE 24 fun KK HKK24=>?_
       go_simp
       go_at_call 47
       refine (HADD.out _ d3 kb hr1).mono ?_;rintro e u2 ⟨d4,rfl,hr2,hb2⟩;clear hr1;have hS:=HCS.out u2 (kb.trans (hb2.mono kb.size));replace kb:=kb.trans (hb2.mono kb.size);clear hb2;refine HKK24.out _ _ (.inr hS) ?_;clear HKK24
       try simp only [Act.put,sA,sZ,sS]
       refine tkE 25 hS ?_;simp only [Act.put,sA,sZ,sS];have hM9:=HM.out.below hB kb;obtain ⟨dk9,⟨q0,q1,q2,q3,q4,q5⟩,_,_⟩:=hM9.tab.val.at_ b hbN
       have z0:=fun i=>hM9.tab.wv.fz i
       have HM9:=Lib.hid hM9;have HR2:=Lib.hid hr2;clear hS hM9 hr2 kb
       refine onE 26 fun KK HKK26=>?_
       go_simp;refine HKK26.out _ _ (.inl rfl) ?_;clear HKK26;refine wpAnyE_done (by kernel_rfl) ?_ _
       go_wp2_with fail
       go_roundw
       case rel =>
        have hm:=HM9.out;have hn:=HNE.out _ HOLD.out.v
        have hro:rowOf S b=i:=by have:=HXB.out.2.2;unfold rowOf;omega
        have hdle:DLe (dadd xb (dmul q st)) K:=by
         have:=HL.out.2 b hbN;unfold mov at this;have h0:=HXB.out.2.2;simp only [if_neg HB2.out.1,if_neg HB2.out.2] at this;rw [if_pos (by omega),hro,←HST.out,←HXB.out.1,←HXB.out.2.1] at this;exact this
        have h1:=hm.turn hB (pu6_fr u2 T.gv (b*6) d4 (dadd xb (dmul q st))) (hm.tab.wv.noU (by decide)) hm.tab.lv hn.1 hn.2 (hm.tab.setVal hbN HR2.out hdle);refine ⟨i+1,by omega,by go_num,?_⟩
        have h2:(S.withVal (mvV P S v kx i)).setVal b (dadd xb (dmul q st))=S.withVal (mvV P S v kx (i+1)):=by
         rw [←mvV_step HXB.out.2.2 HB2.out.1 HB2.out.2 (fun j hj=>by
          have:=(HB.out.2 j i hj).2;rw [HBI.out]
          exact this.symm),←HST.out,←HXB.out.1,←HXB.out.2.1]
         rfl
        rw [←h2];exact h1
       case measure=>simp [intOf];omega
  · have hlt2:¬ ((i:Int)<(P.m:Int)):=by omega
    obtain rfl:i=P.m:=by omega
    rw [mvV_end (fun j i hj=>(HB.out.2 j i hj).1)] at hM;have HM:=Lib.hid hM;clear hM him HM7;obtain ⟨x0,x2,x3,x4,x5,x6⟩:=tab_cells HM.out.tab hm0 w8 rfl;have hor:=HM.out.tab.out.at_ r hrm;obtain ⟨i0,hi,hz0,hz1,hz2⟩:=info_parts info_rat3
    go_upto_region 13 with (at_make;refine makeN w8 rfl _ _ 30 rfl 26 i0 _ 3 56 Tryz.underlying30 hi hz0 hz1 hz2 .i64 .i64 _ _ (P.nv+P.m) rfl rfl (by simp) (by simp) (by omega) (by decide) ?_)
    have hrr:=RRow.made w8 (P.nv+P.m) K hK1;have hbm:=(Below.refl w8.heap.size w8).alloc (Nat.le_refl _) (.cells (madeCells #[.bool false,.slice none 0 0,.slice none 0 0] ((P.nv+P.m)*3)) 26)
    obtain ⟨gn,hgn⟩:∃ x0,x0=w8.heap.size:=⟨_,rfl⟩
    obtain ⟨w10,hw10⟩:∃ x0,x0=w8.alloc (.cells (madeCells #[.bool false,.slice none 0 0,.slice none 0 0] ((P.nv+P.m)*3)) 26):=⟨_,rfl⟩
    rw [←hgn] at hrr;rw [←hw10] at hrr hbm ⊢;rw [←hgn] at ⊢
    have hnn:w.heap.size≤gn∧g7≠gn∧g9≠gn:=by
     have h1:=HM.out.bel.size;have h2:=lt_of_blk HM.out.x7;have h3:=lt_of_blk HM.out.x9;exact ⟨by omega,by omega,by omega⟩
    rw [nwI_zero S kx r by_] at hrr;have HM10:=Lib.hid (HM.out.below hB hbm);have HRR:=Lib.hid hrr;have HNN:=Lib.hid hnn;clear hw10 hrr hbm hgn hnn hi hz0 hz1 hz2 x0 x2 x3 x4 x5 x6 hor HM
    go_upto_region 14 with fail
    go_loopw [146] (fun x wr=>∃ j:Nat,j≤P.nv+P.m∧x=.int .i64 j∧MvC w wr B T P (S.withVal (mov P S v kx).val) K g7 b7 by_ g9 d9 st∧RRow wr gn (P.nv+P.m) (nwI S kx r by_ j) K) (fun x _=>P.nv+P.m - (intOf x).toNat)
    case atStart=>exact ⟨0,Nat.zero_le _,rfl,HM10.out,HRR.out⟩
    case round =>
     obtain ⟨j,hjN,rfl,hM,hrr⟩:=hrel
     obtain ⟨w11,rfl⟩:∃ x,x=wr:=⟨_,rfl⟩
     have HM:=Lib.hid hM;have HR:=Lib.hid hrr;clear hM hrr
     by_cases hlt:j<P.nv+P.m
     · have e1:(0:Int)≤(j:Int):=by omega
       have e2:(j:Int)<(P.nv:Int)+(P.m:Int):=by omega
       by_cases hjk:j=kx
       · have e4:((j:Int) != (kx:Int))=false:=by simp [hjk]
         have HJK:=Lib.hid hjk;clear hjk
         as_aux_lemma =>
          go_wp2_with fail
          go_roundw
          case rel =>
           refine ⟨j+1,by omega,by go_num,HM.out,?_⟩;have h1:=HR.out;rw [HJK.out] at h1 ⊢;rw [←nwI_same];exact h1
          case measure=>simp [intOf];omega
       · have e4:((j:Int) != (kx:Int))=true:=by simp;omega
         have HJK:=Lib.hid hjk;obtain ⟨rq,q0,q1,q2,hqa,hql⟩:=(HM.out.tab.rws r hrm).at_ j hlt
         obtain ⟨q,hq⟩:∃ x,x=(S.withVal (mov P S v kx).val).a r j:=⟨_,rfl⟩
         rw [←hq] at q0 hqa hql;have hq':q=S.a r j:=hq
         have hcs:∀ W',Below w11.heap.size w11 W'→(W'.cell? ⟨g7,0,none⟩=some (.bool (ratNeg by_))∧W'.cell? ⟨g7,1,none⟩=some (.slice b7.A b7.n b7.c)∧W'.cell? ⟨g7,2,none⟩=some (.slice b7.A2 b7.n2 b7.c2))∧(W'.cell? ⟨T.rb r,j*3,none⟩=some (.bool (ratNeg q))∧W'.cell? ⟨T.rb r,j*3+1,none⟩=some (.slice rq.A rq.n rq.c)∧W'.cell? ⟨T.rb r,j*3+2,none⟩=some (.slice rq.A2 rq.n2 rq.c2)):=fun W' hb'=>by
          have k1:∀ {g i:Nat} {x:Value},w11.cell? ⟨g,i,none⟩=some x→W'.cell? ⟨g,i,none⟩=some x:=fun {g i x} e=>(hb'.cell (p:=⟨g,i,none⟩) (World.block_lt_of_cell? w11 _ e)).trans e
          exact ⟨box3 (box_keep HM.out.x7 hb'),k1 q0,k1 q1,k1 q2⟩
         have hml:=fun W (hW:Below w11.heap.size w11 W)=>rmul_any b7 rq by_ q W (HM.out.r7.below hW) (hqa.below hW) K (by omega) HLBY.out hql
         have hng:=fun W (b3:RB) (h3:RatAt W b3 (by_*q))=>neg_any b3 (by_*q) W h3
         unfold RB.val at hml hng;have HCS:=Lib.hid hcs;have HML:=Lib.hid hml;have HNG:=Lib.hid hng;have HQ:=Lib.hid hq';clear hcs hml hng hq hq' q0 q1 q2 hqa hql hjk
         as_aux_lemma =>
          go_upto_region 17 with fail
          have kb:Below w11.heap.size w11 w11.drew:=below_drew2 (Below.refl _ _);have hS:=HCS.out w11.drew kb;refine wp_region_E 10 (fun W'=>(W'.cell? ⟨g7,0,none⟩=some (.bool (ratNeg by_))∧W'.cell? ⟨g7,1,none⟩=some (.slice b7.A b7.n b7.c)∧W'.cell? ⟨g7,2,none⟩=some (.slice b7.A2 b7.n2 b7.c2))∧(W'.cell? ⟨T.rb r,j*3,none⟩=some (.bool (ratNeg q))∧W'.cell? ⟨T.rb r,j*3+1,none⟩=some (.slice rq.A rq.n rq.c)∧W'.cell? ⟨T.rb r,j*3+2,none⟩=some (.slice rq.A2 rq.n2 rq.c2))) (by kernel_rfl) ?_;generalize w11.drew=w12 at kb hS ⊢;refine tkE 0 hS ?_;simp only [Act.put,sA,sZ,sS];refine tkE 1 hS ?_;simp only [Act.put,sA,sZ,sS];refine tkE 2 hS ?_;simp only [Act.put,sA,sZ,sS];refine tkE 3 hS ?_;simp only [Act.put,sA,sZ,sS];refine tkE 4 hS ?_;simp only [Act.put,sA,sZ,sS];refine tkE 5 hS ?_;simp only [Act.put,sA,sZ,sS];refine tkE 6 hS ?_;simp only [Act.put,sA,sZ,sS]
          refine onE 7 fun KK HKK7=>?_
          go_simp
          go_at_call 22
          refine (HML.out _ kb).mono ?_;rintro e u1 ⟨b3,rfl,hr1,hb1⟩;have hS:=HCS.out u1 (kb.trans (hb1.mono kb.size));replace kb:=kb.trans (hb1.mono kb.size);clear hb1;refine HKK7.out _ _ (.inr hS) ?_;clear HKK7
          try simp only [Act.put,sA,sZ,sS]
          refine onE 8 fun KK HKK8=>?_
          go_simp
          go_at_call 40
          refine (HNG.out _ b3 hr1).mono ?_;rintro e u2 ⟨rfl,hr2,hb2⟩;clear hr1;have hS:=HCS.out u2 (kb.trans (hb2.mono kb.size));replace kb:=kb.trans (hb2.mono kb.size);clear hb2;refine HKK8.out _ _ (.inr hS) ?_;clear HKK8
          try simp only [Act.put,sA,sZ,sS]
          refine tkE 9 hS ?_;simp only [Act.put,sA,sZ,sS];have hM9:=HM.out.below hB kb;have hR9:=HR.out.below kb;obtain ⟨rk9,q0,q1,q2,_,_⟩:=hR9.at_ j hlt
          have z0:=fun i=>(hR9.wr (by omega)).fz i
          have HM9:=Lib.hid hM9;have HR9:=Lib.hid hR9;have HR2:=Lib.hid hr2;clear hS hM9 hR9 hr2 kb
          refine onE 10 fun KK HKK10=>?_
          go_simp;refine HKK10.out _ _ (.inl rfl) ?_;clear HKK10;refine wpAnyE_done (by kernel_rfl) ?_ _
          go_wp2_with fail
          go_roundw
          case rel =>
           have hle:RatLe (-(by_*q)) K:=by
            by_cases hjv:j=v
            · rw [HQ.out,hjv,HKR.out.2]
              have : -(by_*(0:Rat))=0:=by grind
              rw [this];exact zero_le K hK1
            · have:=HL.out.1 r j hrm hlt
              unfold mov nowOf at this;simp only [HRO.out.1,if_true,if_neg hjv,if_neg HJK.out] at this
              rwa [←HBY.out,←HQ.out] at this
           have hw:=HR9.out.wr (by omega);refine ⟨j+1,by omega,by go_num,HM9.out.far HOLD.out HNN.out.1 hB (pu3_fr u2 gn (j*3) b3 (-(by_*q))) (hw.noU (by decide)) HNN.out.2.1 HNN.out.2.2,?_⟩;have h1:=HR9.out.put hlt HR2.out hle;rw [←nwI_step HJK.out,←HQ.out];exact h1
          case measure=>simp [intOf];omega
     · have hlt2:¬ ((j:Int)<(P.nv:Int)+(P.m:Int)):=by omega
       obtain rfl:j=P.nv+P.m:=by omega
       obtain ⟨y0,y1,y2⟩:=box3 HM.out.x7;obtain ⟨rq,q0,q1,q2,_,_⟩:=HR.out.at_ v hvN
       have z0:=fun i=>(HR.out.wr (by omega)).fz i
       have hx4:=(tab_cells HM.out.tab hm0 w11 rfl).2.2.2.1
       go_upto_region 20 with fail
       have hw:=HR.out.wr (by omega);have hM13:=HM.out.far HOLD.out HNN.out.1 hB (pu3_fr w11 gn (v*3) b7 by_) (hw.noU (by decide)) HNN.out.2.1 HNN.out.2.2;have hR13:=(HR.out.put hvN HM.out.r7 HLBY.out).congr (f':=nowOf S v kx) (fun j hj=>by rw [HBY.out];exact nwI_end HRO.out.1 j hj)
       obtain ⟨w13,hw13⟩:∃ x0,x0=pu3 w11 gn (v*3) b7 by_:=⟨_,rfl⟩
       rw [←hw13] at hM13 hR13;unfold pu3 at hw13;rw [←hw13];have HM13:=Lib.hid hM13;have HR13:=Lib.hid hR13;have hx4:=(tab_cells hM13.tab hm0 w13 rfl).2.2.2.1;clear hw13 hM13 hR13 hw y0 y1 y2 q0 q1 q2 z0 HM HR hlt hlt2
       go_upto_region 21 with fail
       clear hx4
       go_loopw [172] (fun x wr=>∃ i:Nat,i≤P.m∧x=.int .i64 i∧MvC w wr B T P ((S.withVal (mov P S v kx).val).withA (mvA S v kx i)) K g7 b7 by_ g9 d9 st∧RRow wr gn (P.nv+P.m) (nowOf S v kx) K) (fun x _=>P.m - (intOf x).toNat)
       case atStart=>exact ⟨0,Nat.zero_le _,rfl,by rw [mvA_zero];exact HM13.out,HR13.out⟩
       case round =>
        obtain ⟨i,him,rfl,hM,hrr⟩:=hrel
        obtain ⟨w14,rfl⟩:∃ x,x=wr:=⟨_,rfl⟩
        have HM:=Lib.hid hM;have HR:=Lib.hid hrr;clear hM hrr
        by_cases hlt:i<P.m
        · have e1:(0:Int)≤(i:Int):=by omega
          have e2:(i:Int)<(P.m:Int):=by omega
          obtain ⟨rq,q0,q1,q2,hqa,hql⟩:=(HM.out.tab.rws i hlt).at_ kx hkN
          obtain ⟨q,hq⟩:∃ x,x=((S.withVal (mov P S v kx).val).withA (mvA S v kx i)).a i kx:=⟨_,rfl⟩
          rw [←hq] at q0 hqa hql
          have hq':q=S.a i kx:=by
           rw [hq]
           show mvA S v kx i i kx=_
           unfold mvA;rw [if_neg (by omega)]
          have hoi:=HM.out.tab.out.at_ i hlt;have hx4:=(tab_cells HM.out.tab hm0 w14 rfl).2.2.2.1;have HQ0:=Lib.hid (And.intro hq' (And.intro hqa hql));clear hq hq' hqa hql
          go_upto_region 24 with fail
          have hx16:=heap_alloc_new w14 (.cells #[.bool (ratNeg q),.slice rq.A rq.n rq.c,.slice rq.A2 rq.n2 rq.c2] 26)
          have zw15:(w14.alloc (.cells #[.bool (ratNeg q),.slice rq.A rq.n rq.c,.slice rq.A2 rq.n2 rq.c2] 26)).heap.size=w14.heap.size+1:=by simp
          have aw15:=(Below.refl w14.heap.size w14).alloc (Nat.le_refl _) (.cells #[.bool (ratNeg q),.slice rq.A rq.n rq.c,.slice rq.A2 rq.n2 rq.c2] 26)
          obtain ⟨w15,ew15⟩:∃ x0,x0=w14.alloc (.cells #[.bool (ratNeg q),.slice rq.A rq.n rq.c,.slice rq.A2 rq.n2 rq.c2] 26):=⟨_,rfl⟩
          rw [←ew15] at hx16 zw15 aw15 ⊢;clear ew15
          obtain ⟨g16,hg16⟩:∃ x0,x0=w14.heap.size:=⟨_,rfl⟩
          rw [←hg16] at hx16 ⊢
          have hn16:w.heap.size≤g16∧gn≠g16:=by
           have h1:=HM.out.bel.size;have h2:=(HR.out.wr (by omega)).lt;exact ⟨by omega,by omega⟩
          have HM15:=Lib.hid (HM.out.below hB aw15);have HR15:=Lib.hid (HR.out.below aw15);have HQ:=Lib.hid (And.intro HQ0.out.1 (And.intro (HQ0.out.2.1.below aw15) HQ0.out.2.2));have HX16:=Lib.hid hx16;have HN16:=Lib.hid hn16;clear HQ0 q0 q1 q2 hoi hx4 hg16 hn16 aw15 zw15 hx16 HM HR
          by_cases hir:i=r
          · have e4:((i:Int) == (r:Int))=true:=by simp [hir]
            have HIR:=Lib.hid hir;clear hir
            as_aux_lemma =>
             go_wp2_with fail
             go_roundw
             case rel =>
              refine ⟨i+1,by omega,by go_num,?_,HR15.out⟩;rw [←mvA_skip (.inl (by rw [HRO.out.1];exact HIR.out))];exact HM15.out
             case measure=>simp [intOf];omega
          · have e4:((i:Int) == (r:Int))=false:=by simp;omega
            have HIR:=Lib.hid hir;clear hir;have hsg:=sign_any rq q w15 HQ.out.2.1;unfold RB.val at hsg;have hsz:=@signZ_nul q
            obtain ⟨z,hz⟩:∃ z,z=signZ q:=⟨_,rfl⟩
            rw [←hz] at hsg hsz;have HSG:=Lib.hid hsg;have HSZ:=Lib.hid hsz;obtain ⟨y0,y1,y2⟩:=box3 HX16.out;clear hsg hsz hz;have hcall:=HSG.out
            by_cases hz0:z=0
            · have hz1:(z == 0)=true:=by simpa using hz0
              have HZ0:=Lib.hid hz0;clear hz0
              as_aux_lemma =>
               go_wp2_with (go_at_call 33;refine hcall.mono ?_;clear hcall;rintro e w16 ⟨rfl,hb16⟩;have HB16:=Lib.hid hb16;clear hb16)
               refine ⟨?_,?measure⟩
               iterate 6 apply Exists.intro
               repeat apply Exists.intro
               refine ⟨?rel,rfl⟩
               case rel =>
                refine ⟨i+1,by omega,by go_num,?_,HR15.out.below HB16.out⟩;rw [←mvA_skip (.inr (by rw [←HQ.out.1];exact HSZ.out.1 HZ0.out))];exact HM15.out.below hB HB16.out
               case measure=>simp [intOf];omega
            · have hz1:(z == 0)=false:=by simpa using hz0
              clear hz0
              go_upto_region 25 with (go_at_call 33;refine hcall.mono ?_;clear hcall;rintro e w16 ⟨rfl,hb16⟩;have HB16:=Lib.hid hb16;clear hb16)
              have HM16:=Lib.hid (HM15.out.below hB HB16.out);have HR16:=Lib.hid (HR15.out.below HB16.out);have HX16':=Lib.hid (box_keep HX16.out HB16.out);have HQA16:=Lib.hid (HQ.out.2.1.below HB16.out);clear HM15 HR15 HX16 y0 y1 y2 HB16 HSG HSZ
              go_upto_region 26 with fail
              go_loopw [195] (fun x wr=>∃ j:Nat,j≤P.nv+P.m∧x=.int .i64 j∧MvC w wr B T P ((S.withVal (mov P S v kx).val).withA (mvAj S v kx i j)) K g7 b7 by_ g9 d9 st∧RRow wr gn (P.nv+P.m) (nowOf S v kx) K∧wr.heap[g16]?=some (.cells #[.bool (ratNeg q),.slice rq.A rq.n rq.c,.slice rq.A2 rq.n2 rq.c2] 26 (0,0))∧RatAt wr rq q) (fun x _=>P.nv+P.m - (intOf x).toNat)
              case atStart=>exact ⟨0,Nat.zero_le _,rfl,by rw [←mvAj_zero];exact HM16.out,HR16.out,HX16'.out,HQA16.out⟩
              case round =>
               obtain ⟨j,hjN,rfl,hM,hrr,hx16,hqa⟩:=hrel
               obtain ⟨w17,rfl⟩:∃ x,x=wr:=⟨_,rfl⟩
               have HM:=Lib.hid hM;have HR:=Lib.hid hrr;have HX:=Lib.hid hx16;have HQA:=Lib.hid hqa;clear hM hrr hx16 hqa
               by_cases hlt3:j<P.nv+P.m
               · have e5:(0:Int)≤(j:Int):=by omega
                 have e6:(j:Int)<(P.nv:Int)+(P.m:Int):=by omega
                 obtain ⟨ra,a0,a1,a2,haa,hal⟩:=(HM.out.tab.rws i hlt).at_ j hlt3;obtain ⟨rn,n0,n1,n2,hna,hnl⟩:=HR.out.at_ j hlt3;have hoi:=HM.out.tab.out.at_ i hlt
                 obtain ⟨qa,hqa⟩:∃ x,x=((S.withVal (mov P S v kx).val).withA (mvAj S v kx i j)).a i j:=⟨_,rfl⟩
                 obtain ⟨qn,hqn⟩:∃ x,x=nowOf S v kx j:=⟨_,rfl⟩
                 rw [←hqa] at a0 haa hal;rw [←hqn] at n0 hna hnl
                 have hqa':qa=S.a i j:=by
                  rw [hqa]
                  show mvAj S v kx i j i j=_
                  unfold mvAj;rw [if_pos rfl,if_neg (by omega)]
                 have hcs:∀ W',Below w17.heap.size w17 W'→(W'.cell? ⟨T.g,0,none⟩=some (.int .i64 (P.nv:Int))∧W'.cell? ⟨T.g,2,none⟩=some (.slice (some ⟨T.gb,0,none⟩) P.m T.bc)∧W'.cell? ⟨T.g,3,none⟩=some (.slice (some ⟨T.gr,0,none⟩) (P.nv+P.m) T.rc)∧W'.cell? ⟨T.g,4,none⟩=some (.slice (some ⟨T.ga,0,none⟩) P.m T.ac)∧W'.cell? ⟨T.g,5,none⟩=some (.slice (some ⟨T.gv,0,none⟩) (P.nv+P.m) T.vc)∧W'.cell? ⟨T.g,6,none⟩=some (.slice (some ⟨T.gh,0,none⟩) P.m T.hc))∧(W'.cell? ⟨T.ga,i,none⟩=some (.slice (some ⟨T.rb i,0,none⟩) (P.nv+P.m) (T.rbc i))∧W'.cell? ⟨T.rb i,j*3,none⟩=some (.bool (ratNeg qa))∧W'.cell? ⟨T.rb i,j*3+1,none⟩=some (.slice ra.A ra.n ra.c)∧W'.cell? ⟨T.rb i,j*3+2,none⟩=some (.slice ra.A2 ra.n2 ra.c2))∧(W'.cell? ⟨g16,0,none⟩=some (.bool (ratNeg q))∧W'.cell? ⟨g16,1,none⟩=some (.slice rq.A rq.n rq.c)∧W'.cell? ⟨g16,2,none⟩=some (.slice rq.A2 rq.n2 rq.c2))∧(W'.cell? ⟨gn,j*3,none⟩=some (.bool (ratNeg qn))∧W'.cell? ⟨gn,j*3+1,none⟩=some (.slice rn.A rn.n rn.c)∧W'.cell? ⟨gn,j*3+2,none⟩=some (.slice rn.A2 rn.n2 rn.c2)):=fun W' hb'=>by
                  have k1:∀ {g i:Nat} {x:Value},w17.cell? ⟨g,i,none⟩=some x→W'.cell? ⟨g,i,none⟩=some x:=fun {g i x} e=>(hb'.cell (p:=⟨g,i,none⟩) (World.block_lt_of_cell? w17 _ e)).trans e
                  exact ⟨tab_cells (HM.out.tab.below hb') hm0 W' rfl,⟨k1 hoi,k1 a0,k1 a1,k1 a2⟩,box3 (box_keep HX.out hb'),k1 n0,k1 n1,k1 n2⟩
                 have hml:=fun W (hW:Below w17.heap.size w17 W)=>rmul_any rq rn q qn W (HQA.out.below hW) (hna.below hW) K (by omega) HQ.out.2.2 hnl
                 have had:=fun W (b3:RB) (hW:Below w17.heap.size w17 W) (h3:RatAt W b3 (q*qn))=>add_any ra b3 qa (q*qn) W (haa.below hW) h3 (K+K) (by omega) (hal.up (by omega)) (mul_le HQ.out.2.2 hnl)
                 unfold RB.val at hml had;have HCS:=Lib.hid hcs;have HML:=Lib.hid hml;have HAD:=Lib.hid had;have HQQ:=Lib.hid (And.intro hqa' (And.intro hqn hal));clear hcs hml had hqa hqa' hqn a0 a1 a2 n0 n1 n2 haa hal hna hnl hoi
                 as_aux_lemma =>
                  go_upto_region 28 with fail
                  have kb:Below w17.heap.size w17 w17.drew:=below_drew2 (Below.refl _ _);have hS:=HCS.out w17.drew kb;refine wp_region_E 26 (fun W'=>(W'.cell? ⟨T.g,0,none⟩=some (.int .i64 (P.nv:Int))∧W'.cell? ⟨T.g,2,none⟩=some (.slice (some ⟨T.gb,0,none⟩) P.m T.bc)∧W'.cell? ⟨T.g,3,none⟩=some (.slice (some ⟨T.gr,0,none⟩) (P.nv+P.m) T.rc)∧W'.cell? ⟨T.g,4,none⟩=some (.slice (some ⟨T.ga,0,none⟩) P.m T.ac)∧W'.cell? ⟨T.g,5,none⟩=some (.slice (some ⟨T.gv,0,none⟩) (P.nv+P.m) T.vc)∧W'.cell? ⟨T.g,6,none⟩=some (.slice (some ⟨T.gh,0,none⟩) P.m T.hc))∧(W'.cell? ⟨T.ga,i,none⟩=some (.slice (some ⟨T.rb i,0,none⟩) (P.nv+P.m) (T.rbc i))∧W'.cell? ⟨T.rb i,j*3,none⟩=some (.bool (ratNeg qa))∧W'.cell? ⟨T.rb i,j*3+1,none⟩=some (.slice ra.A ra.n ra.c)∧W'.cell? ⟨T.rb i,j*3+2,none⟩=some (.slice ra.A2 ra.n2 ra.c2))∧(W'.cell? ⟨g16,0,none⟩=some (.bool (ratNeg q))∧W'.cell? ⟨g16,1,none⟩=some (.slice rq.A rq.n rq.c)∧W'.cell? ⟨g16,2,none⟩=some (.slice rq.A2 rq.n2 rq.c2))∧(W'.cell? ⟨gn,j*3,none⟩=some (.bool (ratNeg qn))∧W'.cell? ⟨gn,j*3+1,none⟩=some (.slice rn.A rn.n rn.c)∧W'.cell? ⟨gn,j*3+2,none⟩=some (.slice rn.A2 rn.n2 rn.c2))) (by kernel_rfl) ?_;generalize w17.drew=w18 at kb hS ⊢;refine tkE 0 hS ?_;simp only [Act.put,sA,sZ,sS];refine tkE 1 hS ?_;simp only [Act.put,sA,sZ,sS];refine tkE 2 hS ?_;simp only [Act.put,sA,sZ,sS];refine tkE 3 hS ?_;simp only [Act.put,sA,sZ,sS];refine tkE 4 hS ?_;simp only [Act.put,sA,sZ,sS];refine tkE 5 hS ?_;simp only [Act.put,sA,sZ,sS];refine tkE 6 hS ?_;simp only [Act.put,sA,sZ,sS];refine tkE 7 hS ?_;simp only [Act.put,sA,sZ,sS];refine tkE 8 hS ?_;simp only [Act.put,sA,sZ,sS];refine tkE 9 hS ?_;simp only [Act.put,sA,sZ,sS];refine tkE 10 hS ?_;simp only [Act.put,sA,sZ,sS];refine tkE 11 hS ?_;simp only [Act.put,sA,sZ,sS];refine tkE 12 hS ?_;simp only [Act.put,sA,sZ,sS];refine tkE 13 hS ?_;simp only [Act.put,sA,sZ,sS];refine tkE 14 hS ?_;simp only [Act.put,sA,sZ,sS];refine tkE 15 hS ?_;simp only [Act.put,sA,sZ,sS];refine tkE 16 hS ?_;simp only [Act.put,sA,sZ,sS];refine tkE 17 hS ?_;simp only [Act.put,sA,sZ,sS];refine tkE 18 hS ?_;simp only [Act.put,sA,sZ,sS];refine tkE 19 hS ?_;simp only [Act.put,sA,sZ,sS];refine tkE 20 hS ?_;simp only [Act.put,sA,sZ,sS];refine tkE 21 hS ?_;simp only [Act.put,sA,sZ,sS];refine tkE 22 hS ?_;simp only [Act.put,sA,sZ,sS]
                  refine onE 23 fun KK HKK23=>?_
                  go_simp
                  go_at_call 22
                  refine (HML.out _ kb).mono ?_;rintro e u1 ⟨b3,rfl,hr1,hb1⟩;have hS:=HCS.out u1 (kb.trans (hb1.mono kb.size));replace kb:=kb.trans (hb1.mono kb.size);clear hb1;refine HKK23.out _ _ (.inr hS) ?_;clear HKK23
                  try simp only [Act.put,sA,sZ,sS]
                  refine onE 24 fun KK HKK24=>?_
                  go_simp
                  go_at_call 48
                  refine (HAD.out _ b3 kb hr1).mono ?_;rintro e u2 ⟨b4,rfl,hr2,hb2⟩;clear hr1;have hS:=HCS.out u2 (kb.trans (hb2.mono kb.size));replace kb:=kb.trans (hb2.mono kb.size);clear hb2;refine HKK24.out _ _ (.inr hS) ?_;clear HKK24
                  try simp only [Act.put,sA,sZ,sS]
                  refine tkE 25 hS ?_;simp only [Act.put,sA,sZ,sS];have hM9:=HM.out.below hB kb;obtain ⟨rk9,q0,q1,q2,_,_⟩:=(hM9.tab.rws i hlt).at_ j hlt3
                  have z0:=fun k=>(hM9.tab.wa hlt).fz k
                  have HM9:=Lib.hid hM9;have HR9:=Lib.hid (HR.out.below kb);have HX9:=Lib.hid (box_keep HX.out kb);have HQA9:=Lib.hid (HQA.out.below kb);have HR2:=Lib.hid hr2;clear hS hM9 hr2 kb
                  refine onE 26 fun KK HKK26=>?_
                  go_simp;refine HKK26.out _ _ (.inl rfl) ?_;clear HKK26;refine wpAnyE_done (by kernel_rfl) ?_ _
                  go_wp2_with fail
                  go_roundw
                  case rel =>
                   have hw:=HM9.out.tab.wa hlt;have hob:=HOLD.out.rb i hlt;have hn:=HNE.out _ hob
                   have hgnb:gn≠T.rb i:=by have:=HNN.out.1;omega
                   have hg16b:g16≠T.rb i:=by have:=HN16.out.1;omega
                   have hir:i≠rowOf S v:=by rw [HRO.out.1];exact HIR.out
                   have hle:RatLe (qa+q*qn) K:=by
                    by_cases hjk:j=kx
                    · have h0:qn=0:=by
                       rw [HQQ.out.2.1,hjk];unfold nowOf;rw [if_neg (Ne.symm hvk),if_pos rfl]
                      have:qa+q*qn=qa:=by rw [h0];grind
                      rw [this];exact HQQ.out.2.2
                    · have:=HL.out.1 i j hlt hlt3
                      unfold mov at this;simp only [if_neg hir,if_neg hjk] at this
                      rwa [←HQQ.out.2.1,←HQQ.out.1,←HQ.out.1] at this
                   have hf:=pu3_fr u2 (T.rb i) (j*3) b4 (qa+q*qn);have hS:=hw.noU (by decide);have h1:=HM9.out.turn hB hf hS (HM9.out.tab.lrb i hlt) hn.1 hn.2 (HM9.out.tab.setA hlt hlt3 HR2.out hle)
                   have h2:((S.withVal (mov P S v kx).val).withA (mvAj S v kx i j)).setA i j (qa+q*qn)=(S.withVal (mov P S v kx).val).withA (mvAj S v kx i (j+1)):=by
                    rw [←mvAj_step,HQQ.out.1,HQQ.out.2.1,HQ.out.1]
                    rfl
                   rw [h2] at h1;exact ⟨j+1,by omega,by go_num,h1,HR9.out.fr hf (fun _=>hgnb) hS,(hf.block g16 (lt_of_blk HX9.out) hg16b).trans HX9.out,HQA9.out.frT hf hS⟩
                  case measure=>simp [intOf];omega
               · have hlt4:¬ ((j:Int)<(P.nv:Int)+(P.m:Int)):=by omega
                 obtain rfl:j=P.nv+P.m:=by omega
                 obtain ⟨ra,a0,a1,a2,haa,hal⟩:=(HM.out.tab.rws i hlt).at_ kx hkN
                 have z0:=fun k=>(HM.out.tab.wa hlt).fz k
                 have hoi:=HM.out.tab.out.at_ i hlt;have hx4:=(tab_cells HM.out.tab hm0 w17 rfl).2.2.2.1
                 as_aux_lemma =>
                  go_upto_region 31 with fail
                  have hw:=HM.out.tab.wa hlt;have hn:=HNE.out _ (HOLD.out.rb i hlt)
                  have hgnb:gn≠T.rb i:=by have:=HOLD.out.rb i hlt;have:=HNN.out.1;omega
                  have h1:=HM.out.turn hB (pu3_fr w17 (T.rb i) (kx*3) ⟨none,0,0,none,0,0⟩ 0) (hw.noU (by decide)) (HM.out.tab.lrb i hlt) hn.1 hn.2 (HM.out.tab.setA hlt hkN (zero_at w17) (zero_le K hK1))
                  have hir:i≠rowOf S v:=by rw [HRO.out.1];exact HIR.out
                  have h2:=h1.as (h1.tab.congr (S':=(S.withVal (mov P S v kx).val).withA (mvA S v kx (i+1))) (fun i' j' _ hj'=>mvAj_end hir i' j' hj') (fun _ _=>rfl) (fun _ _=>rfl) (fun _ _=>rfl));have h3:=HR.out.fr (pu3_fr w17 (T.rb i) (kx*3) ⟨none,0,0,none,0,0⟩ 0) (fun _=>hgnb) (hw.noU (by decide));unfold pu3 at h2 h3;rw [zero_neg] at h2 h3
                  obtain ⟨w18,hw18⟩:∃ x0,x0=((w17.setCell ⟨T.rb i,kx*3,none⟩ (.bool false)).setCell ⟨T.rb i,kx*3+1,none⟩ (.slice none 0 0)).setCell ⟨T.rb i,kx*3+2,none⟩ (.slice none 0 0):=⟨_,rfl⟩
                  rw [←hw18] at h2 h3 ⊢;have HH2:=Lib.hid h2;have HH3:=Lib.hid h3;clear h1 h2 h3 hw hn hgnb hir hw18 a0 a1 a2 haa hal z0 hoi hx4 hlt4
                  go_wp2_with fail
                  refine ⟨?_,?measure⟩
                  iterate 6 apply Exists.intro
                  repeat apply Exists.intro
                  refine ⟨?rel,rfl⟩
                  case rel=>exact ⟨i+1,by omega,by go_num,HH2.out,HH3.out⟩
                  case measure=>simp [intOf];omega
        · have hlt2:¬ ((i:Int)<(P.m:Int)):=by omega
          obtain rfl:i=P.m:=by omega
          have hx4:=(tab_cells HM.out.tab hm0 w14 rfl).2.2.2.1;have hoc:=HM.out.tab.out.at_ r hrm
          have z0:=fun i=>(HM.out.tab.out.wr hm0).fz i
          as_aux_lemma =>
           go_upto_region 33 with fail
           have hT1:=HM.out.tab.setOut (c:=P.nv+P.m) hrm HR.out (by have:=HNN.out.1;omega) (fun j hj=>by have:=HOLD.out.rb j hj;have:=HNN.out.1;omega);have hba:=(HM.out.tab.lb hm0).2.1;have hk1:Below B w (w14.setCell ⟨T.ga,r,none⟩ (.slice (some ⟨gn,0,none⟩) (P.nv+P.m) (P.nv+P.m))):=bl_set HM.out.bel hba
           obtain ⟨T2,hT2⟩:∃ x0,x0=T.setRb r gn (P.nv+P.m):=⟨_,rfl⟩
           obtain ⟨w15,hw15⟩:∃ x0,x0=w14.setCell ⟨T.ga,r,none⟩ (.slice (some ⟨gn,0,none⟩) (P.nv+P.m) (P.nv+P.m)):=⟨_,rfl⟩
           rw [←hw15] at hT1 hk1 ⊢
           have hct:∀ (W':World) (S':Sx),TabAt W' B (T.setRb r gn (P.nv+P.m)) P S' K→W'.cell? ⟨T.g,0,none⟩=some (.int .i64 (P.nv:Int))∧W'.cell? ⟨T.g,2,none⟩=some (.slice (some ⟨T.gb,0,none⟩) P.m T.bc)∧W'.cell? ⟨T.g,3,none⟩=some (.slice (some ⟨T.gr,0,none⟩) (P.nv+P.m) T.rc)∧W'.cell? ⟨T.g,4,none⟩=some (.slice (some ⟨T.ga,0,none⟩) P.m T.ac)∧W'.cell? ⟨T.g,5,none⟩=some (.slice (some ⟨T.gv,0,none⟩) (P.nv+P.m) T.vc)∧W'.cell? ⟨T.g,6,none⟩=some (.slice (some ⟨T.gh,0,none⟩) P.m T.hc):=fun W' S' hh=>tab_cells hh hm0 W' rfl
           have HT1:=Lib.hid (hT1.below (below_drew2 (Below.refl w15.heap.size w15)));have HK1:=Lib.hid (hk1.trans ((below_drew2 (Below.refl w15.heap.size w15)).mono (Nat.le_trans hB hk1.size)));have HCT:=Lib.hid hct;have hS:=hct w15.drew _ HT1.out;clear hT1 hk1 hw15 hct hT2 T2 hx4 hoc z0;refine wp_region_E 22 (fun W'=>(W'.cell? ⟨T.g,0,none⟩=some (.int .i64 (P.nv:Int))∧W'.cell? ⟨T.g,2,none⟩=some (.slice (some ⟨T.gb,0,none⟩) P.m T.bc)∧W'.cell? ⟨T.g,3,none⟩=some (.slice (some ⟨T.gr,0,none⟩) (P.nv+P.m) T.rc)∧W'.cell? ⟨T.g,4,none⟩=some (.slice (some ⟨T.ga,0,none⟩) P.m T.ac)∧W'.cell? ⟨T.g,5,none⟩=some (.slice (some ⟨T.gv,0,none⟩) (P.nv+P.m) T.vc)∧W'.cell? ⟨T.g,6,none⟩=some (.slice (some ⟨T.gh,0,none⟩) P.m T.hc))) (by kernel_rfl) ?_;generalize w15.drew=w16 at HT1 HK1 hS ⊢;refine tkE 0 hS ?_;simp only [Act.put,sA,sZ,sS];refine tkE 1 hS ?_;simp only [Act.put,sA,sZ,sS];refine tkE 2 hS ?_;simp only [Act.put,sA,sZ,sS];refine tkE 3 hS ?_;simp only [Act.put,sA,sZ,sS];refine tkE 4 hS ?_;simp only [Act.put,sA,sZ,sS];refine tkE 5 hS ?_;simp only [Act.put,sA,sZ,sS];refine tkE 6 hS ?_;simp only [Act.put,sA,sZ,sS];refine tkE 7 hS ?_;simp only [Act.put,sA,sZ,sS];refine tkE 8 hS ?_;simp only [Act.put,sA,sZ,sS];refine tkE 9 hS ?_;simp only [Act.put,sA,sZ,sS];refine tkE 10 hS ?_;simp only [Act.put,sA,sZ,sS];refine tkE 11 hS ?_;simp only [Act.put,sA,sZ,sS];refine tkE 12 hS ?_;simp only [Act.put,sA,sZ,sS];refine tkE 13 hS ?_;simp only [Act.put,sA,sZ,sS];refine tkE 14 hS ?_;simp only [Act.put,sA,sZ,sS];refine tkE 15 hS ?_;simp only [Act.put,sA,sZ,sS];refine tkE 16 hS ?_;simp only [Act.put,sA,sZ,sS];refine tkE 17 hS ?_;simp only [Act.put,sA,sZ,sS];have hbc:w16.cell? ⟨T.gb,r,none⟩=some (.int .i64 _):=HT1.out.bas.at_ r hrm
           have hz:∀ i,w16.frozen? ⟨T.gb,i,none⟩=false:=fun i=>(HT1.out.bas.wr hm0).fz i
           have hT2:TabAt (w16.setCell ⟨T.gb,r,none⟩ (.int .i64 (kx:Int))) B (T.setRb r gn (P.nv+P.m)) P _ K:=HT1.out.setBas hrm kx;have hK2:Below B w (w16.setCell ⟨T.gb,r,none⟩ (.int .i64 (kx:Int))):=bl_set HK1.out (HT1.out.lb hm0).1;replace hS:=HCT.out _ _ hT2;have HT2:=Lib.hid hT2;have HK2:=Lib.hid hK2;clear hT2 hK2
           refine onE 18 fun KK HKK18=>?_
           go_simp;refine HKK18.out _ _ (.inr hS) ?_;clear HKK18 hbc hz HT1 HK1
           obtain ⟨w17,hw17⟩:∃ x0,x0=w16.setCell ⟨T.gb,r,none⟩ (.int .i64 (kx:Int)):=⟨_,rfl⟩
           have hT2:=HT2.out;have hK2:=HK2.out;rw [←hw17] at hT2 hK2 hS ⊢;have HT3:=Lib.hid hT2;have HK3:=Lib.hid hK2;clear hT2 hK2 HT2 HK2 hw17
           try simp only [Act.put,sA,sZ,sS]
           refine tkE 19 hS ?_;simp only [Act.put,sA,sZ,sS];have hbc:w17.cell? ⟨T.gr,kx,none⟩=some (.int .i64 _):=HT3.out.row.at_ kx hkN
           have hz:∀ i,w17.frozen? ⟨T.gr,i,none⟩=false:=fun i=>HT3.out.wrow.fz i
           have hT4:TabAt (w17.setCell ⟨T.gr,kx,none⟩ (.int .i64 (r:Int))) B (T.setRb r gn (P.nv+P.m)) P _ K:=HT3.out.setRow hkN (r:Int);have hK4:Below B w (w17.setCell ⟨T.gr,kx,none⟩ (.int .i64 (r:Int))):=bl_set HK3.out HT3.out.lr;replace hS:=HCT.out _ _ hT4;have HT4:=Lib.hid hT4;have HK4:=Lib.hid hK4;clear hT4 hK4
           refine onE 20 fun KK HKK20=>?_
           go_simp;refine HKK20.out _ _ (.inr hS) ?_;clear HKK20 hbc hz HT3 HK3
           obtain ⟨w18,hw18⟩:∃ x0,x0=w17.setCell ⟨T.gr,kx,none⟩ (.int .i64 (r:Int)):=⟨_,rfl⟩
           have hT4:=HT4.out;have hK4:=HK4.out;rw [←hw18] at hT4 hK4 hS ⊢;have HT5:=Lib.hid hT4;have HK5:=Lib.hid hK4;clear hT4 hK4 HT4 HK4 hw18
           try simp only [Act.put,sA,sZ,sS]
           refine tkE 21 hS ?_;simp only [Act.put,sA,sZ,sS];have hbc:w18.cell? ⟨T.gr,v,none⟩=some (.int .i64 _):=HT5.out.row.at_ v hvN
           have hz:∀ i,w18.frozen? ⟨T.gr,i,none⟩=false:=fun i=>HT5.out.wrow.fz i
           clear hS
           refine onE 22 fun KK HKK22=>?_
           go_simp;refine HKK22.out _ _ (.inl rfl) ?_;clear HKK22;refine wpAnyE_done (by kernel_rfl) ?_ _
           go_wp2_with fail
           go_end0
           refine ⟨rfl,T.setRb r gn (P.nv+P.m),rfl,(HT5.out.setRow hvN (-1)).congr (S':=mov P S v kx) ?_ (fun _ _=>rfl) ?_ ?_,bl_set HK5.out HT5.out.lr⟩
           · intro i j hi hj
             rw [←mvA_end i j hi,HRO.out.1]
             rfl
           · intro i hi
             show updF S.bas r kx i=if i=rowOf S v then kx else S.bas i
             rw [HRO.out.1]
             rfl
           · intro j hj
             show updF (updF S.row kx (r:Int)) v (-1) j=if j=v then -1 else if j=kx then (rowOf S v:Int) else S.row j
             rw [HRO.out.1]
             rfl
end Go.Proofs.YtdefcbfofonabaaGreat
