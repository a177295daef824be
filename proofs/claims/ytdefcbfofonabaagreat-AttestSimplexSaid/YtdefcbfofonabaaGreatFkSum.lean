/- Contract of farkas.Sum. -/
import Derived.Test.YtdefcbfofonabaaGreatFkMem
import Derived.Test.YtdefcbfofonabaaGreatSmCheck
import Derived.Test.YtdefcbfofonabaaGreatLinX
namespace Go.Proofs.YtdefcbfofonabaaGreat
open Go.RowKit
set_option linter.unusedVariables false
set_option linter.unusedSimpArgs false
theorem boxE4 {w:World} {g:Nat} {a b c d:Value} {t:TypeId} (h:w.heap[g]?=some (.cells #[a,b,c,d] t (0,0))):w.cell? ⟨g,0,none⟩=some a∧w.cell? ⟨g,1,none⟩=some b∧w.cell? ⟨g,2,none⟩=some c∧w.cell? ⟨g,3,none⟩=some d :=
 ⟨cell_of_blk h 0,cell_of_blk h 1,cell_of_blk h 2,cell_of_blk h 3⟩
def coL (l:List AB) (i:Nat) (v:Int):Rat:=(l[i]?.map fun a=>coT (tmsOf a.l) v).getD 0
def qL (l:List AB) (i:Nat):Rat:=(l[i]?.map AB.q).getD 0
def opL (l:List AB) (i:Nat):Int:=(l[i]?.map AB.op).getD 0
def strN (l:List AB) (t:Nat→Rat):Nat→Bool
 | 0=>false
 | i+1=>strN l t i || (decide (opL l i=2) && decide (0<t i))
theorem coL_at {l:List AB} {i:Nat} {a:AB} (h:l[i]?=some a) (v:Int):coL l i v=coT (tmsOf a.l) v:=by
 unfold coL;rw [h]
 rfl
theorem qL_at {l:List AB} {i:Nat} {a:AB} (h:l[i]?=some a):qL l i=a.q:=by
 unfold qL;rw [h]
 rfl
theorem opL_at {l:List AB} {i:Nat} {a:AB} (h:l[i]?=some a):opL l i=a.op:=by
 unfold opL;rw [h]
 rfl
theorem sumN_size {f:Nat→Rat} {k:Nat}:∀ i,(∀ j,j<i→RatLe (f j) k)→RatLe (sumN f i) (1+(k+1)*i)
 | 0,_=>zero_le _ (by omega)
 | i+1,h=>by
   have h1:=add_le (sumN_size i fun j hj=>h j (by omega)) (h i (by omega));refine h1.up ?_;rw [Nat.mul_add];omega
theorem exc_few {w:World} {e:EB} {l:List TB} {q:Rat} {k:Nat} (h:ExC w e l q k) (hv:∀ v,coT (tmsOf l) v≠0→0≤v∧v<3):e.n≤3:=by
 have h1:=few_vars (tmsOf l) 0 3 h.can.inc (fun x hx=>hv x.1 (by rw [cano_co h.can.inc x hx];exact h.can.nz x hx)) (by decide);have h2:=h.tms.len;rw [tmsOf_len] at h1;omega
theorem coT_range {l:List TB} (h:∀ t ∈ l,0≤t.2.1∧t.2.1<((3:Nat):Int)) (v:Int) (hv:coT (tmsOf l) v≠0):0≤v∧v<3:=by
 refine Classical.byContradiction fun hn=>hv (coT_none fun x hx e=>?_)
 unfold tmsOf at hx;obtain ⟨y,hy,rfl⟩:=List.mem_map.1 hx;have:=h y hy;omega
theorem coL_range {l:List AB} (h:VarsIn 3 l) (i:Nat) (v:Int) (hv:¬ (0≤v∧v<3)):coL l i v=0:=by
 cases e:l[i]? with
 | none =>
   unfold coL;rw [e]
   rfl
 | some a =>
   rw [coL_at e]
   exact Classical.byContradiction fun hn=>hv (coT_range (h a (List.mem_of_getElem? e)) v hn)
theorem sum_range {l:List AB} (h:VarsIn 3 l) (t:Nat→Rat) (i:Nat) (v:Int) (hv:sumN (fun j=>t j*coL l j v) i≠0):0≤v∧v<3:=by
 refine Classical.byContradiction fun hn=>hv ?_
 have:∀ j,t j*coL l j v=0:=fun j=>by rw [coL_range h j v hn];grind
 rw [sumN_congr (g:=fun _=>0) i fun j _=>this j,sumN_zero]
def SumP (w:World) (l:List AB) (t:Nat→Rat) (m:Nat) (e:Ending) (w':World):Prop:=∃ (E:EB) (l8:List TB),e=.returned (.tuple #[E.val (ratNeg (sumN (fun j=>t j*qL l j) m)),.bool (strN l t m),.int .i64 0])∧ExC w' E l8 (sumN (fun j=>t j*qL l j) m) 120∧(∀ v,coT (tmsOf l8) v=sumN (fun j=>t j*coL l j v) m)∧Below w.heap.size w w'
set_option maxRecDepth 100000 in
set_option maxHeartbeats 8000000 in
theorem fsum_any (A:Option Addr) (m c:Nat) (l:List AB) (mt k gt cc:Nat) (t:Nat→Rat) (w:World) (h:AtmsAt w A m c l mt k) (hm:m≤8) (hmt:mt≤16) (hk:k≤4) (ht:RRow w gt m t 8) (hop:∀ i a,l[i]?=some a→a.op≠3→0≤t i) (hv:VarsIn 3 l) (hf:∀ a ∈ l,Fit9 a) :
 Calls Tryz.prog 32 #[.slice A m c,.slice (some ⟨gt,0,none⟩) m cc] w fun e w'=>SumP w l t m e w':=by
 have H:=Lib.hid h;have HT:=Lib.hid ht;have HOP:=Lib.hid hop;have HV:=Lib.hid hv;have HF:=Lib.hid hf;clear h ht hop hv hf
 go_enter Tryz.func32,Tryz.ntmps32
 go_upto_region 1 with fail
 have hx4:=heap_alloc_new w (.cells #[.slice none 0 0,.bool false,.slice none 0 0,.slice none 0 0] 28)
 have zw1:(w.alloc (.cells #[.slice none 0 0,.bool false,.slice none 0 0,.slice none 0 0] 28)).heap.size=w.heap.size+1:=by simp
 have aw1:=(Below.refl w.heap.size w).alloc (Nat.le_refl _) (.cells #[.slice none 0 0,.bool false,.slice none 0 0,.slice none 0 0] 28)
 obtain ⟨w1,ew1⟩:∃ x0,x0=w.alloc (.cells #[.slice none 0 0,.bool false,.slice none 0 0,.slice none 0 0] 28):=⟨_,rfl⟩
 rw [←ew1] at hx4 zw1 aw1 ⊢;clear ew1
 obtain ⟨g4,hg4⟩:∃ x0,x0=w.heap.size:=⟨_,rfl⟩
 rw [←hg4] at hx4 ⊢;have H4:=Lib.hid (And.intro hx4 (And.intro aw1 (And.intro zw1 hg4)));clear hx4 aw1 zw1 hg4
 go_upto_region 4 with fail
 have hx7:=heap_alloc_new w1 (.cells #[.slice none 0 0,.bool false,.slice none 0 0,.slice none 0 0] 28)
 have zw2:(w1.alloc (.cells #[.slice none 0 0,.bool false,.slice none 0 0,.slice none 0 0] 28)).heap.size=w1.heap.size+1:=by simp
 have aw2:=(Below.refl w1.heap.size w1).alloc (Nat.le_refl _) (.cells #[.slice none 0 0,.bool false,.slice none 0 0,.slice none 0 0] 28)
 obtain ⟨w2,ew2⟩:∃ x0,x0=w1.alloc (.cells #[.slice none 0 0,.bool false,.slice none 0 0,.slice none 0 0] 28):=⟨_,rfl⟩
 rw [←ew2] at hx7 zw2 aw2 ⊢;clear ew2
 obtain ⟨g7,hg7⟩:∃ x0,x0=w1.heap.size:=⟨_,rfl⟩
 rw [←hg7] at hx7 ⊢
 have hgg:g4≠g7∧w.heap.size≤g7∧w.heap.size≤g4:=by
  have h1:=H4.out.2.2.1;have h2:=H4.out.2.2.2;omega
 have HG0:=Lib.hid hgg;have H7:=Lib.hid (And.intro (box_keep H4.out.1 aw2) (And.intro hx7 (H4.out.2.1.trans (aw2.mono H4.out.2.1.size))));have HG:=Lib.hid (And.intro hgg.1 hgg.2.1);clear hx7 aw2 zw2 hg7 hgg
 go_wp2_with fail
 go_loopw [8,20] (fun y x wr=>∃ (i:Nat) (E:EB) (l8:List TB),i≤m∧x=.int .i64 i∧y=.bool (strN l t i)∧(wr.heap[g4]?=some (.cells #[.slice none 0 0,.bool false,.slice none 0 0,.slice none 0 0] 28 (0,0))∧wr.heap[g7]?=some (.cells #[.slice E.A E.n E.c,.bool (ratNeg (sumN (fun j=>t j*qL l j) i)),.slice E.b.A E.b.n E.b.c,.slice E.b.A2 E.b.n2 E.b.c2] 28 (0,0))∧ExC wr E l8 (sumN (fun j=>t j*qL l j) i) 120∧(∀ v,coT (tmsOf l8) v=sumN (fun j=>t j*coL l j v) i)∧Below w.heap.size w wr)) (fun _ x _=>m - (intOf x).toNat)
 case atStart =>
  refine ⟨0,⟨none,0,0,⟨none,0,0,none,0,0⟩⟩,[],Nat.zero_le _,by first | rfl | go_num,rfl,H7.out.1,?_,⟨TmsAt.nil_ _ _,zero_at _,zero_le _ (by decide),Cano.nil_⟩,fun v=>rfl,H7.out.2.2⟩;exact H7.out.2.1
 case round =>
  obtain ⟨i,E,l8,hin,rfl,rfl,hx4,hx7,hex,hco,hb⟩:=hrel
  obtain ⟨w5,rfl⟩:∃ x,x=wr:=⟨_,rfl⟩
  clear H7 H4
  obtain ⟨Qi,hQi⟩:∃ x,x=sumN (fun j=>t j*qL l j) i:=⟨_,rfl⟩
  obtain ⟨sb,hsb⟩:∃ x,x=strN l t i:=⟨_,rfl⟩
  rw [←hQi] at hx7 hex;rw [←hsb] at ⊢;have HSB:=Lib.hid hsb;clear hsb
  by_cases hlt:i<m
  · obtain ⟨gA,oA,a,ea,hai,y0,y1,y2,y3,y4⟩:=(H.out.below hb).rd.at5 H.out.len hlt
    subst ea;have hma:=List.mem_of_getElem? hai;have hok:=(H.out.below hb).each a hma;obtain ⟨rt,r0,r1,r2,hrt,hlt8⟩:=(HT.out.below hb).at_ i hlt
    obtain ⟨ti,hti⟩:∃ x,x=t i:=⟨_,rfl⟩
    rw [←hti] at r0 hrt hlt8;have hop:=HOP.out i a hai;rw [←hti] at hop;have hfa:=HF.out a hma;have hva:=HV.out a hma
    have c1:(0:Int)≤(i:Int):=by omega
    have c2:(i:Int)<(m:Int):=by omega
    have hsz:∀ (f:Nat→Rat),(∀ j,RatLe (f j) 4)→RatLe (sumN (fun j=>t j*f j) (i+1)) 120:=fun f hfj=>by
     refine (sumN_size (k:=12) (i+1) fun j hj=>?_).up (by omega);obtain ⟨_,_,_,_,_,hl⟩:=HT.out.at_ j (by omega);exact mul_le hl (hfj j)
    have hqs:RatLe (Qi+ti*a.q) 120:=by
     have h1:=hsz (qL l) (fun j=>by
      cases e:l[j]? with
      | none=>unfold qL;rw [e];exact zero_le _ (by decide)
      | some b=>rw [qL_at e];exact ratLe_fit (HF.out b (List.mem_of_getElem? e)).q)
     have e2:sumN (fun j=>t j*qL l j) (i+1)=sumN (fun j=>t j*qL l j) i+t i*qL l i:=rfl;rw [e2,qL_at hai,←hQi,←hti] at h1;exact h1
    have hcs':∀ v,RatLe (coT (tmsOf l8) v+ti*coT (tmsOf a.l) v) 120:=fun v=>by
     have h1:=hsz (fun j=>coL l j v) (fun j=>by
      cases e:l[j]? with
      | none=>unfold coL;rw [e];exact zero_le _ (by decide)
      | some b=>rw [coL_at e];exact ratLe_fit ((HF.out b (List.mem_of_getElem? e)).co v))
     have e2:sumN (fun j=>t j*coL l j v) (i+1)=sumN (fun j=>t j*coL l j v) i+t i*coL l i v:=rfl;rw [e2,coL_at hai,←hco v,←hti] at h1;exact h1
    have hn8:=exc_few hex (fun v hv=>sum_range HV.out t i v (by rw [←hco v];exact hv));have HAI:=Lib.hid hai;have HQ:=Lib.hid hQi;have HTI:=Lib.hid hti;have HHOP:=Lib.hid (And.intro hop (And.intro hok.lo hok.hi));have HC:=Lib.hid (And.intro hok (And.intro hfa (And.intro hva (And.intro hqs (And.intro hcs' hn8)))));have HS0:=Lib.hid (And.intro hx7 (And.intro hx4 (And.intro hex (And.intro hco hb))));have HRT:=Lib.hid (And.intro hrt hlt8);clear hai hQi hti hop hok hfa hva hsz hqs hcs' hn8 hx7 hx4 hex hco hb hma hrt hlt8
    go_upto_region 8 with fail
    have hx10:=heap_alloc_new w5 (.cells #[.slice a.A a.n a.c,.bool (ratNeg a.q),.slice a.b.A a.b.n a.b.c,.slice a.b.A2 a.b.n2 a.b.c2,.int .i64 a.op] 37)
    have zw6:(w5.alloc (.cells #[.slice a.A a.n a.c,.bool (ratNeg a.q),.slice a.b.A a.b.n a.b.c,.slice a.b.A2 a.b.n2 a.b.c2,.int .i64 a.op] 37)).heap.size=w5.heap.size+1:=by simp
    have aw6:=(Below.refl w5.heap.size w5).alloc (Nat.le_refl _) (.cells #[.slice a.A a.n a.c,.bool (ratNeg a.q),.slice a.b.A a.b.n a.b.c,.slice a.b.A2 a.b.n2 a.b.c2,.int .i64 a.op] 37)
    obtain ⟨w6,ew6⟩:∃ x0,x0=w5.alloc (.cells #[.slice a.A a.n a.c,.bool (ratNeg a.q),.slice a.b.A a.b.n a.b.c,.slice a.b.A2 a.b.n2 a.b.c2,.int .i64 a.op] 37):=⟨_,rfl⟩
    rw [←ew6] at hx10 zw6 aw6 ⊢;clear ew6
    obtain ⟨g10,hg10⟩:∃ x0,x0=w5.heap.size:=⟨_,rfl⟩
    rw [←hg10] at hx10 ⊢
    have k1:∀ {W:World} {g i:Nat} {x:Value},Below w5.heap.size w5 W→w5.cell? ⟨g,i,none⟩=some x→W.cell? ⟨g,i,none⟩=some x:=fun {W g i x} hb e=>(hb.cell (p:=⟨g,i,none⟩) (World.block_lt_of_cell? w5 _ e)).trans e
    have hrow:∀ W',Below w5.heap.size w5 W'→W'.cell? ⟨gt,i*3,none⟩=some (.bool (ratNeg ti))∧W'.cell? ⟨gt,i*3+1,none⟩=some (.slice rt.A rt.n rt.c)∧W'.cell? ⟨gt,i*3+2,none⟩=some (.slice rt.A2 rt.n2 rt.c2):=fun W' hb=>⟨k1 hb r0,k1 hb r1,k1 hb r2⟩
    have hsg:=fun W (hW:Below w5.heap.size w5 W)=>sign_any rt ti W (HRT.out.1.below hW)
    have hch:=fun W=>checkS_any a.A a.n a.c a.b (ratNeg a.q) a.op W HHOP.out.2.1 HHOP.out.2.2
    unfold RB.val at hsg
    obtain ⟨zs,hzs⟩:∃ z,z=signZ ti:=⟨_,rfl⟩
    rw [←hzs] at hsg
    have hz1:a.op≠3→¬ zs<0:=fun h=>by
     rw [hzs,signZ_neg];have:=HHOP.out.1 h
     grind
    have hz2:0<zs↔0<ti:=by rw [hzs,signZ_pos]
    have HROW:=Lib.hid hrow;have HSG:=Lib.hid hsg;have HCH:=Lib.hid hch;have HZ:=Lib.hid (And.intro hz1 hz2);have HX10:=Lib.hid (And.intro hx10 aw6);clear k1 hrow hsg hch hz1 hz2 hzs r0 r1 r2 y0 y1 y2 y3 y4 hx10 aw6 zw6 hg10;obtain ⟨x0,x1,x2,x3,x4⟩:=box5c HX10.out.1;obtain ⟨r0,r1,r2⟩:=HROW.out w6 HX10.out.2
    go_cut [40] (fun x wx=>x=.bool false∧Below w6.heap.size w6 wx)
    case first =>
     as_aux_lemma =>
      by_cases h3:a.op=3
      · have h3':(a.op != 3)=false:=by simp [h3]
        clear h3
        go_wp2_with (go_at_call 36;refine (HCH.out _).mono ?_;rintro e w7 ⟨rfl,hb7⟩;have HB7:=Lib.hid hb7;clear hb7 x0 x1 x2 x3 x4;obtain ⟨x0,x1,x2,x3,x4⟩:=box5c (box_keep HX10.out.1 HB7.out))
        go_meet;exact ⟨rfl,HB7.out⟩
      · have h3':(a.op != 3)=true:=by simpa using h3
        have hzn:=HZ.out.1 h3;clear h3
        go_wp2_with (first | (go_at_call 36;refine (HCH.out _).mono ?_;rintro e w7 ⟨rfl,hb7⟩;have HB7:=Lib.hid hb7;clear hb7 x0 x1 x2 x3 x4 r0 r1 r2;obtain ⟨x0,x1,x2,x3,x4⟩:=box5c (box_keep HX10.out.1 HB7.out);obtain ⟨r0,r1,r2⟩:=HROW.out w7 (HX10.out.2.trans (HB7.out.mono HX10.out.2.size))) | (go_at_call 33;refine (HSG.out _ (HX10.out.2.trans (HB7.out.mono HX10.out.2.size))).mono ?_;rintro e w8 ⟨rfl,hb8⟩;have HB8:=Lib.hid (HB7.out.trans (hb8.mono HB7.out.size));clear hb8))
        go_meet;exact ⟨by rw [decide_eq_false (by omega)],HB8.out⟩
    case rest =>
    obtain ⟨rfl,hb7⟩:=hcut
    obtain ⟨w7,rfl⟩:∃ x0,x0=wc:=⟨_,rfl⟩
    have H7:=Lib.hid (And.intro (HX10.out.2.trans (hb7.mono HX10.out.2.size)) (box_keep HX10.out.1 hb7));clear hb7 x0 x1 x2 x3 x4 r0 r1 r2 HX10 HCH;obtain ⟨x0,x1,x2,x3,x4⟩:=box5c H7.out.2;obtain ⟨r0,r1,r2⟩:=HROW.out w7 H7.out.1
    have hst:strN l t (i+1)=(sb || (decide (a.op=2) && decide (0<ti))):=by
     show (strN l t i || (decide (opL l i=2) && decide (0<t i)))=_
     rw [HSB.out,opL_at HAI.out,HTI.out]
    have HST:=Lib.hid hst;clear hst
    go_upto_region 10 with fail
    go_cut [8] (fun y wx=>y=.bool (strN l t (i+1))∧Below w7.heap.size w7 wx)
    case first =>
     as_aux_lemma =>
      clear HSB
      cases sb
      · by_cases h2:a.op=2
        · have h2':(a.op == 2)=true:=by simpa using h2
          have HH2:=Lib.hid h2;clear h2
          go_wp2_with (go_at_call 33;refine (HSG.out _ H7.out.1).mono ?_;rintro e w8 ⟨rfl,hb8⟩;have HB8:=Lib.hid hb8;clear hb8)
          go_meet;refine ⟨?_,HB8.out⟩;rw [HST.out,HH2.out];have:=HZ.out.2;simp [this]
        · have h2':(a.op == 2)=false:=by simpa using h2
          have HH2:=Lib.hid h2;clear h2
          go_wp2_with fail
          go_meet;refine ⟨?_,Below.refl _ _⟩;rw [HST.out];simp [HH2.out]
      · go_wp2_with fail
        go_meet;refine ⟨?_,Below.refl _ _⟩;rw [HST.out]
        rfl
    case rest =>
    obtain ⟨rfl,hb8⟩:=hcut
    obtain ⟨w8,rfl⟩:∃ x0,x0=wc:=⟨_,rfl⟩
    have k58:=H7.out.1.trans (hb8.mono H7.out.1.size);obtain ⟨hok,hfa,hva,hqs,hcs',hn8⟩:=HC.out
    have hsm:w8.heap[g7]?=some (.cells #[.slice E.A E.n E.c,.bool (ratNeg Qi),.slice E.b.A E.b.n E.b.c,.slice E.b.A2 E.b.n2 E.b.c2] 28 (0,0))∧w8.heap[g4]?=some (.cells #[.slice none 0 0,.bool false,.slice none 0 0,.slice none 0 0] 28 (0,0))∧ExC w8 E l8 Qi 120∧(∀ v,coT (tmsOf l8) v=sumN (fun j=>t j*coL l j v) i)∧Below w.heap.size w w8:=⟨box_keep HS0.out.1 k58,box_keep HS0.out.2.1 k58,HS0.out.2.2.1.below k58,HS0.out.2.2.2.1,HS0.out.2.2.2.2.trans (k58.mono HS0.out.2.2.2.2.size)⟩
    have hx10:=box_keep H7.out.2 hb8;have hok8:=hok.below k58;have hrt8:=HRT.out.1.below k58
    have hfit:∀ v,RatLe (coT (tmsOf a.l) v) 4:=fun v=>ratLe_fit (hfa.co v)
    have hscl:∀ W,Below w8.heap.size w8 W→Calls Tryz.prog 6 #[rt.val (ratNeg ti),EB.val ⟨a.A,a.n,a.c,a.b⟩ (ratNeg a.q)] W fun x w'=>XcP W (fun v=>ti*coT (tmsOf a.l) v) (ti*a.q) 12 x w':=fun W hW =>
     scaleX rt ti ⟨a.A,a.n,a.c,a.b⟩ a.l a.q 8 k 12 W (hrt8.below hW) HRT.out.2 (hok8.tms.below hW) (hok8.cst.below hW) hok8.le (by have:=hok8.few;show a.n≤19;omega) (by omega) ((mul_le HRT.out.2 hok8.le).up (by omega)) (fun v=>mul_le HRT.out.2 (hfit v))
    have hadd:∀ W A1 n1 c1 b1 l1,Below w8.heap.size w8 W→ExC W ⟨A1,n1,c1,b1⟩ l1 (ti*a.q) 12→(∀ v,coT (tmsOf l1) v=ti*coT (tmsOf a.l) v)→Calls Tryz.prog 66 #[E.val (ratNeg Qi),EB.val ⟨A1,n1,c1,b1⟩ (ratNeg (ti*a.q))] W fun x w'=>XcP W (fun v=>coT (tmsOf l8) v+ti*coT (tmsOf a.l) v) (Qi+ti*a.q) 120 x w':=fun W A1 n1 c1 b1 l1 hW hx1 hc1=>by
     have hn1:n1≤3:=exc_few hx1 (fun v hv=>coT_range hva v (fun e=>hv (by rw [hc1,e];grind)));have hE:=hsm.2.2.1.below hW;refine (addX E ⟨A1,n1,c1,b1⟩ l8 l1 Qi (ti*a.q) 120 120 W hE.tms hE.cst hE.le (hx1.tms.up (by decide)) hx1.cst (hx1.le.up (by decide)) (by show E.n+n1≤19;omega) (by decide) hqs (fun v=>by rw [hc1 v];exact hcs' v)).mono ?_;rintro x w' ⟨e,l,h1,h2,h3,h4⟩;exact ⟨e,l,h1,h2,fun v=>by rw [h3 v];show coT (tmsOf l8) v+coT (tmsOf l1) v=_;rw [hc1 v],h4⟩
    unfold XcP EB.val at hscl hadd;unfold RB.val at hscl
    dsimp only at hscl hadd
    have hcs:∀ W',Below w8.heap.size w8 W'→(W'.cell? ⟨g7,0,none⟩=some (.slice E.A E.n E.c)∧W'.cell? ⟨g7,1,none⟩=some (.bool (ratNeg Qi))∧W'.cell? ⟨g7,2,none⟩=some (.slice E.b.A E.b.n E.b.c)∧W'.cell? ⟨g7,3,none⟩=some (.slice E.b.A2 E.b.n2 E.b.c2))∧(W'.cell? ⟨g10,0,none⟩=some (.slice a.A a.n a.c)∧W'.cell? ⟨g10,1,none⟩=some (.bool (ratNeg a.q))∧W'.cell? ⟨g10,2,none⟩=some (.slice a.b.A a.b.n a.b.c)∧W'.cell? ⟨g10,3,none⟩=some (.slice a.b.A2 a.b.n2 a.b.c2)∧W'.cell? ⟨g10,4,none⟩=some (.int .i64 a.op))∧(W'.cell? ⟨gt,i*3,none⟩=some (.bool (ratNeg ti))∧W'.cell? ⟨gt,i*3+1,none⟩=some (.slice rt.A rt.n rt.c)∧W'.cell? ⟨gt,i*3+2,none⟩=some (.slice rt.A2 rt.n2 rt.c2)):=fun W' hb=>⟨boxE4 (box_keep hsm.1 hb),box5c (box_keep hx10 hb),HROW.out W' (k58.trans (hb.mono k58.size))⟩
    have HSM:=Lib.hid hsm;have HSC:=Lib.hid hscl;have HAD:=Lib.hid hadd;have HCS:=Lib.hid hcs;clear k58 hok hfa hva hqs hcs' hn8 hsm hx10 hok8 hrt8 hfit hscl hadd hcs hb8 x0 x1 x2 x3 x4 r0 r1 r2 HC HS0 H7 HRT HROW HSG HZ HST HHOP HSB
    go_upto_region 11 with fail
    have kb:Below w8.heap.size w8 w8.drew:=below_drew2 (Below.refl _ _);have hS:=HCS.out w8.drew kb;refine wp_region_E 9 (fun W'=>(W'.cell? ⟨g7,0,none⟩=some (.slice E.A E.n E.c)∧W'.cell? ⟨g7,1,none⟩=some (.bool (ratNeg Qi))∧W'.cell? ⟨g7,2,none⟩=some (.slice E.b.A E.b.n E.b.c)∧W'.cell? ⟨g7,3,none⟩=some (.slice E.b.A2 E.b.n2 E.b.c2))∧(W'.cell? ⟨g10,0,none⟩=some (.slice a.A a.n a.c)∧W'.cell? ⟨g10,1,none⟩=some (.bool (ratNeg a.q))∧W'.cell? ⟨g10,2,none⟩=some (.slice a.b.A a.b.n a.b.c)∧W'.cell? ⟨g10,3,none⟩=some (.slice a.b.A2 a.b.n2 a.b.c2)∧W'.cell? ⟨g10,4,none⟩=some (.int .i64 a.op))∧(W'.cell? ⟨gt,i*3,none⟩=some (.bool (ratNeg ti))∧W'.cell? ⟨gt,i*3+1,none⟩=some (.slice rt.A rt.n rt.c)∧W'.cell? ⟨gt,i*3+2,none⟩=some (.slice rt.A2 rt.n2 rt.c2))) (by kernel_rfl) ?_;generalize w8.drew=w9 at kb hS ⊢;refine tkE 0 hS ?_;simp only [Act.put,sA,sZ,sS];refine tkE 1 hS ?_;simp only [Act.put,sA,sZ,sS];refine tkE 2 hS ?_;simp only [Act.put,sA,sZ,sS];refine tkE 3 hS ?_;simp only [Act.put,sA,sZ,sS];refine tkE 4 hS ?_;simp only [Act.put,sA,sZ,sS];refine tkE 5 hS ?_;simp only [Act.put,sA,sZ,sS];refine tkE 6 hS ?_;simp only [Act.put,sA,sZ,sS]
    refine onE 7 fun KK HKK7=>?_
    go_simp
    go_at_call 6
    refine (HSC.out _ kb).mono ?_;rintro e u1 ⟨⟨A1,n1,c1,b1⟩,l1,rfl,hx1,hc1,hb1⟩
    dsimp only at hx1 ⊢
    have hS:=HCS.out u1 (kb.trans (hb1.mono kb.size));replace kb:=kb.trans (hb1.mono kb.size);clear hb1;refine HKK7.out _ _ (.inr hS) ?_;clear HKK7
    try simp only [Act.put,sA,sZ,sS]
    refine onE 8 fun KK HKK8=>?_
    go_simp
    go_at_call 66
    refine (HAD.out _ A1 n1 c1 b1 l1 kb hx1 hc1).mono ?_;rintro e u2 ⟨⟨A2,n2,c2,b2⟩,l2,rfl,hx2,hc2,hb2⟩
    dsimp only at hx2 ⊢
    clear hx1 hc1;have hS:=HCS.out u2 (kb.trans (hb2.mono kb.size));replace kb:=kb.trans (hb2.mono kb.size);clear hb2;refine HKK8.out _ _ (.inr hS) ?_;clear HKK8
    try simp only [Act.put,sA,sZ,sS]
    have hx79:=box_keep HSM.out.1 kb;obtain ⟨p0,p1,p2,p3⟩:=boxE4 hx79;have z0:=frozen_of_blk hx79 0;have z1:=frozen_of_blk hx79 1;have z2:=frozen_of_blk hx79 2;have z3:=frozen_of_blk hx79 3;have HX7:=Lib.hid hx79;have HX2:=Lib.hid (And.intro hx2 hc2);have HKB:=Lib.hid kb;clear hS hx79 hx2 hc2 kb
    refine onE 9 fun KK HKK9=>?_
    go_simp;refine HKK9.out _ _ (.inl rfl) ?_;clear HKK9;refine wpAnyE_done (by kernel_rfl) ?_ _
    go_wp2_with fail
    go_roundw
    case rel =>
     refine ⟨i+1,⟨A2,n2,c2,b2⟩,l2,by omega,by go_num,rfl,?_⟩
     have e0:sumN (fun j=>t j*qL l j) (i+1)=Qi+ti*a.q:=by
      show sumN (fun j=>t j*qL l j) i+t i*qL l i=_
      rw [HQ.out,HTI.out,qL_at HAI.out]
     have hty:=typ_of HX7.out (by decide);have htu:=typU_of HX7.out (by decide);have hfr:=store4_fr u2 g7 A2 n2 c2 (ratNeg (Qi+ti*a.q)) b2;refine ⟨?_,?_,(by rw [e0];exact ⟨HX2.out.1.tms.fr hfr hty,HX2.out.1.cst.frT hfr htu,HX2.out.1.le,HX2.out.1.can⟩),fun v=>?_,store4_bel (HSM.out.2.2.2.2.trans (HKB.out.mono HSM.out.2.2.2.2.size)) HG.out.2 _ _ _ _ _⟩
     · exact (hfr.block g4 (lt_of_blk (box_keep HSM.out.2.1 HKB.out)) HG.out.1).trans (box_keep HSM.out.2.1 HKB.out)
     · rw [e0]
       exact set_blk (set_blk (set_blk (set_blk HX7.out 0 (.slice A2 n2 c2)) 1 (.bool (ratNeg (Qi+ti*a.q)))) 2 (.slice b2.A b2.n b2.c)) 3 (.slice b2.A2 b2.n2 b2.c2)
     · rw [HX2.out.2 v]
       show _=sumN (fun j=>t j*coL l j v) i+t i*coL l i v
       rw [coL_at HAI.out,HSM.out.2.2.2.1 v,HTI.out]
    case measure=>simp [intOf];omega
  · obtain rfl:m=i:=by omega
    have hlt2:¬ ((m:Int)<(m:Int)):=by omega
    obtain ⟨p0,p1,p2,p3⟩:=boxE4 hx7;obtain ⟨q0,q1,q2,q3⟩:=boxE4 hx4;have z0:=frozen_of_blk hx4 0;have z1:=frozen_of_blk hx4 1;have z2:=frozen_of_blk hx4 2;have z3:=frozen_of_blk hx4 3;have HE:=Lib.hid (And.intro hx4 (And.intro hex (And.intro hco (And.intro hb hQi))));clear hx4 hx7 hex hco hb hQi hlt hin
    go_wp2_with fail
    refine bodyPost_ret (v:=.tuple #[.agg #[.slice E.A E.n E.c,.bool (ratNeg Qi),.slice E.b.A E.b.n E.b.c,.slice E.b.A2 E.b.n2 E.b.c2],.bool sb,.int .i64 0]) (by simp [results,Tryz.results32,go_sem,q0,q1,q2,q3]) rfl ?_;have hfr:=store4_fr w5 g4 E.A E.n E.c (ratNeg Qi) E.b;have hty:=typ_of HE.out.1 (by decide);have htu:=typU_of HE.out.1 (by decide);refine ⟨E,l8,by rw [HE.out.2.2.2.2,HSB.out];rfl,?_,HE.out.2.2.1,store4_bel HE.out.2.2.2.1 HG0.out.2.2 _ _ _ _ _⟩;rw [←HE.out.2.2.2.2];exact ⟨HE.out.2.1.tms.fr hfr hty,HE.out.2.1.cst.frT hfr htu,HE.out.2.1.le,HE.out.2.1.can⟩
end Go.Proofs.YtdefcbfofonabaaGreat
