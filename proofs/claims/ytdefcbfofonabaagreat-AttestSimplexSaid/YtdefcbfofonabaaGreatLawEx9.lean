/- Expressions of small numbers as they come in. -/
import Derived.Test.YtdefcbfofonabaaGreatLinX
import Derived.Test.YtdefcbfofonabaaGreatRegE
import Derived.Test.YtdefcbfofonabaaGreatLinAdd
namespace Go.Proofs.YtdefcbfofonabaaGreat
open Go.RowKit
set_option linter.unusedVariables false
set_option linter.unusedSimpArgs false
structure VB where
 v:Int
 b:NB
def VB.cells (t:VB):List Value:=[.int .i64 t.v,.bool t.b.s,.slice t.b.A t.b.n t.b.c,.slice t.b.A2 t.b.n2 t.b.c2]
def VB.ok (w:World) (t:VB):Prop:=t.b.ok w ∧ -9223372036854775808≤t.v∧t.v≤9223372036854775807
theorem VB.ok.below {w w':World} {t:VB} (h:t.ok w) (hb:Below w.heap.size w w'):t.ok w':=⟨h.1.below hb,h.2⟩
def vbsL (l:List VB):List Value:=l.flatMap VB.cells
theorem vbsL_cons (a:VB) (l:List VB):vbsL (a :: l)=a.cells ++ vbsL l:=List.flatMap_cons
theorem vbsL_at:∀ (l:List VB) (k:Nat) (p:VB),l[k]?=some p→∀ j,j<4→(vbsL l)[k*4+j]?=p.cells[j]?
 | [],k,p,h,_,_=>by simp at h
 | p' :: l,0,p,h,j,hj=>by
   simp at h;subst h;rw [vbsL_cons,List.getElem?_append_left (by simp [VB.cells];omega)];simp
 | p' :: l,k+1,p,h,j,hj=>by
   have ih:=vbsL_at l k p (by simpa using h) j hj;have hl:p'.cells.length=4:=rfl;rw [vbsL_cons,List.getElem?_append_right (by omega),hl,show (k+1)*4+j - 4=k*4+j by omega];exact ih
def TinT (l:List TB):Prop:=∀ t ∈ l,IntB (2520*t.2.2) 249480
theorem tinT_app {l:List TB} (h:TinT l) {t:TB} (ht:IntB (2520*t.2.2) 249480):TinT (l ++ [t]):=fun u hu=>by
 rcases List.mem_append.1 hu with h1 | h1
 · exact h u h1
 · simp at h1
   rw [h1];exact ht
structure VsAt (w:World) (A:Option Addr) (n c:Nat) (l:List VB):Prop where
 rd:Rd w 4 A n (vbsL l)
 len:l.length=n
 cap:n≤c
 each:∀ t ∈ l,t.ok w
theorem VsAt.below {w w':World} {A:Option Addr} {n c:Nat} {l:List VB} (h:VsAt w A n c l) (hb:Below w.heap.size w w'):VsAt w' A n c l:=⟨h.rd.below hb,h.len,h.cap,fun b hm=>(h.each b hm).below hb⟩
theorem Rd.atV {w:World} {A:Option Addr} {n:Nat} {l:List VB} (h:Rd w 4 A n (vbsL l)) (hl:l.length=n) {i:Nat} (hi:i<n):∃ (g off:Nat) (t:VB),A=some ⟨g,off,none⟩∧l[i]?=some t∧w.cell? ⟨g,off+i*4,none⟩=some (.int .i64 t.v)∧w.cell? ⟨g,off+i*4+1,none⟩=some (.bool t.b.s)∧w.cell? ⟨g,off+i*4+2,none⟩=some (.slice t.b.A t.b.n t.b.c)∧w.cell? ⟨g,off+i*4+3,none⟩=some (.slice t.b.A2 t.b.n2 t.b.c2):=by
 obtain ⟨g,off,e,hc⟩:=h.2 (by omega)
 have hl':i<l.length:=by omega
 have key:=vbsL_at l i l[i] (List.getElem?_eq_getElem hl');refine ⟨g,off,l[i],e,List.getElem?_eq_getElem hl',?_,?_,?_,?_⟩
 · have:=hc (i*4) _ ((key 0 (by decide)).trans rfl)
   exact this
 · have:=hc (i*4+1) _ ((key 1 (by decide)).trans rfl)
   rwa [←Nat.add_assoc] at this
 · have:=hc (i*4+2) _ ((key 2 (by decide)).trans rfl)
   rwa [←Nat.add_assoc] at this
 · have:=hc (i*4+3) _ ((key 3 (by decide)).trans rfl)
   rwa [←Nat.add_assoc] at this
def ExM (w:World) (m k:Nat) (r:Ending) (w':World):Prop :=
 ∃ (A':Option Addr) (n' c':Nat) (b':RB) (l':List TB) (q':Rat),r=.returned (.agg #[.slice A' n' c',.bool (ratNeg q'),.slice b'.A b'.n b'.c,.slice b'.A2 b'.n2 b'.c2])∧TmsAt w' A' n' c' l' k∧RatAt w' b' q'∧RatLe q' k∧n'≤m∧(TinT l'∧IntB (2520*q') 249480)∧Below w.heap.size w w'
set_option maxRecDepth 100000 in
set_option maxHeartbeats 4000000 in
theorem expr9 (A:Option Addr) (n c:Nat) (l:List VB) (kb:NB) (w:World) (h:VsAt w A n c l) (hk:kb.ok w) (htl:∀ t ∈ l,t.b.tiny) (htk:kb.tiny) :
 Calls Tryz.prog 56 #[.agg #[.slice A n c,.bool kb.s,.slice kb.A kb.n kb.c,.slice kb.A2 kb.n2 kb.c2]] w fun r w'=>ExM w 12 8 r w':=by
 go_enter Tryz.func56,Tryz.ntmps56
 go_upto_region 1 with fail
 have hx1:=heap_alloc_new w (.cells #[.slice A n c,.bool kb.s,.slice kb.A kb.n kb.c,.slice kb.A2 kb.n2 kb.c2] 72)
 have zw1:(w.alloc (.cells #[.slice A n c,.bool kb.s,.slice kb.A kb.n kb.c,.slice kb.A2 kb.n2 kb.c2] 72)).heap.size=w.heap.size+1:=by simp
 have aw1:=(Below.refl w.heap.size w).alloc (Nat.le_refl _) (.cells #[.slice A n c,.bool kb.s,.slice kb.A kb.n kb.c,.slice kb.A2 kb.n2 kb.c2] 72)
 obtain ⟨w1,ew1⟩:∃ x,x=w.alloc (.cells #[.slice A n c,.bool kb.s,.slice kb.A kb.n kb.c,.slice kb.A2 kb.n2 kb.c2] 72):=⟨_,rfl⟩
 rw [←ew1] at hx1 zw1 aw1 ⊢;clear ew1;have hx2:=heap_alloc_new w1 (.cells #[.slice none 0 0,.bool false,.slice none 0 0,.slice none 0 0] 28)
 have zw2:(w1.alloc (.cells #[.slice none 0 0,.bool false,.slice none 0 0,.slice none 0 0] 28)).heap.size=w1.heap.size+1:=by simp
 have aw2:=(Below.refl w1.heap.size w1).alloc (Nat.le_refl _) (.cells #[.slice none 0 0,.bool false,.slice none 0 0,.slice none 0 0] 28)
 obtain ⟨w2,ew2⟩:∃ x,x=w1.alloc (.cells #[.slice none 0 0,.bool false,.slice none 0 0,.slice none 0 0] 28):=⟨_,rfl⟩
 rw [←ew2] at hx2 zw2 aw2 ⊢;clear ew2;rw [zw1] at hx2;have b2:=aw1.trans (aw2.mono aw1.size);have hv1:=box_keep hx1 aw2
 have hz2:w2.heap.size=w.heap.size+1+1:=by rw [zw2,zw1]
 obtain ⟨x0,x1,x2,x3⟩:=box4 hv1;have hcall:=lof9 kb.s (hk.1.below b2) (hk.2.below b2) htk;have HTL:=Lib.hid htl;clear htl htk;have HV1:=Lib.hid hv1;have HX2:=Lib.hid hx2;have HB2:=Lib.hid b2;have HZ2:=Lib.hid hz2;have H:=Lib.hid h;clear hx1 hx2 hv1 b2 aw1 aw2 zw1 zw2 hz2 h hk
 go_upto_region 2 with (go_at_call 80;refine hcall.mono ?_;clear hcall;rintro e w4 ⟨b4,q,rfl,hr4,⟨hq4,hi4⟩,hb4⟩;have HI4:=Lib.hid hi4;clear hi4;unfold RB.val)
 have hx5:=heap_alloc_new w4 (.cells #[.slice none 0 0,.bool (ratNeg q),.slice b4.A b4.n b4.c,.slice b4.A2 b4.n2 b4.c2] 28)
 have zw5:(w4.alloc (.cells #[.slice none 0 0,.bool (ratNeg q),.slice b4.A b4.n b4.c,.slice b4.A2 b4.n2 b4.c2] 28)).heap.size=w4.heap.size+1:=by simp
 have aw5:=(Below.refl w4.heap.size w4).alloc (Nat.le_refl _) (.cells #[.slice none 0 0,.bool (ratNeg q),.slice b4.A b4.n b4.c,.slice b4.A2 b4.n2 b4.c2] 28)
 obtain ⟨w5,ew5⟩:∃ x,x=w4.alloc (.cells #[.slice none 0 0,.bool (ratNeg q),.slice b4.A b4.n b4.c,.slice b4.A2 b4.n2 b4.c2] 28):=⟨_,rfl⟩
 rw [←ew5] at hx5 zw5 aw5 ⊢;clear ew5;have b5:=hb4.trans (aw5.mono hb4.size);have hv1:=box_keep HV1.out b5;have hv2:=box_keep HX2.out b5
 obtain ⟨go,hgo⟩:∃ go,go=w4.heap.size:=⟨_,rfl⟩
 rw [←hgo] at hx5 ⊢
 have hgo3:w2.heap.size≤go:=by rw [hgo];exact hb4.size
 have HX5:=Lib.hid hx5;have HV1':=Lib.hid hv1;have HV2:=Lib.hid hv2;have HB5:=Lib.hid (HB2.out.trans (b5.mono HB2.out.size));have HR5:=Lib.hid (hr4.below aw5);have HQ5:=Lib.hid hq4;have HG:=Lib.hid (And.intro (show w.heap.size+1<go by have:=HZ2.out;omega) (lt_of_blk hx5));obtain ⟨y0,_,_,_⟩:=box4 hv1;clear hx5 hv1 hv2 b5 hb4 hr4 hq4 aw5 zw5 hgo hgo3 x0 x1 x2 x3 HV1 HX2 HB2 HZ2
 go_wp2_with fail
 clear y0
 go_loopw [4] (fun x wr=>∃ (i:Nat) (lo:List TB) (A':Option Addr) (c':Nat),i≤n∧i≤12∧x=.int .i64 i∧wr.heap[go]?=some (.cells #[.slice A' lo.length c',.bool (ratNeg q),.slice b4.A b4.n b4.c,.slice b4.A2 b4.n2 b4.c2] 28 (0,0))∧COut w5 wr (.slice A' lo.length c') lo 8∧lo.length=i∧TinT lo∧Fr (fun kk=>kk=go) w5 wr) (fun x _=>n - (intOf x).toNat)
 case atStart=>exact ⟨0,[],none,0,Nat.zero_le _,Nat.zero_le _,by first | rfl | go_num,HX5.out,⟨World.ownsRow_nil _ _ _ _,by simp [Value.ownBlock],by simp⟩,rfl,fun t ht=>by simp at ht,Fr.refl _ _⟩
 case round =>
  obtain ⟨i,lo,A',c',hin,hi12,rfl,hxo,hco,hll,hti9,hf⟩:=hrel;have HTI9:=Lib.hid hti9;clear hti9
  obtain ⟨w6,rfl⟩:∃ x,x=wr:=⟨_,rfl⟩
  have hg:=HG.out;have hs5:=HB5.out.size;have hrb:=(hf.block w.heap.size (by omega) (by omega)).trans HV1'.out;obtain ⟨x0,x1,x2,x3⟩:=box4 hrb;have HXO:=Lib.hid hxo;have HCO:=Lib.hid hco;have HLL:=Lib.hid hll;have HF:=Lib.hid hf;have HRB:=Lib.hid hrb
  by_cases hlt:i<n
  · by_cases h12:i<12
    · obtain ⟨g3,of3,t,ea,hti,y0,y1,y2,y3⟩:=H.out.rd.atV H.out.len hlt
      subst ea;have hg3:g3<w.heap.size:=World.block_lt_of_cell? w _ y0;have HOK:=Lib.hid (H.out.each t (List.mem_of_getElem? hti));have HTT:=Lib.hid (HTL.out t (List.mem_of_getElem? hti))
      have b0:(0:Int)≤(i:Int):=by omega
      have hkeep:∀ W',Fr (ownS (.slice A' lo.length c')) w6 W'→∀ p:Addr,p.block<w.heap.size→W'.cell? p=w.cell? p:=fun W' hW p hp=>by
       have e1:=hW.cell (p:=p) (Nat.lt_of_lt_of_le hp (Nat.le_trans hs5 HF.out.size)) (fun hh=>by have:=HCO.out.new _ hh;omega);have e2:=HF.out.cell (p:=p) (Nat.lt_of_lt_of_le hp hs5) (by show ¬ (p.block=go);omega);have e3:=HB5.out.cell (p:=p) hp;exact e1.trans (e2.trans e3)
      have hcs7:∀ W',Fr (ownS (.slice A' lo.length c')) w6 W'→(W'.cell? ⟨go,0,none⟩=some (.slice A' lo.length c'))∧(W'.cell? ⟨w.heap.size,0,none⟩=some (.slice (some ⟨g3,of3,none⟩) n c))∧W'.cell? ⟨g3,of3+i*4,none⟩=some (.int .i64 t.v)∧W'.cell? ⟨g3,of3+i*4+1,none⟩=some (.bool t.b.s)∧W'.cell? ⟨g3,of3+i*4+2,none⟩=some (.slice t.b.A t.b.n t.b.c)∧W'.cell? ⟨g3,of3+i*4+3,none⟩=some (.slice t.b.A2 t.b.n2 t.b.c2):=fun W' hW=>by
       have hk:=hkeep W' hW;have e1:=(hW.block go (lt_of_blk hxo) (fun hh=>own_type hco.own hxo (by decide) hh)).trans hxo;have e2:=(hW.block w.heap.size (lt_of_blk hrb) (fun hh=>by have:=hco.new _ hh;omega)).trans hrb;exact ⟨cell_of_blk e1 0,cell_of_blk e2 0,(hk _ hg3).trans y0,(hk _ hg3).trans y1,(hk _ hg3).trans y2,(hk _ hg3).trans y3⟩
      have HCS7:=Lib.hid hcs7;clear hcs7 hkeep y0 y1 y2 y3 x1 x2 x3 hxo hco hll hf hrb
      go_upto_region 5 with fail
      have hB6:Below w.heap.size w w6:=HB5.out.trans (HF.out.below HB5.out.size (fun b hb=>by omega))
      have hlo:=fun W (hb:Below w6.heap.size w6 W)=>lof9 t.b.s ((HOK.out.1.1.below hB6).below hb) ((HOK.out.1.2.below hB6).below hb) HTT.out
      have HLO:=Lib.hid hlo;have hS:=HCS7.out w6.drew (Fr.refl _ _).drew;obtain ⟨i0,hi,hz0,hz1,hz2⟩:=info_parts info_term;clear hlo hB6 x0;refine wp_region_E 19 (fun W'=>(W'.cell? ⟨go,0,none⟩=some (.slice A' lo.length c'))∧(W'.cell? ⟨w.heap.size,0,none⟩=some (.slice (some ⟨g3,of3,none⟩) n c))∧W'.cell? ⟨g3,of3+i*4,none⟩=some (.int .i64 t.v)∧W'.cell? ⟨g3,of3+i*4+1,none⟩=some (.bool t.b.s)∧W'.cell? ⟨g3,of3+i*4+2,none⟩=some (.slice t.b.A t.b.n t.b.c)∧W'.cell? ⟨g3,of3+i*4+3,none⟩=some (.slice t.b.A2 t.b.n2 t.b.c2)) (by kernel_rfl) ?_;refine tkE 0 hS ?_;simp only [Act.put,sA,sZ,sS];refine tkE 1 hS ?_;simp only [Act.put,sA,sZ,sS];refine tkE 2 hS ?_;simp only [Act.put,sA,sZ,sS];refine tkE 3 hS ?_;simp only [Act.put,sA,sZ,sS];refine tkE 4 hS ?_;simp only [Act.put,sA,sZ,sS];refine tkE 5 hS ?_;simp only [Act.put,sA,sZ,sS];refine tkE 6 hS ?_;simp only [Act.put,sA,sZ,sS];refine tkE 7 hS ?_;simp only [Act.put,sA,sZ,sS];refine tkE 8 hS ?_;simp only [Act.put,sA,sZ,sS];refine tkE 9 hS ?_;simp only [Act.put,sA,sZ,sS];refine tkE 10 hS ?_;simp only [Act.put,sA,sZ,sS];refine tkE 11 hS ?_;simp only [Act.put,sA,sZ,sS];refine tkE 12 hS ?_;simp only [Act.put,sA,sZ,sS];refine tkE 13 hS ?_;simp only [Act.put,sA,sZ,sS]
      refine onE 14 fun KK HKK14=>?_
      go_simp
      go_at_call 80
      refine (HLO.out _ (below_drew2 (Below.refl _ _))).mono ?_;rintro e w8 ⟨b8,q8,rfl,hr8,⟨hq8,hi8⟩,hb8⟩;have HI8:=Lib.hid hi8;clear hi8;unfold RB.val;have c8:Below w6.heap.size w6 w8:=(below_drew2 (Below.refl _ _)).trans (hb8.mono (Nat.le_refl _));have hS8:=HCS7.out w8 (Fr.of_below c8);have HR8:=Lib.hid (And.intro hr8 hq8);clear hr8 hq8 hb8 hS;refine HKK14.out _ _ (.inr hS8) ?_;clear HKK14
      try simp only [Act.put,sA,sZ,sS]
      refine tkE 15 hS8 ?_;simp only [Act.put,sA,sZ,sS]
      refine onE 16 fun KK HKK16=>?_
      go_simp;have c8a:=c8.alloc c8.size (.cells #[.int .i64 t.v,.bool (ratNeg q8),.slice b8.A b8.n b8.c,.slice b8.A2 b8.n2 b8.c2] 44);have hS9:=HCS7.out _ (Fr.of_below c8a);refine HKK16.out _ _ (.inr hS9) ?_;clear HKK16
      try simp only [Act.put,sA,sZ,sS]
      refine onE 17 fun KK HKK17=>?_
      have hco8:=HCO.out.below c8;refine stepS w8 4 #[.int .i64 t.v,.bool (ratNeg q8),.slice b8.A b8.n b8.c,.slice b8.A2 b8.n2 b8.c2] 44 rfl (.tmp 21) (.tmp 36) 23 rfl i0 _ 64 Tryz.underlying23 hi hz0 hz1 hz2 rfl (by decide) (by decide) rfl (.slice A' lo.length c') lo.length (tmsL lo) rfl hco8.own rfl (tmL_one (b8,(t.v,q8))) (by have:=HLL.out;omega) ?_;intro v9 w9 ho9 hf9 hk9
      have hok:TOk w8 8 (b8,(t.v,q8)):=⟨HR8.out.1,HR8.out.2,HOK.out.2⟩
      have hw58:w5.heap.size≤w8.heap.size:=by
       have h1:=HF.out.size;have h2:=c8.size;omega
      have hco9:=hco8.app hw58 hok ho9 hf9 hk9;obtain ⟨A9,c9,rfl,_⟩:=ownsRow_form hco9.own;rw [List.length_append,List.length_singleton] at hco9 hk9 ⊢;have hf89:=(Fr.of_below (S:=ownS (.slice A' lo.length c')) c8).trans hf9 (fun b hb=>.inl hb);have hS10:=HCS7.out w9 hf89;refine HKK17.out _ _ (.inr hS10) ?_;clear HKK17
      try simp only [Act.put,sA,sZ,sS]
      refine tkE 18 hS10 ?_;simp only [Act.put,sA,sZ,sS]
      refine onE 19 fun KK HKK19=>?_
      have hx9:=(hf89.block go (lt_of_blk HXO.out) (fun hh=>own_type HCO.out.own HXO.out (by decide) hh)).trans HXO.out;obtain ⟨p0,p1,p2,p3⟩:=box4 hx9;have z0:=frozen_of_blk hx9 0;have HX9:=Lib.hid hx9;have HCO9:=Lib.hid hco9;have hfr9:Fr (fun kk=>kk=go) w5 w9:=(HF.out.trans (Fr.of_below (S:=fun kk=>kk=go) c8) (fun b hb=>.inl hb)).trans hf9 (fun b hb=>.inr (HCO.out.new b hb));have HF9:=Lib.hid hfr9;clear hx9 hco9 hco8 hf9 hf89 ho9 hk9 hS10 hS9 hS8 hok hw58 c8a hfr9;go_simp;refine HKK19.out _ _ (.inl rfl) ?_;clear HKK19;refine wpAnyE_done (by kernel_rfl) ?_ _
      go_wp2_with fail
      go_roundw
      case rel =>
       refine ⟨i+1,lo ++ [(b8,(t.v,q8))],A9,c9,by omega,by omega,by go_num,?_,?_,by rw [List.length_append,List.length_singleton,HLL.out],tinT_app HTI9.out HI8.out,fr_set HF9.out (.inl rfl)⟩
       · rw [List.length_append,List.length_singleton]
         exact set_blk HX9.out 0 _
       · rw [List.length_append,List.length_singleton]
         exact HCO9.out.frE (fr_set (Fr.refl _ _) (.inl rfl)) HX9.out (by decide)
      case measure=>simp [intOf];omega
    · have h12':¬ ((i:Int)<12):=by omega
      obtain ⟨Ax,cx,ex,htx⟩:=TmsAt.of_own HCO.out.own HCO.out.each
      injection ex with e1 _ e3
      subst e1;subst e3;have hx3:=(HF.out.block (w.heap.size+1) (by omega) (by omega)).trans HV2.out;obtain ⟨y0,y1,y2,y3⟩:=box4 HXO.out;obtain ⟨p0,p1,p2,p3⟩:=box4 hx3;have z0:=frozen_of_blk hx3 0;have z1:=frozen_of_blk hx3 1;have z2:=frozen_of_blk hx3 2;have z3:=frozen_of_blk hx3 3;have hr6:=HR5.out.frB HF.out (typ_of HX5.out (by decide));have hB6:Below w.heap.size w w6:=HB5.out.trans (HF.out.below HB5.out.size (fun b hb=>by omega));have HX3:=Lib.hid hx3;have HT:=Lib.hid htx;have HR6:=Lib.hid hr6;have HB6:=Lib.hid hB6;clear hx3 htx hr6 hB6 x1 x2 x3 hxo hco hll hf hrb
      go_wp2_with fail
      refine bodyPost_ret (v:=.agg #[.slice A' lo.length c',.bool (ratNeg q),.slice b4.A b4.n b4.c,.slice b4.A2 b4.n2 b4.c2]) (by simp [results,Tryz.results56,go_sem,p0,p1,p2,p3]) rfl ?_;have hfr:=store4_fr w6 (w.heap.size+1) A' lo.length c' (ratNeg q) b4;have hty:=typ_of HX3.out (by decide);exact ⟨A',lo.length,c',b4,lo,q,rfl,HT.out.fr hfr hty,HR6.out.frB hfr hty,HQ5.out,by have:=HLL.out;omega,⟨HTI9.out,HI4.out⟩,store4_bel HB6.out (by omega) _ _ _ _ _⟩
  · have h12':¬ (i<n):=hlt
    obtain ⟨Ax,cx,ex,htx⟩:=TmsAt.of_own HCO.out.own HCO.out.each
    injection ex with e1 _ e3
    subst e1;subst e3;have hx3:=(HF.out.block (w.heap.size+1) (by omega) (by omega)).trans HV2.out;obtain ⟨y0,y1,y2,y3⟩:=box4 HXO.out;obtain ⟨p0,p1,p2,p3⟩:=box4 hx3;have z0:=frozen_of_blk hx3 0;have z1:=frozen_of_blk hx3 1;have z2:=frozen_of_blk hx3 2;have z3:=frozen_of_blk hx3 3;have hr6:=HR5.out.frB HF.out (typ_of HX5.out (by decide));have hB6:Below w.heap.size w w6:=HB5.out.trans (HF.out.below HB5.out.size (fun b hb=>by omega));have HX3:=Lib.hid hx3;have HT:=Lib.hid htx;have HR6:=Lib.hid hr6;have HB6:=Lib.hid hB6;clear hx3 htx hr6 hB6 x1 x2 x3 hxo hco hll hf hrb
    go_wp2_with fail
    refine bodyPost_ret (v:=.agg #[.slice A' lo.length c',.bool (ratNeg q),.slice b4.A b4.n b4.c,.slice b4.A2 b4.n2 b4.c2]) (by simp [results,Tryz.results56,go_sem,p0,p1,p2,p3]) rfl ?_;have hfr:=store4_fr w6 (w.heap.size+1) A' lo.length c' (ratNeg q) b4;have hty:=typ_of HX3.out (by decide);exact ⟨A',lo.length,c',b4,lo,q,rfl,HT.out.fr hfr hty,HR6.out.frB hfr hty,HQ5.out,by have:=HLL.out;omega,⟨HTI9.out,HI4.out⟩,store4_bel HB6.out (by omega) _ _ _ _ _⟩
end Go.Proofs.YtdefcbfofonabaaGreat

namespace Go.Proofs.YtdefcbfofonabaaGreat
open Go.RowKit
set_option linter.unusedVariables false
set_option linter.unusedSimpArgs false
def store5 (w:World) (g:Nat) (A:Option Addr) (n c:Nat) (s:Bool) (b:RB) (o:Int):World:=(store4 w g A n c s b).setCell ⟨g,4,none⟩ (.int .i64 o)
theorem store5_fr (w:World) (g:Nat) (A:Option Addr) (n c:Nat) (s:Bool) (b:RB) (o:Int):Fr (fun k=>k=g) w (store5 w g A n c s b o):=fr_set (store4_fr w g A n c s b) (.inl rfl)
theorem store5_bel {w0 w:World} {g B:Nat} (h:Below B w0 w) (hg:B≤g) (A:Option Addr) (n c:Nat) (s:Bool) (b:RB) (o:Int):Below B w0 (store5 w g A n c s b o):=bl_set (store4_bel h hg _ _ _ _ _) hg
theorem box5 {w:World} {g:Nat} {a b c d e:Value} {t:TypeId} (h:w.heap[g]?=some (.cells #[a,b,c,d,e] t (0,0))):w.cell? ⟨g,0,none⟩=some a∧w.cell? ⟨g,1,none⟩=some b∧w.cell? ⟨g,2,none⟩=some c∧w.cell? ⟨g,3,none⟩=some d∧w.cell? ⟨g,4,none⟩=some e :=
 ⟨cell_of_blk h 0,cell_of_blk h 1,cell_of_blk h 2,cell_of_blk h 3,cell_of_blk h 4⟩
structure XB where
 A:Option Addr
 n:Nat
 c:Nat
 l:List VB
 b:NB
 op:Int
def XB.cells (t:XB):List Value:=[.slice t.A t.n t.c,.bool t.b.s,.slice t.b.A t.b.n t.b.c,.slice t.b.A2 t.b.n2 t.b.c2,.int .i64 t.op]
def XB.ok (w:World) (t:XB):Prop:=VsAt w t.A t.n t.c t.l∧t.b.ok w
def XB.tiny (t:XB):Prop:=(∀ u ∈ t.l,u.b.tiny)∧t.b.tiny
theorem XB.ok.below {w w':World} {t:XB} (h:t.ok w) (hb:Below w.heap.size w w'):t.ok w':=⟨h.1.below hb,h.2.below hb⟩
def TinA (a:AB):Prop:=TinT a.l∧IntB (2520*a.q) 249480
set_option maxRecDepth 100000 in
set_option maxHeartbeats 4000000 in
theorem aof9 (t:XB) (w:World) (h:t.ok w) (hti:t.tiny) (h1:1≤t.op) (h3:t.op≤3) :
 Calls Tryz.prog 26 #[.agg #[.slice t.A t.n t.c,.bool t.b.s,.slice t.b.A t.b.n t.b.c,.slice t.b.A2 t.b.n2 t.b.c2,.int .i64 t.op]] w fun r w'=>∃ a:AB,r=.returned a.val∧AOk w' 12 8 a∧TinA a∧Below w.heap.size w w':=by
 obtain ⟨A,n,c,l,b,op⟩:=t;simp only at h1 h3 ⊢
 go_enter Tryz.func26,Tryz.ntmps26
 go_upto_region 1 with fail
 have hx1:=heap_alloc_new w (.cells #[.slice A n c,.bool b.s,.slice b.A b.n b.c,.slice b.A2 b.n2 b.c2,.int .i64 op] 74)
 have zw1:(w.alloc (.cells #[.slice A n c,.bool b.s,.slice b.A b.n b.c,.slice b.A2 b.n2 b.c2,.int .i64 op] 74)).heap.size=w.heap.size+1:=by simp
 have aw1:=(Below.refl w.heap.size w).alloc (Nat.le_refl _) (.cells #[.slice A n c,.bool b.s,.slice b.A b.n b.c,.slice b.A2 b.n2 b.c2,.int .i64 op] 74)
 obtain ⟨w1,ew1⟩:∃ x,x=w.alloc (.cells #[.slice A n c,.bool b.s,.slice b.A b.n b.c,.slice b.A2 b.n2 b.c2,.int .i64 op] 74):=⟨_,rfl⟩
 rw [←ew1] at hx1 zw1 aw1 ⊢;clear ew1;have hx2:=heap_alloc_new w1 (.cells #[.slice none 0 0,.bool false,.slice none 0 0,.slice none 0 0,.int .i64 0] 37)
 have zw2:(w1.alloc (.cells #[.slice none 0 0,.bool false,.slice none 0 0,.slice none 0 0,.int .i64 0] 37)).heap.size=w1.heap.size+1:=by simp
 have aw2:=(Below.refl w1.heap.size w1).alloc (Nat.le_refl _) (.cells #[.slice none 0 0,.bool false,.slice none 0 0,.slice none 0 0,.int .i64 0] 37)
 obtain ⟨w2,ew2⟩:∃ x,x=w1.alloc (.cells #[.slice none 0 0,.bool false,.slice none 0 0,.slice none 0 0,.int .i64 0] 37):=⟨_,rfl⟩
 rw [←ew2] at hx2 zw2 aw2 ⊢;clear ew2;rw [zw1] at hx2;have b2:=aw1.trans (aw2.mono aw1.size);have hv1:=box_keep hx1 aw2
 have hex:=fun W (hb:Below w2.heap.size w2 W)=>expr9 A n c l b W ((h.1.below b2).below hb) ((h.2.below b2).below hb) hti.1 hti.2
 have hcs:∀ W',Fr (fun kk=>kk=w.heap.size+1) w2 W'→W'.cell? ⟨w.heap.size,0,none⟩=some (.slice A n c)∧W'.cell? ⟨w.heap.size,1,none⟩=some (.bool b.s)∧W'.cell? ⟨w.heap.size,2,none⟩=some (.slice b.A b.n b.c)∧W'.cell? ⟨w.heap.size,3,none⟩=some (.slice b.A2 b.n2 b.c2)∧W'.cell? ⟨w.heap.size,4,none⟩=some (.int .i64 op):=fun W' hb=>box5 ((hb.block _ (lt_of_blk hv1) (by omega)).trans hv1)
 have HEX:=Lib.hid hex;have HCS:=Lib.hid hcs;have HX2:=Lib.hid hx2;have HB2:=Lib.hid b2;clear hex hcs hx1 hx2 hv1 b2 aw1 aw2 zw1 zw2 h
 go_region_held3 (fun W'=>W'.cell? ⟨w.heap.size,0,none⟩=some (.slice A n c)∧W'.cell? ⟨w.heap.size,1,none⟩=some (.bool b.s)∧W'.cell? ⟨w.heap.size,2,none⟩=some (.slice b.A b.n b.c)∧W'.cell? ⟨w.heap.size,3,none⟩=some (.slice b.A2 b.n2 b.c2)∧W'.cell? ⟨w.heap.size,4,none⟩=some (.int .i64 op)) ((refine HCS.out _ ?_;repeat' (first | with_reducible exact Fr.of_below k1 | with_reducible exact (Fr.refl _ _).drew | with_reducible refine fr_set ?_ ?_ | exact .inl rfl))) (first | (go_at_call 56;refine (HEX.out _ (below_drew2 (Below.refl _ _))).mono ?_;rintro e u1 ⟨A6,n6,c6,b6,l6,q6,rfl,ht6,hr6,hq6,hn6,hi6,hb6⟩;have k1:Below w2.heap.size w2 u1:=(below_drew2 (Below.refl _ _)).trans (hb6.mono (Nat.le_refl _));have HXU:=Lib.hid (box_keep HX2.out k1);obtain ⟨p0,p1,p2,p3,p4⟩:=box5 HXU.out;have z0:=frozen_of_blk HXU.out 0;have z1:=frozen_of_blk HXU.out 1;have z2:=frozen_of_blk HXU.out 2;have z3:=frozen_of_blk HXU.out 3;have z4:=frozen_of_blk HXU.out 4;have H6:=Lib.hid (And.intro ht6 (And.intro hr6 (And.intro hq6 (And.intro hn6 hi6))));clear hb6 ht6 hr6 hq6 hn6 hi6))
 all_goals
  go_wp2_with fail
  refine bodyPost_ret (v:=.agg #[.slice A6 n6 c6,.bool (ratNeg q6),.slice b6.A b6.n b6.c,.slice b6.A2 b6.n2 b6.c2,.int .i64 op]) (by simp [results,Tryz.results26,go_sem,p0,p1,p2,p3,p4]) rfl ?_;obtain ⟨ht6,hr6,hq6,hn6,hi6⟩:=H6.out;have hbel:=HB2.out.trans (k1.mono HB2.out.size);have hfr:=store5_fr u1 (w.heap.size+1) A6 n6 c6 (ratNeg q6) b6 op;have hty:=typ_of HXU.out (by decide);exact ⟨⟨A6,n6,c6,b6,l6,q6,op⟩,rfl,⟨ht6.fr hfr hty,hr6.frB hfr hty,hq6,hn6,h1,h3⟩,hi6,store5_bel hbel (Nat.le_succ _) _ _ _ _ _ _⟩
end Go.Proofs.YtdefcbfofonabaaGreat

namespace Go.Proofs.YtdefcbfofonabaaGreat
open Go.RowKit
set_option linter.unusedVariables false
set_option linter.unusedSimpArgs false
def xbsL (l:List XB):List Value:=l.flatMap XB.cells
theorem xbsL_cons (a:XB) (l:List XB):xbsL (a :: l)=a.cells ++ xbsL l:=List.flatMap_cons
theorem xbsL_at:∀ (l:List XB) (k:Nat) (p:XB),l[k]?=some p→∀ j,j<5→(xbsL l)[k*5+j]?=p.cells[j]?
 | [],k,p,h,_,_=>by simp at h
 | p' :: l,0,p,h,j,hj=>by
   simp at h;subst h;rw [xbsL_cons,List.getElem?_append_left (by simp [XB.cells];omega)];simp
 | p' :: l,k+1,p,h,j,hj=>by
   have ih:=xbsL_at l k p (by simpa using h) j hj;have hl:p'.cells.length=5:=rfl;rw [xbsL_cons,List.getElem?_append_right (by omega),hl,show (k+1)*5+j - 5=k*5+j by omega];exact ih
structure XsAt (w:World) (A:Option Addr) (n c:Nat) (l:List XB):Prop where
 rd:Rd w 5 A n (xbsL l)
 len:l.length=n
 cap:n≤c
 each:∀ t ∈ l,t.ok w
theorem XsAt.below {w w':World} {A:Option Addr} {n c:Nat} {l:List XB} (h:XsAt w A n c l) (hb:Below w.heap.size w w'):XsAt w' A n c l:=⟨h.rd.below hb,h.len,h.cap,fun b hm=>(h.each b hm).below hb⟩
theorem Rd.atX {w:World} {A:Option Addr} {n:Nat} {l:List XB} (h:Rd w 5 A n (xbsL l)) (hl:l.length=n) {i:Nat} (hi:i<n):∃ (g off:Nat) (t:XB),A=some ⟨g,off,none⟩∧l[i]?=some t∧w.cell? ⟨g,off+i*5,none⟩=some (.slice t.A t.n t.c)∧w.cell? ⟨g,off+i*5+1,none⟩=some (.bool t.b.s)∧w.cell? ⟨g,off+i*5+2,none⟩=some (.slice t.b.A t.b.n t.b.c)∧w.cell? ⟨g,off+i*5+3,none⟩=some (.slice t.b.A2 t.b.n2 t.b.c2)∧w.cell? ⟨g,off+i*5+4,none⟩=some (.int .i64 t.op):=by
 obtain ⟨g,off,e,hc⟩:=h.2 (by omega)
 have hl':i<l.length:=by omega
 have key:=xbsL_at l i l[i] (List.getElem?_eq_getElem hl');refine ⟨g,off,l[i],e,List.getElem?_eq_getElem hl',?_,?_,?_,?_,?_⟩
 · have:=hc (i*5) _ ((key 0 (by decide)).trans rfl)
   exact this
 · have:=hc (i*5+1) _ ((key 1 (by decide)).trans rfl)
   rwa [←Nat.add_assoc] at this
 · have:=hc (i*5+2) _ ((key 2 (by decide)).trans rfl)
   rwa [←Nat.add_assoc] at this
 · have:=hc (i*5+3) _ ((key 3 (by decide)).trans rfl)
   rwa [←Nat.add_assoc] at this
 · have:=hc (i*5+4) _ ((key 4 (by decide)).trans rfl)
   rwa [←Nat.add_assoc] at this
theorem AB.one (a:AB):∀ u ∈ a.cells,u.oneCell'=true:=by
 intro u hu;simp [AB.cells] at hu
 rcases hu with rfl | rfl | rfl | rfl | rfl<;>rfl
theorem info_atom:(Tryz.prog.info? 37).map (fun i=>(i.zero,i.size,i.bytes))=some (some (.agg #[.slice none 0 0,.bool false,.slice none 0 0,.slice none 0 0,.int .i64 0]),5,88):=by kernel_rfl
theorem own_typA {w:World} {B n:Nat} {v:Value} {xs:List Value} (h:w.ownsRow B 37 5 v n xs):∀ b,ownS v b→∃ cs t m,w.heap[b]?=some (.cells cs t m)∧t≠125∧t≠44:=by
 intro b hb;rcases h.2 with ⟨rfl,_⟩ | ⟨g,cap,cur,rfl,_,hx,_⟩
 · simp [ownS,Value.ownBlock] at hb
 · have:g=b:=by simpa [ownS,Value.ownBlock] using hb
   subst this;exact ⟨cur,_,_,hx,by decide⟩
theorem lit5_rd (w:World) (a:AB):Rd (w.alloc (.cells #[.slice a.A a.n a.c,.bool (ratNeg a.q),.slice a.b.A a.b.n a.b.c,.slice a.b.A2 a.b.n2 a.b.c2,.int .i64 a.op] 37)) 5 (some ⟨w.heap.size,0,none⟩) 1 a.cells:=by
 have hown:=World.ownsRow_lit (base:=0) (e:=37) (size:=5) w #[.slice a.A a.n a.c,.bool (ratNeg a.q),.slice a.b.A a.b.n a.b.c,.slice a.b.A2 a.b.n2 a.b.c2,.int .i64 a.op] 1 (Nat.zero_le _) (by unfold maxLen;omega) rfl;obtain ⟨A,c,e,_,hr⟩:=ownsRow_form hown
 injection e with e1
 subst e1;exact hr
theorem tinA_app {l:List AB} (h:∀ a ∈ l,TinA a) {t:AB} (ht:TinA t):∀ a ∈ l ++ [t],TinA a:=fun u hu=>by
 rcases List.mem_append.1 hu with h1 | h1
 · exact h u h1
 · simp at h1
   rw [h1];exact ht
def AtmP (w:World) (r:Ending) (w':World):Prop:=∃ (A':Option Addr) (n' c':Nat) (la:List AB),r=.returned (.slice A' n' c')∧AtmsAt w' A' n' c' la 12 8∧n'≤8∧(∀ a ∈ la,TinA a)∧Below w.heap.size w w'
set_option maxRecDepth 100000 in
set_option maxHeartbeats 4000000 in
theorem atoms9 (A:Option Addr) (n c:Nat) (l:List XB) (w:World) (h:XsAt w A n c l) (htl:∀ t ∈ l,t.tiny) :
 Calls Tryz.prog 8 #[.slice A n c] w fun r w'=>AtmP w r w':=by
 have H:=Lib.hid h;have HTL:=Lib.hid htl;clear htl;obtain ⟨i0,hi,hz0,hz1,hz2⟩:=info_parts info_atom;clear h
 go_enter Tryz.func8,Tryz.ntmps8
 go_upto_region 2 with fail
 obtain ⟨w1,hw1⟩:∃ x,x=w.alloc (.cells #[] 37):=⟨_,rfl⟩
 rw [←hw1]
 go_wp2_with fail
 go_loopw [3,4] (fun v x wr=>∃ (i:Nat) (la:List AB),i≤n∧i≤8∧x=.int .i64 i∧wr.ownsRow w.heap.size 37 5 v la.length (atmsL la)∧la.length≤i∧(∀ a ∈ la,AOk wr 12 8 a)∧(∀ a ∈ la,TinA a)∧Below w.heap.size w wr) (fun _ x _=>n - (intOf x).toNat)
 case atStart =>
  refine ⟨0,[],Nat.zero_le _,Nat.zero_le _,by first | rfl | go_num,?_,Nat.le_refl _,by simp,by simp,?_⟩
  · rw [hw1]
    have:=World.ownsRow_lit (base:=w.heap.size) (e:=37) (size:=5) w #[] 0 (Nat.le_refl _) (by unfold maxLen;omega) rfl
    simpa [atmsL] using this
  · rw [hw1]
    exact (Below.refl _ _).alloc (Nat.le_refl _) _
 case round =>
  obtain ⟨i,la,hin,hi6,rfl,hown,hlen,heach,htn,hb⟩:=hrel;have HTN:=Lib.hid htn;clear htn
  obtain ⟨w5,rfl⟩:∃ x,x=wr:=⟨_,rfl⟩
  by_cases hlt:i<n
  · by_cases h6:i<8
    · obtain ⟨g3,of3,t,ea,hti,y0,y1,y2,y3,y4⟩:=(H.out.below hb).rd.atX H.out.len hlt
      subst ea;have hg3:g3<w5.heap.size:=World.block_lt_of_cell? w5 _ y0
      have hcs:∀ W,Below w5.heap.size w5 W→W.cell? ⟨g3,of3+i*5,none⟩=some (.slice t.A t.n t.c)∧W.cell? ⟨g3,of3+i*5+1,none⟩=some (.bool t.b.s)∧W.cell? ⟨g3,of3+i*5+2,none⟩=some (.slice t.b.A t.b.n t.b.c)∧W.cell? ⟨g3,of3+i*5+3,none⟩=some (.slice t.b.A2 t.b.n2 t.b.c2)∧W.cell? ⟨g3,of3+i*5+4,none⟩=some (.int .i64 t.op):=fun W hW=>⟨(hW.cell (p:=⟨g3,of3+i*5,none⟩) hg3).trans y0,(hW.cell (p:=⟨g3,of3+i*5+1,none⟩) hg3).trans y1,(hW.cell (p:=⟨g3,of3+i*5+2,none⟩) hg3).trans y2,(hW.cell (p:=⟨g3,of3+i*5+3,none⟩) hg3).trans y3,(hW.cell (p:=⟨g3,of3+i*5+4,none⟩) hg3).trans y4⟩
      have hok:=(H.out.below hb).each t (List.mem_of_getElem? hti);have hti9:=HTL.out t (List.mem_of_getElem? hti);have HT9:=Lib.hid hti9;clear hti9;have hgo:=good9 t.A t.n t.c t.b.s t.b.A t.b.n t.b.c t.b.A2 t.b.n2 t.b.c2 t.op w5
      have b0:(0:Int)≤(i:Int):=by omega
      have HCS:=Lib.hid hcs;have HOK:=Lib.hid hok;have HOWN:=Lib.hid hown;have HE:=Lib.hid heach;have HB:=Lib.hid hb;clear hcs hok hown heach hb hti
      by_cases hg:1≤t.op∧t.op≤3
      · rw [decide_eq_true hg.1,decide_eq_true hg.2,Bool.and_self] at hgo
        have hof:=fun W (hW:Below w5.heap.size w5 W)=>aof9 t W (HOK.out.below hW) HT9.out hg.1 hg.2
        have HOF:=Lib.hid hof;clear hof
        go_upto_region 6 with (go_at_call 25;refine hgo.mono ?_;clear hgo;rintro e w6 ⟨rfl,hb6⟩)
        obtain ⟨x0,x1,x2,x3,x4⟩:=HCS.out w6 hb6;have hof:=HOF.out w6 hb6;clear y0 y1 y2 y3 y4
        go_upto_region 4 with (first | (go_at_call 26;refine hof.mono ?_;clear hof;rintro e w7 ⟨a,rfl,hok7,hta7,hb7⟩;have HTA7:=Lib.hid hta7;clear hta7;unfold AB.val;have HA7:=Lib.hid hok7;have hb57:=hb6.trans (hb7.mono hb6.size);have HB57:=Lib.hid hb57;have hown7:=own_below HOWN.out (hb57.alloc hb57.size (.cells #[.slice a.A a.n a.c,.bool (ratNeg a.q),.slice a.b.A a.b.n a.b.c,.slice a.b.A2 a.b.n2 a.b.c2,.int .i64 a.op] 37));have hbel7:=HB.out.trans ((hb57.alloc hb57.size (.cells #[.slice a.A a.n a.c,.bool (ratNeg a.q),.slice a.b.A a.b.n a.b.c,.slice a.b.A2 a.b.n2 a.b.c2,.int .i64 a.op] 37)).mono HB.out.size);clear hok7 hb57) | (at_builtin;refine appRn w.heap.size w _ 5 37 rfl _ _ 40 rfl i0 _ 88 Tryz.underlying40 hi hz0 hz1 hz2 rfl (by decide) (by decide) _ la.length (atmsL la) rfl (Nat.le_refl _) hown7 hbel7 _ 1 1 a.cells rfl (lit5_rd w7 a) a.one (by omega) ?_;intro v8 w8 hown8 hbel8 hg8))
        go_wp2_with fail
        go_roundw
        case rel =>
         refine ⟨i+1,la ++ [a],by omega,by omega,by go_num,?_,by simp;omega,?_,tinA_app HTN.out HTA7.out,hbel8⟩
         · rw [atmsL_app,List.length_append,List.length_singleton]
           simpa [atmsL] using hown8
         · have hf:=Fr.of_grown (S:=ownS u3) hg8 (fun k hk=>.inl hk)
           have hal:=(Below.refl w7.heap.size w7).alloc (Nat.le_refl _) (.cells #[.slice a.A a.n a.c,.bool (ratNeg a.q),.slice a.b.A a.b.n a.b.c,.slice a.b.A2 a.b.n2 a.b.c2,.int .i64 a.op] 37);intro p hp;rcases List.mem_append.1 hp with h1 | h1
           · exact (((HE.out p h1).below HB57.out).below hal).fr hf (own_typA hown7)
           · simp at h1
             subst h1;exact (HA7.out.below hal).fr hf (own_typA hown7)
        case measure=>simp [intOf];omega
      · rw [show (decide (1≤t.op) && decide (t.op≤3))=false by rw [Bool.and_eq_false_iff,decide_eq_false_iff_not,decide_eq_false_iff_not];omega] at hgo
        go_upto_region 4 with (go_at_call 25;refine hgo.mono ?_;clear hgo;rintro e w6 ⟨rfl,hb6⟩)
        go_wp2_with fail
        go_roundw
        case rel=>exact ⟨i+1,la,by omega,by omega,by go_num,own_below HOWN.out hb6,by omega,fun a ha=>(HE.out a ha).below hb6,HTN.out,HB.out.trans (hb6.mono HB.out.size)⟩
        case measure=>simp [intOf];omega
    · have h6':¬ ((i:Int)<8):=by omega
      obtain ⟨Ax,cx,rfl,hp⟩:=AtmsAt.of_own hown heach;have HP:=Lib.hid hp;have HB:=Lib.hid hb;clear hown heach hp hb
      go_wp2_with fail
      go_ret;exact ⟨Ax,la.length,cx,la,rfl,HP.out,by omega,HTN.out,HB.out⟩
  · skip
    obtain ⟨Ax,cx,rfl,hp⟩:=AtmsAt.of_own hown heach;have HP:=Lib.hid hp;have HB:=Lib.hid hb;clear hown heach hp hb
    go_wp2_with fail
    go_ret;exact ⟨Ax,la.length,cx,la,rfl,HP.out,by omega,HTN.out,HB.out⟩
end Go.Proofs.YtdefcbfofonabaaGreat
