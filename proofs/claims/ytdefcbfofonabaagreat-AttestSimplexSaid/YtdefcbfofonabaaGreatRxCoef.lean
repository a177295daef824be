/- Contract of attestref08.Coef. -/
import Derived.Test.YtdefcbfofonabaaGreatTmRow
import Derived.Test.YtdefcbfofonabaaGreatTmIns
namespace Go.Proofs.YtdefcbfofonabaaGreat
open Go.RowKit
set_option linter.unusedVariables false
set_option linter.unusedSimpArgs false
theorem coT_next {l:List TB} {i:Nat} {t:TB} (h:l[i]?=some t) (v:Int):coT ((tmsOf l).take (i+1)) v=coT ((tmsOf l).take i) v+if t.2.1=v then t.2.2 else 0:=by
 have h2:(tmsOf l)[i]?=some t.2:=by unfold tmsOf;rw [List.getElem?_map,h];rfl
 rw [List.take_add_one,h2,coT_app];simp only [Option.toList_some,coT]
 grind
def put3 (w:World) (g:Nat) (s:Bool) (b:RB):World:=((w.setCell ⟨g,0,none⟩ (.bool s)).setCell ⟨g,1,none⟩ (.slice b.A b.n b.c)).setCell ⟨g,2,none⟩ (.slice b.A2 b.n2 b.c2)
theorem put3_fr (w:World) (g:Nat) (s:Bool) (b:RB):Fr (fun k=>k=g) w (put3 w g s b):=fr_set (fr_set (fr_set (Fr.refl _ _) (.inl rfl)) (.inl rfl)) (.inl rfl)
theorem put3_blk {w:World} {g:Nat} {s0:Bool} {x y:Value} {t:TypeId} (h:w.heap[g]?=some (.cells #[.bool s0,x,y] t (0,0))) (s:Bool) (b:RB):(put3 w g s b).heap[g]?=some (.cells #[.bool s,.slice b.A b.n b.c,.slice b.A2 b.n2 b.c2] t (0,0)):=set_blk (set_blk (set_blk h _ _) _ _) _ _
set_option maxRecDepth 100000 in
set_option maxHeartbeats 4000000 in
theorem coef_any (A:Option Addr) (n c:Nat) (s:Bool) (b:RB) (l:List TB) (K:Nat) (v:Int) (w:World) (h:QsAt w A n c l K) (hn:n≤100) (hK:K≤40000) (hq:∀ i,QLe (coT ((tmsOf l).take i) v) K) :
 Calls Tryz.prog 63 #[.agg #[.slice A n c,.bool s,.slice b.A b.n b.c,.slice b.A2 b.n2 b.c2],.int .i64 v] w fun e w'=>∃ r:RB,e=.returned (r.val (ratNeg (coT (tmsOf l) v)))∧QAt w' r (coT (tmsOf l) v)∧Below w.heap.size w w':=by
 have H:=Lib.hid h;have HQ:=Lib.hid hq
 have hi0:=fun W=>qint0 W
 unfold RB.val at hi0;have HI:=Lib.hid hi0;clear h hq hi0
 go_enter Tryz.func63,Tryz.ntmps63
 go_upto_region 1 with fail
 have hx1:=heap_alloc_new w (.cells #[.slice A n c,.bool s,.slice b.A b.n b.c,.slice b.A2 b.n2 b.c2] 85)
 have zw1:(w.alloc (.cells #[.slice A n c,.bool s,.slice b.A b.n b.c,.slice b.A2 b.n2 b.c2] 85)).heap.size=w.heap.size+1:=by simp
 have aw1:=(Below.refl w.heap.size w).alloc (Nat.le_refl _) (.cells #[.slice A n c,.bool s,.slice b.A b.n b.c,.slice b.A2 b.n2 b.c2] 85)
 obtain ⟨w1,ew1⟩:∃ x,x=w.alloc (.cells #[.slice A n c,.bool s,.slice b.A b.n b.c,.slice b.A2 b.n2 b.c2] 85):=⟨_,rfl⟩
 rw [←ew1] at hx1 zw1 aw1 ⊢;clear ew1;have hx2:=heap_alloc_new w1 (.cells #[.bool false,.slice none 0 0,.slice none 0 0] 83)
 have zw2:(w1.alloc (.cells #[.bool false,.slice none 0 0,.slice none 0 0] 83)).heap.size=w1.heap.size+1:=by simp
 have aw2:=(Below.refl w1.heap.size w1).alloc (Nat.le_refl _) (.cells #[.bool false,.slice none 0 0,.slice none 0 0] 83)
 obtain ⟨w2,ew2⟩:∃ x,x=w1.alloc (.cells #[.bool false,.slice none 0 0,.slice none 0 0] 83):=⟨_,rfl⟩
 rw [←ew2] at hx2 zw2 aw2 ⊢;clear ew2;rw [zw1] at hx2;have b2:=aw1.trans (aw2.mono aw1.size);have hv1:=box_keep hx1 aw2
 have hz2:w2.heap.size=w.heap.size+1+1:=by rw [zw2,zw1]
 have HV1:=Lib.hid hv1;have HX2:=Lib.hid hx2;have HB2:=Lib.hid b2;have hcall:=HI.out w2;clear hx1 hx2 hv1 b2 aw1 aw2 zw1 zw2 HI
 go_upto_region 2 with (go_at_call 29;refine hcall.mono ?_;clear hcall;rintro e w3 ⟨b3,rfl,hr3,hb3⟩)
 have hx5:=heap_alloc_new w3 (.cells #[.bool (ratNeg 0),.slice b3.A b3.n b3.c,.slice b3.A2 b3.n2 b3.c2] 83)
 have zw5:(w3.alloc (.cells #[.bool (ratNeg 0),.slice b3.A b3.n b3.c,.slice b3.A2 b3.n2 b3.c2] 83)).heap.size=w3.heap.size+1:=by simp
 have aw5:=(Below.refl w3.heap.size w3).alloc (Nat.le_refl _) (.cells #[.bool (ratNeg 0),.slice b3.A b3.n b3.c,.slice b3.A2 b3.n2 b3.c2] 83)
 obtain ⟨w5,ew5⟩:∃ x,x=w3.alloc (.cells #[.bool (ratNeg 0),.slice b3.A b3.n b3.c,.slice b3.A2 b3.n2 b3.c2] 83):=⟨_,rfl⟩
 rw [←ew5] at hx5 zw5 aw5 ⊢;clear ew5
 obtain ⟨g5,hg5⟩:∃ x,x=w3.heap.size:=⟨_,rfl⟩
 rw [←hg5] at hx5 ⊢;have b5:=hb3.trans (aw5.mono hb3.size);have hv1:=box_keep HV1.out b5;obtain ⟨x0,x1,x2,x3⟩:=box4 hv1
 have hgl:w.heap.size+1<g5:=by
  have:=hb3.size;omega
 have HX5:=Lib.hid hx5;have HV2:=Lib.hid (box_keep HX2.out b5);have HB5:=Lib.hid (HB2.out.trans (b5.mono HB2.out.size));have HR5:=Lib.hid (hr3.below aw5);have HGL:=Lib.hid hgl;have HS5:=Lib.hid (show g5<w5.heap.size from lt_of_blk hx5);have HV1':=Lib.hid hv1;clear hx5 b5 hv1 hgl hr3 aw5 zw5 hb3 hg5 HV1 HX2 HB2 hz2
 go_wp2_with fail
 clear x0 x1 x2 x3
 go_loopw [12] (fun x wr=>∃ (i:Nat) (r:RB) (Q:Rat),i≤n∧x=.int .i64 i∧wr.heap[g5]?=some (.cells #[.bool (ratNeg Q),.slice r.A r.n r.c,.slice r.A2 r.n2 r.c2] 83 (0,0))∧QAt wr r Q∧Q=coT ((tmsOf l).take i) v∧Fr (fun kk=>kk=g5) w5 wr) (fun x _=>n - (intOf x).toNat)
 case atStart=>exact ⟨0,b3,0,Nat.zero_le _,rfl,HX5.out,HR5.out,rfl,Fr.refl _ _⟩
 case round =>
  obtain ⟨i,r,Q,hin,rfl,hxb,hqa,hqv,hf⟩:=hrel
  obtain ⟨w6,rfl⟩:∃ x,x=wr:=⟨_,rfl⟩
  have hB6:Below w.heap.size w w6:=HB5.out.trans (hf.below HB5.out.size (fun b hb=>by have:=HGL.out;omega));have hz6:w5.heap.size≤w6.heap.size:=hf.size;have HXB:=Lib.hid hxb;have HQA:=Lib.hid hqa;have HQV:=Lib.hid hqv;have HF:=Lib.hid hf;have HB6:=Lib.hid hB6;clear hxb hqa hqv hf hB6
  by_cases hlt:i<n
  · obtain ⟨g3,of3,t,ea,hti,y0,y1,y2,y3⟩:=(H.out.below HB6.out).rd.at4 H.out.len hlt
    subst ea;have hok:=(H.out.below HB6.out).each t (List.mem_of_getElem? hti);have hnx:=coT_next hti v;have HOK:=Lib.hid hok;have HNX:=Lib.hid hnx;clear hok hnx hti
    go_upto_region 5 with fail
    have hx7:=heap_alloc_new w6 (.cells #[.int .i64 t.2.1,.bool (ratNeg t.2.2),.slice t.1.A t.1.n t.1.c,.slice t.1.A2 t.1.n2 t.1.c2] 153)
    have zw7:(w6.alloc (.cells #[.int .i64 t.2.1,.bool (ratNeg t.2.2),.slice t.1.A t.1.n t.1.c,.slice t.1.A2 t.1.n2 t.1.c2] 153)).heap.size=w6.heap.size+1:=by simp
    have aw7:=(Below.refl w6.heap.size w6).alloc (Nat.le_refl _) (.cells #[.int .i64 t.2.1,.bool (ratNeg t.2.2),.slice t.1.A t.1.n t.1.c,.slice t.1.A2 t.1.n2 t.1.c2] 153)
    obtain ⟨w7,ew7⟩:∃ x,x=w6.alloc (.cells #[.int .i64 t.2.1,.bool (ratNeg t.2.2),.slice t.1.A t.1.n t.1.c,.slice t.1.A2 t.1.n2 t.1.c2] 153):=⟨_,rfl⟩
    rw [←ew7] at hx7 zw7 aw7 ⊢;clear ew7
    obtain ⟨g7,hg7⟩:∃ x,x=w6.heap.size:=⟨_,rfl⟩
    rw [←hg7] at hx7 ⊢
    have hg57:g5≠g7:=by have:=HS5.out;omega
    have hxb7:=box_keep HXB.out aw7;obtain ⟨x0,x1,x2,x3⟩:=box4 hx7;obtain ⟨p0,p1,p2⟩:=Box.of hxb7;have z0:=frozen_of_blk hxb7 0;have z1:=frozen_of_blk hxb7 1;have z2:=frozen_of_blk hxb7 2;have HX7:=Lib.hid hx7;have HXB7:=Lib.hid hxb7;have HA7:=Lib.hid aw7;have HF7:=Lib.hid (HF.out.trans (Fr.of_below (S:=fun kk=>kk=g5) aw7) (fun b hb=>.inl hb));clear hx7 hxb7 aw7 zw7 y0 y1 y2 y3 hg7 hg57
    by_cases hv:t.2.1=v
    · have hv':(t.2.1 != v)=false:=by rw [hv];simp
      have hnx2:=HNX.out;rw [if_pos hv,←HQV.out] at hnx2;have HNX2:=Lib.hid hnx2;have hsg:=qsign_any r Q w7 (HQA.out.below HA7.out);have hz:=signZ_zero Q;unfold RB.val at hsg;clear hnx2 hv
      by_cases h0:Q=0
      · rw [decide_eq_true h0,beq_iff_eq] at hz
        rw [hz] at hsg;have H0:=Lib.hid h0;clear hz h0
        go_upto_if 22 with (go_at_call 62;refine hsg.mono ?_;clear hsg;rintro e w8 ⟨rfl,hb8⟩)
        have hxb8:=box_keep HXB7.out hb8;have hx78:=box_keep HX7.out hb8;obtain ⟨x0,x1,x2,x3⟩:=box4 hx78;obtain ⟨p0,p1,p2⟩:=Box.of hxb8;have z0:=frozen_of_blk hxb8 0;have z1:=frozen_of_blk hxb8 1;have z2:=frozen_of_blk hxb8 2;have HXB8:=Lib.hid hxb8;have HF8:=Lib.hid (HF7.out.trans (Fr.of_below (S:=fun kk=>kk=g5) hb8) (fun b hb=>.inl hb));have ht8:=((HOK.out.below HA7.out).below hb8).at_;have hq8:=(HQA.out.below HA7.out).below hb8
        have hsum:t.2.2=coT ((tmsOf l).take (i+1)) v:=by rw [HNX2.out,H0.out];grind
        have HSUM:=Lib.hid hsum;have HT8:=Lib.hid ht8;clear hsum ht8 hq8 hxb8 hx78
        go_wp2_with fail
        go_roundw
        case rel=>exact ⟨i+1,t.1,t.2.2,by omega,by go_num,put3_blk HXB8.out _ _,HT8.out.fr (put3_fr w8 g5 _ _) (typB_of HXB8.out (by decide)),HSUM.out,HF8.out.trans (put3_fr w8 g5 _ _) (fun b hb=>.inl hb)⟩
        case measure=>simp [intOf];omega
      · rw [decide_eq_false h0] at hz
        generalize signZ Q=z at *
        clear h0
        go_upto_if 22 with (go_at_call 62;refine hsg.mono ?_;clear hsg;rintro e w8 ⟨rfl,hb8⟩)
        have hxb8:=box_keep HXB7.out hb8;have hx78:=box_keep HX7.out hb8;obtain ⟨x0,x1,x2,x3⟩:=box4 hx78;obtain ⟨p0,p1,p2⟩:=Box.of hxb8;have z0:=frozen_of_blk hxb8 0;have z1:=frozen_of_blk hxb8 1;have z2:=frozen_of_blk hxb8 2;have HXB8:=Lib.hid hxb8;have HF8:=Lib.hid (HF7.out.trans (Fr.of_below (S:=fun kk=>kk=g5) hb8) (fun b hb=>.inl hb));have ht8:=((HOK.out.below HA7.out).below hb8).at_;have hq8:=(HQA.out.below HA7.out).below hb8;have had:=qadd_any r t.1 Q t.2.2 w8 hq8 ht8 K hK (by rw [HQV.out];exact HQ.out i) HOK.out.le;unfold RB.val at had;clear ht8 hq8 hxb8 hx78
        go_upto_region 9 with (go_at_call 81;refine had.mono ?_;clear had;rintro e w9 ⟨b9,rfl,hr9,hb9⟩;have hxb9:=box_keep HXB8.out hb9;obtain ⟨p0,p1,p2⟩:=Box.of hxb9;have z0:=frozen_of_blk hxb9 0;have z1:=frozen_of_blk hxb9 1;have z2:=frozen_of_blk hxb9 2;have HXB9:=Lib.hid hxb9;have HR9:=Lib.hid hr9;have HF9:=Lib.hid (HF8.out.trans (Fr.of_below (S:=fun kk=>kk=g5) hb9) (fun b hb=>.inl hb));clear hxb9 hr9 hb9)
        go_wp2_with fail
        go_roundw
        case rel=>exact ⟨i+1,b9,Q+t.2.2,by omega,by go_num,put3_blk HXB9.out _ _,HR9.out.fr (put3_fr w9 g5 _ _) (typB_of HXB9.out (by decide)),HNX2.out.symm,HF9.out.trans (put3_fr w9 g5 _ _) (fun b hb=>.inl hb)⟩
        case measure=>simp [intOf];omega
    · have hv':(t.2.1 != v)=true:=by rw [bne_iff_ne];exact hv
      have hnx2:=HNX.out;rw [if_neg hv,←HQV.out] at hnx2
      have hsum:Q=coT ((tmsOf l).take (i+1)) v:=by rw [hnx2];grind
      have HSUM:=Lib.hid hsum;clear hnx2 hsum hv
      go_wp2_with fail
      go_roundw
      case rel=>exact ⟨i+1,r,Q,by omega,by go_num,HXB7.out,HQA.out.below HA7.out,HSUM.out,HF7.out⟩
      case measure=>simp [intOf];omega
  · have hin2:i=n:=by omega
    have hall:Q=coT (tmsOf l) v:=by rw [HQV.out,List.take_of_length_le (by rw [tmsOf_len,H.out.len];omega)]
    obtain ⟨p0,p1,p2⟩:=Box.of HXB.out;have hv2:=(HF.out.block (w.heap.size+1) (by have:=HGL.out;have:=HS5.out;omega) (by have:=HGL.out;omega)).trans HV2.out;have z0:=frozen_of_blk hv2 0;have z1:=frozen_of_blk hv2 1;have z2:=frozen_of_blk hv2 2;obtain ⟨q0,q1,q2⟩:=Box.of hv2;have HALL:=Lib.hid hall;have HV26:=Lib.hid hv2;clear hall hv2
    go_wp2_with fail
    refine bodyPost_ret (v:=.agg #[.bool (ratNeg Q),.slice r.A r.n r.c,.slice r.A2 r.n2 r.c2]) (by simp [results,Tryz.results63,go_sem,q0,q1,q2]) rfl ?_;rw [←HALL.out];exact ⟨r,rfl,HQA.out.fr (put3_fr w6 (w.heap.size+1) _ _) (typB_of HV26.out (by decide)),bl_set (bl_set (bl_set HB6.out (Nat.le_succ _)) (Nat.le_succ _)) (Nat.le_succ _)⟩
end Go.Proofs.YtdefcbfofonabaaGreat

namespace Go.Proofs.YtdefcbfofonabaaGreat
open Go.RowKit
set_option linter.unusedVariables false
set_option linter.unusedSimpArgs false
def insGo (x:Int):Bool→List Int→List Int
 | d,[]=>if d then [] else [x]
 | d,v :: r=>(if !d && decide (x≤v) then [x] else []) ++ (if v=x then [] else [v]) ++ insGo x (d || decide (x≤v)) r
theorem insGo_mem (x y:Int):∀ (l:List Int) (d:Bool),y ∈ insGo x d l↔(d=false∧y=x)∨(y ∈ l∧y≠x)
 | [],d=>by cases d<;>simp [insGo]
 | v :: r,d=>by
   have ih:=insGo_mem x y r (d || decide (x≤v));simp only [insGo,List.mem_append,ih,List.mem_cons]
   by_cases h1:x≤v<;>by_cases h2:v=x<;>by_cases h3:y=x<;>by_cases h4:y=v<;>cases d<;>simp [h1,h2,h3,h4]<;>omega
theorem insGo_true (x:Int):∀ l:List Int,insGo x true l=l.filter (fun v=>!decide (v=x))
 | []=>rfl
 | v :: r=>by
   simp only [insGo,Bool.not_true,Bool.false_and,Bool.false_eq_true,if_false,List.nil_append,Bool.true_or,insGo_true x r]
   by_cases h:v=x<;>simp [h]
theorem insGo_nodup (x:Int):∀ l:List Int,l.Nodup→(insGo x false l).Nodup
 | [],_=>by simp [insGo]
 | v :: r,h=>by
   obtain ⟨h1,h2⟩:=List.nodup_cons.1 h;simp only [insGo,Bool.not_false,Bool.true_and,Bool.false_or,decide_eq_true_eq]
   by_cases hx:x≤v
   · rw [if_pos hx,decide_eq_true hx,insGo_true]
     have h3:=h2.filter (fun v=>!decide (v=x))
     by_cases hv:v=x
     · rw [if_pos hv,List.append_nil,List.singleton_append,List.nodup_cons]
       exact ⟨by simp,h3⟩
     · rw [if_neg hv,List.append_assoc,List.singleton_append,List.nodup_cons,List.singleton_append,List.nodup_cons]
       refine ⟨?_,fun hm=>h1 (List.mem_filter.1 hm).1,h3⟩;simp only [List.mem_cons,not_or];exact ⟨fun e=>hv e.symm,by simp⟩
   · rw [if_neg hx,decide_eq_false hx,List.nil_append,if_neg (by omega),List.singleton_append,List.nodup_cons]
     refine ⟨fun hm=>?_,insGo_nodup x r h2⟩;rcases (insGo_mem x v r false).1 hm with ⟨_,e⟩ | ⟨e,_⟩
     · omega
     · exact h1 e
theorem insGo_len (x:Int):∀ (l:List Int) (d:Bool),(insGo x d l).length≤l.length+1
 | [],d=>by cases d<;>simp [insGo]
 | v :: r,true=>by
   rw [insGo_true];have:=List.length_filter_le (fun v=>!decide (v=x)) (v :: r);omega
 | v :: r,false=>by
   have ih:=insGo_len x r;simp only [insGo,Bool.not_false,Bool.true_and,Bool.false_or,decide_eq_true_eq,List.length_append,List.length_cons]
   by_cases hx:x≤v
   · rw [if_pos hx,decide_eq_true hx,insGo_true]
     have:=List.length_filter_le (fun v=>!decide (v=x)) r
     split<;>simp<;>omega
   · rw [if_neg hx,decide_eq_false hx]
     have:=ih false
     split<;>simp<;>omega
theorem rev_ind {P:List Int→Prop} (h0:P []) (hs:∀ xs x,P xs→P (xs ++ [x])) (xs:List Int):P xs:=by
 have key:∀ ys:List Int,P ys.reverse:=by
  intro ys
  induction ys with
  | nil=>exact h0
  | cons y ys ih=>rw [List.reverse_cons];exact hs _ _ ih
 have:=key xs.reverse
 rwa [List.reverse_reverse] at this
def foldV (xs:List Int):List Int:=xs.foldl (fun acc x=>insGo x false acc) []
theorem foldV_snoc (xs:List Int) (x:Int):foldV (xs ++ [x])=insGo x false (foldV xs):=by
 unfold foldV;rw [List.foldl_append]
 rfl
theorem foldV_mem (y:Int):∀ xs:List Int,y ∈ foldV xs↔y ∈ xs:=by
 refine rev_ind (by simp [foldV]) fun xs x ih=>?_
 rw [foldV_snoc,insGo_mem,ih,List.mem_append,List.mem_singleton]
 by_cases h:y=x<;>simp [h]
theorem foldV_nodup:∀ xs:List Int,(foldV xs).Nodup:=by
 refine rev_ind (by simp [foldV]) fun xs x ih=>?_
 rw [foldV_snoc];exact insGo_nodup x _ ih
theorem foldV_len:∀ xs:List Int,(foldV xs).length≤xs.length:=by
 refine rev_ind (by simp [foldV]) fun xs x ih=>?_
 rw [foldV_snoc,List.length_append,List.length_singleton];have:=insGo_len x (foldV xs) false;omega
end Go.Proofs.YtdefcbfofonabaaGreat

namespace Go.Proofs.YtdefcbfofonabaaGreat
open Go.RowKit
set_option linter.unusedVariables false
set_option linter.unusedSimpArgs false
def ints (xs:List Int):List Value:=xs.map (Value.int .i64)
theorem ints_append (xs ys:List Int):ints (xs ++ ys)=ints xs ++ ints ys:=by simp [ints]
theorem info_int:(Tryz.prog.info? 3).map (fun i=>(i.zero,i.size,i.bytes))=some (some (.int .i64 0),1,8):=by kernel_rfl
theorem Rd.atI {w:World} {A:Option Addr} {n:Nat} {ol:List Int} (h:Rd w 1 A n (ints ol)) {i:Nat} (hi:i<n):∃ (g off:Nat) (o:Int),A=some ⟨g,off,none⟩∧ol[i]?=some o∧w.cell? ⟨g,off+i,none⟩=some (.int .i64 o):=by
 obtain ⟨g,off,u,e,hu,hc⟩:=h.at_ hi;unfold ints at hu;rw [List.getElem?_map] at hu
 cases ho:ol[i]? with
 | none=>rw [ho] at hu;cases hu
 | some o =>
   rw [ho] at hu;simp at hu;subst hu;exact ⟨g,off,o,e,rfl,hc⟩
structure XE where
 A:Option Addr
 n:Nat
 c:Nat
 s:Bool
 b:RB
 l:List TB
def XE.cells (e:XE):List Value:=[.slice e.A e.n e.c,.bool e.s,.slice e.b.A e.b.n e.b.c,.slice e.b.A2 e.b.n2 e.b.c2]
def XE.vars (e:XE):List Int:=(tmsOf e.l).map (·.1)
def esL (l:List XE):List Value:=l.flatMap XE.cells
theorem esL_cons (a:XE) (l:List XE):esL (a :: l)=a.cells ++ esL l:=List.flatMap_cons
theorem esL_at:∀ (l:List XE) (k:Nat) (p:XE),l[k]?=some p→∀ j,j<4→(esL l)[k*4+j]?=p.cells[j]?
 | [],k,p,h,_,_=>by simp at h
 | p' :: l,0,p,h,j,hj=>by
   simp at h;subst h;rw [esL_cons,List.getElem?_append_left (by simp [XE.cells];omega)];simp
 | p' :: l,k+1,p,h,j,hj=>by
   have ih:=esL_at l k p (by simpa using h) j hj;have hl:p'.cells.length=4:=rfl;rw [esL_cons,List.getElem?_append_right (by omega),hl,show (k+1)*4+j - 4=k*4+j by omega];exact ih
theorem Rd.atE {w:World} {A:Option Addr} {n:Nat} {l:List XE} (h:Rd w 4 A n (esL l)) (hl:l.length=n) {i:Nat} (hi:i<n):∃ (g off:Nat) (t:XE),A=some ⟨g,off,none⟩∧l[i]?=some t∧w.cell? ⟨g,off+i*4,none⟩=some (.slice t.A t.n t.c)∧w.cell? ⟨g,off+i*4+1,none⟩=some (.bool t.s)∧w.cell? ⟨g,off+i*4+2,none⟩=some (.slice t.b.A t.b.n t.b.c)∧w.cell? ⟨g,off+i*4+3,none⟩=some (.slice t.b.A2 t.b.n2 t.b.c2):=by
 obtain ⟨g,off,e,hc⟩:=h.2 (by omega)
 have hl':i<l.length:=by omega
 have key:=esL_at l i l[i] (List.getElem?_eq_getElem hl');refine ⟨g,off,l[i],e,List.getElem?_eq_getElem hl',?_,?_,?_,?_⟩
 · have:=hc (i*4) _ ((key 0 (by decide)).trans rfl)
   exact this
 · have:=hc (i*4+1) _ ((key 1 (by decide)).trans rfl)
   rwa [←Nat.add_assoc] at this
 · have:=hc (i*4+2) _ ((key 2 (by decide)).trans rfl)
   rwa [←Nat.add_assoc] at this
 · have:=hc (i*4+3) _ ((key 3 (by decide)).trans rfl)
   rwa [←Nat.add_assoc] at this
def varsUp (es:List XE) (i:Nat):List Int:=(es.take i).flatMap XE.vars
theorem varsUp_next {es:List XE} {i:Nat} {e:XE} (h:es[i]?=some e):varsUp es (i+1)=varsUp es i ++ e.vars:=by
 unfold varsUp;rw [List.take_add_one,h,List.flatMap_append];simp
theorem vars_next {e:XE} {j:Nat} {t:TB} (h:e.l[j]?=some t):e.vars.take (j+1)=e.vars.take j ++ [t.2.1]:=by
 have:e.vars[j]?=some t.2.1:=by unfold XE.vars tmsOf;rw [List.getElem?_map,List.getElem?_map,h];rfl
 rw [List.take_add_one,this]
 rfl
theorem vars_len (e:XE):e.vars.length=e.l.length:=by unfold XE.vars tmsOf;simp
def PassI (x:Int) (o nx:List Int) (d:Bool) (k:Nat):Prop:=insGo x false o=nx ++ insGo x d (o.drop k)
theorem passI_next {x:Int} {o nx:List Int} {d:Bool} {k:Nat} {v:Int} (h:PassI x o nx d k) (hv:o[k]?=some v):PassI x o (nx ++ ((if !d && decide (x≤v) then [x] else []) ++ (if v=x then [] else [v]))) (d || decide (x≤v)) (k+1):=by
 unfold PassI at h ⊢;obtain ⟨hk,rfl⟩:=List.getElem?_eq_some_iff.1 hv;rw [h,List.drop_eq_getElem_cons hk];simp only [insGo,List.append_assoc]
theorem passI_end {x:Int} {o nx:List Int} {d:Bool} (h:PassI x o nx d o.length):insGo x false o=nx ++ if d then [] else [x]:=by
 unfold PassI at h;rw [List.drop_of_length_le (Nat.le_refl _)] at h;exact h
set_option maxRecDepth 100000 in
set_option maxHeartbeats 8000000 in
theorem vars_any (es:List XE) (A:Option Addr) (n c K:Nat) (w:World) (h:Rd w 4 A n (esL es)) (hl:es.length=n) (hn:n≤10) (he:∀ e ∈ es,QsAt w e.A e.n e.c e.l K∧e.n≤100) :
 Calls Tryz.prog 83 #[.slice A n c] w fun r w'=>∃ v,r=.returned v∧w'.ownsRow w.heap.size 3 1 v (foldV (varsUp es n)).length (ints (foldV (varsUp es n)))∧Below w.heap.size w w':=by
 obtain ⟨i0,hif,hz0,hz1,hz2⟩:=info_parts info_int;have H:=Lib.hid h;have HE:=Lib.hid he
 have hlen:∀ i j (e:XE),es[i]?=some e→(foldV (varsUp es i ++ e.vars.take j)).length≤1100:=by
  intro i j e hei
  have h0:∀ i,i≤n→(varsUp es i).length≤100*i:=by
   intro i
   induction i with
   | zero=>intro _;simp [varsUp]
   | succ i ih =>
     intro hi
     have hlt:i<es.length:=by omega
     rw [varsUp_next (List.getElem?_eq_getElem hlt),List.length_append,vars_len]
     have h1:=(he _ (List.getElem_mem hlt))
     have h2:=h1.1.len;have:=ih (by omega);omega
  have h1:=foldV_len (varsUp es i ++ e.vars.take j);have hi:=(List.getElem?_eq_some_iff.1 hei).1;have h2:=h0 i (by omega)
  have h3:=(he e (List.mem_of_getElem? hei))
  have h4:=h3.1.len;rw [List.length_append,List.length_take,vars_len] at h1;omega
 have HLEN:=Lib.hid hlen;clear h he hlen
 go_enter Tryz.func83,Tryz.ntmps83
 go_wp2_with fail
 go_loopw [3,15] (fun v x wr=>∃ i:Nat,i≤n∧x=.int .i64 i∧wr.ownsRow w.heap.size 3 1 v (foldV (varsUp es i)).length (ints (foldV (varsUp es i)))∧Below w.heap.size w wr) (fun _ x _=>n - (intOf x).toNat)
 case atStart =>
  refine ⟨0,Nat.zero_le _,rfl,?_,(Below.refl _ _).alloc (Nat.le_refl _) _⟩;have:=own_empty w 3 w.heap.size (Nat.le_refl _)
  simpa [varsUp,foldV,ints] using this
 case round =>
  obtain ⟨i,hi,rfl,hown,hb⟩:=hrel
  obtain ⟨w1,rfl⟩:∃ x,x=wr:=⟨_,rfl⟩
  by_cases hlt:i<n
  · obtain ⟨g1,o1,e,ea,hei,y0,y1,y2,y3⟩:=(H.out.below hb).atE hl hlt
    subst ea;have hok:=HE.out e (List.mem_of_getElem? hei);have hnx:=varsUp_next hei;have hlen:=HLEN.out i;generalize e.A=EA at y0 hok;have HOW:=Lib.hid hown;have HB:=Lib.hid hb;have HEI:=Lib.hid hei;have HNX:=Lib.hid hnx;have HOK:=Lib.hid hok;clear hown hb hei hnx hok hlen
    go_upto_region 5 with fail
    have hx2:=heap_alloc_new w1 (.cells #[.slice EA e.n e.c,.bool e.s,.slice e.b.A e.b.n e.b.c,.slice e.b.A2 e.b.n2 e.b.c2] 85)
    have zw2:(w1.alloc (.cells #[.slice EA e.n e.c,.bool e.s,.slice e.b.A e.b.n e.b.c,.slice e.b.A2 e.b.n2 e.b.c2] 85)).heap.size=w1.heap.size+1:=by simp
    have aw2:=(Below.refl w1.heap.size w1).alloc (Nat.le_refl _) (.cells #[.slice EA e.n e.c,.bool e.s,.slice e.b.A e.b.n e.b.c,.slice e.b.A2 e.b.n2 e.b.c2] 85)
    obtain ⟨w2,ew2⟩:∃ x,x=w1.alloc (.cells #[.slice EA e.n e.c,.bool e.s,.slice e.b.A e.b.n e.b.c,.slice e.b.A2 e.b.n2 e.b.c2] 85):=⟨_,rfl⟩
    rw [←ew2] at hx2 zw2 aw2 ⊢;clear ew2;obtain ⟨x0,x1,x2,x3⟩:=box4 hx2;have HB2:=Lib.hid (HB.out.trans (aw2.mono HB.out.size));have HOW2:=Lib.hid (own_below HOW.out aw2);clear hx2 aw2 zw2 y0 y1 y2 y3 HB HOW
    go_wp2_with fail
    have hen:e.n≤100:=HOK.out.2
    go_loopw [3,22] (fun v x wr=>∃ j:Nat,j≤e.n∧x=.int .i64 j∧wr.ownsRow w.heap.size 3 1 v (foldV (varsUp es i ++ e.vars.take j)).length (ints (foldV (varsUp es i ++ e.vars.take j)))∧Below w.heap.size w wr) (fun _ x _=>e.n - (intOf x).toNat)
    case atStart=>exact ⟨0,Nat.zero_le _,rfl,by rw [List.take_zero,List.append_nil];exact HOW2.out,HB2.out⟩
    case round =>
     obtain ⟨j,hj,rfl,hown,hb⟩:=hrel
     obtain ⟨w3,rfl⟩:∃ x,x=wr:=⟨_,rfl⟩
     by_cases hjt:j<e.n
     · obtain ⟨g3,o3,t,ea,htj,y0,y1,y2,y3⟩:=((HOK.out.1.below hb).rd).at4 HOK.out.1.len hjt
       subst ea;have hvn:=vars_next htj;have hl3:=HLEN.out i j e HEI.out;have hsn:=foldV_snoc (varsUp es i ++ e.vars.take j) t.2.1;rw [List.append_assoc,←hvn] at hsn
       obtain ⟨o,ho⟩:∃ o,o=foldV (varsUp es i ++ e.vars.take j):=⟨_,rfl⟩
       rw [←ho] at hl3 hsn hown;obtain ⟨A3,c3,rfl,hc3,hr3⟩:=ownsRow_form hown;have HSN:=Lib.hid hsn;have HB3:=Lib.hid hb;have HR3:=Lib.hid hr3;clear hb hown hr3 hsn hvn ho htj
       go_upto_region 8 with fail
       have hx4:=heap_alloc_new w3 (.cells #[.int .i64 t.2.1,.bool (ratNeg t.2.2),.slice t.1.A t.1.n t.1.c,.slice t.1.A2 t.1.n2 t.1.c2] 153)
       have zw4:(w3.alloc (.cells #[.int .i64 t.2.1,.bool (ratNeg t.2.2),.slice t.1.A t.1.n t.1.c,.slice t.1.A2 t.1.n2 t.1.c2] 153)).heap.size=w3.heap.size+1:=by simp
       have aw4:=(Below.refl w3.heap.size w3).alloc (Nat.le_refl _) (.cells #[.int .i64 t.2.1,.bool (ratNeg t.2.2),.slice t.1.A t.1.n t.1.c,.slice t.1.A2 t.1.n2 t.1.c2] 153)
       obtain ⟨w4,ew4⟩:∃ x,x=w3.alloc (.cells #[.int .i64 t.2.1,.bool (ratNeg t.2.2),.slice t.1.A t.1.n t.1.c,.slice t.1.A2 t.1.n2 t.1.c2] 153):=⟨_,rfl⟩
       rw [←ew4] at hx4 zw4 aw4 ⊢;clear ew4
       obtain ⟨g4,hg4⟩:∃ x,x=w3.heap.size:=⟨_,rfl⟩
       rw [←hg4] at hx4 ⊢;have HX4:=Lib.hid hx4;have HB4:=Lib.hid (HB3.out.trans (aw4.mono HB3.out.size));have HR4:=Lib.hid (HR3.out.below aw4);have hb0:=HB4.out.size;have hown4:=own_empty w4 3 w4.heap.size (Nat.le_refl _);have HO4:=Lib.hid hown4;have HA4:=Lib.hid ((Below.refl w4.heap.size w4).alloc (Nat.le_refl _) (.cells #[] 3))
       generalize t.2.1=x at *
       clear hx4 aw4 zw4 y0 y1 y2 y3 hown4 hg4 HR3
       go_wp2_with fail
       go_loopw [8,9,29] (fun v d xx wr=>∃ (k:Nat) (db:Bool) (nx:List Int),k≤o.length∧xx=.int .i64 k∧d=.bool db∧wr.ownsRow w4.heap.size 3 1 v nx.length (ints nx)∧nx.length≤k+db.toNat∧PassI x o nx db k∧Below w4.heap.size w4 wr) (fun _ _ xx _=>o.length - (intOf xx).toNat)
       case atStart=>exact ⟨0,false,[],Nat.zero_le _,rfl,rfl,HO4.out,Nat.zero_le _,rfl,HA4.out⟩
       case round =>
        obtain ⟨k,db,nx,hk,rfl,rfl,hown5,hnl,hps,hb5⟩:=hrel
        obtain ⟨w5,rfl⟩:∃ x,x=wr:=⟨_,rfl⟩
        obtain ⟨p0,p1,p2,p3⟩:=box4 (box_keep HX4.out hb5);have HO5:=Lib.hid hown5;have HB5:=Lib.hid hb5
        by_cases hkt:k<o.length
        · obtain ⟨g6,o6,u,eu,hku,q0⟩:=(HR4.out.below hb5).atI hkt
          subst eu;have hnp:=passI_next hps hku;have HNP:=Lib.hid hnp;clear hown5 hb5 hps hnp hku
          by_cases hux:u=x
          · subst hux
            have hne:(u != u)=false:=by simp
            have hle:u≤u:=Int.le_refl _
            cases db
            · have hnl':nx.length≤k:=hnl
              have hnp:=HNP.out;simp only [Bool.not_false,Bool.true_and,Int.le_refl,decide_true,if_true,Bool.or_true,List.append_nil] at hnp;have HNQ:=Lib.hid hnp;clear hnp HNP
              go_upto_region 15 with (at_builtin;refine app1 w4.heap.size w4 w5 (.int .i64 (u)) 3 rfl _ _ 51 rfl i0 (.int .i64 0) 8 Tryz.underlying51 hif hz0 hz1 hz2 rfl (by decide) _ nx.length _ rfl (Nat.le_refl _) (HO5.out) (HB5.out) rfl rfl (by omega) ?_;intro v6 w6 hownw6 hbw6 hgw6)
              have HOw6:=Lib.hid hownw6;have HBw6:=Lib.hid hbw6;clear hownw6 hbw6 hgw6;obtain ⟨p0,p1,p2,p3⟩:=box4 (box_keep HX4.out HBw6.out)
              go_wp2_with fail
              go_roundw
              case rel=>exact ⟨k+1,true,(nx ++ [u]),by omega,by go_num,rfl,by rw [ints_append,List.length_append];exact HOw6.out,by first | omega | (simp;omega),HNQ.out,HBw6.out⟩
              case measure=>simp [intOf];omega
            · have hnl':nx.length≤k+1:=hnl
              have hnp:=HNP.out;simp only [Bool.not_true,Bool.false_and,Bool.false_eq_true,if_true,if_false,Bool.true_or,List.append_nil] at hnp;have HNQ:=Lib.hid hnp;clear hnp HNP
              go_wp2_with fail
              go_roundw
              case rel=>exact ⟨k+1,true,nx,by omega,by go_num,rfl,HO5.out,by first | omega | (simp;omega),HNQ.out,HB5.out⟩
              case measure=>simp [intOf];omega
          · have hne:(u != x)=true:=by rw [bne_iff_ne];exact hux
            cases db
            · have hnl':nx.length≤k:=hnl
              by_cases hle:x≤u
              · have hnp:=HNP.out
                rw [decide_eq_true hle,if_neg hux] at hnp;simp only [Bool.not_false,Bool.and_true,if_true,Bool.or_true,List.singleton_append] at hnp;have HNQ:=Lib.hid hnp;clear hnp HNP hux
                go_upto_region 15 with (at_builtin;refine app1 w4.heap.size w4 w5 (.int .i64 (x)) 3 rfl _ _ 51 rfl i0 (.int .i64 0) 8 Tryz.underlying51 hif hz0 hz1 hz2 rfl (by decide) _ nx.length _ rfl (Nat.le_refl _) (HO5.out) (HB5.out) rfl rfl (by omega) ?_;intro v6 w6 hownw6 hbw6 hgw6)
                have HOw6:=Lib.hid hownw6;have HBw6:=Lib.hid hbw6;clear hownw6 hbw6 hgw6;obtain ⟨p0,p1,p2,p3⟩:=box4 (box_keep HX4.out HBw6.out)
                go_upto_region 18 with (at_builtin;refine app1 w4.heap.size w4 w6 (.int .i64 (u)) 3 rfl _ _ 51 rfl i0 (.int .i64 0) 8 Tryz.underlying51 hif hz0 hz1 hz2 rfl (by decide) _ (nx.length+1) _ rfl (Nat.le_refl _) (HOw6.out) (HBw6.out) rfl rfl (by omega) ?_;intro v7 w7 hownw7 hbw7 hgw7)
                have HOw7:=Lib.hid hownw7;have HBw7:=Lib.hid hbw7;clear hownw7 hbw7 hgw7;obtain ⟨p0,p1,p2,p3⟩:=box4 (box_keep HX4.out HBw7.out)
                go_wp2_with fail
                go_roundw
                case rel=>exact ⟨k+1,true,(nx ++ [x,u]),by omega,by go_num,rfl,by have:=HOw7.out;rw [List.append_assoc] at this;rw [ints_append,List.length_append];exact this,by first | omega | (simp;omega),HNQ.out,HBw7.out⟩
                case measure=>simp [intOf];omega
              · have hnp:=HNP.out
                rw [decide_eq_false hle,if_neg hux] at hnp;simp only [Bool.and_false,Bool.false_eq_true,if_false,Bool.or_false,List.nil_append] at hnp;have HNQ:=Lib.hid hnp;have hle':¬ (u≥x):=hle;clear hnp HNP hux
                go_upto_region 18 with (at_builtin;refine app1 w4.heap.size w4 w5 (.int .i64 (u)) 3 rfl _ _ 51 rfl i0 (.int .i64 0) 8 Tryz.underlying51 hif hz0 hz1 hz2 rfl (by decide) _ nx.length _ rfl (Nat.le_refl _) (HO5.out) (HB5.out) rfl rfl (by omega) ?_;intro v6 w6 hownw6 hbw6 hgw6)
                have HOw6:=Lib.hid hownw6;have HBw6:=Lib.hid hbw6;clear hownw6 hbw6 hgw6;obtain ⟨p0,p1,p2,p3⟩:=box4 (box_keep HX4.out HBw6.out)
                go_wp2_with fail
                go_roundw
                case rel=>exact ⟨k+1,false,(nx ++ [u]),by omega,by go_num,rfl,by rw [ints_append,List.length_append];exact HOw6.out,by first | omega | (simp;omega),HNQ.out,HBw6.out⟩
                case measure=>simp [intOf];omega
            · have hnl':nx.length≤k+1:=hnl
              have hnp:=HNP.out;rw [if_neg hux] at hnp;simp only [Bool.not_true,Bool.false_and,Bool.false_eq_true,if_false,Bool.true_or,List.nil_append] at hnp;have HNQ:=Lib.hid hnp;clear hnp HNP hux
              go_upto_region 18 with (at_builtin;refine app1 w4.heap.size w4 w5 (.int .i64 (u)) 3 rfl _ _ 51 rfl i0 (.int .i64 0) 8 Tryz.underlying51 hif hz0 hz1 hz2 rfl (by decide) _ nx.length _ rfl (Nat.le_refl _) (HO5.out) (HB5.out) rfl rfl (by omega) ?_;intro v6 w6 hownw6 hbw6 hgw6)
              have HOw6:=Lib.hid hownw6;have HBw6:=Lib.hid hbw6;clear hownw6 hbw6 hgw6;obtain ⟨p0,p1,p2,p3⟩:=box4 (box_keep HX4.out HBw6.out)
              go_wp2_with fail
              go_roundw
              case rel=>exact ⟨k+1,true,(nx ++ [u]),by omega,by go_num,rfl,by rw [ints_append,List.length_append];exact HOw6.out,by first | omega | (simp;omega),HNQ.out,HBw6.out⟩
              case measure=>simp [intOf];omega
        · have hk2:k=o.length:=by omega
          rw [hk2] at hps;have hend:=passI_end hps;rw [←HSN.out] at hend;have HEND:=Lib.hid hend;clear hps hend hown5 hb5
          cases db
          · have hnl':nx.length≤k:=hnl
            have hend:=HEND.out;simp only [Bool.false_eq_true,if_false] at hend;have HEN2:=Lib.hid hend;clear hend HEND
            go_upto_region 22 with (at_builtin;refine app1 w4.heap.size w4 w5 (.int .i64 (x)) 3 rfl _ _ 51 rfl i0 (.int .i64 0) 8 Tryz.underlying51 hif hz0 hz1 hz2 rfl (by decide) _ nx.length _ rfl (Nat.le_refl _) (HO5.out) (HB5.out) rfl rfl (by omega) ?_;intro v6 w6 hownw6 hbw6 hgw6)
            have HOw6:=Lib.hid hownw6;have HBw6:=Lib.hid hbw6;clear hownw6 hbw6 hgw6;obtain ⟨p0,p1,p2,p3⟩:=box4 (box_keep HX4.out HBw6.out)
            go_wp2_with fail
            go_roundw
            case rel=>exact ⟨j+1,by omega,by go_num,by rw [HEN2.out,ints_append,List.length_append];exact own_more HOw6.out hb0,HB4.out.trans (HBw6.out.mono hb0)⟩
            case measure=>simp [intOf];omega
          · have hend:=HEND.out
            simp only [if_true,List.append_nil] at hend;have HEN2:=Lib.hid hend;clear hend HEND
            go_wp2_with fail
            go_roundw
            case rel=>exact ⟨j+1,by omega,by go_num,by rw [HEN2.out];exact own_more HO5.out hb0,HB4.out.trans (HB5.out.mono hb0)⟩
            case measure=>simp [intOf];omega
     · have hje:j=e.n:=by omega
       have hfull:varsUp es i ++ e.vars.take j=varsUp es (i+1):=by rw [HNX.out,List.take_of_length_le (by rw [vars_len,HOK.out.1.len];omega)]
       rw [hfull] at hown;have HOW3:=Lib.hid hown;have HB3:=Lib.hid hb;clear hown hb hfull
       go_wp2_with fail
       go_roundw
       case rel=>exact ⟨i+1,by omega,by go_num,HOW3.out,HB3.out⟩
       case measure=>simp [intOf];omega
  · obtain rfl:i=n:=by omega
    have HOW:=Lib.hid hown;have HB:=Lib.hid hb;clear hown hb
    go_wp2_with fail
    go_ret;exact ⟨_,rfl,HOW.out,HB.out⟩
end Go.Proofs.YtdefcbfofonabaaGreat

namespace Go.Proofs.YtdefcbfofonabaaGreat
open Go.RowKit
set_option linter.unusedVariables false
set_option linter.unusedSimpArgs false
def sumTs (f:Int→Rat) (vs:List Int):List Tm:=(vs.map fun v=>(v,f v)).filter fun t=>!decide (t.2=0)
theorem sumTs_snoc (f:Int→Rat) (vs:List Int) (v:Int):sumTs f (vs ++ [v])=sumTs f vs ++ if f v=0 then [] else [(v,f v)]:=by
 unfold sumTs;rw [List.map_append,List.filter_append]
 by_cases h:f v=0<;>simp [h]
theorem coT_sumTs (f:Int→Rat) (v:Int):∀ vs:List Int,vs.Nodup→coT (sumTs f vs) v=if v ∈ vs then f v else 0
 | [],_=>rfl
 | u :: r,h=>by
   obtain ⟨h1,h2⟩:=List.nodup_cons.1 h;have ih:=coT_sumTs f v r h2
   have e:sumTs f (u :: r)=(if f u=0 then [] else [(u,f u)]) ++ sumTs f r:=by
    unfold sumTs
    by_cases h:f u=0<;>simp [h]
   rw [e,coT_app,ih]
   by_cases huv:u=v
   · subst huv
     have hin:u ∈ u :: r:=List.mem_cons_self
     by_cases h0:f u=0
     · simp only [if_pos h0,if_neg h1,if_pos hin,coT]
       grind
     · simp only [if_neg h0,if_neg h1,if_pos hin,coT,if_true]
       grind
   · have h3:coT (if f u=0 then [] else [(u,f u)]) v=0:=by
      split
      · rfl
      · simp only [coT,if_neg huv]
        grind
     rw [h3]
     have h4:(v ∈ u :: r)↔v ∈ r:=by
      rw [List.mem_cons];exact ⟨fun h=>h.resolve_left (fun e=>huv e.symm),.inr⟩
     by_cases h5:v ∈ r
     · rw [if_pos h5,if_pos (h4.2 h5)]
       grind
     · rw [if_neg h5,if_neg (fun h=>h5 (h4.1 h))]
       grind
theorem sumTs_vars (f:Int→Rat):∀ vs:List Int,((sumTs f vs).map (·.1)).Sublist vs
 | []=>by simp [sumTs]
 | u :: r=>by
   have ih:=sumTs_vars f r
   have e:sumTs f (u :: r)=(if f u=0 then [] else [(u,f u)]) ++ sumTs f r:=by
    unfold sumTs
    by_cases h:f u=0<;>simp [h]
   rw [e]
   split
   · exact List.Sublist.cons _ ih
   · exact List.Sublist.cons_cons _ ih
theorem coT_out {l:List Tm} {v:Int} (h:v ∉ l.map (·.1)):coT l v=0:=coT_none fun t ht e=>h (List.mem_map.2 ⟨t,ht,e⟩)
theorem coT_take {K:Nat} (hK:1≤K) (v:Int):∀ l:List Tm,(l.map (·.1)).Nodup→(∀ t ∈ l,QLe t.2 K)→∀ i,QLe (coT (l.take i) v) K
 | [],_,_,i=>by
   rw [List.take_nil];exact qzero_le K hK
 | t :: r,h,hq,0=>by
   rw [List.take_zero];exact qzero_le K hK
 | t :: r,h,hq,i+1=>by
   rw [List.map_cons] at h;obtain ⟨h1,h2⟩:=List.nodup_cons.1 h;rw [List.take_succ_cons];simp only [coT]
   by_cases hv:t.1=v
   · rw [if_pos hv]
     have h0:coT (r.take i) v=0:=coT_out fun hm=>h1 (by
      rw [hv];obtain ⟨u,hu,e⟩:=List.mem_map.1 hm
      exact List.mem_map.2 ⟨u,List.mem_of_mem_take hu,e⟩)
     rw [h0]
     have e:t.2+0=t.2:=by grind
     rw [e];exact hq t (by simp)
   · rw [if_neg hv]
     have e:(0:Rat)+coT (r.take i) v=coT (r.take i) v:=by grind
     rw [e];exact coT_take hK v r h2 (fun u hu=>hq u (by simp [hu])) i
end Go.Proofs.YtdefcbfofonabaaGreat
