/- Contract of lin.Canon. -/
import Derived.Test.YtdefcbfofonabaaGreatTmIns
import Derived.Test.YtdefcbfofonabaaGreatBtOf
import Derived.Deep.CutBlock
import Derived.Deep.RegionWith
namespace Go.Proofs.YtdefcbfofonabaaGreat
open Go.RowKit
set_option linter.unusedVariables false
set_option linter.unusedSimpArgs false
def CanP (B:Nat) (w:World) (n:Nat) (l:List TB) (b:RB) (q:Rat) (k:Nat) (r:Ending) (w':World):Prop :=
 ∃ (A':Option Addr) (n' c':Nat) (l' ls:List TB),r=.returned (.agg #[.slice A' n' c',.bool (ratNeg q),.slice b.A b.n b.c,.slice b.A2 b.n2 b.c2])∧ls.Perm l∧SrtV (tmsOf ls)∧tmsOf l'=grp (tmsOf ls)∧TmsAt w' A' n' c' l' (31*(k+1))∧n'≤n∧Below B w w'
structure COut (w0 w:World) (v:Value) (lo:List TB) (K:Nat):Prop where
 own:w.ownsRow 0 44 4 v lo.length (tmsL lo)
 new:∀ b,v.ownBlock=some b→w0.heap.size≤b
 each:∀ t ∈ lo,TOk w K t
theorem COut.below {w0 w w':World} {v:Value} {lo:List TB} {K:Nat} (h:COut w0 w v lo K) (hb:Below w.heap.size w w'):COut w0 w' v lo K:=⟨own_below h.own hb,h.new,fun t ht=>(h.each t ht).below hb⟩
theorem COut.store {w0 w:World} {v:Value} {lo:List TB} {K g:Nat} (h:COut w0 w v lo K) (hB:Blk3 w g) (s:Bool) (b:RB):COut w0 (store3 w g s b) v lo K:=by
 refine ⟨(store3_fr w g s b).own h.own ?_,h.new,fun t ht=>⟨store3_rat hB (h.each t ht).1 s b,(h.each t ht).2⟩⟩;rintro b' hb rfl;obtain ⟨s0,A,n,c,A2,n2,c2,hx⟩:=hB;exact own_type h.own hx (by decide) hb
theorem COut.app {w0 w w':World} {v v':Value} {lo:List TB} {K:Nat} {t:TB} (h:COut w0 w v lo K) (hw:w0.heap.size≤w.heap.size) (ht:TOk w K t) (hown:w'.ownsRow 0 44 4 v' (lo.length+1) (tmsL lo ++ tmL t)) (hf:Fr (ownS v) w w') (hb:v'.ownBlock=v.ownBlock∨v'.ownBlock=some (w.heap.size+1)):COut w0 w' v' (lo ++ [t]) K:=by
 refine ⟨?_,?_,?_⟩
 · rw [tmsL_app,List.length_append]
   have e:tmsL [t]=tmL t:=by rw [tmsL_cons];simp [tmsL]
   rw [e];exact hown
 · intro b hb'
   rcases hb with h1 | h1
   · rw [h1] at hb'
     exact h.new b hb'
   · rw [h1] at hb'
     injection hb' with hb'
     omega
 · intro u hu
   rcases List.mem_append.1 hu with hu | hu
   · exact (h.each u hu).fr h.own hf
   · simp only [List.mem_cons,List.not_mem_nil,or_false] at hu
     subst hu;exact ht.fr h.own hf
theorem COut.bel {w0 w w':World} {v:Value} {lo:List TB} {K:Nat} (h:COut w0 w v lo K) (hw:Below w0.heap.size w0 w) (hf:Fr (ownS v) w w'):Below w0.heap.size w0 w':=hw.trans (hf.below hw.size h.new)
theorem grp_end (v:Int) (c:Rat) (l:List Tm) (h:∀ t r,l=t :: r→t.1≠v):grpGo v c l=(if c=0 then [] else [(v,c)]) ++ grp l:=by
 cases l with
 | nil=>unfold grpGo grp;split<;>rfl
 | cons t r =>
   unfold grpGo grp;rw [if_neg (h t r rfl)]
theorem drop_at {l:List TB} {i:Nat} {t:TB} (h:l[i]?=some t):(tmsOf l).drop i=t.2 :: (tmsOf l).drop (i+1):=by
 obtain ⟨hi,rfl⟩:=List.getElem?_eq_some_iff.1 h
 have:i<(tmsOf l).length:=by rw [tmsOf_len];exact hi
 rw [List.drop_eq_getElem_cons this]
 congr 1
 simp [tmsOf]
set_option maxRecDepth 100000 in
set_option maxHeartbeats 4000000 in
theorem canon_any (A:Option Addr) (n c:Nat) (b:RB) (l:List TB) (q:Rat) (k:Nat) (w:World) (h:TmsAt w A n c l k) (hn:n≤19) (hk:k≤30000) :
 Calls Tryz.prog 23 #[.agg #[.slice A n c,.bool (ratNeg q),.slice b.A b.n b.c,.slice b.A2 b.n2 b.c2]] w fun r w'=>CanP w.heap.size w n l b q k r w':=by
 obtain ⟨s,hs⟩:∃ s,s=ratNeg q:=⟨_,rfl⟩
 rw [←hs];have HSG:=Lib.hid hs;clear hs
 go_enter Tryz.func23,Tryz.ntmps23
 go_upto_region 1 with fail
 have hx1:=heap_alloc_new w (.cells #[.slice A n c,.bool s,.slice b.A b.n b.c,.slice b.A2 b.n2 b.c2] 28)
 have hw1:(w.alloc (.cells #[.slice A n c,.bool s,.slice b.A b.n b.c,.slice b.A2 b.n2 b.c2] 28)).heap.size=w.heap.size+1:=by simp
 have hbw:=(Below.refl w.heap.size w).alloc (Nat.le_refl _) (.cells #[.slice A n c,.bool s,.slice b.A b.n b.c,.slice b.A2 b.n2 b.c2] 28)
 obtain ⟨wk,hwk⟩:∃ x,x=w.alloc (.cells #[.slice A n c,.bool s,.slice b.A b.n b.c,.slice b.A2 b.n2 b.c2] 28):=⟨_,rfl⟩
 rw [←hwk] at hx1 hbw hw1 ⊢;have hx2:=heap_alloc_new wk (.cells #[.slice none 0 0,.bool false,.slice none 0 0,.slice none 0 0] 28);have hx1':=box_keep hx1 ((Below.refl _ _).alloc (Nat.le_refl _) (.cells #[.slice none 0 0,.bool false,.slice none 0 0,.slice none 0 0] 28));have hbk:=hbw.alloc hbw.size (.cells #[.slice none 0 0,.bool false,.slice none 0 0,.slice none 0 0] 28)
 have hwz2:(wk.alloc (.cells #[.slice none 0 0,.bool false,.slice none 0 0,.slice none 0 0] 28)).heap.size=w.heap.size+1+1:=by simp [hw1]
 obtain ⟨wz,hwz⟩:∃ x,x=wk.alloc (.cells #[.slice none 0 0,.bool false,.slice none 0 0,.slice none 0 0] 28):=⟨_,rfl⟩
 rw [hw1] at hx2;rw [←hwz] at hx2 hx1' hbk hwz2 ⊢;have hz:=h.below hbk;have hcl:=clone_any l A n c wz hz.rd hz.len (by omega)
 have hso:=fun A3 c3 W (ho:W.ownsRow wz.heap.size 44 4 (.slice A3 n c3) n (tmsL l))=>sort_own l wz.heap.size A3 n c3 W ho (by omega)
 have x0:=cell_of_blk hx1' 0;simp only [List.getElem?_toArray,List.getElem?_cons_zero] at x0;have HX1:=Lib.hid hx1';have HX2:=Lib.hid hx2;have HBZ:=Lib.hid hbk;have HZ:=Lib.hid hz;have HCL:=Lib.hid hcl;have HSO:=Lib.hid hso;have HWZ:=Lib.hid hwz2;clear hwz hwk hx1 hx1' hx2 hbw hbk hw1 h hz hcl hso hwz2
 go_upto_region 3 with (first | (go_at_call 52;refine HCL.out.mono ?_;rintro e w2 ⟨v2,rfl,ho2,hb2⟩;obtain ⟨A3,c3,rfl,hc3,hr3⟩:=ownsRow_form ho2;have hcall:=HSO.out A3 c3 w2 ho2;have HB2:=Lib.hid hb2;clear ho2 hb2 hr3) | (go_at_call 53;refine hcall.mono ?_;clear hcall;rintro e w3 ⟨rfl,ls,hp3,hsr3,ho3,hf3⟩))
 have hb3:Below wz.heap.size wz w3:=HB2.out.trans (hf3.below HB2.out.size (fun b hb=>(own_lt ho3 hb).1));have hz3:=HZ.out.below hb3;obtain ⟨A3',c3',e3,hts⟩:=TmsAt.of_own (k:=k) ho3 (fun t ht=>hz3.each t (hp3.mem_iff.1 ht))
 injection e3 with e3 _ e4
 subst e3;subst e4;have HTS:=Lib.hid hts;have HP:=Lib.hid (And.intro hp3 hsr3);have HB3:=Lib.hid hb3;have HX1':=Lib.hid (box_keep HX1.out hb3);have HX2':=Lib.hid (box_keep HX2.out hb3);clear hb3 hz3 hts hp3 hsr3 ho3 hf3 HX1 HX2 HCL HSO HZ HB2 x0
 go_wp2_with fail
 obtain ⟨K,hK⟩:∃ K,K=31*(k+1):=⟨_,rfl⟩
 have HKK:=Lib.hid hK;clear hK
 go_loopw [4,5] (fun v x wr=>∃ (i:Nat) (lo:List TB),i≤n∧x=.int .i64 i∧COut w3 wr v lo K∧tmsOf lo ++ grp ((tmsOf ls).drop i)=grp (tmsOf ls)∧lo.length≤i∧Below w3.heap.size w3 wr) (fun _ x _=>n - (intOf x).toNat)
 case atStart=>exact ⟨0,[],Nat.zero_le _,by first | rfl | go_num,⟨World.ownsRow_nil _ _ _ _,by simp [Value.ownBlock],by simp⟩,by simp [tmsOf],Nat.le_refl _,Below.refl _ _⟩
 case round =>
  obtain ⟨i,lo,hin,rfl,hco,hgr,hlo,hb4⟩:=hrel
  obtain ⟨w4,rfl⟩:∃ x,x=wr:=⟨_,rfl⟩
  have HCO:=Lib.hid hco;have HGR:=Lib.hid hgr;have HB4:=Lib.hid hb4;clear hco hgr hb4
  by_cases hlt:i<n
  · obtain ⟨g3,o3,t0,ea,hti,y0,y1,y2,y3⟩:=(HTS.out.below HB4.out).rd.at4 (HTS.out.len) hlt
    subst ea;have HTI:=Lib.hid hti;clear hti y1 y2 y3;have y0':=(((Below.refl w4.heap.size w4).alloc (Nat.le_refl _) (.cells #[.bool false,.slice none 0 0,.slice none 0 0] 26)).cell (World.block_lt_of_cell? w4 _ y0)).trans y0;clear y0
    have b0:(0:Int)≤(i:Int):=by omega
    have b1:i<n:=hlt
    go_upto_block 2 with fail
    obtain ⟨gc,hgc⟩:∃ x,x=w4.heap.size:=⟨_,rfl⟩
    have hbx:Box3 (w4.alloc (.cells #[.bool false,.slice none 0 0,.slice none 0 0] 26)) gc ⟨none,0,0,none,0,0⟩ 0:=by
     rw [hgc];unfold Box3;rw [zero_neg];exact heap_alloc_new w4 _
    have hal:=(Below.refl w4.heap.size w4).alloc (Nat.le_refl _) (.cells #[.bool false,.slice none 0 0,.slice none 0 0] 26);have hco5:=HCO.out.below hal;have hb5:=HB4.out.trans (hal.mono HB4.out.size)
    have hgc3:w3.heap.size≤gc:=by rw [hgc];exact HB4.out.size
    obtain ⟨w5,hw5⟩:∃ x,x=w4.alloc (.cells #[.bool false,.slice none 0 0,.slice none 0 0] 26):=⟨_,rfl⟩
    rw [←hw5] at hbx hco5 hb5 ⊢;rw [←hgc];have HBX:=Lib.hid hbx;have HCO5:=Lib.hid hco5;have HB5:=Lib.hid hb5;have HGC:=Lib.hid hgc3;have hdr:=drop_at HTI.out
    obtain ⟨vv,hvv⟩:∃ vv,vv=t0.2.1:=⟨_,rfl⟩
    rw [←hvv]
    have hg0:grpGo vv 0 ((tmsOf ls).drop i)=grp ((tmsOf ls).drop i):=by
     rw [hdr];unfold grp;rw [grpGo,if_pos hvv.symm,hvv]
    have HG0:=Lib.hid hg0;have HDR:=Lib.hid hdr;have HVV:=Lib.hid hvv
    obtain ⟨G,hG⟩:∃ G,G=grp ((tmsOf ls).drop i):=⟨_,rfl⟩
    have HGG:=Lib.hid hG;clear hbx hal hco5 hb5 hw5 hgc3 hdr hvv hg0 hgc y0' hG
    go_cut [5] (fun x wx=>∃ (j:Nat) (bc:RB) (cq:Rat),i<j∧j≤n∧x=.int .i64 j∧Box3 wx gc bc cq∧RatAt wx bc cq∧RatLe cq K∧(if cq=0 then [] else [(vv,cq)]) ++ grp ((tmsOf ls).drop j)=G∧COut w3 wx u4 lo K∧Below w3.heap.size w3 wx)
    case first =>
     go_wp2_with fail
     go_loopw [5] (fun x wr=>∃ (j:Nat) (bc:RB) (cq:Rat),i≤j∧j≤n∧x=.int .i64 j∧Box3 wr gc bc cq∧RatAt wr bc cq∧RatLe cq (1+(j - i)*(k+1))∧grpGo vv cq ((tmsOf ls).drop j)=G∧COut w3 wr u4 lo K∧Below w3.heap.size w3 wr) (fun x _=>n - (intOf x).toNat)
     case atStart=>exact ⟨i,_,0,Nat.le_refl _,Nat.le_of_lt hlt,rfl,HBX.out,zero_at _,by rw [Nat.sub_self,Nat.zero_mul];exact zero_le _ (by decide),HG0.out.trans HGG.out.symm,HCO5.out,HB5.out⟩
     case round =>
      obtain ⟨j,bc,cq,hij,hjn,rfl,hbx,hrc,hlc,hgg,hco,hb6⟩:=hrel
      obtain ⟨w6,rfl⟩:∃ x,x=wr:=⟨_,rfl⟩
      have HBX6:=Lib.hid hbx;have HRC:=Lib.hid hrc;have HLC:=Lib.hid hlc;have HGJ:=Lib.hid hgg;have HCO6:=Lib.hid hco;have HB6:=Lib.hid hb6;clear hbx hrc hlc hgg hco hb6
      by_cases hjlt:j<n
      · obtain ⟨g3',o3',t,ea,htj,y0,y1,y2,y3⟩:=(HTS.out.below HB6.out).rd.at4 (HTS.out.len) hjlt
        injection ea with ea
        injection ea with ea1 ea2
        subst ea1;subst ea2;have hok:=(HTS.out.below HB6.out).each t (List.mem_of_getElem? htj);have HOK:=Lib.hid hok;have HTJ:=Lib.hid htj;clear hok htj
        have b2:(0:Int)≤(j:Int):=by omega
        by_cases hvt:t.2.1=vv
        · have hveq:(t.2.1 == vv)=true:=by rw [beq_iff_eq];exact hvt
          have HVT:=Lib.hid hvt;clear hvt
          have hk31:K≤1000000∧1+(j - i)*(k+1)≤K∧k≤K:=by
           have h1:=HKK.out;have h2:(j - i)*(k+1)≤30*(k+1):=Nat.mul_le_mul (by omega) (Nat.le_refl _);omega
          have hadd:=fun W (h1:RatAt W bc cq) (h2:RatAt W t.1 t.2.2)=>add_any bc t.1 cq t.2.2 W h1 h2 K hk31.1 (HLC.out.up hk31.2.1) (HOK.out.2.1.up hk31.2.2)
          unfold RB.val at hadd;have HADD:=Lib.hid hadd;obtain ⟨r0,r1,r2⟩:=Box.of HBX6.out;clear hadd hk31
          go_upto_region 10 with fail
          go_region_with ((go_at_call 48;refine (HADD.out _ (HRC.out.below (below_drew2 (Below.refl _ _))) (HOK.out.1.below (below_drew2 (Below.refl _ _)))).mono ?_;rintro e w7 ⟨b7,rfl,hr7,hb7⟩;have c7:Below w6.heap.size w6 w7:=(below_drew2 (Below.refl _ _)).trans (hb7.mono (Nat.le_refl _));have HR7:=Lib.hid hr7;have HBX7:=Lib.hid (HBX6.out.below c7);obtain ⟨q0,q1,q2⟩:=Box.of HBX7.out;have z0:=frozen_of_blk HBX7.out 0;have z1:=frozen_of_blk HBX7.out 1;have z2:=frozen_of_blk HBX7.out 2;clear hr7 hb7))
          all_goals
           go_wp2_with fail
           go_roundw
           case rel =>
            refine ⟨j+1,b7,cq+t.2.2,by omega,by omega,by go_num,store3_box HBX7.out.blk b7 _,store3_rat HBX7.out.blk HR7.out _ _,?_,?_,(HCO6.out.below c7).store HBX7.out.blk _ _,store3_bel (HB6.out.trans (c7.mono HB6.out.size)) HGC.out _ _⟩
            · refine (add_le HLC.out HOK.out.2.1).up ?_
              rw [show j+1 - i=(j - i)+1 by omega,Nat.succ_mul];omega
            · have h1:=HGJ.out
              rw [drop_at HTJ.out,grpGo,if_pos HVT.out] at h1;exact h1
           case measure=>simp [intOf];omega
        · have hveq:(t.2.1 == vv)=false:=by rw [beq_eq_false_iff_ne];exact hvt
          have HVT:=Lib.hid hvt;clear hvt
          go_wp2_with fail
          go_meet
          have hji:i<j:=by
           rcases Nat.lt_or_ge i j with h | h
           · exact h
           · obtain rfl:j=i:=by omega
             have h1:=HTI.out;rw [HTJ.out] at h1
             injection h1 with h1
             rw [h1] at HVT;exact absurd HVV.out.symm HVT.out
          have hk31:1+(j - i)*(k+1)≤K:=by
           have h1:=HKK.out;have h2:(j - i)*(k+1)≤30*(k+1):=Nat.mul_le_mul (by omega) (Nat.le_refl _);omega
          refine ⟨j,bc,cq,hji,hjn,rfl,HBX6.out,HRC.out,HLC.out.up hk31,?_,HCO6.out,HB6.out⟩;rw [←HGJ.out];refine (grp_end vv cq _ ?_).symm;intro t' r' e;rw [drop_at HTJ.out] at e
          injection e with e1 _
          rw [←e1];exact HVT.out
      · obtain rfl:j=n:=by omega
        have hjn2:¬ (j<j):=by omega
        go_wp2_with fail
        go_meet
        have hk31:1+(j - i)*(k+1)≤K:=by
         have h1:=HKK.out;have h2:(j - i)*(k+1)≤30*(k+1):=Nat.mul_le_mul (by omega) (Nat.le_refl _);omega
        refine ⟨j,bc,cq,hlt,Nat.le_refl _,rfl,HBX6.out,HRC.out,HLC.out.up hk31,?_,HCO6.out,HB6.out⟩;rw [←HGJ.out];refine (grp_end vv cq _ ?_).symm;intro t' r' e;rw [List.drop_eq_nil_of_le (by rw [tmsOf_len,HTS.out.len];exact Nat.le_refl _)] at e
        cases e
    case rest =>
    obtain ⟨j,bc,cq,hij,hjn,rfl,hbx,hrc,hlc,hgg,hco,hb6⟩:=hcut
    obtain ⟨w6,rfl⟩:∃ x,x=wc:=⟨_,rfl⟩
    obtain ⟨r0,r1,r2⟩:=Box.of hbx;have hsg:=sign_any bc cq w6 hrc;unfold RB.val at hsg;have hsz:=signZ_zero cq;have HSN:=Lib.hid hsg;have HBX6:=Lib.hid hbx;have HRC:=Lib.hid hrc;have HLC:=Lib.hid hlc;have HGJ:=Lib.hid hgg;have HCO6:=Lib.hid hco;have HB6:=Lib.hid hb6
    obtain ⟨z,hz⟩:∃ z,z=signZ cq:=⟨_,rfl⟩
    rw [←hz] at hsg hsz;have HSN:=Lib.hid hsg;clear hbx hrc hlc hgg hco hb6 hsg hz
    by_cases hc0:cq=0
    · rw [decide_eq_true hc0] at hsz
      have hz0:z=0:=by simpa using hsz
      subst hz0;have HC0:=Lib.hid hc0;clear hc0 hsz
      go_wp2_with (go_at_call 33;refine HSN.out.mono ?_;rintro e w7 ⟨rfl,hb7⟩)
      go_roundw
      case rel =>
       refine ⟨j,lo,hjn,rfl,HCO6.out.below hb7,?_,by omega,HB6.out.trans (hb7.mono HB6.out.size)⟩;have h1:=HGJ.out;rw [if_pos HC0.out,List.nil_append,HGG.out] at h1;rw [h1];exact HGR.out
      case measure=>simp [intOf];omega
    · rw [decide_eq_false hc0] at hsz
      have hz0:(z != 0)=true:=by rw [bne,hsz];rfl
      have HC0:=Lib.hid hc0;clear hc0 hsz;obtain ⟨i0,hi,hz0',hz1,hz2⟩:=info_parts info_term;have hcall:=HSN.out
      go_upto_region 12 with (go_at_call 33;refine hcall.mono ?_;clear hcall;rintro e w7 ⟨rfl,hb7⟩)
      have hco7:=HCO6.out.below hb7;obtain ⟨q0,q1,q2⟩:=Box.of (HBX6.out.below hb7);have HCO7:=Lib.hid hco7;have HR7:=Lib.hid (HRC.out.below hb7);have HB7:=Lib.hid (HB6.out.trans (hb7.mono HB6.out.size))
      have hlo2:lo.length≤30:=by omega
      clear hco7 hb7 r0 r1 r2
      go_wp2_with (at_builtin;refine appS w7 4 #[.int .i64 vv,.bool (ratNeg cq),.slice bc.A bc.n bc.c,.slice bc.A2 bc.n2 bc.c2] 44 rfl (.tmp 48) (.tmp 52) 23 rfl i0 _ 64 Tryz.underlying23 hi hz0' hz1 hz2 rfl (by decide) (by decide) rfl u4 lo.length (tmsL lo) rfl HCO7.out.own rfl (tmL_one (bc,(vv,cq))) (by omega) ?_;intro v8 w8 ho8 hf8 hk8)
      have HO8:=Lib.hid ho8;have HF8:=Lib.hid hf8;have HK8:=Lib.hid hk8;clear ho8 hf8 hk8
      go_wp2_with fail
      go_roundw
      case rel =>
       have hok:TOk w7 K (bc,(vv,cq)):=by
        have h1:=(HTS.out.each t0 (List.mem_of_getElem? HTI.out)).2.2;rw [←HVV.out] at h1;exact ⟨HR7.out,HLC.out,h1⟩
       have hco8:=HCO7.out.app HB7.out.size hok HO8.out HF8.out HK8.out;refine ⟨j,lo ++ [(bc,(vv,cq))],hjn,rfl,hco8,?_,by rw [List.length_append];simp;omega,HCO7.out.bel HB7.out HF8.out⟩;have h1:=HGJ.out;rw [if_neg HC0.out,HGG.out] at h1;rw [tmsOf_app,List.append_assoc];have h2:tmsOf [(bc,(vv,cq))]=[(vv,cq)]:=rfl;rw [h2,h1];exact HGR.out
      case measure=>simp [intOf];omega
  · obtain rfl:i=n:=by omega
    have hlt2:¬ (i<i):=by omega
    obtain ⟨A',c',rfl,ht'⟩:=TmsAt.of_own HCO.out.own HCO.out.each;have hx1:=box_keep HX1'.out HB4.out;have hx2:=box_keep HX2'.out HB4.out;obtain ⟨x0,x1,x2,x3⟩:=box4 hx1;obtain ⟨y0,y1,y2,y3⟩:=box4 hx2;have z0:=frozen_of_blk hx2 0;have z1:=frozen_of_blk hx2 1;have z2:=frozen_of_blk hx2 2;have z3:=frozen_of_blk hx2 3;have HT':=Lib.hid ht';have HX2F:=Lib.hid hx2;clear ht' hx1 hx2
    go_wp2_with fail
    refine bodyPost_ret (v:=.agg #[.slice A' lo.length c',.bool s,.slice b.A b.n b.c,.slice b.A2 b.n2 b.c2]) (by simp [results,Tryz.results23,go_sem,y0,y1,y2,y3]) rfl ?_;have hgr:=HGR.out;rw [List.drop_eq_nil_of_le (by rw [tmsOf_len,HTS.out.len];exact Nat.le_refl _)] at hgr;have hbel:=HBZ.out.trans ((HB3.out.trans (HB4.out.mono HB3.out.size)).mono HBZ.out.size);refine ⟨A',lo.length,c',lo,ls,by rw [HSG.out],HP.out.1,HP.out.2,?_,?_,hlo,store4_bel hbel (Nat.le_succ _) _ _ _ _ _⟩
    · have:grp ([]:List Tm)=[]:=rfl
      rw [this,List.append_nil] at hgr;exact hgr
    · have h1:=HT'.out.fr (store4_fr w4 (w.heap.size+1) A' lo.length c' s b) (typ_of HX2F.out (by decide))
      rw [HKK.out] at h1;exact h1
end Go.Proofs.YtdefcbfofonabaaGreat
