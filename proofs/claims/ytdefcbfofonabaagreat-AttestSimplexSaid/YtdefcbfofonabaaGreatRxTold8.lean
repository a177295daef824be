/- Contract of attestlaw08.Told: the program's expression as the reference's. -/
import Derived.Test.YtdefcbfofonabaaGreatBtOf
import Derived.Test.YtdefcbfofonabaaGreatRxSum
import Derived.Test.YtdefcbfofonabaaGreatLinAdd
import Derived.Test.YtdefcbfofonabaaGreatRxPair
import Derived.Test.YtdefcbfofonabaaGreatLinX
namespace Go.Proofs.YtdefcbfofonabaaGreat
open Go.RowKit
set_option linter.unusedVariables false
set_option linter.unusedSimpArgs false
theorem COutQ.frE {w0 w w':World} {v:Value} {lo:List TB} {K g:Nat} {cs:Array Value} {t:TypeId} (h:COutQ w0 w v lo K) (hf:Fr (fun k=>k=g) w w') (hx:w.heap[g]?=some (.cells cs t (0,0))) (ht:t≠4∧t≠153):COutQ w0 w' v lo K:=by
 refine ⟨hf.own h.own ?_,h.new,fun u hu=>(h.each u hu).fr hf (typQ_of hx ht)⟩;rintro b hb rfl;exact own_type h.own hx (Ne.symm ht.2) hb
theorem own_typQt {w:World} {B n:Nat} {v:Value} {xs:List Value} (h:w.ownsRow B 153 4 v n xs):∀ b,ownS v b→∃ cs t m,w.heap[b]?=some (.cells cs t m)∧t≠4:=by
 intro b hb;rcases h.2 with ⟨rfl,_⟩ | ⟨g,cap,cur,rfl,_,hx,_⟩
 · simp [ownS,Value.ownBlock] at hb
 · have:g=b:=by simpa [ownS,Value.ownBlock] using hb
   subst this;exact ⟨cur,_,_,hx,by decide⟩
theorem COutQ.app' {w0 w w':World} {v v':Value} {lo:List TB} {K:Nat} {t:TB} (h:COutQ w0 w v lo K) (hw:w0.heap.size≤w.heap.size) (ht:QOk w K t) (hown:w'.ownsRow 0 153 4 v' (lo.length+1) (tmsL lo ++ tmL t)) (hf:Fr (ownS v) w w') (hb:v'.ownBlock=v.ownBlock∨v'.ownBlock=some (w.heap.size+1)):COutQ w0 w' v' (lo ++ [t]) K:=by
 refine ⟨?_,?_,?_⟩
 · rw [tmsL_app,List.length_append]
   have e:tmsL [t]=tmL t:=by rw [tmsL_cons];simp [tmsL]
   rw [e];exact hown
 · intro b hb'
   rcases hb with h1 | h1
   · rw [h1] at hb'
     exact h.new b hb'
   · rw [h1] at hb'
     injection hb' with hb'
     omega
 · intro u hu
   have hty:=own_typQt h.own;rcases List.mem_append.1 hu with hu | hu
   · exact ⟨(h.each u hu).at_.fr hf hty,(h.each u hu).le,(h.each u hu).lo,(h.each u hu).hi⟩
   · simp only [List.mem_cons,List.not_mem_nil,or_false] at hu
     subst hu;exact ⟨ht.at_.fr hf hty,ht.le,ht.lo,ht.hi⟩
set_option maxRecDepth 100000 in
set_option maxHeartbeats 8000000 in
theorem told8_any (e0:EB) (l:List TB) (q:Rat) (k K:Nat) (w:World) (h:TmsAt w e0.A e0.n e0.c l k) (hr:RatAt w e0.b q) (hq:RatLe q k) (hn:e0.n≤30) (hk:k≤2000) (hqs:∀ t ∈ l,QLe t.2.2 K) :
 Calls Tryz.prog 65 #[e0.val (ratNeg q)] w fun r w'=>∃ x:XE,r=.returned x.val∧tmsOf x.l=tmsOf l∧QsAt w' x.A x.n x.c x.l K∧QAt w' x.b q∧x.s=ratNeg q∧x.n=e0.n∧Below w.heap.size w w':=by
 obtain ⟨A,n,c,b⟩:=e0;simp only at h hr hn;unfold EB.val;simp only
 go_enter Tryz.func65,Tryz.ntmps65
 go_upto_region 1 with fail
 have hx1:=heap_alloc_new w (.cells #[.slice A n c,.bool (ratNeg q),.slice b.A b.n b.c,.slice b.A2 b.n2 b.c2] 28)
 have zw1:(w.alloc (.cells #[.slice A n c,.bool (ratNeg q),.slice b.A b.n b.c,.slice b.A2 b.n2 b.c2] 28)).heap.size=w.heap.size+1:=by simp
 have aw1:=(Below.refl w.heap.size w).alloc (Nat.le_refl _) (.cells #[.slice A n c,.bool (ratNeg q),.slice b.A b.n b.c,.slice b.A2 b.n2 b.c2] 28)
 obtain ⟨w1,ew1⟩:∃ x0,x0=w.alloc (.cells #[.slice A n c,.bool (ratNeg q),.slice b.A b.n b.c,.slice b.A2 b.n2 b.c2] 28):=⟨_,rfl⟩
 rw [←ew1] at hx1 zw1 aw1 ⊢;clear ew1;have hx2:=heap_alloc_new w1 (.cells #[.slice none 0 0,.bool false,.slice none 0 0,.slice none 0 0] 85)
 have zw2:(w1.alloc (.cells #[.slice none 0 0,.bool false,.slice none 0 0,.slice none 0 0] 85)).heap.size=w1.heap.size+1:=by simp
 have aw2:=(Below.refl w1.heap.size w1).alloc (Nat.le_refl _) (.cells #[.slice none 0 0,.bool false,.slice none 0 0,.slice none 0 0] 85)
 obtain ⟨w2,ew2⟩:∃ x0,x0=w1.alloc (.cells #[.slice none 0 0,.bool false,.slice none 0 0,.slice none 0 0] 85):=⟨_,rfl⟩
 rw [←ew2] at hx2 zw2 aw2 ⊢;clear ew2;rw [zw1] at hx2;have kz:=aw1.trans (aw2.mono aw1.size);have hv1:=box_keep hx1 aw2;have hto:=told_any b q w2 (hr.below kz) k hk hq;unfold RB.val at hto;obtain ⟨y0,y1,y2,y3⟩:=box4 hv1
 have hz2:w2.heap.size=w.heap.size+1+1:=by rw [zw2,zw1]
 have HTO:=Lib.hid hto;have HX1:=Lib.hid hv1;have HX2:=Lib.hid hx2;have KZ:=Lib.hid kz;have HT2:=Lib.hid (h.below kz);have HZ2:=Lib.hid hz2;have HQS:=Lib.hid hqs;clear hto hx1 hx2 hv1 aw1 aw2 zw1 zw2 kz h hr hq hz2 hqs
 go_upto_region 2 with (go_at_call 87;refine HTO.out.mono ?_;clear HTO;rintro e w4 ⟨b4,rfl,hr4,hb4⟩;have HR4:=Lib.hid hr4;have HB4:=Lib.hid hb4;clear hr4 hb4)
 have hx5:=heap_alloc_new w4 (.cells #[.slice none 0 0,.bool (ratNeg q),.slice b4.A b4.n b4.c,.slice b4.A2 b4.n2 b4.c2] 85)
 have zw5:(w4.alloc (.cells #[.slice none 0 0,.bool (ratNeg q),.slice b4.A b4.n b4.c,.slice b4.A2 b4.n2 b4.c2] 85)).heap.size=w4.heap.size+1:=by simp
 have aw5:=(Below.refl w4.heap.size w4).alloc (Nat.le_refl _) (.cells #[.slice none 0 0,.bool (ratNeg q),.slice b4.A b4.n b4.c,.slice b4.A2 b4.n2 b4.c2] 85)
 obtain ⟨w5,ew5⟩:∃ x0,x0=w4.alloc (.cells #[.slice none 0 0,.bool (ratNeg q),.slice b4.A b4.n b4.c,.slice b4.A2 b4.n2 b4.c2] 85):=⟨_,rfl⟩
 rw [←ew5] at hx5 zw5 aw5 ⊢;clear ew5;have b5:Below w2.heap.size w2 w5:=HB4.out.trans (aw5.mono HB4.out.size)
 obtain ⟨go,hgo⟩:∃ x0,x0=w4.heap.size:=⟨_,rfl⟩
 rw [←hgo] at hx5 ⊢
 have hgo2:w2.heap.size≤go:=by rw [hgo];exact HB4.out.size
 have hv1:=box_keep HX1.out b5;obtain ⟨y0',_,_,_⟩:=box4 hv1;have HV1:=Lib.hid hv1;have HX5:=Lib.hid hx5;have HB5:=Lib.hid b5;have HT5:=Lib.hid (HT2.out.below b5);have HR5:=Lib.hid (HR4.out.below aw5);clear hx5 hv1 b5 hgo aw5 zw5 HX1 HT2 HR4 HB4 y0 y1 y2 y3
 go_upto_region 3 with fail
 clear y0'
 have hcs5:∀ wr,Fr (fun kk=>kk=go) w5 wr→TmsAt wr A n c l k∧QAt wr b4 q:=fun wr hf=>⟨HT5.out.fr hf (typ_of HX5.out (by decide)),HR5.out.fr hf (typB_of HX5.out (by decide))⟩
 have HCS5:=Lib.hid hcs5;clear hcs5
 go_loopw [13] (fun x wr=>∃ (i:Nat) (lo:List TB) (A':Option Addr) (c':Nat),i≤n∧x=.int .i64 i∧wr.heap[go]?=some (.cells #[.slice A' lo.length c',.bool (ratNeg q),.slice b4.A b4.n b4.c,.slice b4.A2 b4.n2 b4.c2] 85 (0,0))∧COutQ w5 wr (.slice A' lo.length c') lo K∧tmsOf lo=(tmsOf l).take i∧lo.length=i∧Fr (fun kk=>kk=go) w5 wr) (fun x _=>n - (intOf x).toNat)
 case atStart=>exact ⟨0,[],none,0,Nat.zero_le _,by first | rfl | go_num,HX5.out,⟨World.ownsRow_nil _ _ _ _,by simp [Value.ownBlock],by simp⟩,by simp [tmsOf],rfl,Fr.refl _ _⟩
 case round =>
  obtain ⟨i,lo,A',c',hin,rfl,hxo,hco,hlo,hll,hf⟩:=hrel
  obtain ⟨w6,rfl⟩:∃ x,x=wr:=⟨_,rfl⟩
  have HXO:=Lib.hid hxo;have HCO:=Lib.hid hco;have HLO:=Lib.hid hlo;have HLL:=Lib.hid hll;have HF:=Lib.hid hf;clear hxo hco hlo hll hf
  by_cases hlt:i<n
  · obtain ⟨ht6,hq6⟩:=HCS5.out w6 HF.out
    obtain ⟨g3,o3,t,ea,hti,y0,y1,y2,y3⟩:=ht6.rd.at4 ht6.len hlt;subst ea;have HTI:=Lib.hid hti;have HOK:=Lib.hid (ht6.each t (List.mem_of_getElem? hti))
    have b0:(0:Int)≤(i:Int):=by omega
    clear hti ht6 hq6
    go_upto_region 5 with fail
    have hxt:=heap_alloc_new w6 (.cells #[.int .i64 t.2.1,.bool (ratNeg t.2.2),.slice t.1.A t.1.n t.1.c,.slice t.1.A2 t.1.n2 t.1.c2] 44)
    have zw7:(w6.alloc (.cells #[.int .i64 t.2.1,.bool (ratNeg t.2.2),.slice t.1.A t.1.n t.1.c,.slice t.1.A2 t.1.n2 t.1.c2] 44)).heap.size=w6.heap.size+1:=by simp
    have aw7:=(Below.refl w6.heap.size w6).alloc (Nat.le_refl _) (.cells #[.int .i64 t.2.1,.bool (ratNeg t.2.2),.slice t.1.A t.1.n t.1.c,.slice t.1.A2 t.1.n2 t.1.c2] 44)
    obtain ⟨w7,ew7⟩:∃ x0,x0=w6.alloc (.cells #[.int .i64 t.2.1,.bool (ratNeg t.2.2),.slice t.1.A t.1.n t.1.c,.slice t.1.A2 t.1.n2 t.1.c2] 44):=⟨_,rfl⟩
    rw [←ew7] at hxt zw7 aw7 ⊢;clear ew7
    obtain ⟨gt,hgt⟩:∃ x,x=w6.heap.size:=⟨_,rfl⟩
    rw [←hgt] at hxt ⊢;have hco7:=HCO.out.below aw7
    have hnw:∀ kk,ownS (.slice A' lo.length c') kk→kk≠go∧kk≠gt:=by
     intro kk hkk;refine ⟨fun e=>?_,fun e=>?_⟩
     · subst e
       exact own_type HCO.out.own HXO.out (by decide) hkk
     · have:=(own_lt HCO.out.own hkk).2
       omega
    have hxo7:=box_keep HXO.out aw7
    have hcs7:∀ W',Fr (ownS (.slice A' lo.length c')) w7 W'→(W'.cell? ⟨go,0,none⟩=some (.slice A' lo.length c'))∧(W'.cell? ⟨gt,0,none⟩=some (.int .i64 t.2.1)∧W'.cell? ⟨gt,1,none⟩=some (.bool (ratNeg t.2.2))∧W'.cell? ⟨gt,2,none⟩=some (.slice t.1.A t.1.n t.1.c)∧W'.cell? ⟨gt,3,none⟩=some (.slice t.1.A2 t.1.n2 t.1.c2)):=fun W' hf=>by
     have e1:=(hf.block go (lt_of_blk hxo7) (fun h=>(hnw go h).1 rfl)).trans hxo7;have e2:=(hf.block gt (lt_of_blk hxt) (fun h=>(hnw gt h).2 rfl)).trans hxt;exact ⟨cell_of_blk e1 0,box4 e2⟩
    have hml:=fun W (hb:Below w7.heap.size w7 W)=>told_any t.1 t.2.2 W ((HOK.out.1.below aw7).below hb) k hk HOK.out.2.1
    unfold RB.val at hml;have HCS7:=Lib.hid hcs7;have HML7:=Lib.hid hml;have HCO7:=Lib.hid hco7;have HXO7:=Lib.hid hxo7;have HF7:=Lib.hid (HF.out.trans (Fr.of_below (S:=fun kk=>kk=go) aw7) (fun b hb=>.inl hb));have HNW:=Lib.hid hnw;obtain ⟨i0,hi,hz0,hz1,hz2⟩:=info_parts info_termQ
    have hll:lo.length≤30:=by have:=HLL.out;omega
    clear hcs7 hml hco7 hxo7 hxt aw7 zw7 hgt hnw y0 y1 y2 y3;have hS:=HCS7.out w7.drew (Fr.refl _ _).drew;refine wp_region_E 11 (fun W'=>(W'.cell? ⟨go,0,none⟩=some (.slice A' lo.length c'))∧(W'.cell? ⟨gt,0,none⟩=some (.int .i64 t.2.1)∧W'.cell? ⟨gt,1,none⟩=some (.bool (ratNeg t.2.2))∧W'.cell? ⟨gt,2,none⟩=some (.slice t.1.A t.1.n t.1.c)∧W'.cell? ⟨gt,3,none⟩=some (.slice t.1.A2 t.1.n2 t.1.c2))) (by kernel_rfl) ?_;refine tkE 0 hS ?_;simp only [Act.put,sA,sZ,sS];refine tkE 1 hS ?_;simp only [Act.put,sA,sZ,sS];refine tkE 2 hS ?_;simp only [Act.put,sA,sZ,sS];refine tkE 3 hS ?_;simp only [Act.put,sA,sZ,sS];refine tkE 4 hS ?_;simp only [Act.put,sA,sZ,sS];refine tkE 5 hS ?_;simp only [Act.put,sA,sZ,sS]
    refine onE 6 fun KK HKK6=>?_
    go_simp
    go_at_call 87
    refine (HML7.out _ (below_drew2 (Below.refl _ _))).mono ?_;rintro e w8 ⟨b8,rfl,hr8,hb8⟩;have c8:Below w7.heap.size w7 w8:=(below_drew2 (Below.refl _ _)).trans (hb8.mono (Nat.le_refl _));have hS8:=HCS7.out w8 (Fr.of_below c8);have HR8:=Lib.hid hr8;clear hr8 hb8 hS;refine HKK6.out _ _ (.inr hS8) ?_;clear HKK6
    try simp only [Act.put,sA,sZ,sS]
    refine tkE 7 hS8 ?_;simp only [Act.put,sA,sZ,sS]
    refine onE 8 fun KK HKK8=>?_
    go_simp;have c8a:=c8.alloc c8.size (.cells #[.int .i64 t.2.1,.bool (ratNeg t.2.2),.slice b8.A b8.n b8.c,.slice b8.A2 b8.n2 b8.c2] 153);have hS9:=HCS7.out _ (Fr.of_below c8a);refine HKK8.out _ _ (.inr hS9) ?_;clear HKK8
    try simp only [Act.put,sA,sZ,sS]
    refine onE 9 fun KK HKK9=>?_
    have hco8:=HCO7.out.below c8;refine stepS w8 4 #[.int .i64 t.2.1,.bool (ratNeg t.2.2),.slice b8.A b8.n b8.c,.slice b8.A2 b8.n2 b8.c2] 153 rfl _ _ 80 rfl i0 _ 64 Tryz.underlying80 hi hz0 hz1 hz2 rfl (by decide) (by decide) rfl (.slice A' lo.length c') lo.length (tmsL lo) rfl hco8.own rfl (tmL_one (b8,(t.2.1,t.2.2))) (by omega) ?_;intro v9 w9 ho9 hf9 hk9
    have hok:QOk w8 K (b8,(t.2.1,t.2.2)):=⟨HR8.out,HQS.out t (List.mem_of_getElem? HTI.out),HOK.out.2.2.1,HOK.out.2.2.2⟩
    have hw58:w5.heap.size≤w8.heap.size:=by
     have h1:=HF7.out.size;have h2:=c8.size;omega
    have hco9:=hco8.app' hw58 hok ho9 hf9 hk9;obtain ⟨A9,c9,rfl,_⟩:=ownsRow_form hco9.own;rw [List.length_append,List.length_singleton] at hco9 hk9 ⊢;have hf89:=(Fr.of_below (S:=ownS (.slice A' lo.length c')) c8).trans hf9 (fun b hb=>.inl hb);have hS10:=HCS7.out w9 hf89;refine HKK9.out _ _ (.inr hS10) ?_;clear HKK9
    try simp only [Act.put,sA,sZ,sS]
    refine tkE 10 hS10 ?_;simp only [Act.put,sA,sZ,sS];have hx9:=(hf89.block go (lt_of_blk HXO7.out) (fun h=>(HNW.out go h).1 rfl)).trans HXO7.out;obtain ⟨p0,p1,p2,p3⟩:=box4 hx9;have z0:=frozen_of_blk hx9 0;have HX9:=Lib.hid hx9;have HCO9:=Lib.hid hco9;have hfr9:Fr (fun kk=>kk=go) w5 w9:=(HF7.out.trans (Fr.of_below (S:=fun kk=>kk=go) c8) (fun b hb=>.inl hb)).trans hf9 (fun b hb=>.inr (HCO7.out.new b hb));have HF9:=Lib.hid hfr9;clear hx9 hco9 hco8 hf9 hf89 ho9 hk9 hS10 hS9 hS8 hok hw58 c8a hfr9
    refine onE 11 fun KK HKK11=>?_
    go_simp;refine HKK11.out _ _ (.inl rfl) ?_;clear HKK11;refine wpAnyE_done (by kernel_rfl) ?_ _
    go_wp2_with fail
    go_roundw
    case rel =>
     refine ⟨i+1,lo ++ [(b8,(t.2.1,t.2.2))],A9,c9,by omega,by go_num,?_,?_,?_,by rw [List.length_append,List.length_singleton,HLL.out],fr_set HF9.out (.inl rfl)⟩
     · rw [List.length_append,List.length_singleton]
       exact set_blk HX9.out 0 _
     · rw [List.length_append,List.length_singleton]
       exact HCO9.out.frE (fr_set (Fr.refl _ _) (.inl rfl)) HX9.out (by decide)
     · rw [tmsOf_app,HLO.out,List.take_add_one,show (tmsOf l)[i]?=some t.2 by unfold tmsOf;rw [List.getElem?_map,HTI.out];rfl]
       rfl
    case measure=>simp [intOf];omega
  · obtain rfl:i=n:=by omega
    have hlt2:¬ (i<i):=by omega
    obtain ⟨Ax,cx,ex,htx⟩:=QsAt.of_own HCO.out.own HCO.out.each
    injection ex with e1 _ e3
    subst e1;subst e3;obtain ⟨y0,y1,y2,y3⟩:=box4 HXO.out;have hx2:=(HF.out.block (w.heap.size+1) (by have:=HB5.out.size;have:=HZ2.out;omega) (by have:=HZ2.out;omega)).trans (box_keep HX2.out HB5.out);obtain ⟨p0,p1,p2,p3⟩:=box4 hx2;have z0:=frozen_of_blk hx2 0;have z1:=frozen_of_blk hx2 1;have z2:=frozen_of_blk hx2 2;have z3:=frozen_of_blk hx2 3;have HTX:=Lib.hid htx;have HX2F:=Lib.hid hx2;have HLN:=Lib.hid (HCS5.out w6 HF.out);clear htx hx2
    go_wp2_with fail
    refine bodyPost_ret (v:=.agg #[.slice A' lo.length c',.bool (ratNeg q),.slice b4.A b4.n b4.c,.slice b4.A2 b4.n2 b4.c2]) (by simp [results,Tryz.results65,go_sem,p0,p1,p2,p3]) rfl ?_;have hfr:=store4_fr w6 (w.heap.size+1) A' lo.length c' (ratNeg q) b4
    have hbel:Below w.heap.size w w6:=by
     have h1:Below w2.heap.size w2 w6:=HB5.out.trans (HF.out.below (B:=w2.heap.size) HB5.out.size (fun b hb=>by rw [hb];exact hgo2));exact KZ.out.trans (h1.mono KZ.out.size)
    refine ⟨⟨A',lo.length,c',ratNeg q,b4,lo⟩,rfl,?_,HTX.out.fr hfr (typQ_of HX2F.out (by decide)),HLN.out.2.fr hfr (typB_of HX2F.out (by decide)),rfl,HLL.out,store4_bel hbel (by omega) _ _ _ _ _⟩;rw [HLO.out,List.take_of_length_le (by rw [tmsOf_len,HLN.out.1.len];exact Nat.le_refl _)]
end Go.Proofs.YtdefcbfofonabaaGreat

namespace Go.Proofs.YtdefcbfofonabaaGreat
open Go.RowKit
set_option linter.unusedVariables false
set_option linter.unusedSimpArgs false
structure TA where
 e:XE
 op:Int
def TA.cells (t:TA):List Value:=t.e.cells ++ [.int .i64 t.op]
def TA.val (t:TA):Value:=.agg #[.slice t.e.A t.e.n t.e.c,.bool t.e.s,.slice t.e.b.A t.e.b.n t.e.b.c,.slice t.e.b.A2 t.e.b.n2 t.e.b.c2,.int .i64 t.op]
structure TaOk (w:World) (K:Nat) (a:AB) (t:TA):Prop where
 tms:tmsOf t.e.l=tmsOf a.l
 qs:QsAt w t.e.A t.e.n t.e.c t.e.l K
 cst:QAt w t.e.b a.q
 sgn:t.e.s=ratNeg a.q
 num:t.e.n=a.n
 op:t.op=a.op
theorem TaOk.below {w w':World} {K:Nat} {a:AB} {t:TA} (h:TaOk w K a t) (hb:Below w.heap.size w w'):TaOk w' K a t:=⟨h.tms,h.qs.below hb,h.cst.below hb,h.sgn,h.num,h.op⟩
theorem TaOk.fr {S:Nat→Prop} {w w':World} {K:Nat} {a:AB} {t:TA} (h:TaOk w K a t) (hf:Fr S w w') (hS:∀ b,S b→∃ cs t m,w.heap[b]?=some (.cells cs t m)∧t≠4∧t≠153):TaOk w' K a t:=⟨h.tms,h.qs.fr hf hS,h.cst.fr hf (fun b hb=>by
 obtain ⟨cs,ty,m,hx,h1,_⟩:=hS b hb
 exact ⟨cs,ty,m,hx,h1⟩),h.sgn,h.num,h.op⟩
def store5q (w:World) (g:Nat) (A:Option Addr) (n c:Nat) (s:Bool) (b:RB) (o:Int):World:=(store4 w g A n c s b).setCell ⟨g,4,none⟩ (.int .i64 o)
theorem store5q_fr (w:World) (g:Nat) (A:Option Addr) (n c:Nat) (s:Bool) (b:RB) (o:Int):Fr (fun k=>k=g) w (store5q w g A n c s b o):=fr_set (store4_fr w g A n c s b) (.inl rfl)
theorem store5q_bel {w0 w:World} {g B:Nat} (h:Below B w0 w) (hg:B≤g) (A:Option Addr) (n c:Nat) (s:Bool) (b:RB) (o:Int):Below B w0 (store5q w g A n c s b o):=bl_set (store4_bel h hg _ _ _ _ _) hg
set_option maxRecDepth 100000 in
set_option maxHeartbeats 4000000 in
theorem told9_any (a:AB) (m k K:Nat) (w:World) (h:AOk w m k a) (hm:m≤30) (hk:k≤2000) (hqs:∀ t ∈ a.l,QLe t.2.2 K) :
 Calls Tryz.prog 31 #[a.val] w fun r w'=>∃ t:TA,r=.returned t.val∧TaOk w' K a t∧Below w.heap.size w w':=by
 unfold AB.val
 go_enter Tryz.func31,Tryz.ntmps31
 go_upto_region 1 with fail
 have hx1:=heap_alloc_new w (.cells #[.slice a.A a.n a.c,.bool (ratNeg a.q),.slice a.b.A a.b.n a.b.c,.slice a.b.A2 a.b.n2 a.b.c2,.int .i64 a.op] 37)
 have zw1:(w.alloc (.cells #[.slice a.A a.n a.c,.bool (ratNeg a.q),.slice a.b.A a.b.n a.b.c,.slice a.b.A2 a.b.n2 a.b.c2,.int .i64 a.op] 37)).heap.size=w.heap.size+1:=by simp
 have aw1:=(Below.refl w.heap.size w).alloc (Nat.le_refl _) (.cells #[.slice a.A a.n a.c,.bool (ratNeg a.q),.slice a.b.A a.b.n a.b.c,.slice a.b.A2 a.b.n2 a.b.c2,.int .i64 a.op] 37)
 obtain ⟨w1,ew1⟩:∃ x0,x0=w.alloc (.cells #[.slice a.A a.n a.c,.bool (ratNeg a.q),.slice a.b.A a.b.n a.b.c,.slice a.b.A2 a.b.n2 a.b.c2,.int .i64 a.op] 37):=⟨_,rfl⟩
 rw [←ew1] at hx1 zw1 aw1 ⊢;clear ew1;have hx2:=heap_alloc_new w1 (.cells #[.slice none 0 0,.bool false,.slice none 0 0,.slice none 0 0,.int .i64 0] 87)
 have zw2:(w1.alloc (.cells #[.slice none 0 0,.bool false,.slice none 0 0,.slice none 0 0,.int .i64 0] 87)).heap.size=w1.heap.size+1:=by simp
 have aw2:=(Below.refl w1.heap.size w1).alloc (Nat.le_refl _) (.cells #[.slice none 0 0,.bool false,.slice none 0 0,.slice none 0 0,.int .i64 0] 87)
 obtain ⟨w2,ew2⟩:∃ x0,x0=w1.alloc (.cells #[.slice none 0 0,.bool false,.slice none 0 0,.slice none 0 0,.int .i64 0] 87):=⟨_,rfl⟩
 rw [←ew2] at hx2 zw2 aw2 ⊢;clear ew2;rw [zw1] at hx2;have b2:=aw1.trans (aw2.mono aw1.size);have hv1:=box_keep hx1 aw2
 have hex:=fun W (hb:Below w2.heap.size w2 W)=>told8_any ⟨a.A,a.n,a.c,a.b⟩ a.l a.q k K W ((h.tms.below b2).below hb) ((h.cst.below b2).below hb) h.le (Nat.le_trans h.few hm) hk hqs
 unfold EB.val at hex;simp only at hex
 have hcs:∀ W',Fr (fun kk=>kk=w.heap.size+1) w2 W'→W'.cell? ⟨w.heap.size,0,none⟩=some (.slice a.A a.n a.c)∧W'.cell? ⟨w.heap.size,1,none⟩=some (.bool (ratNeg a.q))∧W'.cell? ⟨w.heap.size,2,none⟩=some (.slice a.b.A a.b.n a.b.c)∧W'.cell? ⟨w.heap.size,3,none⟩=some (.slice a.b.A2 a.b.n2 a.b.c2)∧W'.cell? ⟨w.heap.size,4,none⟩=some (.int .i64 a.op):=fun W' hb=>box5b ((hb.block _ (lt_of_blk hv1) (by omega)).trans hv1)
 have HEX:=Lib.hid hex;have HCS:=Lib.hid hcs;have HX2:=Lib.hid hx2;have HB2:=Lib.hid b2;have HQ:=Lib.hid hqs;clear hex hcs hx1 hx2 hv1 b2 aw1 aw2 zw1 zw2 h hqs
 go_region_held3 (fun W'=>W'.cell? ⟨w.heap.size,0,none⟩=some (.slice a.A a.n a.c)∧W'.cell? ⟨w.heap.size,1,none⟩=some (.bool (ratNeg a.q))∧W'.cell? ⟨w.heap.size,2,none⟩=some (.slice a.b.A a.b.n a.b.c)∧W'.cell? ⟨w.heap.size,3,none⟩=some (.slice a.b.A2 a.b.n2 a.b.c2)∧W'.cell? ⟨w.heap.size,4,none⟩=some (.int .i64 a.op)) ((refine HCS.out _ ?_;repeat' (first | with_reducible exact Fr.of_below k1 | with_reducible exact (Fr.refl _ _).drew | with_reducible refine fr_set ?_ ?_ | exact .inl rfl))) (first | (go_at_call 65;refine (HEX.out _ (below_drew2 (Below.refl _ _))).mono ?_;rintro e u1 ⟨x6,rfl,hl6,ht6,hr6,hs6,hn6,hb6⟩;unfold XE.val;have k1:Below w2.heap.size w2 u1:=(below_drew2 (Below.refl _ _)).trans (hb6.mono (Nat.le_refl _));have HXU:=Lib.hid (box_keep HX2.out k1);obtain ⟨p0,p1,p2,p3,p4⟩:=box5b HXU.out;have z0:=frozen_of_blk HXU.out 0;have z1:=frozen_of_blk HXU.out 1;have z2:=frozen_of_blk HXU.out 2;have z3:=frozen_of_blk HXU.out 3;have z4:=frozen_of_blk HXU.out 4;have H6:=Lib.hid (And.intro hl6 (And.intro ht6 (And.intro hr6 (And.intro hs6 hn6))));clear hb6 hl6 ht6 hr6 hs6 hn6))
 all_goals
  go_wp2_with fail
  refine bodyPost_ret (v:=.agg #[.slice x6.A x6.n x6.c,.bool x6.s,.slice x6.b.A x6.b.n x6.b.c,.slice x6.b.A2 x6.b.n2 x6.b.c2,.int .i64 a.op]) (by simp [results,Tryz.results31,go_sem,p0,p1,p2,p3,p4]) rfl ?_;obtain ⟨hl6,ht6,hr6,hs6,hn6⟩:=H6.out;have hbel:=HB2.out.trans (k1.mono HB2.out.size);have hfr:=store5q_fr u1 (w.heap.size+1) x6.A x6.n x6.c x6.s x6.b a.op;have hty:=typQ_of HXU.out (by decide);exact ⟨⟨x6,a.op⟩,rfl,(TaOk.mk hl6 ht6 hr6 hs6 hn6 rfl:TaOk u1 K a ⟨x6,a.op⟩).fr hfr hty,store5q_bel hbel (Nat.le_succ _) _ _ _ _ _ _⟩
end Go.Proofs.YtdefcbfofonabaaGreat

namespace Go.Proofs.YtdefcbfofonabaaGreat
open Go.RowKit
set_option linter.unusedVariables false
set_option linter.unusedSimpArgs false
def tasL (l:List TA):List Value:=l.flatMap TA.cells
theorem tasL_cons (a:TA) (l:List TA):tasL (a :: l)=a.cells ++ tasL l:=List.flatMap_cons
theorem tasL_app (l m:List TA):tasL (l ++ m)=tasL l ++ tasL m:=List.flatMap_append
theorem tasL_at:∀ (l:List TA) (k:Nat) (p:TA),l[k]?=some p→∀ j,j<5→(tasL l)[k*5+j]?=p.cells[j]?
 | [],k,p,h,_,_=>by simp at h
 | p' :: l,0,p,h,j,hj=>by
   simp at h;subst h;rw [tasL_cons,List.getElem?_append_left (by simp [TA.cells,XE.cells];omega)];simp
 | p' :: l,k+1,p,h,j,hj=>by
   have ih:=tasL_at l k p (by simpa using h) j hj;have hl:p'.cells.length=5:=rfl;rw [tasL_cons,List.getElem?_append_right (by omega),hl,show (k+1)*5+j - 5=k*5+j by omega];exact ih
structure TasAt (w:World) (A:Option Addr) (n c:Nat) (lt:List TA) (l:List AB) (K:Nat):Prop where
 rd:Rd w 5 A n (tasL lt)
 len:lt.length=n
 cap:n≤c
 same:l.length=n
 each:∀ (i:Nat) (a:AB) (t:TA),l[i]?=some a→lt[i]?=some t→TaOk w K a t
theorem TasAt.below {w w':World} {A:Option Addr} {n c K:Nat} {lt:List TA} {l:List AB} (h:TasAt w A n c lt l K) (hb:Below w.heap.size w w'):TasAt w' A n c lt l K:=⟨h.rd.below hb,h.len,h.cap,h.same,fun i a t h1 h2=>(h.each i a t h1 h2).below hb⟩
theorem Rd.atT {w:World} {A:Option Addr} {n:Nat} {l:List TA} (h:Rd w 5 A n (tasL l)) (hl:l.length=n) {i:Nat} (hi:i<n):∃ (g off:Nat) (t:TA),A=some ⟨g,off,none⟩∧l[i]?=some t∧w.cell? ⟨g,off+i*5,none⟩=some (.slice t.e.A t.e.n t.e.c)∧w.cell? ⟨g,off+i*5+1,none⟩=some (.bool t.e.s)∧w.cell? ⟨g,off+i*5+2,none⟩=some (.slice t.e.b.A t.e.b.n t.e.b.c)∧w.cell? ⟨g,off+i*5+3,none⟩=some (.slice t.e.b.A2 t.e.b.n2 t.e.b.c2)∧w.cell? ⟨g,off+i*5+4,none⟩=some (.int .i64 t.op):=by
 obtain ⟨g,off,e,hc⟩:=h.2 (by omega)
 have hl':i<l.length:=by omega
 have key:=tasL_at l i l[i] (List.getElem?_eq_getElem hl');refine ⟨g,off,l[i],e,List.getElem?_eq_getElem hl',?_,?_,?_,?_,?_⟩
 · have:=hc (i*5) _ ((key 0 (by decide)).trans rfl)
   exact this
 · have:=hc (i*5+1) _ ((key 1 (by decide)).trans rfl)
   rwa [←Nat.add_assoc] at this
 · have:=hc (i*5+2) _ ((key 2 (by decide)).trans rfl)
   rwa [←Nat.add_assoc] at this
 · have:=hc (i*5+3) _ ((key 3 (by decide)).trans rfl)
   rwa [←Nat.add_assoc] at this
 · have:=hc (i*5+4) _ ((key 4 (by decide)).trans rfl)
   rwa [←Nat.add_assoc] at this
theorem TA.one (a:TA):∀ u ∈ a.cells,u.oneCell'=true:=by
 intro u hu;simp [TA.cells,XE.cells] at hu
 rcases hu with rfl | rfl | rfl | rfl | rfl<;>rfl
theorem info_atomQ:(Tryz.prog.info? 87).map (fun i=>(i.zero,i.size,i.bytes))=some (some (.agg #[.slice none 0 0,.bool false,.slice none 0 0,.slice none 0 0,.int .i64 0]),5,88):=by kernel_rfl
theorem own_typAQ {w:World} {B n:Nat} {v:Value} {xs:List Value} (h:w.ownsRow B 87 5 v n xs):∀ b,ownS v b→∃ cs t m,w.heap[b]?=some (.cells cs t m)∧t≠4∧t≠153:=by
 intro b hb;rcases h.2 with ⟨rfl,_⟩ | ⟨g,cap,cur,rfl,_,hx,_⟩
 · simp [ownS,Value.ownBlock] at hb
 · have:g=b:=by simpa [ownS,Value.ownBlock] using hb
   subst this;exact ⟨cur,_,_,hx,by decide⟩
theorem lit5Q_rd (w:World) (a:TA):Rd (w.alloc (.cells #[.slice a.e.A a.e.n a.e.c,.bool a.e.s,.slice a.e.b.A a.e.b.n a.e.b.c,.slice a.e.b.A2 a.e.b.n2 a.e.b.c2,.int .i64 a.op] 87)) 5 (some ⟨w.heap.size,0,none⟩) 1 a.cells:=by
 have hown:=World.ownsRow_lit (base:=0) (e:=87) (size:=5) w #[.slice a.e.A a.e.n a.e.c,.bool a.e.s,.slice a.e.b.A a.e.b.n a.e.b.c,.slice a.e.b.A2 a.e.b.n2 a.e.b.c2,.int .i64 a.op] 1 (Nat.zero_le _) (by unfold maxLen;omega) rfl;obtain ⟨A,c,e,_,hr⟩:=ownsRow_form hown
 injection e with e1
 subst e1;exact hr
set_option maxRecDepth 100000 in
set_option maxHeartbeats 4000000 in
theorem tlist_any (A:Option Addr) (n c:Nat) (l:List AB) (m k K:Nat) (w:World) (h:AtmsAt w A n c l m k) (hn:n≤30) (hm:m≤30) (hk:k≤2000) (hqs:∀ a ∈ l,∀ t ∈ a.l,QLe t.2.2 K) :
 Calls Tryz.prog 11 #[.slice A n c] w fun r w'=>∃ (A':Option Addr) (c':Nat) (lt:List TA),r=.returned (.slice A' n c')∧TasAt w' A' n c' lt l K∧Below w.heap.size w w':=by
 have H:=Lib.hid h;have HQ:=Lib.hid hqs;obtain ⟨i0,hi,hz0,hz1,hz2⟩:=info_parts info_atomQ;clear h hqs
 go_enter Tryz.func11,Tryz.ntmps11
 go_upto_region 2 with fail
 obtain ⟨w1,hw1⟩:∃ x,x=w.alloc (.cells #[] 87):=⟨_,rfl⟩
 rw [←hw1]
 go_wp2_with fail
 go_loopw [3,9] (fun v x wr=>∃ (i:Nat) (la:List TA),i≤n∧x=.int .i64 i∧wr.ownsRow w.heap.size 87 5 v la.length (tasL la)∧la.length=i∧(∀ (j:Nat) (a:AB) (t:TA),l[j]?=some a→la[j]?=some t→TaOk wr K a t)∧Below w.heap.size w wr) (fun _ x _=>n - (intOf x).toNat)
 case atStart =>
  refine ⟨0,[],Nat.zero_le _,by first | rfl | go_num,?_,rfl,by simp,?_⟩
  · try rw [hw1]
    have:=World.ownsRow_lit (base:=w.heap.size) (e:=87) (size:=5) w #[] 0 (Nat.le_refl _) (by unfold maxLen;omega) rfl
    simpa [tasL] using this
  · try rw [hw1]
    exact (Below.refl _ _).alloc (Nat.le_refl _) _
 case round =>
  obtain ⟨i,la,hin,rfl,hown,hlen,heach,hb⟩:=hrel
  obtain ⟨w5,rfl⟩:∃ x,x=wr:=⟨_,rfl⟩
  by_cases hlt:i<n
  · obtain ⟨g3,of3,t,ea,hti,y0,y1,y2,y3,y4⟩:=(H.out.below hb).rd.at5 H.out.len hlt
    subst ea;have hok:=(H.out.below hb).each t (List.mem_of_getElem? hti)
    have hto:=fun W (hW:Below w5.heap.size w5 W)=>told9_any t m k K W (hok.below hW) hm hk (HQ.out t (List.mem_of_getElem? hti))
    unfold AB.val at hto
    have b0:(0:Int)≤(i:Int):=by omega
    have HTO:=Lib.hid hto;have HOWN:=Lib.hid hown;have HE:=Lib.hid heach;have HB:=Lib.hid hb;have HTI:=Lib.hid hti;clear hto hok hown heach hb hti
    go_upto_region 5 with fail
    have hxt:=heap_alloc_new w5 (.cells #[.slice t.A t.n t.c,.bool (ratNeg t.q),.slice t.b.A t.b.n t.b.c,.slice t.b.A2 t.b.n2 t.b.c2,.int .i64 t.op] 37)
    have zw6:(w5.alloc (.cells #[.slice t.A t.n t.c,.bool (ratNeg t.q),.slice t.b.A t.b.n t.b.c,.slice t.b.A2 t.b.n2 t.b.c2,.int .i64 t.op] 37)).heap.size=w5.heap.size+1:=by simp
    have aw6:=(Below.refl w5.heap.size w5).alloc (Nat.le_refl _) (.cells #[.slice t.A t.n t.c,.bool (ratNeg t.q),.slice t.b.A t.b.n t.b.c,.slice t.b.A2 t.b.n2 t.b.c2,.int .i64 t.op] 37)
    obtain ⟨w6,ew6⟩:∃ x0,x0=w5.alloc (.cells #[.slice t.A t.n t.c,.bool (ratNeg t.q),.slice t.b.A t.b.n t.b.c,.slice t.b.A2 t.b.n2 t.b.c2,.int .i64 t.op] 37):=⟨_,rfl⟩
    rw [←ew6] at hxt zw6 aw6 ⊢;clear ew6;obtain ⟨x0,x1,x2,x3,x4⟩:=box5b hxt;have hto:=HTO.out w6 aw6;have HA6:=Lib.hid aw6;clear HTO y0 y1 y2 y3 y4 hxt zw6 aw6
    go_upto_region 6 with (first | (go_at_call 31;refine hto.mono ?_;clear hto;rintro e w7 ⟨a,rfl,hok7,hb7⟩;unfold TA.val;have HA7:=Lib.hid hok7;have hb57:=HA6.out.trans (hb7.mono HA6.out.size);have HB57:=Lib.hid hb57;have hown7:=own_below HOWN.out (hb57.alloc hb57.size (.cells #[.slice a.e.A a.e.n a.e.c,.bool a.e.s,.slice a.e.b.A a.e.b.n a.e.b.c,.slice a.e.b.A2 a.e.b.n2 a.e.b.c2,.int .i64 a.op] 87));have hbel7:=HB.out.trans ((hb57.alloc hb57.size (.cells #[.slice a.e.A a.e.n a.e.c,.bool a.e.s,.slice a.e.b.A a.e.b.n a.e.b.c,.slice a.e.b.A2 a.e.b.n2 a.e.b.c2,.int .i64 a.op] 87)).mono HB.out.size);clear hok7 hb57 hb7) | (at_builtin;refine appRn w.heap.size w _ 5 87 rfl _ _ 46 rfl i0 _ 88 Tryz.underlying46 hi hz0 hz1 hz2 rfl (by decide) (by decide) _ la.length (tasL la) rfl (Nat.le_refl _) hown7 hbel7 _ 1 1 a.cells rfl (lit5Q_rd w7 a) a.one (by omega) ?_;intro v8 w8 hown8 hbel8 hg8))
    go_wp2_with fail
    go_roundw
    case rel =>
     refine ⟨i+1,la ++ [a],by omega,by go_num,?_,by simp;omega,?_,hbel8⟩
     · rw [tasL_app,List.length_append,List.length_singleton]
       simpa [tasL] using hown8
     · have hf:=Fr.of_grown (S:=ownS u3) hg8 (fun k hk=>.inl hk)
       have hal:=(Below.refl w7.heap.size w7).alloc (Nat.le_refl _) (.cells #[.slice a.e.A a.e.n a.e.c,.bool a.e.s,.slice a.e.b.A a.e.b.n a.e.b.c,.slice a.e.b.A2 a.e.b.n2 a.e.b.c2,.int .i64 a.op] 87);intro j p q hp hq
       by_cases hj:j<la.length
       · rw [List.getElem?_append_left hj] at hq
         exact (((HE.out j p q hp hq).below HB57.out).below hal).fr hf (own_typAQ hown7)
       · rw [List.getElem?_append_right (by omega)] at hq
         have h0:j - la.length=0:=by
          rcases Nat.eq_zero_or_pos (j - la.length) with h | h
          · exact h
          · rw [List.getElem?_eq_none (by simp;omega)] at hq
            simp at hq
         rw [h0] at hq;simp at hq;subst hq
         have hji:j=i:=by omega
         rw [hji,HTI.out] at hp
         injection hp with hp
         subst hp;exact (HA7.out.below hal).fr hf (own_typAQ hown7)
    case measure=>simp [intOf];omega
  · obtain rfl:i=n:=by omega
    have hlt2:¬ (i<i):=by omega
    obtain ⟨Ax,cx,rfl,hc,hr⟩:=ownsRow_form hown;rw [hlen] at hr hc ⊢;have HP:=Lib.hid (TasAt.mk hr hlen hc H.out.len heach);have HB:=Lib.hid hb;clear hown heach hb hr hc
    go_wp2_with fail
    go_ret;exact ⟨Ax,cx,la,rfl,HP.out,HB.out⟩
end Go.Proofs.YtdefcbfofonabaaGreat
