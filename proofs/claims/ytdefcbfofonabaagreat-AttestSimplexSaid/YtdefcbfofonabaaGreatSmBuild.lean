/- Contract of simplex.build. -/
import Derived.Test.YtdefcbfofonabaaGreatSmCheck
import Derived.Test.YtdefcbfofonabaaGreatRegE
namespace Go.Proofs.YtdefcbfofonabaaGreat
open Go.RowKit
set_option linter.unusedVariables false
set_option linter.unusedSimpArgs false
theorem info_int1:(Tryz.prog.info? 3).map (fun i=>(i.zero,i.size,i.bytes))=some (some (.int .i64 0),1,8):=by kernel_rfl
theorem info_row1:(Tryz.prog.info? 30).map (fun i=>(i.zero,i.size,i.bytes))=some (some (.slice none 0 0),1,24):=by kernel_rfl
theorem box7b {w:World} {g:Nat} {a b c d e f h:Value} {t:TypeId} (hx:w.heap[g]?=some (.cells #[a,b,c,d,e,f,h] t (0,0))):w.cell? ⟨g,0,none⟩=some a∧w.cell? ⟨g,1,none⟩=some b∧w.cell? ⟨g,2,none⟩=some c∧w.cell? ⟨g,3,none⟩=some d∧w.cell? ⟨g,4,none⟩=some e∧w.cell? ⟨g,5,none⟩=some f∧w.cell? ⟨g,6,none⟩=some h :=
 ⟨cell_of_blk hx 0,cell_of_blk hx 1,cell_of_blk hx 2,cell_of_blk hx 3,cell_of_blk hx 4,cell_of_blk hx 5,cell_of_blk hx 6⟩
theorem six_one (s s':Bool) (A A2 A3 A4:Option Addr) (n c n2 c2 n3 c3 n4 c4:Nat):∀ u ∈ [Value.bool s,.slice A n c,.slice A2 n2 c2,.bool s',.slice A3 n3 c3,.slice A4 n4 c4],u.oneCell'=true:=by
 intro u hu;simp at hu
 rcases hu with rfl | rfl | rfl | rfl | rfl | rfl<;>rfl
theorem one_one (u:Value) (h:u.oneCell'=true):∀ x ∈ [u],x.oneCell'=true:=by
 intro x hx;simp at hx;rw [hx];exact h
theorem co_put {l:List Tm} (hp:l.Pairwise fun a b=>a.1<b.1) {j vn:Nat} {t:Tm} (h:l[j]?=some t) (hv:t.1=(vn:Int)) (v:Nat):updF (fun v:Nat=>coT (l.take j) (v:Int)) vn t.2 v=coT (l.take (j+1)) (v:Int):=by
 have h0:coT (l.take j) (vn:Int)=0:=by
  refine coT_none fun u hu=>?_
  have hj:=(List.getElem?_eq_some_iff.1 h).1;have e:=List.take_append_drop j l;rw [List.drop_eq_getElem_cons hj] at e;rw [←e,List.pairwise_append] at hp;have:=hp.2.2 u hu l[j] List.mem_cons_self;have e2:l[j]=t:=(List.getElem?_eq_some_iff.1 h).2;rw [e2] at this;omega
 rw [List.take_add_one,h,coT_app];simp only [Option.toList_some,coT]
 by_cases e:v=vn
 · subst e
   rw [updF_self,h0,if_pos hv]
   grind
 · rw [updF_ne _ _ e,if_neg (by omega)]
   grind
theorem boxE {w:World} {g:Nat} {a b c d:Value} {t:TypeId} (h:w.heap[g]?=some (.cells #[a,b,c,d] t (0,0))):w.cell? ⟨g,0,none⟩=some a∧w.cell? ⟨g,1,none⟩=some b∧w.cell? ⟨g,2,none⟩=some c∧w.cell? ⟨g,3,none⟩=some d :=
 ⟨cell_of_blk h 0,cell_of_blk h 1,cell_of_blk h 2,cell_of_blk h 3⟩
theorem exc_vars {w:World} {e:EB} {l8 l:List TB} {q:Rat} {k nv:Nat} (h:ExC w e l8 q k) (hco:∀ v,coT (tmsOf l8) v=coT (tmsOf l) v) (hv:∀ t ∈ l,0≤t.2.1∧t.2.1<(nv:Int)) {u:TB} (hu:u ∈ l8):∃ vn:Nat,u.2.1=(vn:Int)∧vn<nv:=by
 have h1:=(h.can.mem_iff u.2.1).1 ⟨u.2,List.mem_map.2 ⟨u,hu,rfl⟩,rfl⟩;rw [hco] at h1
 have h2:∃ t ∈ l,t.2.1=u.2.1:=Classical.byContradiction fun hn=>h1 (coT_none fun x hx e=>by
  unfold tmsOf at hx;obtain ⟨t,ht,rfl⟩:=List.mem_map.1 hx
  exact hn ⟨t,ht,e⟩)
 obtain ⟨t,ht,e⟩:=h2;have:=hv t ht;exact ⟨u.2.1.toNat,by omega,by omega⟩
def BuildP (w:World) (nv:Nat) (l:List AB) (K:Nat) (e:Ending) (w':World):Prop:=∃ T:TL,e=.returned (.pointer (some ⟨T.g,0,none⟩))∧TabAt w' w.heap.size T (pbOf nv l) (startS nv l) K∧Below w.heap.size w w'
set_option maxRecDepth 100000 in
set_option maxHeartbeats 8000000 in
theorem build_any (A:Option Addr) (m c:Nat) (l:List AB) (mt k K nv:Nat) (w:World) (h:AtmsAt w A m c l mt k) (hm:m≤8) (hmt:mt≤19) (hk:k≤30000) (hkK:k≤K) (hK1:1≤K) (hK:K≤1000) (hnv0:0<nv) (hnv:nv≤3) (hv:VarsIn nv l) (hco:∀ a ∈ l,∀ v,RatLe (coT (tmsOf a.l) v) K) :
 Calls Tryz.prog 16 #[.int .i64 (nv:Int),.slice A m c] w fun e w'=>BuildP w nv l K e w':=by
 have hlen:=h.len;subst hlen
 obtain ⟨m,hml⟩:∃ x,x=l.length:=⟨_,rfl⟩
 have HL:=Lib.hid h;have HV:=Lib.hid hv;have HCO:=Lib.hid hco;obtain ⟨i0,hi,hz0,hz1,hz2⟩:=info_parts info_d6;obtain ⟨j0,hj,hj0,hj1,hj2⟩:=info_parts info_rat3;obtain ⟨k0,hk',hk0,hk1,hk2⟩:=info_parts info_int1;obtain ⟨r0,hr',hr0,hr1,hr2⟩:=info_parts info_row1;rw [←hml];rw [←hml] at hm;have HML:=Lib.hid hml;clear h hv hco hml
 have b0:IntKind.i64.wrap ((nv:Int)+(m:Int))=((nv+m:Nat):Int):=by rw [IntWalk.i64_in _ (by omega)];omega
 go_enter Tryz.func16,Tryz.ntmps16
 go_upto_region 3 with (at_make;refine makeN w rfl _ _ 103 rfl 108 i0 _ 6 112 Tryz.underlying103 hi hz0 hz1 hz2 .i64 .i64 _ _ (nv+m) rfl rfl (by first | rfl | omega) (by first | rfl | omega) (by omega) (by decide) ?_)
 have hvl:=DRow.made w (nv+m) K hK1;have hbm:=(Below.refl w.heap.size w).alloc (Nat.le_refl _) (.cells (madeCells #[.bool false,.slice none 0 0,.slice none 0 0,.bool false,.slice none 0 0,.slice none 0 0] ((nv+m)*6)) 108)
 obtain ⟨gv,hgv⟩:∃ x0,x0=w.heap.size:=⟨_,rfl⟩
 have hzv:(w.alloc (.cells (madeCells #[.bool false,.slice none 0 0,.slice none 0 0,.bool false,.slice none 0 0,.slice none 0 0] ((nv+m)*6)) 108)).heap.size=gv+1:=by rw [hgv];simp
 obtain ⟨w1,hw1⟩:∃ x0,x0=w.alloc (.cells (madeCells #[.bool false,.slice none 0 0,.slice none 0 0,.bool false,.slice none 0 0,.slice none 0 0] ((nv+m)*6)) 108):=⟨_,rfl⟩
 rw [←hgv] at hvl;rw [←hw1] at hvl hbm hzv ⊢;rw [←hgv] at ⊢;clear hw1;have hxt:=heap_alloc_new w1 (.cells #[.int .i64 (nv:Int),.slice A m c,.slice none 0 0,.slice none 0 0,.slice none 0 0,.slice (some ⟨gv,0,none⟩) (nv+m) (nv+m),.slice none 0 0] 106)
 have zw2:(w1.alloc (.cells #[.int .i64 (nv:Int),.slice A m c,.slice none 0 0,.slice none 0 0,.slice none 0 0,.slice (some ⟨gv,0,none⟩) (nv+m) (nv+m),.slice none 0 0] 106)).heap.size=w1.heap.size+1:=by simp
 have aw2:=(Below.refl w1.heap.size w1).alloc (Nat.le_refl _) (.cells #[.int .i64 (nv:Int),.slice A m c,.slice none 0 0,.slice none 0 0,.slice none 0 0,.slice (some ⟨gv,0,none⟩) (nv+m) (nv+m),.slice none 0 0] 106)
 obtain ⟨w2,ew2⟩:∃ x0,x0=w1.alloc (.cells #[.int .i64 (nv:Int),.slice A m c,.slice none 0 0,.slice none 0 0,.slice none 0 0,.slice (some ⟨gv,0,none⟩) (nv+m) (nv+m),.slice none 0 0] 106):=⟨_,rfl⟩
 rw [←ew2] at hxt zw2 aw2 ⊢;clear ew2
 obtain ⟨gt,hgt⟩:∃ x0,x0=w1.heap.size:=⟨_,rfl⟩
 have hgt2:gv+1=gt:=by omega
 rw [hgt2];rw [←hgt] at hxt;have kb2:Below w.heap.size w w2:=hbm.trans (aw2.mono hbm.size)
 have hbld:Bld w2 w.heap.size gt nv m A c gv (.slice none 0 0) (.slice none 0 0) (.slice none 0 0) (.slice none 0 0) (.slice none 0 0) (.slice none 0 0) (.slice none 0 0) (.slice none 0 0) 0 0 0 0 (fun _=>0) (fun _=>⟨⟨none,0,0,none,0,0⟩,⟨none,0,0,none,0,0⟩⟩) (startF nv l) (pbOf nv l).hi K:=by
  refine ⟨hxt,World.ownsRow_nil _ _ _ _,World.ownsRow_nil _ _ _ _,World.ownsRow_nil _ _ _ _,World.ownsRow_nil _ _ _ _,by simp [Value.ownBlock],by simp [Value.ownBlock],hvl.below aw2,fun j hj=>by omega,fun i j hi=>by omega,fun j hj=>by omega,fun j hj=>by omega,by omega,by omega,by omega⟩
 have HBLD:=Lib.hid hbld;have KB2:=Lib.hid kb2;clear hbld kb2 hxt aw2 zw2 hvl hbm hzv hgv hgt hgt2 b0
 go_wp2_with fail
 go_loopw [25] (fun x wr=>∃ (i:Nat) (v3:Value),i≤nv∧x=.int .i64 i∧Bld wr w.heap.size gt nv m A c gv (.slice none 0 0) v3 (.slice none 0 0) (.slice none 0 0) (.slice none 0 0) v3 (.slice none 0 0) (.slice none 0 0) 0 i 0 0 (fun _=>0) (fun _=>⟨⟨none,0,0,none,0,0⟩,⟨none,0,0,none,0,0⟩⟩) (startF nv l) (pbOf nv l).hi K∧Below w.heap.size w wr) (fun x _=>nv - (intOf x).toNat)
 case atStart=>exact ⟨0,_,Nat.zero_le _,by first | rfl | go_num,HBLD.out,KB2.out⟩
 case round =>
  obtain ⟨i,v3,hin,rfl,hb,hk⟩:=hrel
  obtain ⟨w5,rfl⟩:∃ x,x=wr:=⟨_,rfl⟩
  clear HBLD KB2
  by_cases hlt:i<nv
  · have hrow:rowI nv i = -1:=if_pos hlt
    have HROW:=Lib.hid hrow;have hal:=(Below.refl w5.heap.size w5).alloc (Nat.le_refl _) (.cells #[.int .i64 (-1)] 3);have HB6:=Lib.hid (hb.below hal);have HK6:=Lib.hid (hk.alloc hk.size (.cells #[.int .i64 (-1)] 3));have HSZ:=Lib.hid hk.size;have HRD:=Lib.hid (rd_of_blk (heap_alloc_new w5 (.cells #[.int .i64 (-1)] 3)) (by rfl:(#[Value.int .i64 (-1)]:Array Value).size=1));obtain ⟨x0,x1,x2,x3,x4,x5,x6⟩:=box7b hb.tb;have z3:=frozen_of_blk hb.tb 3;clear hb hk hal hrow x0 x1 x2 x4 x5 x6
    go_wp2_with (at_builtin;refine appRk w.heap.size _ 1 3 rfl _ _ 51 rfl k0 _ 8 Tryz.underlying51 hk' hk0 hk1 hk2 rfl (by decide) (by decide) v3 i (rsL nv i) rfl HK6.out.size HB6.out.o3 _ 1 1 [.int .i64 (-1)] rfl HRD.out (one_one _ rfl) (by omega) ?_;intro v7 w7 ho7 hf7 hk7;obtain ⟨A7,c7,e7,_,_⟩:=ownsRow_form ho7;subst e7;have HB7:=Lib.hid (HB6.out.app3 (by rw [HROW.out];exact ho7) hf7 hk7);have HF7:=Lib.hid (And.intro ho7 hf7);have y3:=cell_of_blk HB7.out.tb 3;have z7:=frozen_of_blk HB7.out.tb 3;clear ho7 hf7 hk7 x3 z3)
    go_roundw
    case rel=>exact ⟨i+1,_,by omega,by go_num,HB7.out.set 3 _ rfl,bl_set (HK6.out.trans (HF7.out.2.below HK6.out.size (fun b hb=>(own_lt HB6.out.o3 hb).1))) HB7.out.lg⟩
    case measure=>simp [intOf];omega
  · obtain rfl:nv=i:=by omega
    have HB:=Lib.hid hb;have HK:=Lib.hid hk
    have hlt2:¬ ((nv:Int)<(nv:Int)):=by omega
    clear hb hk hlt hin
    go_wp2_with fail
    clear hlt2
    go_loopw [39] (fun x wr=>∃ (i:Nat) (v2 v3 v4 v6:Value) (rb:Nat→Nat) (db:Nat→DB),i≤m∧x=.int .i64 i∧Bld wr w.heap.size gt nv m A c gv v2 v3 v4 v6 v2 v3 v4 v6 i (nv+i) i i rb db (startF nv l) (pbOf nv l).hi K∧Below w.heap.size w wr) (fun x _=>m - (intOf x).toNat)
    case atStart=>exact ⟨0,_,_,_,_,_,_,Nat.zero_le _,by first | rfl | go_num,HB.out,HK.out⟩
    case round =>
     obtain ⟨i,v2,v3,v4,v6,rb,db,hin,rfl,hb,hk⟩:=hrel
     obtain ⟨w5,rfl⟩:∃ x,x=wr:=⟨_,rfl⟩
     clear HB HK
     by_cases hlt:i<m
     · obtain ⟨g9,of9,t,ea,hti,y0,y1,y2,y3,y4⟩:=(HL.out.below hk).rd.at5 rfl (i:=i) (by rw [←HML.out];exact hlt)
       subst ea;have hok:=(HL.out.below hk).each t (List.mem_of_getElem? hti);have hmem:=List.mem_of_getElem? hti;have hvt:=HV.out t hmem;have hct:=HCO.out t hmem
       have b0:(0:Int)≤(i:Int):=by omega
       have b1:(i:Int)<(m:Int):=by omega
       have HB:=Lib.hid (And.intro hb hk);have HTI:=Lib.hid (And.intro hti hvt);have HOK:=Lib.hid hok;have HCT:=Lib.hid hct;clear hb hk hti hok hmem hvt hct
       go_upto_region 10 with fail
       have hx8:=heap_alloc_new w5 (.cells #[.slice t.A t.n t.c,.bool (ratNeg t.q),.slice t.b.A t.b.n t.b.c,.slice t.b.A2 t.b.n2 t.b.c2,.int .i64 t.op] 37)
       have zw6:(w5.alloc (.cells #[.slice t.A t.n t.c,.bool (ratNeg t.q),.slice t.b.A t.b.n t.b.c,.slice t.b.A2 t.b.n2 t.b.c2,.int .i64 t.op] 37)).heap.size=w5.heap.size+1:=by simp
       have aw6:=(Below.refl w5.heap.size w5).alloc (Nat.le_refl _) (.cells #[.slice t.A t.n t.c,.bool (ratNeg t.q),.slice t.b.A t.b.n t.b.c,.slice t.b.A2 t.b.n2 t.b.c2,.int .i64 t.op] 37)
       obtain ⟨w6,ew6⟩:∃ x0,x0=w5.alloc (.cells #[.slice t.A t.n t.c,.bool (ratNeg t.q),.slice t.b.A t.b.n t.b.c,.slice t.b.A2 t.b.n2 t.b.c2,.int .i64 t.op] 37):=⟨_,rfl⟩
       rw [←ew6] at hx8 zw6 aw6 ⊢;clear ew6
       obtain ⟨g8,hg8⟩:∃ x0,x0=w5.heap.size:=⟨_,rfl⟩
       rw [←hg8] at hx8 ⊢;have HZ6:=Lib.hid (And.intro zw6 hg8);clear y0 y1 y2 y3 y4 zw6 hg8
       go_upto_region 11 with (at_make;refine makeN w6 rfl _ _ 30 rfl 26 j0 _ 3 56 Tryz.underlying30 hj hj0 hj1 hj2 .i64 .i64 _ _ (nv+m) rfl rfl (by first | rfl | omega) (by first | rfl | omega) (by omega) (by decide) ?_)
       have hrr:=RRow.made w6 (nv+m) K hK1;have hbm:=(Below.refl w6.heap.size w6).alloc (Nat.le_refl _) (.cells (madeCells #[.bool false,.slice none 0 0,.slice none 0 0] ((nv+m)*3)) 26)
       obtain ⟨gr,hgr⟩:∃ x0,x0=w6.heap.size:=⟨_,rfl⟩
       have hzr:(w6.alloc (.cells (madeCells #[.bool false,.slice none 0 0,.slice none 0 0] ((nv+m)*3)) 26)).heap.size=gr+1:=by rw [hgr];simp
       obtain ⟨w7,hw7⟩:∃ x0,x0=w6.alloc (.cells (madeCells #[.bool false,.slice none 0 0,.slice none 0 0] ((nv+m)*3)) 26):=⟨_,rfl⟩
       rw [←hgr] at hrr;rw [←hw7] at hrr hbm hzr ⊢;rw [←hgr] at ⊢;clear hw7;have k57:=aw6.trans (hbm.mono aw6.size);have hok7:=HOK.out.below k57;have hcn:=canonX ⟨t.A,t.n,t.c,t.b⟩ t.l t.q k K w7 hok7.tms hok7.cst (hok7.le.up hkK) (Nat.le_trans hok7.few hmt) hk HCT.out;unfold EB.val at hcn
       dsimp only at hcn
       have hx8':=box_keep hx8 hbm;obtain ⟨x0,x1,x2,x3,x4⟩:=box5c hx8';have HCN:=Lib.hid hcn;have H7:=Lib.hid (And.intro k57 (And.intro hx8' (And.intro hrr hzr)));have HGR:=Lib.hid hgr;clear hcn hx8 hx8' hrr hzr hbm k57 hok7 hgr aw6
       go_upto_region 12 with (go_at_call 23;refine HCN.out.mono ?_;clear HCN;rintro e w8 ⟨⟨A8,n8,c8,b8⟩,l8,e8,rfl,hex,hco8,hb8⟩;dsimp only at e8 hex ⊢;subst e8;have HEX:=Lib.hid hex;have HCO8:=Lib.hid hco8;have HB8:=Lib.hid hb8;clear hex hco8 hb8)
       have hx10:=heap_alloc_new w8 (.cells #[.slice A8 n8 c8,.bool (ratNeg t.q),.slice t.b.A t.b.n t.b.c,.slice t.b.A2 t.b.n2 t.b.c2] 28)
       have zw9:(w8.alloc (.cells #[.slice A8 n8 c8,.bool (ratNeg t.q),.slice t.b.A t.b.n t.b.c,.slice t.b.A2 t.b.n2 t.b.c2] 28)).heap.size=w8.heap.size+1:=by simp
       have aw9:=(Below.refl w8.heap.size w8).alloc (Nat.le_refl _) (.cells #[.slice A8 n8 c8,.bool (ratNeg t.q),.slice t.b.A t.b.n t.b.c,.slice t.b.A2 t.b.n2 t.b.c2] 28)
       obtain ⟨w9,ew9⟩:∃ x0,x0=w8.alloc (.cells #[.slice A8 n8 c8,.bool (ratNeg t.q),.slice t.b.A t.b.n t.b.c,.slice t.b.A2 t.b.n2 t.b.c2] 28):=⟨_,rfl⟩
       rw [←ew9] at hx10 zw9 aw9 ⊢;clear ew9
       obtain ⟨g10,hg10⟩:∃ x0,x0=w8.heap.size:=⟨_,rfl⟩
       rw [←hg10] at hx10 ⊢;have k79:=HB8.out.trans (aw9.mono HB8.out.size);have k59:=H7.out.1.trans (k79.mono H7.out.1.size);have hrr9:=H7.out.2.2.1.below k79;have hx89:=box_keep H7.out.2.1 k79;have hex9:=HEX.out.below aw9
       have hgs:g8≠gr∧g10≠gr∧w5.heap.size≤gr∧w5.heap.size≤g8∧w5.heap.size≤g10:=by
        have h1:=HZ6.out.1;have h2:=HZ6.out.2;have h3:=HGR.out;have h4:=H7.out.2.2.2;have h5:=HB8.out.size;omega
       have hbase:∀ W,Fr (fun b=>b=gr) w9 W→Below w5.heap.size w5 W∧W.heap[g8]?=some (.cells #[.slice t.A t.n t.c,.bool (ratNeg t.q),.slice t.b.A t.b.n t.b.c,.slice t.b.A2 t.b.n2 t.b.c2,.int .i64 t.op] 37 (0,0))∧W.heap[g10]?=some (.cells #[.slice A8 n8 c8,.bool (ratNeg t.q),.slice t.b.A t.b.n t.b.c,.slice t.b.A2 t.b.n2 t.b.c2] 28 (0,0))∧ExC W ⟨A8,n8,c8,t.b⟩ l8 t.q K:=fun W hf=>by
        obtain ⟨cs,hcs⟩:=hrr9.wr (by omega);refine ⟨k59.trans (hf.below k59.size (fun b hb=>by rw [hb];exact hgs.2.2.1)),(hf.block g8 (lt_of_blk hx89) hgs.1).trans hx89,(hf.block g10 (lt_of_blk hx10) hgs.2.1).trans hx10,⟨hex9.tms.fr hf (typ_of hcs (by decide)),hex9.cst.frT hf (typU_of hcs (by decide)),hex9.le,hex9.can⟩⟩
       have hrr90:RRow w9 gr (nv+m) (fun v=>coT ((tmsOf l8).take 0) (v:Int)) K:=hrr9.congr fun v _=>by simp [coT]
       have hn8:n8≤3:=by
        have h1:=few_vars (tmsOf l8) 0 nv hex9.can.inc (fun x hx=>by
         unfold tmsOf at hx;obtain ⟨y,hy,rfl⟩:=List.mem_map.1 hx;obtain ⟨vn,e,hv⟩:=exc_vars hex9 HCO8.out HTI.out.2 hy
         omega) (by omega)
        have h2:l8.length=n8:=hex9.tms.len;rw [tmsOf_len] at h1;omega
       have HBASE:=Lib.hid hbase;have HRR9:=Lib.hid hrr90;have HGS:=Lib.hid hgs;obtain ⟨x0,x1,x2,x3⟩:=boxE hx10;clear hx10 hg10 k79 k59 hrr9 hx89 hex9 hgs hbase hrr90 aw9 zw9 HEX HB8 H7 HZ6 HGR
       go_wp2_with fail
       clear x0 x1 x2 x3
       go_loopw [52] (fun x wr=>∃ j:Nat,j≤n8∧x=.int .i64 j∧RRow wr gr (nv+m) (fun v=>coT ((tmsOf l8).take j) (v:Int)) K∧Fr (fun b=>b=gr) w9 wr) (fun x _=>n8 - (intOf x).toNat)
       case atStart=>exact ⟨0,Nat.zero_le _,by first | rfl | go_num,HRR9.out,Fr.refl _ _⟩
       case round =>
        obtain ⟨j,hjn,rfl,hrw,hfw⟩:=hrel
        obtain ⟨w10,rfl⟩:∃ x,x=wr:=⟨_,rfl⟩
        clear HRR9;obtain ⟨q5,q8,q10,qex⟩:=HBASE.out w10 hfw
        by_cases hlt2:j<n8
        · obtain ⟨gx,ox,u,ea,hui,y0,y1,y2,y3⟩:=qex.tms.rd.at4 qex.tms.len hlt2
          dsimp only at ea
          subst ea;have hul:=List.mem_of_getElem? hui;obtain ⟨vn,hvn,hvl⟩:=exc_vars qex HCO8.out HTI.out.2 hul;have hu:=qex.tms.each u hul;have hp:=qex.can.inc;rw [hvn] at y0
          have d0:(0:Int)≤(j:Int):=by omega
          have d1:(j:Int)<(n8:Int):=by omega
          have d2:(0:Int)≤(vn:Int):=by omega
          have d3:(vn:Int)<(nv:Int)+(m:Int):=by omega
          have HU:=Lib.hid (And.intro hu (And.intro hvn (And.intro hp hui)));have HRW:=Lib.hid hrw;have HFW:=Lib.hid hfw;clear hu hvn hp hui hrw hfw q5 q8 q10 qex hul
          go_upto_region 15 with fail
          have hx12:=heap_alloc_new w10 (.cells #[.int .i64 (vn:Int),.bool (ratNeg u.2.2),.slice u.1.A u.1.n u.1.c,.slice u.1.A2 u.1.n2 u.1.c2] 44)
          have zw11:(w10.alloc (.cells #[.int .i64 (vn:Int),.bool (ratNeg u.2.2),.slice u.1.A u.1.n u.1.c,.slice u.1.A2 u.1.n2 u.1.c2] 44)).heap.size=w10.heap.size+1:=by simp
          have aw11:=(Below.refl w10.heap.size w10).alloc (Nat.le_refl _) (.cells #[.int .i64 (vn:Int),.bool (ratNeg u.2.2),.slice u.1.A u.1.n u.1.c,.slice u.1.A2 u.1.n2 u.1.c2] 44)
          obtain ⟨w11,ew11⟩:∃ x0,x0=w10.alloc (.cells #[.int .i64 (vn:Int),.bool (ratNeg u.2.2),.slice u.1.A u.1.n u.1.c,.slice u.1.A2 u.1.n2 u.1.c2] 44):=⟨_,rfl⟩
          rw [←ew11] at hx12 zw11 aw11 ⊢;clear ew11;obtain ⟨p0,p1,p2,p3⟩:=boxE hx12;have hrr11:=HRW.out.below aw11;obtain ⟨rz,v0,v1,v2',_,_⟩:=hrr11.at_ vn (by omega)
          have z0:=fun i=>(hrr11.wr (by omega)).fz i
          have HR11:=Lib.hid hrr11;have HA11:=Lib.hid aw11;clear hx12 aw11 zw11 hrr11 y0 y1 y2 y3
          go_wp2_with fail
          go_roundw
          case rel =>
           refine ⟨j+1,by omega,by go_num,?_,(HFW.out.trans (Fr.of_below (S:=fun b=>b=gr) HA11.out) (fun b hb=>.inl hb)).trans (pu3_fr w11 gr (vn*3) u.1 u.2.2) (fun b hb=>.inl hb)⟩
           refine (HR11.out.put (by omega:vn<nv+m) (HU.out.1.1.below HA11.out) HU.out.1.2.1).congr fun v hv=>?_
           exact co_put HU.out.2.2.1 (t:=u.2) (by unfold tmsOf;rw [List.getElem?_map,HU.out.2.2.2];rfl) HU.out.2.1 v
          case measure=>simp [intOf];omega
        · obtain rfl:n8=j:=by omega
          have hlt3:¬ ((n8:Int)<(n8:Int)):=by omega
          have hrF:RRow w10 gr (nv+m) (startF nv l i) K:=hrw.congr fun v hv=>by
           have e1:n8=(tmsOf l8).length:=by rw [tmsOf_len];exact qex.tms.len.symm
           rw [e1,List.take_length,HCO8.out];unfold startF;rw [pb_co HTI.out.1]
           split
           · rfl
           · refine (coT_none fun x hx=>?_)
             unfold tmsOf at hx;obtain ⟨y,hy,rfl⟩:=List.mem_map.1 hx;have:=HTI.out.2 y hy;omega
          have hbld:=HB.out.1.below q5;have hkb:=HB.out.2.trans (q5.mono HB.out.2.size)
          have hng:=fun W (hW:Below w10.heap.size w10 W)=>neg_any t.b t.q W (qex.cst.below hW)
          have hdo:=fun W (hr:RatAt W t.b (-t.q))=>dof_any t.b (-t.q) W hr
          unfold RB.val at hng hdo;unfold DB.val at hdo
          dsimp only at hng hdo
          obtain ⟨x0,x1,x2,x3⟩:=boxE q10;have hqe:t.q=(t.q:Rat):=rfl;have HNG:=Lib.hid hng;have HDO:=Lib.hid hdo;have H10:=Lib.hid (And.intro hbld (And.intro hkb (And.intro q8 hrF)));have HQL:=Lib.hid qex.le;have H10Z:=Lib.hid q5.size;clear hrw hfw hrF hbld hkb hng hdo q5 q8 q10 qex hqe hin hjn hlt2 HBASE
          go_upto_region 18 with (first | (go_at_call 40;refine (HNG.out _ (Below.refl _ _)).mono ?_;clear HNG;rintro e w11 ⟨rfl,hr11,hb11⟩;have HR11:=Lib.hid hr11;have HB11:=Lib.hid hb11;clear hr11 hb11) | (go_at_call 39;refine (HDO.out _ HR11.out).mono ?_;clear HDO;rintro e w12 ⟨rfl,hd12,hb12⟩;have HD12:=Lib.hid hd12;have HB12:=Lib.hid hb12;clear hd12 hb12))
          have hx13:=heap_alloc_new w12 (.cells #[.bool (ratNeg (-t.q)),.slice t.b.A t.b.n t.b.c,.slice t.b.A2 t.b.n2 t.b.c2,.bool (ratNeg 0),.slice none 0 0,.slice none 0 0] 108)
          have zw13:(w12.alloc (.cells #[.bool (ratNeg (-t.q)),.slice t.b.A t.b.n t.b.c,.slice t.b.A2 t.b.n2 t.b.c2,.bool (ratNeg 0),.slice none 0 0,.slice none 0 0] 108)).heap.size=w12.heap.size+1:=by simp
          have aw13:=(Below.refl w12.heap.size w12).alloc (Nat.le_refl _) (.cells #[.bool (ratNeg (-t.q)),.slice t.b.A t.b.n t.b.c,.slice t.b.A2 t.b.n2 t.b.c2,.bool (ratNeg 0),.slice none 0 0,.slice none 0 0] 108)
          obtain ⟨w13,ew13⟩:∃ x0,x0=w12.alloc (.cells #[.bool (ratNeg (-t.q)),.slice t.b.A t.b.n t.b.c,.slice t.b.A2 t.b.n2 t.b.c2,.bool (ratNeg 0),.slice none 0 0,.slice none 0 0] 108):=⟨_,rfl⟩
          rw [←ew13] at hx13 zw13 aw13 ⊢;clear ew13
          obtain ⟨g13,hg13⟩:∃ x0,x0=w12.heap.size:=⟨_,rfl⟩
          rw [←hg13] at hx13 ⊢;have k012:=HB11.out.trans (HB12.out.mono HB11.out.size);have k013:=k012.trans (aw13.mono k012.size);obtain ⟨x0,x1,x2,x3,x4⟩:=box5c (box_keep H10.out.2.2.1 k013)
          obtain ⟨hh,hhe⟩:∃ x,x=hiA t:=⟨_,rfl⟩
          have HHE:=Lib.hid hhe;have HX13:=Lib.hid hx13;have HA13:=Lib.hid (And.intro aw13 (And.intro zw13 hg13));have HD13:=Lib.hid (HD12.out.below aw13);have K013:=Lib.hid (And.intro k012 k013)
          have him:=fun W=>int_m1 W
          unfold RB.val at him;have HIM:=Lib.hid him;have HG8X:=Lib.hid (box_keep H10.out.2.2.1 k013);clear hx13 aw13 zw13 hg13 k012 k013 x0 x1 x2 x3 hhe him HD12 HR11
          go_upto_if 69 with fail
          go_cut [13] (fun x wx=>x=.pointer (some ⟨g13,0,none⟩)∧∃ d:DB,wx.heap[g13]?=some (.cells #[.bool (ratNeg hh.a),.slice d.a.A d.a.n d.a.c,.slice d.a.A2 d.a.n2 d.a.c2,.bool (ratNeg hh.b),.slice d.b.A d.b.n d.b.c,.slice d.b.A2 d.b.n2 d.b.c2] 108 (0,0))∧DAt wx d hh∧Below w12.heap.size w12 wx)
          case first =>
           as_aux_lemma =>
            by_cases h2:t.op=2
            · have h2':(t.op == 2)=true:=by simpa using h2
              have e1:hh=⟨-t.q, -1⟩:=by rw [HHE.out];unfold hiA;rw [if_pos h2]
              have HE1:=Lib.hid e1;have z3:=frozen_of_blk HX13.out 3;clear h2 e1
              go_wp2_with (go_at_call 7;refine (HIM.out _).mono ?_;rintro e w14 ⟨b9,rfl,hr9,hb14⟩;have HX14:=Lib.hid (box_keep HX13.out hb14);have HR9:=Lib.hid hr9;have HB14:=Lib.hid hb14;obtain ⟨p0,p1,p2,p3,p4,p5⟩:=box6 HX14.out;have z0:=frozen_of_blk HX14.out 3;have z1:=frozen_of_blk HX14.out 4;have z2:=frozen_of_blk HX14.out 5;clear hr9 hb14)
              go_meet
              have hsz:w12.heap.size≤g13:=by rw [HA13.out.2.2];exact Nat.le_refl _
              have k14:=HA13.out.1.trans (HB14.out.mono HA13.out.1.size);rw [HE1.out];refine ⟨rfl,⟨t.b,b9⟩,set_blk (set_blk (set_blk HX14.out 3 (.bool (ratNeg (-1)))) 4 (.slice b9.A b9.n b9.c)) 5 (.slice b9.A2 b9.n2 b9.c2),?_,bl_set (bl_set (bl_set k14 hsz) hsz) hsz⟩;have hty:=typU_of HX14.out (by decide);have hfr:Fr (fun b=>b=g13) w14 (((w14.setCell ⟨g13,3,none⟩ (.bool (ratNeg (-1)))).setCell ⟨g13,4,none⟩ (.slice b9.A b9.n b9.c)).setCell ⟨g13,5,none⟩ (.slice b9.A2 b9.n2 b9.c2)):=fr_set (fr_set (fr_set (Fr.refl _ _) (.inl rfl)) (.inl rfl)) (.inl rfl);exact ⟨(HD13.out.a.below HB14.out).frT hfr hty,HR9.out.frT hfr hty⟩
            · have h2':(t.op == 2)=false:=by simpa using h2
              have e1:hh=⟨-t.q,0⟩:=by rw [HHE.out];unfold hiA;rw [if_neg h2]
              have HE1:=Lib.hid e1;clear h2 e1
              go_wp2_with fail
              go_meet;rw [HE1.out];exact ⟨rfl,⟨t.b,⟨none,0,0,none,0,0⟩⟩,HX13.out,HD13.out,HA13.out.1⟩
          case rest =>
          obtain ⟨rfl,d,hx13,hd13,hb13⟩:=hcut
          obtain ⟨w15,rfl⟩:∃ x0,x0=wc:=⟨_,rfl⟩
          have k1015:=K013.out.1.trans (hb13.mono K013.out.1.size)
          have hH:(pbOf nv l).hi i=hh:=by rw [pb_hi HTI.out.1,HHE.out]
          have hdl:DLe hh K:=by
           rw [HHE.out];unfold hiA;refine ⟨neg_le HQL.out,?_⟩
           show RatLe (if t.op=2 then -1 else 0) K
           split
           · exact m1_le K hK1
           · exact zero_le K hK1
          have hgr0:w.heap.size≤gr:=Nat.le_trans HB.out.2.size HGS.out.2.2.1
          have hgrn:∀ j,j<i→rb j≠gr:=fun j hj e=>by
           have h1:=((HB.out.1.rws j hj).wr HB.out.1.n0).lt;have h2:=HGS.out.2.2.1;omega
          have hn13:¬ ownS v6 g13:=fun hs=>by
           have h1:=(own_lt HB.out.1.o6 hs).2;have h2:=H10Z.out;have h3:=K013.out.1.size;have h4:=HA13.out.2.2;omega
          have kdr:Below w15.heap.size w15 w15.drew:=below_drew2 (Below.refl _ _);have k10:=k1015.trans (kdr.mono k1015.size);have hB:=H10.out.1.below k10;have hk:=H10.out.2.1.trans (k10.mono H10.out.2.1.size);have hrr:=H10.out.2.2.2.below k10;have hx16:=box_keep hx13 kdr;have hd16:=hd13.below kdr;have HGB:=Lib.hid (And.intro hgr0 hgrn);have HH:=Lib.hid (And.intro hH hdl);have HIM:=Lib.hid (And.intro (show (i+1)*24≤140737488355328 by omega) (show (i+1)*112≤140737488355328 by omega));have HOL:=Lib.hid (And.intro hB (And.intro hk (And.intro hrr (And.intro hx16 (And.intro hd16 hn13)))));clear hB hk hrr hx16 hd16 hn13 hH hdl hgr0 hgrn k1015 kdr k10 hx13 hd13 hb13 HX13 HD13 HA13 H10 HB K013 HG8X HOK HCT HTI HGS
          go_upto_region 20 with fail
          go_cut [6] (fun x wx=>x=.pointer (some ⟨gt,0,none⟩)∧∃ (v4' v6':Value) (rb':Nat→Nat) (db':Nat→DB),Bld wx w.heap.size gt nv m (some ⟨g9,of9,none⟩) c gv v2 v3 v4' v6' v2 v3 v4' v6' i (nv+i) (i+1) (i+1) rb' db' (startF nv l) (pbOf nv l).hi K∧Below w.heap.size w wx)
          case first =>
           obtain ⟨hB,hk,hrr,hx13,hd13,hn13⟩:=HOL.out;refine wp_region_F 21 18 (fun b W'=>(b=true∨W'.cell? ⟨gt,4,none⟩=some v4)∧W'.cell? ⟨gt,6,none⟩=some v6∧W'.cell? ⟨g13,0,none⟩=some (.bool (ratNeg hh.a))∧W'.cell? ⟨g13,1,none⟩=some (.slice d.a.A d.a.n d.a.c)∧W'.cell? ⟨g13,2,none⟩=some (.slice d.a.A2 d.a.n2 d.a.c2)∧W'.cell? ⟨g13,3,none⟩=some (.bool (ratNeg hh.b))∧W'.cell? ⟨g13,4,none⟩=some (.slice d.b.A d.b.n d.b.c)∧W'.cell? ⟨g13,5,none⟩=some (.slice d.b.A2 d.b.n2 d.b.c2)) (by kernel_rfl) ?_;generalize w15.drew=w16 at hB hk hrr hx13 hd13 ⊢;clear HOL
           have hS:(false=true∨w16.cell? ⟨gt,4,none⟩=some v4)∧w16.cell? ⟨gt,6,none⟩=some v6∧w16.cell? ⟨g13,0,none⟩=some (.bool (ratNeg hh.a))∧w16.cell? ⟨g13,1,none⟩=some (.slice d.a.A d.a.n d.a.c)∧w16.cell? ⟨g13,2,none⟩=some (.slice d.a.A2 d.a.n2 d.a.c2)∧w16.cell? ⟨g13,3,none⟩=some (.bool (ratNeg hh.b))∧w16.cell? ⟨g13,4,none⟩=some (.slice d.b.A d.b.n d.b.c)∧w16.cell? ⟨g13,5,none⟩=some (.slice d.b.A2 d.b.n2 d.b.c2):=⟨.inr (cell_of_blk hB.tb 4),cell_of_blk hB.tb 6,box6 hx13⟩
           refine tkF 0 ?_ ?hy0 hS ?rest0
           case hy0=>(intro w hSw;obtain ⟨_,hSw⟩:=hSw;(try dsimp only at hSw);obtain ⟨s4,s6,s13⟩:=hSw;clear s4;go_simp<;>with_reducible rfl)
           case rest0 =>
           simp only [Act.put,sA,sZ,sS];refine tkF 1 ?_ ?hy1 hS ?rest1
           case hy1=>(intro w hSw;obtain ⟨_,hSw⟩:=hSw;(try dsimp only at hSw);obtain ⟨s4,s6,s13⟩:=hSw;clear s4;go_simp<;>with_reducible rfl)
           case rest1 =>
           simp only [Act.put,sA,sZ,sS];refine tkF 2 ?_ ?hy2 hS ?rest2
           case hy2=>(intro w hSw;obtain ⟨_,hSw⟩:=hSw;(try dsimp only at hSw);obtain ⟨s4,s6,s13⟩:=hSw;clear s4;go_simp<;>with_reducible rfl)
           case rest2 =>
           simp only [Act.put,sA,sZ,sS];refine tkF 3 ?_ ?hy3 hS ?rest3
           case hy3=>(intro w hSw;obtain ⟨_,hSw⟩:=hSw;(try dsimp only at hSw);obtain ⟨s4,s6,s13⟩:=hSw;clear s4;go_simp<;>with_reducible rfl)
           case rest3 =>
           simp only [Act.put,sA,sZ,sS];refine tkF 4 ?_ ?hy4 hS ?rest4
           case hy4=>(intro w hSw;obtain ⟨_,hSw⟩:=hSw;(try dsimp only at hSw);obtain ⟨s4,s6,s13⟩:=hSw;clear s4;go_simp<;>with_reducible rfl)
           case rest4 =>
           simp only [Act.put,sA,sZ,sS];refine wpAnyF_load (i:=5) (v:=?_) (by kernel_rfl) (by simp only [List.getElem?_toArray,List.getElem?_cons_succ,List.getElem?_cons_zero]<;>rfl) (by kernel_rfl) (by kernel_rfl) (by kernel_rfl) (by exact fun _ _ _ h=>h) (by rfl) (by kernel_rfl) (by rfl) ?hy5 (by decide) hS ?rest5
           case hy5=>(intro w hSw;(try dsimp only at hSw);obtain ⟨s4,s6,s13⟩:=hSw;replace s4:=s4.resolve_left (by decide);go_simp<;>with_reducible rfl)
           case rest5 =>
           simp only [Act.put,sA,sZ,sS];refine tkF 6 ?_ ?hy6 hS ?rest6
           case hy6=>(intro w hSw;obtain ⟨_,hSw⟩:=hSw;(try dsimp only at hSw);obtain ⟨s4,s6,s13⟩:=hSw;clear s4;go_simp<;>with_reducible rfl)
           case rest6 =>
           simp only [Act.put,sA,sZ,sS];refine tkF 9 ?_ ?hy9 hS ?rest9
           case hy9=>(intro w hSw;obtain ⟨_,hSw⟩:=hSw;(try dsimp only at hSw);obtain ⟨s4,s6,s13⟩:=hSw;clear s4;go_simp<;>with_reducible rfl)
           case rest9 =>
           simp only [Act.put,sA,sZ,sS];refine tkF 10 ?_ ?hy10 hS ?rest10
           case hy10=>(intro w hSw;obtain ⟨_,hSw⟩:=hSw;(try dsimp only at hSw);obtain ⟨s4,s6,s13⟩:=hSw;clear s4;go_simp<;>with_reducible rfl)
           case rest10 =>
           simp only [Act.put,sA,sZ,sS];refine tkF 11 ?_ ?hy11 hS ?rest11
           case hy11=>(intro w hSw;obtain ⟨_,hSw⟩:=hSw;(try dsimp only at hSw);obtain ⟨s4,s6,s13⟩:=hSw;clear s4;go_simp<;>with_reducible rfl)
           case rest11 =>
           simp only [Act.put,sA,sZ,sS];refine tkF 12 ?_ ?hy12 hS ?rest12
           case hy12=>(intro w hSw;obtain ⟨_,hSw⟩:=hSw;(try dsimp only at hSw);obtain ⟨s4,s6,s13⟩:=hSw;clear s4;go_simp<;>with_reducible rfl)
           case rest12 =>
           simp only [Act.put,sA,sZ,sS];refine tkF 13 ?_ ?hy13 hS ?rest13
           case hy13=>(intro w hSw;obtain ⟨_,hSw⟩:=hSw;(try dsimp only at hSw);obtain ⟨s4,s6,s13⟩:=hSw;clear s4;go_simp<;>with_reducible rfl)
           case rest13 =>
           simp only [Act.put,sA,sZ,sS];refine wpAnyF_two (i:=7) (j:=14) (by kernel_rfl) rfl rfl (by rfl) (by rfl) (fun KK hKK=>?_) (fun KK hKK=>?_)
           · skip
             have HKK7:=Lib.hid hKK;clear hKK;clear hS;go_simp;have hal:=(Below.refl w16.heap.size w16).alloc (Nat.le_refl _) (.cells #[.slice (some ⟨gr,0,none⟩) (nv+m) (nv+m)] 30);have hy1:=heap_alloc_new w16 (.cells #[.slice (some ⟨gr,0,none⟩) (nv+m) (nv+m)] 30)
             obtain ⟨gy1,hg⟩:∃ x0,x0=w16.heap.size:=⟨_,rfl⟩
             obtain ⟨u1,hu⟩:∃ x0,x0=w16.alloc (.cells #[.slice (some ⟨gr,0,none⟩) (nv+m) (nv+m)] 30):=⟨_,rfl⟩
             rw [←hg] at hy1 ⊢;rw [←hu] at hy1 hal ⊢;clear hg hu;replace hB:=hB.below hal;replace hk:=hk.trans (hal.mono hk.size);replace hrr:=hrr.below hal;replace hx13:=box_keep hx13 hal;replace hd13:=hd13.below hal;clear hal
             have hS:(false=true∨u1.cell? ⟨gt,4,none⟩=some v4)∧u1.cell? ⟨gt,6,none⟩=some v6∧u1.cell? ⟨g13,0,none⟩=some (.bool (ratNeg hh.a))∧u1.cell? ⟨g13,1,none⟩=some (.slice d.a.A d.a.n d.a.c)∧u1.cell? ⟨g13,2,none⟩=some (.slice d.a.A2 d.a.n2 d.a.c2)∧u1.cell? ⟨g13,3,none⟩=some (.bool (ratNeg hh.b))∧u1.cell? ⟨g13,4,none⟩=some (.slice d.b.A d.b.n d.b.c)∧u1.cell? ⟨g13,5,none⟩=some (.slice d.b.A2 d.b.n2 d.b.c2):=⟨.inr (cell_of_blk hB.tb 4),cell_of_blk hB.tb 6,box6 hx13⟩
             refine HKK7.out _ _ (.inr hS) ?_;clear HKK7
             try simp only [Act.put,sA,sZ,sS]
             refine wpAnyF_two (i:=8) (j:=14) (by kernel_rfl) rfl rfl (by rfl) (by rfl) (fun KK hKK=>?_) (fun KK hKK=>?_)
             · skip
               have HKK8:=Lib.hid hKK;clear hKK;clear hS;refine stepRn w.heap.size u1 1 30 rfl _ _ 104 rfl r0 _ 24 Tryz.underlying104 hr' hr0 hr1 hr2 rfl (by decide) (by decide) v4 i (rowsL rb (nv+m) i) rfl hk.size hB.o4 _ 1 1 [.slice (some ⟨gr,0,none⟩) (nv+m) (nv+m)] rfl (rd_of_blk hy1 rfl) (one_one _ rfl) HIM.out.1 ?_;intro va wa hoa hfa hka;obtain ⟨Aa,ca,ea,_,_⟩:=ownsRow_form hoa;subst ea;have hT:=ty_own hB.o4 (by decide) (by decide);have hBn:=hB.app4 hoa hfa hrr HGB.out.1 HGB.out.2;replace hx13:=(hfa.block g13 (lt_of_blk hx13) (own_type hB.o4 hx13 (by decide))).trans hx13;replace hd13:=hd13.frT hfa hT.noU;replace hk:=hk.trans (hfa.below hk.size (fun b hb=>(own_lt hB.o4 hb).1));replace hB:=hBn;clear hBn hT hoa hfa hka hy1 hrr
               have hS:(false=true∨wa.cell? ⟨gt,4,none⟩=some v4)∧wa.cell? ⟨gt,6,none⟩=some v6∧wa.cell? ⟨g13,0,none⟩=some (.bool (ratNeg hh.a))∧wa.cell? ⟨g13,1,none⟩=some (.slice d.a.A d.a.n d.a.c)∧wa.cell? ⟨g13,2,none⟩=some (.slice d.a.A2 d.a.n2 d.a.c2)∧wa.cell? ⟨g13,3,none⟩=some (.bool (ratNeg hh.b))∧wa.cell? ⟨g13,4,none⟩=some (.slice d.b.A d.b.n d.b.c)∧wa.cell? ⟨g13,5,none⟩=some (.slice d.b.A2 d.b.n2 d.b.c2):=⟨.inr (cell_of_blk hB.tb 4),cell_of_blk hB.tb 6,box6 hx13⟩
               refine HKK8.out _ _ (.inr hS) ?_;clear HKK8
               try simp only [Act.put,sA,sZ,sS]
               refine wpAnyF_one (i:=14) (b:=false) (by kernel_rfl) rfl (by rfl) (fun KK hKK=>?_);have HKK14:=Lib.hid hKK;clear hKK;clear hS;go_simp;have hal:=(Below.refl wa.heap.size wa).alloc (Nat.le_refl _) (.cells #[.bool (ratNeg hh.a),.slice d.a.A d.a.n d.a.c,.slice d.a.A2 d.a.n2 d.a.c2,.bool (ratNeg hh.b),.slice d.b.A d.b.n d.b.c,.slice d.b.A2 d.b.n2 d.b.c2] 108);have hy2:=heap_alloc_new wa (.cells #[.bool (ratNeg hh.a),.slice d.a.A d.a.n d.a.c,.slice d.a.A2 d.a.n2 d.a.c2,.bool (ratNeg hh.b),.slice d.b.A d.b.n d.b.c,.slice d.b.A2 d.b.n2 d.b.c2] 108)
               obtain ⟨gy2,hg⟩:∃ x0,x0=wa.heap.size:=⟨_,rfl⟩
               obtain ⟨u2,hu⟩:∃ x0,x0=wa.alloc (.cells #[.bool (ratNeg hh.a),.slice d.a.A d.a.n d.a.c,.slice d.a.A2 d.a.n2 d.a.c2,.bool (ratNeg hh.b),.slice d.b.A d.b.n d.b.c,.slice d.b.A2 d.b.n2 d.b.c2] 108):=⟨_,rfl⟩
               rw [←hg] at hy2 ⊢;rw [←hu] at hy2 hal ⊢;clear hg hu;replace hB:=hB.below hal;replace hk:=hk.trans (hal.mono hk.size);replace hx13:=box_keep hx13 hal;replace hd13:=hd13.below hal;clear hal
               have hS:(false=true∨u2.cell? ⟨gt,4,none⟩=some v4)∧u2.cell? ⟨gt,6,none⟩=some v6∧u2.cell? ⟨g13,0,none⟩=some (.bool (ratNeg hh.a))∧u2.cell? ⟨g13,1,none⟩=some (.slice d.a.A d.a.n d.a.c)∧u2.cell? ⟨g13,2,none⟩=some (.slice d.a.A2 d.a.n2 d.a.c2)∧u2.cell? ⟨g13,3,none⟩=some (.bool (ratNeg hh.b))∧u2.cell? ⟨g13,4,none⟩=some (.slice d.b.A d.b.n d.b.c)∧u2.cell? ⟨g13,5,none⟩=some (.slice d.b.A2 d.b.n2 d.b.c2):=⟨.inr (cell_of_blk hB.tb 4),cell_of_blk hB.tb 6,box6 hx13⟩
               refine HKK14.out _ _ (.inr hS) ?_;clear HKK14
               try simp only [Act.put,sA,sZ,sS]
               refine wpAnyF_one (i:=15) (b:=false) (by kernel_rfl) rfl (by rfl) (fun KK hKK=>?_);have HKK15:=Lib.hid hKK;clear hKK;clear hS;refine stepRn w.heap.size u2 6 108 rfl _ _ 103 rfl i0 _ 112 Tryz.underlying103 hi hz0 hz1 hz2 rfl (by decide) (by decide) v6 i (dsL db (pbOf nv l).hi i) rfl hk.size hB.o6 _ 1 1 [.bool (ratNeg hh.a),.slice d.a.A d.a.n d.a.c,.slice d.a.A2 d.a.n2 d.a.c2,.bool (ratNeg hh.b),.slice d.b.A d.b.n d.b.c,.slice d.b.A2 d.b.n2 d.b.c2] rfl (rd_of_blk hy2 rfl) (six_one _ _ _ _ _ _ _ _ _ _ _ _ _ _) HIM.out.2 ?_;intro vb wb hob hfb hkb;obtain ⟨Ab,cb,eb,_,_⟩:=ownsRow_form hob;subst eb;have hT:=ty_own hB.o6 (by decide) (by decide);have hBn:=hB.app6 (by rw [HH.out.1];exact hob) hfb hkb (by rw [HH.out.1];exact hd13) (by rw [HH.out.1];exact HH.out.2);replace hx13:=(hfb.block g13 (lt_of_blk hx13) hn13).trans hx13;replace hk:=hk.trans (hfb.below hk.size (fun b hb=>(own_lt hB.o6 hb).1));replace hB:=hBn;clear hBn hT hob hfb hkb hy2
               have hS:(false=true∨wb.cell? ⟨gt,4,none⟩=some v4)∧wb.cell? ⟨gt,6,none⟩=some v6∧wb.cell? ⟨g13,0,none⟩=some (.bool (ratNeg hh.a))∧wb.cell? ⟨g13,1,none⟩=some (.slice d.a.A d.a.n d.a.c)∧wb.cell? ⟨g13,2,none⟩=some (.slice d.a.A2 d.a.n2 d.a.c2)∧wb.cell? ⟨g13,3,none⟩=some (.bool (ratNeg hh.b))∧wb.cell? ⟨g13,4,none⟩=some (.slice d.b.A d.b.n d.b.c)∧wb.cell? ⟨g13,5,none⟩=some (.slice d.b.A2 d.b.n2 d.b.c2):=⟨.inr (cell_of_blk hB.tb 4),cell_of_blk hB.tb 6,box6 hx13⟩
               refine HKK15.out _ _ (.inr hS) ?_;clear HKK15
               try simp only [Act.put,sA,sZ,sS]
               refine tkF 16 ?_ ?hy16 hS ?rest16
               case hy16=>(intro w hSw;obtain ⟨_,hSw⟩:=hSw;(try dsimp only at hSw);obtain ⟨s4,s6,s13⟩:=hSw;clear s4;go_simp<;>with_reducible rfl)
               case rest16 =>
               simp only [Act.put,sA,sZ,sS];refine tkF 17 ?_ ?hy17 hS ?rest17
               case hy17=>(intro w hSw;obtain ⟨_,hSw⟩:=hSw;(try dsimp only at hSw);obtain ⟨s4,s6,s13⟩:=hSw;clear s4;go_simp<;>with_reducible rfl)
               case rest17 =>
               simp only [Act.put,sA,sZ,sS];have hc:=cell_of_blk hB.tb 4;have hz:=frozen_of_blk hB.tb 4;clear hS;refine wpAnyF_one (i:=18) (b:=true) (by kernel_rfl) rfl (by rfl) (fun KK hKK=>?_);have HKK18:=Lib.hid hKK;clear hKK;go_simp;replace hx13:=(set_far (p:=⟨gt,4,none⟩) (g:=g13) (fun e=>(show Wrt _ gt 106 from ⟨_,hB.tb⟩).ne ⟨_,hx13⟩ (by decide) e.symm) (.slice Aa (i+1) ca)).trans hx13;replace hk:=bl_set (p:=⟨gt,4,none⟩) (u:=.slice Aa (i+1) ca) hk hB.lg;replace hB:=hB.set 4 (.slice Aa (i+1) ca) rfl
               obtain ⟨wc1,hwc⟩:∃ x0,x0=wb.setCell ⟨gt,4,none⟩ (.slice Aa (i+1) ca):=⟨_,rfl⟩
               rw [←hwc] at hB hk hx13 ⊢;clear hwc hc hz
               have hS:(true=true∨wc1.cell? ⟨gt,4,none⟩=some v4)∧wc1.cell? ⟨gt,6,none⟩=some v6∧wc1.cell? ⟨g13,0,none⟩=some (.bool (ratNeg hh.a))∧wc1.cell? ⟨g13,1,none⟩=some (.slice d.a.A d.a.n d.a.c)∧wc1.cell? ⟨g13,2,none⟩=some (.slice d.a.A2 d.a.n2 d.a.c2)∧wc1.cell? ⟨g13,3,none⟩=some (.bool (ratNeg hh.b))∧wc1.cell? ⟨g13,4,none⟩=some (.slice d.b.A d.b.n d.b.c)∧wc1.cell? ⟨g13,5,none⟩=some (.slice d.b.A2 d.b.n2 d.b.c2):=⟨.inl rfl,cell_of_blk hB.tb 6,box6 hx13⟩
               refine HKK18.out _ _ (.inr hS) ?_;clear HKK18
               try simp only [Act.put,sA,sZ,sS]
               refine wpAnyF_one (i:=19) (b:=true) (by kernel_rfl) rfl (by rfl) (fun KK hKK=>?_);have HKK19:=Lib.hid hKK;clear hKK;go_simp;refine HKK19.out _ _ (.inr hS) ?_;clear HKK19
               try simp only [Act.put,sA,sZ,sS]
               refine wpAnyF_one (i:=20) (b:=true) (by kernel_rfl) rfl (by rfl) (fun KK hKK=>?_);have HKK20:=Lib.hid hKK;clear hKK;go_simp;refine HKK20.out _ _ (.inr hS) ?_;clear HKK20
               try simp only [Act.put,sA,sZ,sS]
               have hc:=cell_of_blk hB.tb 6;have hz:=frozen_of_blk hB.tb 6;clear hS;refine wpAnyF_one (i:=21) (b:=true) (by kernel_rfl) rfl (by rfl) (fun KK hKK=>?_);have HKK21:=Lib.hid hKK;clear hKK;go_simp;refine HKK21.out _ _ (.inl rfl) ?_;clear HKK21 hc hz;refine wpAnyF_done (by kernel_rfl) ?_ _;have HFB:=Lib.hid hB;have HFK:=Lib.hid hk;clear hB hk hx13 hd13
               go_wp2_with fail
               go_meet;exact ⟨rfl,_,_,_,_,HFB.out.set 6 (.slice Ab (i+1) cb) rfl,bl_set HFK.out HFB.out.lg⟩
             · skip
               have HKK14:=Lib.hid hKK;clear hKK;clear hS;go_simp;have hal:=(Below.refl u1.heap.size u1).alloc (Nat.le_refl _) (.cells #[.bool (ratNeg hh.a),.slice d.a.A d.a.n d.a.c,.slice d.a.A2 d.a.n2 d.a.c2,.bool (ratNeg hh.b),.slice d.b.A d.b.n d.b.c,.slice d.b.A2 d.b.n2 d.b.c2] 108);have hy2:=heap_alloc_new u1 (.cells #[.bool (ratNeg hh.a),.slice d.a.A d.a.n d.a.c,.slice d.a.A2 d.a.n2 d.a.c2,.bool (ratNeg hh.b),.slice d.b.A d.b.n d.b.c,.slice d.b.A2 d.b.n2 d.b.c2] 108)
               obtain ⟨gy2,hg⟩:∃ x0,x0=u1.heap.size:=⟨_,rfl⟩
               obtain ⟨u2,hu⟩:∃ x0,x0=u1.alloc (.cells #[.bool (ratNeg hh.a),.slice d.a.A d.a.n d.a.c,.slice d.a.A2 d.a.n2 d.a.c2,.bool (ratNeg hh.b),.slice d.b.A d.b.n d.b.c,.slice d.b.A2 d.b.n2 d.b.c2] 108):=⟨_,rfl⟩
               rw [←hg] at hy2 ⊢;rw [←hu] at hy2 hal ⊢;clear hg hu;replace hB:=hB.below hal;replace hk:=hk.trans (hal.mono hk.size);replace hrr:=hrr.below hal;replace hx13:=box_keep hx13 hal;replace hd13:=hd13.below hal;replace hy1:=box_keep hy1 hal;clear hal
               have hS:(false=true∨u2.cell? ⟨gt,4,none⟩=some v4)∧u2.cell? ⟨gt,6,none⟩=some v6∧u2.cell? ⟨g13,0,none⟩=some (.bool (ratNeg hh.a))∧u2.cell? ⟨g13,1,none⟩=some (.slice d.a.A d.a.n d.a.c)∧u2.cell? ⟨g13,2,none⟩=some (.slice d.a.A2 d.a.n2 d.a.c2)∧u2.cell? ⟨g13,3,none⟩=some (.bool (ratNeg hh.b))∧u2.cell? ⟨g13,4,none⟩=some (.slice d.b.A d.b.n d.b.c)∧u2.cell? ⟨g13,5,none⟩=some (.slice d.b.A2 d.b.n2 d.b.c2):=⟨.inr (cell_of_blk hB.tb 4),cell_of_blk hB.tb 6,box6 hx13⟩
               refine HKK14.out _ _ (.inr hS) ?_;clear HKK14
               try simp only [Act.put,sA,sZ,sS]
               refine wpAnyF_one (i:=8) (b:=false) (by kernel_rfl) rfl (by rfl) (fun KK hKK=>?_);have HKK8:=Lib.hid hKK;clear hKK;clear hS;refine stepRn w.heap.size u2 1 30 rfl _ _ 104 rfl r0 _ 24 Tryz.underlying104 hr' hr0 hr1 hr2 rfl (by decide) (by decide) v4 i (rowsL rb (nv+m) i) rfl hk.size hB.o4 _ 1 1 [.slice (some ⟨gr,0,none⟩) (nv+m) (nv+m)] rfl (rd_of_blk hy1 rfl) (one_one _ rfl) HIM.out.1 ?_;intro va wa hoa hfa hka;obtain ⟨Aa,ca,ea,_,_⟩:=ownsRow_form hoa;subst ea;have hT:=ty_own hB.o4 (by decide) (by decide);have hBn:=hB.app4 hoa hfa hrr HGB.out.1 HGB.out.2;replace hy2:=(hfa.block _ (lt_of_blk hy2) (own_type hB.o4 hy2 (by decide))).trans hy2;replace hx13:=(hfa.block g13 (lt_of_blk hx13) (own_type hB.o4 hx13 (by decide))).trans hx13;replace hd13:=hd13.frT hfa hT.noU;replace hk:=hk.trans (hfa.below hk.size (fun b hb=>(own_lt hB.o4 hb).1));replace hB:=hBn;clear hBn hT hoa hfa hka hy1 hrr
               have hS:(false=true∨wa.cell? ⟨gt,4,none⟩=some v4)∧wa.cell? ⟨gt,6,none⟩=some v6∧wa.cell? ⟨g13,0,none⟩=some (.bool (ratNeg hh.a))∧wa.cell? ⟨g13,1,none⟩=some (.slice d.a.A d.a.n d.a.c)∧wa.cell? ⟨g13,2,none⟩=some (.slice d.a.A2 d.a.n2 d.a.c2)∧wa.cell? ⟨g13,3,none⟩=some (.bool (ratNeg hh.b))∧wa.cell? ⟨g13,4,none⟩=some (.slice d.b.A d.b.n d.b.c)∧wa.cell? ⟨g13,5,none⟩=some (.slice d.b.A2 d.b.n2 d.b.c2):=⟨.inr (cell_of_blk hB.tb 4),cell_of_blk hB.tb 6,box6 hx13⟩
               refine HKK8.out _ _ (.inr hS) ?_;clear HKK8
               try simp only [Act.put,sA,sZ,sS]
               refine wpAnyF_one (i:=15) (b:=false) (by kernel_rfl) rfl (by rfl) (fun KK hKK=>?_);have HKK15:=Lib.hid hKK;clear hKK;clear hS;refine stepRn w.heap.size wa 6 108 rfl _ _ 103 rfl i0 _ 112 Tryz.underlying103 hi hz0 hz1 hz2 rfl (by decide) (by decide) v6 i (dsL db (pbOf nv l).hi i) rfl hk.size hB.o6 _ 1 1 [.bool (ratNeg hh.a),.slice d.a.A d.a.n d.a.c,.slice d.a.A2 d.a.n2 d.a.c2,.bool (ratNeg hh.b),.slice d.b.A d.b.n d.b.c,.slice d.b.A2 d.b.n2 d.b.c2] rfl (rd_of_blk hy2 rfl) (six_one _ _ _ _ _ _ _ _ _ _ _ _ _ _) HIM.out.2 ?_;intro vb wb hob hfb hkb;obtain ⟨Ab,cb,eb,_,_⟩:=ownsRow_form hob;subst eb;have hT:=ty_own hB.o6 (by decide) (by decide);have hBn:=hB.app6 (by rw [HH.out.1];exact hob) hfb hkb (by rw [HH.out.1];exact hd13) (by rw [HH.out.1];exact HH.out.2);replace hx13:=(hfb.block g13 (lt_of_blk hx13) hn13).trans hx13;replace hk:=hk.trans (hfb.below hk.size (fun b hb=>(own_lt hB.o6 hb).1));replace hB:=hBn;clear hBn hT hob hfb hkb hy2
               have hS:(false=true∨wb.cell? ⟨gt,4,none⟩=some v4)∧wb.cell? ⟨gt,6,none⟩=some v6∧wb.cell? ⟨g13,0,none⟩=some (.bool (ratNeg hh.a))∧wb.cell? ⟨g13,1,none⟩=some (.slice d.a.A d.a.n d.a.c)∧wb.cell? ⟨g13,2,none⟩=some (.slice d.a.A2 d.a.n2 d.a.c2)∧wb.cell? ⟨g13,3,none⟩=some (.bool (ratNeg hh.b))∧wb.cell? ⟨g13,4,none⟩=some (.slice d.b.A d.b.n d.b.c)∧wb.cell? ⟨g13,5,none⟩=some (.slice d.b.A2 d.b.n2 d.b.c2):=⟨.inr (cell_of_blk hB.tb 4),cell_of_blk hB.tb 6,box6 hx13⟩
               refine HKK15.out _ _ (.inr hS) ?_;clear HKK15
               try simp only [Act.put,sA,sZ,sS]
               refine tkF 16 ?_ ?hy16 hS ?rest16
               case hy16=>(intro w hSw;obtain ⟨_,hSw⟩:=hSw;(try dsimp only at hSw);obtain ⟨s4,s6,s13⟩:=hSw;clear s4;go_simp<;>with_reducible rfl)
               case rest16 =>
               simp only [Act.put,sA,sZ,sS];refine tkF 17 ?_ ?hy17 hS ?rest17
               case hy17=>(intro w hSw;obtain ⟨_,hSw⟩:=hSw;(try dsimp only at hSw);obtain ⟨s4,s6,s13⟩:=hSw;clear s4;go_simp<;>with_reducible rfl)
               case rest17 =>
               simp only [Act.put,sA,sZ,sS];have hc:=cell_of_blk hB.tb 4;have hz:=frozen_of_blk hB.tb 4;clear hS;refine wpAnyF_one (i:=18) (b:=true) (by kernel_rfl) rfl (by rfl) (fun KK hKK=>?_);have HKK18:=Lib.hid hKK;clear hKK;go_simp;replace hx13:=(set_far (p:=⟨gt,4,none⟩) (g:=g13) (fun e=>(show Wrt _ gt 106 from ⟨_,hB.tb⟩).ne ⟨_,hx13⟩ (by decide) e.symm) (.slice Aa (i+1) ca)).trans hx13;replace hk:=bl_set (p:=⟨gt,4,none⟩) (u:=.slice Aa (i+1) ca) hk hB.lg;replace hB:=hB.set 4 (.slice Aa (i+1) ca) rfl
               obtain ⟨wc1,hwc⟩:∃ x0,x0=wb.setCell ⟨gt,4,none⟩ (.slice Aa (i+1) ca):=⟨_,rfl⟩
               rw [←hwc] at hB hk hx13 ⊢;clear hwc hc hz
               have hS:(true=true∨wc1.cell? ⟨gt,4,none⟩=some v4)∧wc1.cell? ⟨gt,6,none⟩=some v6∧wc1.cell? ⟨g13,0,none⟩=some (.bool (ratNeg hh.a))∧wc1.cell? ⟨g13,1,none⟩=some (.slice d.a.A d.a.n d.a.c)∧wc1.cell? ⟨g13,2,none⟩=some (.slice d.a.A2 d.a.n2 d.a.c2)∧wc1.cell? ⟨g13,3,none⟩=some (.bool (ratNeg hh.b))∧wc1.cell? ⟨g13,4,none⟩=some (.slice d.b.A d.b.n d.b.c)∧wc1.cell? ⟨g13,5,none⟩=some (.slice d.b.A2 d.b.n2 d.b.c2):=⟨.inl rfl,cell_of_blk hB.tb 6,box6 hx13⟩
               refine HKK18.out _ _ (.inr hS) ?_;clear HKK18
               try simp only [Act.put,sA,sZ,sS]
               refine wpAnyF_one (i:=19) (b:=true) (by kernel_rfl) rfl (by rfl) (fun KK hKK=>?_);have HKK19:=Lib.hid hKK;clear hKK;go_simp;refine HKK19.out _ _ (.inr hS) ?_;clear HKK19
               try simp only [Act.put,sA,sZ,sS]
               refine wpAnyF_one (i:=20) (b:=true) (by kernel_rfl) rfl (by rfl) (fun KK hKK=>?_);have HKK20:=Lib.hid hKK;clear hKK;go_simp;refine HKK20.out _ _ (.inr hS) ?_;clear HKK20
               try simp only [Act.put,sA,sZ,sS]
               have hc:=cell_of_blk hB.tb 6;have hz:=frozen_of_blk hB.tb 6;clear hS;refine wpAnyF_one (i:=21) (b:=true) (by kernel_rfl) rfl (by rfl) (fun KK hKK=>?_);have HKK21:=Lib.hid hKK;clear hKK;go_simp;refine HKK21.out _ _ (.inl rfl) ?_;clear HKK21 hc hz;refine wpAnyF_done (by kernel_rfl) ?_ _;have HFB:=Lib.hid hB;have HFK:=Lib.hid hk;clear hB hk hx13 hd13
               go_wp2_with fail
               go_meet;exact ⟨rfl,_,_,_,_,HFB.out.set 6 (.slice Ab (i+1) cb) rfl,bl_set HFK.out HFB.out.lg⟩
           · skip
             have HKK14:=Lib.hid hKK;clear hKK;clear hS;go_simp;have hal:=(Below.refl w16.heap.size w16).alloc (Nat.le_refl _) (.cells #[.bool (ratNeg hh.a),.slice d.a.A d.a.n d.a.c,.slice d.a.A2 d.a.n2 d.a.c2,.bool (ratNeg hh.b),.slice d.b.A d.b.n d.b.c,.slice d.b.A2 d.b.n2 d.b.c2] 108);have hy2:=heap_alloc_new w16 (.cells #[.bool (ratNeg hh.a),.slice d.a.A d.a.n d.a.c,.slice d.a.A2 d.a.n2 d.a.c2,.bool (ratNeg hh.b),.slice d.b.A d.b.n d.b.c,.slice d.b.A2 d.b.n2 d.b.c2] 108)
             obtain ⟨gy2,hg⟩:∃ x0,x0=w16.heap.size:=⟨_,rfl⟩
             obtain ⟨u2,hu⟩:∃ x0,x0=w16.alloc (.cells #[.bool (ratNeg hh.a),.slice d.a.A d.a.n d.a.c,.slice d.a.A2 d.a.n2 d.a.c2,.bool (ratNeg hh.b),.slice d.b.A d.b.n d.b.c,.slice d.b.A2 d.b.n2 d.b.c2] 108):=⟨_,rfl⟩
             rw [←hg] at hy2 ⊢;rw [←hu] at hy2 hal ⊢;clear hg hu;replace hB:=hB.below hal;replace hk:=hk.trans (hal.mono hk.size);replace hrr:=hrr.below hal;replace hx13:=box_keep hx13 hal;replace hd13:=hd13.below hal;clear hal
             have hS:(false=true∨u2.cell? ⟨gt,4,none⟩=some v4)∧u2.cell? ⟨gt,6,none⟩=some v6∧u2.cell? ⟨g13,0,none⟩=some (.bool (ratNeg hh.a))∧u2.cell? ⟨g13,1,none⟩=some (.slice d.a.A d.a.n d.a.c)∧u2.cell? ⟨g13,2,none⟩=some (.slice d.a.A2 d.a.n2 d.a.c2)∧u2.cell? ⟨g13,3,none⟩=some (.bool (ratNeg hh.b))∧u2.cell? ⟨g13,4,none⟩=some (.slice d.b.A d.b.n d.b.c)∧u2.cell? ⟨g13,5,none⟩=some (.slice d.b.A2 d.b.n2 d.b.c2):=⟨.inr (cell_of_blk hB.tb 4),cell_of_blk hB.tb 6,box6 hx13⟩
             refine HKK14.out _ _ (.inr hS) ?_;clear HKK14
             try simp only [Act.put,sA,sZ,sS]
             refine wpAnyF_one (i:=7) (b:=false) (by kernel_rfl) rfl (by rfl) (fun KK hKK=>?_);have HKK7:=Lib.hid hKK;clear hKK;clear hS;go_simp;have hal:=(Below.refl u2.heap.size u2).alloc (Nat.le_refl _) (.cells #[.slice (some ⟨gr,0,none⟩) (nv+m) (nv+m)] 30);have hy1:=heap_alloc_new u2 (.cells #[.slice (some ⟨gr,0,none⟩) (nv+m) (nv+m)] 30)
             obtain ⟨gy1,hg⟩:∃ x0,x0=u2.heap.size:=⟨_,rfl⟩
             obtain ⟨u1,hu⟩:∃ x0,x0=u2.alloc (.cells #[.slice (some ⟨gr,0,none⟩) (nv+m) (nv+m)] 30):=⟨_,rfl⟩
             rw [←hg] at hy1 ⊢;rw [←hu] at hy1 hal ⊢;clear hg hu;replace hB:=hB.below hal;replace hk:=hk.trans (hal.mono hk.size);replace hrr:=hrr.below hal;replace hx13:=box_keep hx13 hal;replace hd13:=hd13.below hal;replace hy2:=box_keep hy2 hal;clear hal
             have hS:(false=true∨u1.cell? ⟨gt,4,none⟩=some v4)∧u1.cell? ⟨gt,6,none⟩=some v6∧u1.cell? ⟨g13,0,none⟩=some (.bool (ratNeg hh.a))∧u1.cell? ⟨g13,1,none⟩=some (.slice d.a.A d.a.n d.a.c)∧u1.cell? ⟨g13,2,none⟩=some (.slice d.a.A2 d.a.n2 d.a.c2)∧u1.cell? ⟨g13,3,none⟩=some (.bool (ratNeg hh.b))∧u1.cell? ⟨g13,4,none⟩=some (.slice d.b.A d.b.n d.b.c)∧u1.cell? ⟨g13,5,none⟩=some (.slice d.b.A2 d.b.n2 d.b.c2):=⟨.inr (cell_of_blk hB.tb 4),cell_of_blk hB.tb 6,box6 hx13⟩
             refine HKK7.out _ _ (.inr hS) ?_;clear HKK7
             try simp only [Act.put,sA,sZ,sS]
             refine wpAnyF_one (i:=8) (b:=false) (by kernel_rfl) rfl (by rfl) (fun KK hKK=>?_);have HKK8:=Lib.hid hKK;clear hKK;clear hS;refine stepRn w.heap.size u1 1 30 rfl _ _ 104 rfl r0 _ 24 Tryz.underlying104 hr' hr0 hr1 hr2 rfl (by decide) (by decide) v4 i (rowsL rb (nv+m) i) rfl hk.size hB.o4 _ 1 1 [.slice (some ⟨gr,0,none⟩) (nv+m) (nv+m)] rfl (rd_of_blk hy1 rfl) (one_one _ rfl) HIM.out.1 ?_;intro va wa hoa hfa hka;obtain ⟨Aa,ca,ea,_,_⟩:=ownsRow_form hoa;subst ea;have hT:=ty_own hB.o4 (by decide) (by decide);have hBn:=hB.app4 hoa hfa hrr HGB.out.1 HGB.out.2;replace hy2:=(hfa.block _ (lt_of_blk hy2) (own_type hB.o4 hy2 (by decide))).trans hy2;replace hx13:=(hfa.block g13 (lt_of_blk hx13) (own_type hB.o4 hx13 (by decide))).trans hx13;replace hd13:=hd13.frT hfa hT.noU;replace hk:=hk.trans (hfa.below hk.size (fun b hb=>(own_lt hB.o4 hb).1));replace hB:=hBn;clear hBn hT hoa hfa hka hy1 hrr
             have hS:(false=true∨wa.cell? ⟨gt,4,none⟩=some v4)∧wa.cell? ⟨gt,6,none⟩=some v6∧wa.cell? ⟨g13,0,none⟩=some (.bool (ratNeg hh.a))∧wa.cell? ⟨g13,1,none⟩=some (.slice d.a.A d.a.n d.a.c)∧wa.cell? ⟨g13,2,none⟩=some (.slice d.a.A2 d.a.n2 d.a.c2)∧wa.cell? ⟨g13,3,none⟩=some (.bool (ratNeg hh.b))∧wa.cell? ⟨g13,4,none⟩=some (.slice d.b.A d.b.n d.b.c)∧wa.cell? ⟨g13,5,none⟩=some (.slice d.b.A2 d.b.n2 d.b.c2):=⟨.inr (cell_of_blk hB.tb 4),cell_of_blk hB.tb 6,box6 hx13⟩
             refine HKK8.out _ _ (.inr hS) ?_;clear HKK8
             try simp only [Act.put,sA,sZ,sS]
             refine wpAnyF_one (i:=15) (b:=false) (by kernel_rfl) rfl (by rfl) (fun KK hKK=>?_);have HKK15:=Lib.hid hKK;clear hKK;clear hS;refine stepRn w.heap.size wa 6 108 rfl _ _ 103 rfl i0 _ 112 Tryz.underlying103 hi hz0 hz1 hz2 rfl (by decide) (by decide) v6 i (dsL db (pbOf nv l).hi i) rfl hk.size hB.o6 _ 1 1 [.bool (ratNeg hh.a),.slice d.a.A d.a.n d.a.c,.slice d.a.A2 d.a.n2 d.a.c2,.bool (ratNeg hh.b),.slice d.b.A d.b.n d.b.c,.slice d.b.A2 d.b.n2 d.b.c2] rfl (rd_of_blk hy2 rfl) (six_one _ _ _ _ _ _ _ _ _ _ _ _ _ _) HIM.out.2 ?_;intro vb wb hob hfb hkb;obtain ⟨Ab,cb,eb,_,_⟩:=ownsRow_form hob;subst eb;have hT:=ty_own hB.o6 (by decide) (by decide);have hBn:=hB.app6 (by rw [HH.out.1];exact hob) hfb hkb (by rw [HH.out.1];exact hd13) (by rw [HH.out.1];exact HH.out.2);replace hx13:=(hfb.block g13 (lt_of_blk hx13) hn13).trans hx13;replace hk:=hk.trans (hfb.below hk.size (fun b hb=>(own_lt hB.o6 hb).1));replace hB:=hBn;clear hBn hT hob hfb hkb hy2
             have hS:(false=true∨wb.cell? ⟨gt,4,none⟩=some v4)∧wb.cell? ⟨gt,6,none⟩=some v6∧wb.cell? ⟨g13,0,none⟩=some (.bool (ratNeg hh.a))∧wb.cell? ⟨g13,1,none⟩=some (.slice d.a.A d.a.n d.a.c)∧wb.cell? ⟨g13,2,none⟩=some (.slice d.a.A2 d.a.n2 d.a.c2)∧wb.cell? ⟨g13,3,none⟩=some (.bool (ratNeg hh.b))∧wb.cell? ⟨g13,4,none⟩=some (.slice d.b.A d.b.n d.b.c)∧wb.cell? ⟨g13,5,none⟩=some (.slice d.b.A2 d.b.n2 d.b.c2):=⟨.inr (cell_of_blk hB.tb 4),cell_of_blk hB.tb 6,box6 hx13⟩
             refine HKK15.out _ _ (.inr hS) ?_;clear HKK15
             try simp only [Act.put,sA,sZ,sS]
             refine tkF 16 ?_ ?hy16 hS ?rest16
             case hy16=>(intro w hSw;obtain ⟨_,hSw⟩:=hSw;(try dsimp only at hSw);obtain ⟨s4,s6,s13⟩:=hSw;clear s4;go_simp<;>with_reducible rfl)
             case rest16 =>
             simp only [Act.put,sA,sZ,sS];refine tkF 17 ?_ ?hy17 hS ?rest17
             case hy17=>(intro w hSw;obtain ⟨_,hSw⟩:=hSw;(try dsimp only at hSw);obtain ⟨s4,s6,s13⟩:=hSw;clear s4;go_simp<;>with_reducible rfl)
             case rest17 =>
             simp only [Act.put,sA,sZ,sS];have hc:=cell_of_blk hB.tb 4;have hz:=frozen_of_blk hB.tb 4;clear hS;refine wpAnyF_one (i:=18) (b:=true) (by kernel_rfl) rfl (by rfl) (fun KK hKK=>?_);have HKK18:=Lib.hid hKK;clear hKK;go_simp;replace hx13:=(set_far (p:=⟨gt,4,none⟩) (g:=g13) (fun e=>(show Wrt _ gt 106 from ⟨_,hB.tb⟩).ne ⟨_,hx13⟩ (by decide) e.symm) (.slice Aa (i+1) ca)).trans hx13;replace hk:=bl_set (p:=⟨gt,4,none⟩) (u:=.slice Aa (i+1) ca) hk hB.lg;replace hB:=hB.set 4 (.slice Aa (i+1) ca) rfl
             obtain ⟨wc1,hwc⟩:∃ x0,x0=wb.setCell ⟨gt,4,none⟩ (.slice Aa (i+1) ca):=⟨_,rfl⟩
             rw [←hwc] at hB hk hx13 ⊢;clear hwc hc hz
             have hS:(true=true∨wc1.cell? ⟨gt,4,none⟩=some v4)∧wc1.cell? ⟨gt,6,none⟩=some v6∧wc1.cell? ⟨g13,0,none⟩=some (.bool (ratNeg hh.a))∧wc1.cell? ⟨g13,1,none⟩=some (.slice d.a.A d.a.n d.a.c)∧wc1.cell? ⟨g13,2,none⟩=some (.slice d.a.A2 d.a.n2 d.a.c2)∧wc1.cell? ⟨g13,3,none⟩=some (.bool (ratNeg hh.b))∧wc1.cell? ⟨g13,4,none⟩=some (.slice d.b.A d.b.n d.b.c)∧wc1.cell? ⟨g13,5,none⟩=some (.slice d.b.A2 d.b.n2 d.b.c2):=⟨.inl rfl,cell_of_blk hB.tb 6,box6 hx13⟩
             refine HKK18.out _ _ (.inr hS) ?_;clear HKK18
             try simp only [Act.put,sA,sZ,sS]
             refine wpAnyF_one (i:=19) (b:=true) (by kernel_rfl) rfl (by rfl) (fun KK hKK=>?_);have HKK19:=Lib.hid hKK;clear hKK;go_simp;refine HKK19.out _ _ (.inr hS) ?_;clear HKK19
             try simp only [Act.put,sA,sZ,sS]
             refine wpAnyF_one (i:=20) (b:=true) (by kernel_rfl) rfl (by rfl) (fun KK hKK=>?_);have HKK20:=Lib.hid hKK;clear hKK;go_simp;refine HKK20.out _ _ (.inr hS) ?_;clear HKK20
             try simp only [Act.put,sA,sZ,sS]
             have hc:=cell_of_blk hB.tb 6;have hz:=frozen_of_blk hB.tb 6;clear hS;refine wpAnyF_one (i:=21) (b:=true) (by kernel_rfl) rfl (by rfl) (fun KK hKK=>?_);have HKK21:=Lib.hid hKK;clear hKK;go_simp;refine HKK21.out _ _ (.inl rfl) ?_;clear HKK21 hc hz;refine wpAnyF_done (by kernel_rfl) ?_ _;have HFB:=Lib.hid hB;have HFK:=Lib.hid hk;clear hB hk hx13 hd13
             go_wp2_with fail
             go_meet;exact ⟨rfl,_,_,_,_,HFB.out.set 6 (.slice Ab (i+1) cb) rfl,bl_set HFK.out HFB.out.lg⟩
          case rest =>
          obtain ⟨rfl,v4b,v6b,rbb,dbb,hB,hk⟩:=hcut
          obtain ⟨w17,rfl⟩:∃ x0,x0=wc:=⟨_,rfl⟩
          have kdr:Below w17.heap.size w17 w17.drew:=below_drew2 (Below.refl _ _);have HIM:=Lib.hid (And.intro (show (i+1)*8≤140737488355328 by omega) (show (nv+i+1)*8≤140737488355328 by omega))
          have hri:rowI nv (nv+i)=(i:Int):=by
           unfold rowI;rw [if_neg (by omega)];omega
          have HH:=Lib.hid (And.intro (show ((nv+i:Nat):Int)=(nv:Int)+(i:Int) by omega) hri);have HOL2:=Lib.hid (And.intro (hB.below kdr) (hk.trans (kdr.mono hk.size)));clear hB hk kdr hri HOL HGB HQL HHE H10Z
          go_upto_region 21 with fail
          obtain ⟨hB,hk⟩:=HOL2.out;refine wp_region_F 23 20 (fun b W'=>(b=true∨W'.cell? ⟨gt,2,none⟩=some v2)∧W'.cell? ⟨gt,3,none⟩=some v3) (by kernel_rfl) ?_;generalize w17.drew=w16 at hB hk ⊢;clear HOL2;have bw:IntKind.i64.wrap ((nv:Int)+(i:Int))=(nv:Int)+(i:Int):=IntWalk.i64_in _ (by omega)
          have hS:(false=true∨w16.cell? ⟨gt,2,none⟩=some v2)∧w16.cell? ⟨gt,3,none⟩=some v3:=⟨.inr (cell_of_blk hB.tb 2),cell_of_blk hB.tb 3⟩
          refine tkF 0 ?_ ?hy0 hS ?rest0
          case hy0=>(intro w hSw;obtain ⟨_,hSw⟩:=hSw;(try dsimp only at hSw);obtain ⟨s4,s6⟩:=hSw;clear s4;go_simp<;>with_reducible rfl)
          case rest0 =>
          simp only [Act.put,sA,sZ,sS];refine tkF 1 ?_ ?hy1 hS ?rest1
          case hy1=>(intro w hSw;obtain ⟨_,hSw⟩:=hSw;(try dsimp only at hSw);obtain ⟨s4,s6⟩:=hSw;clear s4;go_simp<;>with_reducible rfl)
          case rest1 =>
          simp only [Act.put,sA,sZ,sS];refine tkF 2 ?_ ?hy2 hS ?rest2
          case hy2=>(intro w hSw;obtain ⟨_,hSw⟩:=hSw;(try dsimp only at hSw);obtain ⟨s4,s6⟩:=hSw;clear s4;go_simp<;>with_reducible rfl)
          case rest2 =>
          simp only [Act.put,sA,sZ,sS];refine tkF 3 ?_ ?hy3 hS ?rest3
          case hy3=>(intro w hSw;obtain ⟨_,hSw⟩:=hSw;(try dsimp only at hSw);obtain ⟨s4,s6⟩:=hSw;clear s4;go_simp<;>with_reducible rfl)
          case rest3 =>
          simp only [Act.put,sA,sZ,sS];refine tkF 4 ?_ ?hy4 hS ?rest4
          case hy4=>(intro w hSw;obtain ⟨_,hSw⟩:=hSw;(try dsimp only at hSw);obtain ⟨s4,s6⟩:=hSw;clear s4;go_simp<;>with_reducible rfl)
          case rest4 =>
          simp only [Act.put,sA,sZ,sS];refine wpAnyF_load (i:=5) (v:=?_) (by kernel_rfl) (by simp only [List.getElem?_toArray,List.getElem?_cons_succ,List.getElem?_cons_zero]<;>rfl) (by kernel_rfl) (by kernel_rfl) (by kernel_rfl) (by exact fun _ _ _ h=>h) (by rfl) (by kernel_rfl) (by rfl) ?hy5 (by decide) hS ?rest5
          case hy5=>(intro w hSw;(try dsimp only at hSw);obtain ⟨s4,s6⟩:=hSw;replace s4:=s4.resolve_left (by decide);go_simp<;>with_reducible rfl)
          case rest5 =>
          simp only [Act.put,sA,sZ,sS];refine tkF 6 ?_ ?hy6 hS ?rest6
          case hy6=>(intro w hSw;obtain ⟨_,hSw⟩:=hSw;(try dsimp only at hSw);obtain ⟨s4,s6⟩:=hSw;clear s4;go_simp<;>with_reducible rfl)
          case rest6 =>
          simp only [Act.put,sA,sZ,sS];refine tkF 7 ?_ ?hy7 hS ?rest7
          case hy7=>(intro w hSw;obtain ⟨_,hSw⟩:=hSw;(try dsimp only at hSw);obtain ⟨s4,s6⟩:=hSw;clear s4;go_simp<;>with_reducible rfl)
          case rest7 =>
          simp only [Act.put,sA,sZ,sS];refine tkF 8 ?_ ?hy8 hS ?rest8
          case hy8=>(intro w hSw;obtain ⟨_,hSw⟩:=hSw;(try dsimp only at hSw);obtain ⟨s4,s6⟩:=hSw;clear s4;go_simp<;>with_reducible rfl)
          case rest8 =>
          simp only [Act.put,sA,sZ,sS];refine tkF 11 ?_ ?hy11 hS ?rest11
          case hy11=>(intro w hSw;obtain ⟨_,hSw⟩:=hSw;(try dsimp only at hSw);obtain ⟨s4,s6⟩:=hSw;clear s4;go_simp<;>with_reducible rfl)
          case rest11 =>
          simp only [Act.put,sA,sZ,sS];refine tkF 12 ?_ ?hy12 hS ?rest12
          case hy12=>(intro w hSw;obtain ⟨_,hSw⟩:=hSw;(try dsimp only at hSw);obtain ⟨s4,s6⟩:=hSw;clear s4;go_simp<;>with_reducible rfl)
          case rest12 =>
          simp only [Act.put,sA,sZ,sS];refine tkF 13 ?_ ?hy13 hS ?rest13
          case hy13=>(intro w hSw;obtain ⟨_,hSw⟩:=hSw;(try dsimp only at hSw);obtain ⟨s4,s6⟩:=hSw;clear s4;go_simp<;>with_reducible rfl)
          case rest13 =>
          simp only [Act.put,sA,sZ,sS];refine tkF 14 ?_ ?hy14 hS ?rest14
          case hy14=>(intro w hSw;obtain ⟨_,hSw⟩:=hSw;(try dsimp only at hSw);obtain ⟨s4,s6⟩:=hSw;clear s4;go_simp<;>with_reducible rfl)
          case rest14 =>
          simp only [Act.put,sA,sZ,sS];refine tkF 15 ?_ ?hy15 hS ?rest15
          case hy15=>(intro w hSw;obtain ⟨_,hSw⟩:=hSw;(try dsimp only at hSw);obtain ⟨s4,s6⟩:=hSw;clear s4;go_simp<;>with_reducible rfl)
          case rest15 =>
          simp only [Act.put,sA,sZ,sS];refine wpAnyF_two (i:=9) (j:=16) (by kernel_rfl) rfl rfl (by rfl) (by rfl) (fun KK hKK=>?_) (fun KK hKK=>?_)
          · skip
            have HKK9:=Lib.hid hKK;clear hKK;clear hS;go_simp;have hal:=(Below.refl w16.heap.size w16).alloc (Nat.le_refl _) (.cells #[.int .i64 ((nv:Int)+(i:Int))] 3);have hy1:=heap_alloc_new w16 (.cells #[.int .i64 ((nv:Int)+(i:Int))] 3)
            obtain ⟨gy1,hg⟩:∃ x0,x0=w16.heap.size:=⟨_,rfl⟩
            obtain ⟨u1,hu⟩:∃ x0,x0=w16.alloc (.cells #[.int .i64 ((nv:Int)+(i:Int))] 3):=⟨_,rfl⟩
            rw [←hg] at hy1 ⊢;rw [←hu] at hy1 hal ⊢;clear hg hu;replace hB:=hB.below hal;replace hk:=hk.trans (hal.mono hk.size);clear hal
            have hS:(false=true∨u1.cell? ⟨gt,2,none⟩=some v2)∧u1.cell? ⟨gt,3,none⟩=some v3:=⟨.inr (cell_of_blk hB.tb 2),cell_of_blk hB.tb 3⟩
            refine HKK9.out _ _ (.inr hS) ?_;clear HKK9
            try simp only [Act.put,sA,sZ,sS]
            refine wpAnyF_two (i:=10) (j:=16) (by kernel_rfl) rfl rfl (by rfl) (by rfl) (fun KK hKK=>?_) (fun KK hKK=>?_)
            · skip
              have HKK10:=Lib.hid hKK;clear hKK;clear hS;refine stepRn w.heap.size u1 1 3 rfl _ _ 51 rfl k0 _ 8 Tryz.underlying51 hk' hk0 hk1 hk2 rfl (by decide) (by decide) v2 i (isL nv i) rfl hk.size hB.o2 _ 1 1 [.int .i64 ((nv:Int)+(i:Int))] rfl (rd_of_blk hy1 rfl) (one_one _ rfl) HIM.out.1 ?_;intro va wa hoa hfa hka;obtain ⟨Aa,ca,ea,_,_⟩:=ownsRow_form hoa;subst ea;have hT:=ty_own hB.o2 (by decide) (by decide);have hBn:=hB.app2 (by rw [HH.out.1];exact hoa) hfa hka;replace hk:=hk.trans (hfa.below hk.size (fun b hb=>(own_lt hB.o2 hb).1));replace hB:=hBn;clear hBn hT hoa hfa hka hy1
              have hS:(false=true∨wa.cell? ⟨gt,2,none⟩=some v2)∧wa.cell? ⟨gt,3,none⟩=some v3:=⟨.inr (cell_of_blk hB.tb 2),cell_of_blk hB.tb 3⟩
              refine HKK10.out _ _ (.inr hS) ?_;clear HKK10
              try simp only [Act.put,sA,sZ,sS]
              refine wpAnyF_one (i:=16) (b:=false) (by kernel_rfl) rfl (by rfl) (fun KK hKK=>?_);have HKK16:=Lib.hid hKK;clear hKK;clear hS;go_simp;have hal:=(Below.refl wa.heap.size wa).alloc (Nat.le_refl _) (.cells #[.int .i64 (i:Int)] 3);have hy2:=heap_alloc_new wa (.cells #[.int .i64 (i:Int)] 3)
              obtain ⟨gy2,hg⟩:∃ x0,x0=wa.heap.size:=⟨_,rfl⟩
              obtain ⟨u2,hu⟩:∃ x0,x0=wa.alloc (.cells #[.int .i64 (i:Int)] 3):=⟨_,rfl⟩
              rw [←hg] at hy2 ⊢;rw [←hu] at hy2 hal ⊢;clear hg hu;replace hB:=hB.below hal;replace hk:=hk.trans (hal.mono hk.size);clear hal
              have hS:(false=true∨u2.cell? ⟨gt,2,none⟩=some v2)∧u2.cell? ⟨gt,3,none⟩=some v3:=⟨.inr (cell_of_blk hB.tb 2),cell_of_blk hB.tb 3⟩
              refine HKK16.out _ _ (.inr hS) ?_;clear HKK16
              try simp only [Act.put,sA,sZ,sS]
              refine wpAnyF_one (i:=17) (b:=false) (by kernel_rfl) rfl (by rfl) (fun KK hKK=>?_);have HKK17:=Lib.hid hKK;clear hKK;clear hS;refine stepRn w.heap.size u2 1 3 rfl _ _ 51 rfl k0 _ 8 Tryz.underlying51 hk' hk0 hk1 hk2 rfl (by decide) (by decide) v3 (nv+i) (rsL nv (nv+i)) rfl hk.size hB.o3 _ 1 1 [.int .i64 (i:Int)] rfl (rd_of_blk hy2 rfl) (one_one _ rfl) HIM.out.2 ?_;intro vb wb hob hfb hkb;obtain ⟨Ab,cb,eb,_,_⟩:=ownsRow_form hob;subst eb;have hT:=ty_own hB.o3 (by decide) (by decide);have hBn:=hB.app3 (by rw [HH.out.2];exact hob) hfb hkb;replace hk:=hk.trans (hfb.below hk.size (fun b hb=>(own_lt hB.o3 hb).1));replace hB:=hBn;clear hBn hT hob hfb hkb hy2
              have hS:(false=true∨wb.cell? ⟨gt,2,none⟩=some v2)∧wb.cell? ⟨gt,3,none⟩=some v3:=⟨.inr (cell_of_blk hB.tb 2),cell_of_blk hB.tb 3⟩
              refine HKK17.out _ _ (.inr hS) ?_;clear HKK17
              try simp only [Act.put,sA,sZ,sS]
              refine tkF 18 ?_ ?hy18 hS ?rest18
              case hy18=>(intro w hSw;obtain ⟨_,hSw⟩:=hSw;(try dsimp only at hSw);obtain ⟨s4,s6⟩:=hSw;clear s4;go_simp<;>with_reducible rfl)
              case rest18 =>
              simp only [Act.put,sA,sZ,sS];refine tkF 19 ?_ ?hy19 hS ?rest19
              case hy19=>(intro w hSw;obtain ⟨_,hSw⟩:=hSw;(try dsimp only at hSw);obtain ⟨s4,s6⟩:=hSw;clear s4;go_simp<;>with_reducible rfl)
              case rest19 =>
              simp only [Act.put,sA,sZ,sS];have hc:=cell_of_blk hB.tb 2;have hz:=frozen_of_blk hB.tb 2;clear hS;refine wpAnyF_one (i:=20) (b:=true) (by kernel_rfl) rfl (by rfl) (fun KK hKK=>?_);have HKK20:=Lib.hid hKK;clear hKK;go_simp;replace hk:=bl_set (p:=⟨gt,2,none⟩) (u:=.slice Aa (i+1) ca) hk hB.lg;replace hB:=hB.set 2 (.slice Aa (i+1) ca) rfl
              obtain ⟨wc1,hwc⟩:∃ x0,x0=wb.setCell ⟨gt,2,none⟩ (.slice Aa (i+1) ca):=⟨_,rfl⟩
              rw [←hwc] at hB hk ⊢;clear hwc hc hz
              have hS:(true=true∨wc1.cell? ⟨gt,2,none⟩=some v2)∧wc1.cell? ⟨gt,3,none⟩=some v3:=⟨.inl rfl,cell_of_blk hB.tb 3⟩
              refine HKK20.out _ _ (.inr hS) ?_;clear HKK20
              try simp only [Act.put,sA,sZ,sS]
              refine wpAnyF_one (i:=21) (b:=true) (by kernel_rfl) rfl (by rfl) (fun KK hKK=>?_);have HKK21:=Lib.hid hKK;clear hKK;go_simp;refine HKK21.out _ _ (.inr hS) ?_;clear HKK21
              try simp only [Act.put,sA,sZ,sS]
              refine wpAnyF_one (i:=22) (b:=true) (by kernel_rfl) rfl (by rfl) (fun KK hKK=>?_);have HKK22:=Lib.hid hKK;clear hKK;go_simp;refine HKK22.out _ _ (.inr hS) ?_;clear HKK22
              try simp only [Act.put,sA,sZ,sS]
              have hc:=cell_of_blk hB.tb 3;have hz:=frozen_of_blk hB.tb 3;clear hS;refine wpAnyF_one (i:=23) (b:=true) (by kernel_rfl) rfl (by rfl) (fun KK hKK=>?_);have HKK23:=Lib.hid hKK;clear hKK;go_simp;refine HKK23.out _ _ (.inl rfl) ?_;clear HKK23 hc hz;refine wpAnyF_done (by kernel_rfl) ?_ _;have HFB:=Lib.hid hB;have HFK:=Lib.hid hk;clear hB hk;clear bw
              go_wp2_with fail
              go_roundw
              case rel=>exact ⟨i+1,_,_,_,_,_,_,by omega,by go_num,HFB.out.set 3 (.slice Ab (nv+i+1) cb) rfl,bl_set HFK.out HFB.out.lg⟩
              case measure=>simp [intOf];omega
            · skip
              have HKK16:=Lib.hid hKK;clear hKK;clear hS;go_simp;have hal:=(Below.refl u1.heap.size u1).alloc (Nat.le_refl _) (.cells #[.int .i64 (i:Int)] 3);have hy2:=heap_alloc_new u1 (.cells #[.int .i64 (i:Int)] 3)
              obtain ⟨gy2,hg⟩:∃ x0,x0=u1.heap.size:=⟨_,rfl⟩
              obtain ⟨u2,hu⟩:∃ x0,x0=u1.alloc (.cells #[.int .i64 (i:Int)] 3):=⟨_,rfl⟩
              have hny:v2.ownBlock≠some gy2:=fun hs=>absurd (own_lt hB.o2 hs).2 (by rw [hg];exact Nat.lt_irrefl _)
              rw [←hg] at hy2 ⊢;rw [←hu] at hy2 hal ⊢;clear hg hu;replace hB:=hB.below hal;replace hk:=hk.trans (hal.mono hk.size);replace hy1:=box_keep hy1 hal;clear hal
              have hS:(false=true∨u2.cell? ⟨gt,2,none⟩=some v2)∧u2.cell? ⟨gt,3,none⟩=some v3:=⟨.inr (cell_of_blk hB.tb 2),cell_of_blk hB.tb 3⟩
              refine HKK16.out _ _ (.inr hS) ?_;clear HKK16
              try simp only [Act.put,sA,sZ,sS]
              refine wpAnyF_one (i:=10) (b:=false) (by kernel_rfl) rfl (by rfl) (fun KK hKK=>?_);have HKK10:=Lib.hid hKK;clear hKK;clear hS;refine stepRn w.heap.size u2 1 3 rfl _ _ 51 rfl k0 _ 8 Tryz.underlying51 hk' hk0 hk1 hk2 rfl (by decide) (by decide) v2 i (isL nv i) rfl hk.size hB.o2 _ 1 1 [.int .i64 ((nv:Int)+(i:Int))] rfl (rd_of_blk hy1 rfl) (one_one _ rfl) HIM.out.1 ?_;intro va wa hoa hfa hka;obtain ⟨Aa,ca,ea,_,_⟩:=ownsRow_form hoa;subst ea;have hT:=ty_own hB.o2 (by decide) (by decide);have hBn:=hB.app2 (by rw [HH.out.1];exact hoa) hfa hka;replace hy2:=(hfa.block _ (lt_of_blk hy2) (fun hs=>hny hs)).trans hy2;replace hk:=hk.trans (hfa.below hk.size (fun b hb=>(own_lt hB.o2 hb).1));replace hB:=hBn;clear hBn hT hoa hfa hka hy1
              have hS:(false=true∨wa.cell? ⟨gt,2,none⟩=some v2)∧wa.cell? ⟨gt,3,none⟩=some v3:=⟨.inr (cell_of_blk hB.tb 2),cell_of_blk hB.tb 3⟩
              refine HKK10.out _ _ (.inr hS) ?_;clear HKK10
              try simp only [Act.put,sA,sZ,sS]
              refine wpAnyF_one (i:=17) (b:=false) (by kernel_rfl) rfl (by rfl) (fun KK hKK=>?_);have HKK17:=Lib.hid hKK;clear hKK;clear hS;refine stepRn w.heap.size wa 1 3 rfl _ _ 51 rfl k0 _ 8 Tryz.underlying51 hk' hk0 hk1 hk2 rfl (by decide) (by decide) v3 (nv+i) (rsL nv (nv+i)) rfl hk.size hB.o3 _ 1 1 [.int .i64 (i:Int)] rfl (rd_of_blk hy2 rfl) (one_one _ rfl) HIM.out.2 ?_;intro vb wb hob hfb hkb;obtain ⟨Ab,cb,eb,_,_⟩:=ownsRow_form hob;subst eb;have hT:=ty_own hB.o3 (by decide) (by decide);have hBn:=hB.app3 (by rw [HH.out.2];exact hob) hfb hkb;replace hk:=hk.trans (hfb.below hk.size (fun b hb=>(own_lt hB.o3 hb).1));replace hB:=hBn;clear hBn hT hob hfb hkb hy2
              have hS:(false=true∨wb.cell? ⟨gt,2,none⟩=some v2)∧wb.cell? ⟨gt,3,none⟩=some v3:=⟨.inr (cell_of_blk hB.tb 2),cell_of_blk hB.tb 3⟩
              refine HKK17.out _ _ (.inr hS) ?_;clear HKK17
              try simp only [Act.put,sA,sZ,sS]
              refine tkF 18 ?_ ?hy18 hS ?rest18
              case hy18=>(intro w hSw;obtain ⟨_,hSw⟩:=hSw;(try dsimp only at hSw);obtain ⟨s4,s6⟩:=hSw;clear s4;go_simp<;>with_reducible rfl)
              case rest18 =>
              simp only [Act.put,sA,sZ,sS];refine tkF 19 ?_ ?hy19 hS ?rest19
              case hy19=>(intro w hSw;obtain ⟨_,hSw⟩:=hSw;(try dsimp only at hSw);obtain ⟨s4,s6⟩:=hSw;clear s4;go_simp<;>with_reducible rfl)
              case rest19 =>
              simp only [Act.put,sA,sZ,sS];have hc:=cell_of_blk hB.tb 2;have hz:=frozen_of_blk hB.tb 2;clear hS;refine wpAnyF_one (i:=20) (b:=true) (by kernel_rfl) rfl (by rfl) (fun KK hKK=>?_);have HKK20:=Lib.hid hKK;clear hKK;go_simp;replace hk:=bl_set (p:=⟨gt,2,none⟩) (u:=.slice Aa (i+1) ca) hk hB.lg;replace hB:=hB.set 2 (.slice Aa (i+1) ca) rfl
              obtain ⟨wc1,hwc⟩:∃ x0,x0=wb.setCell ⟨gt,2,none⟩ (.slice Aa (i+1) ca):=⟨_,rfl⟩
              rw [←hwc] at hB hk ⊢;clear hwc hc hz
              have hS:(true=true∨wc1.cell? ⟨gt,2,none⟩=some v2)∧wc1.cell? ⟨gt,3,none⟩=some v3:=⟨.inl rfl,cell_of_blk hB.tb 3⟩
              refine HKK20.out _ _ (.inr hS) ?_;clear HKK20
              try simp only [Act.put,sA,sZ,sS]
              refine wpAnyF_one (i:=21) (b:=true) (by kernel_rfl) rfl (by rfl) (fun KK hKK=>?_);have HKK21:=Lib.hid hKK;clear hKK;go_simp;refine HKK21.out _ _ (.inr hS) ?_;clear HKK21
              try simp only [Act.put,sA,sZ,sS]
              refine wpAnyF_one (i:=22) (b:=true) (by kernel_rfl) rfl (by rfl) (fun KK hKK=>?_);have HKK22:=Lib.hid hKK;clear hKK;go_simp;refine HKK22.out _ _ (.inr hS) ?_;clear HKK22
              try simp only [Act.put,sA,sZ,sS]
              have hc:=cell_of_blk hB.tb 3;have hz:=frozen_of_blk hB.tb 3;clear hS;refine wpAnyF_one (i:=23) (b:=true) (by kernel_rfl) rfl (by rfl) (fun KK hKK=>?_);have HKK23:=Lib.hid hKK;clear hKK;go_simp;refine HKK23.out _ _ (.inl rfl) ?_;clear HKK23 hc hz;refine wpAnyF_done (by kernel_rfl) ?_ _;have HFB:=Lib.hid hB;have HFK:=Lib.hid hk;clear hB hk;clear bw
              go_wp2_with fail
              go_roundw
              case rel=>exact ⟨i+1,_,_,_,_,_,_,by omega,by go_num,HFB.out.set 3 (.slice Ab (nv+i+1) cb) rfl,bl_set HFK.out HFB.out.lg⟩
              case measure=>simp [intOf];omega
          · skip
            have HKK16:=Lib.hid hKK;clear hKK;clear hS;go_simp;have hal:=(Below.refl w16.heap.size w16).alloc (Nat.le_refl _) (.cells #[.int .i64 (i:Int)] 3);have hy2:=heap_alloc_new w16 (.cells #[.int .i64 (i:Int)] 3)
            obtain ⟨gy2,hg⟩:∃ x0,x0=w16.heap.size:=⟨_,rfl⟩
            obtain ⟨u2,hu⟩:∃ x0,x0=w16.alloc (.cells #[.int .i64 (i:Int)] 3):=⟨_,rfl⟩
            have hny:v2.ownBlock≠some gy2:=fun hs=>absurd (own_lt hB.o2 hs).2 (by rw [hg];exact Nat.lt_irrefl _)
            rw [←hg] at hy2 ⊢;rw [←hu] at hy2 hal ⊢;clear hg hu;replace hB:=hB.below hal;replace hk:=hk.trans (hal.mono hk.size);clear hal
            have hS:(false=true∨u2.cell? ⟨gt,2,none⟩=some v2)∧u2.cell? ⟨gt,3,none⟩=some v3:=⟨.inr (cell_of_blk hB.tb 2),cell_of_blk hB.tb 3⟩
            refine HKK16.out _ _ (.inr hS) ?_;clear HKK16
            try simp only [Act.put,sA,sZ,sS]
            refine wpAnyF_one (i:=9) (b:=false) (by kernel_rfl) rfl (by rfl) (fun KK hKK=>?_);have HKK9:=Lib.hid hKK;clear hKK;clear hS;go_simp;have hal:=(Below.refl u2.heap.size u2).alloc (Nat.le_refl _) (.cells #[.int .i64 ((nv:Int)+(i:Int))] 3);have hy1:=heap_alloc_new u2 (.cells #[.int .i64 ((nv:Int)+(i:Int))] 3)
            obtain ⟨gy1,hg⟩:∃ x0,x0=u2.heap.size:=⟨_,rfl⟩
            obtain ⟨u1,hu⟩:∃ x0,x0=u2.alloc (.cells #[.int .i64 ((nv:Int)+(i:Int))] 3):=⟨_,rfl⟩
            rw [←hg] at hy1 ⊢;rw [←hu] at hy1 hal ⊢;clear hg hu;replace hB:=hB.below hal;replace hk:=hk.trans (hal.mono hk.size);replace hy2:=box_keep hy2 hal;clear hal
            have hS:(false=true∨u1.cell? ⟨gt,2,none⟩=some v2)∧u1.cell? ⟨gt,3,none⟩=some v3:=⟨.inr (cell_of_blk hB.tb 2),cell_of_blk hB.tb 3⟩
            refine HKK9.out _ _ (.inr hS) ?_;clear HKK9
            try simp only [Act.put,sA,sZ,sS]
            refine wpAnyF_one (i:=10) (b:=false) (by kernel_rfl) rfl (by rfl) (fun KK hKK=>?_);have HKK10:=Lib.hid hKK;clear hKK;clear hS;refine stepRn w.heap.size u1 1 3 rfl _ _ 51 rfl k0 _ 8 Tryz.underlying51 hk' hk0 hk1 hk2 rfl (by decide) (by decide) v2 i (isL nv i) rfl hk.size hB.o2 _ 1 1 [.int .i64 ((nv:Int)+(i:Int))] rfl (rd_of_blk hy1 rfl) (one_one _ rfl) HIM.out.1 ?_;intro va wa hoa hfa hka;obtain ⟨Aa,ca,ea,_,_⟩:=ownsRow_form hoa;subst ea;have hT:=ty_own hB.o2 (by decide) (by decide);have hBn:=hB.app2 (by rw [HH.out.1];exact hoa) hfa hka;replace hy2:=(hfa.block _ (lt_of_blk hy2) (fun hs=>hny hs)).trans hy2;replace hk:=hk.trans (hfa.below hk.size (fun b hb=>(own_lt hB.o2 hb).1));replace hB:=hBn;clear hBn hT hoa hfa hka hy1
            have hS:(false=true∨wa.cell? ⟨gt,2,none⟩=some v2)∧wa.cell? ⟨gt,3,none⟩=some v3:=⟨.inr (cell_of_blk hB.tb 2),cell_of_blk hB.tb 3⟩
            refine HKK10.out _ _ (.inr hS) ?_;clear HKK10
            try simp only [Act.put,sA,sZ,sS]
            refine wpAnyF_one (i:=17) (b:=false) (by kernel_rfl) rfl (by rfl) (fun KK hKK=>?_);have HKK17:=Lib.hid hKK;clear hKK;clear hS;refine stepRn w.heap.size wa 1 3 rfl _ _ 51 rfl k0 _ 8 Tryz.underlying51 hk' hk0 hk1 hk2 rfl (by decide) (by decide) v3 (nv+i) (rsL nv (nv+i)) rfl hk.size hB.o3 _ 1 1 [.int .i64 (i:Int)] rfl (rd_of_blk hy2 rfl) (one_one _ rfl) HIM.out.2 ?_;intro vb wb hob hfb hkb;obtain ⟨Ab,cb,eb,_,_⟩:=ownsRow_form hob;subst eb;have hT:=ty_own hB.o3 (by decide) (by decide);have hBn:=hB.app3 (by rw [HH.out.2];exact hob) hfb hkb;replace hk:=hk.trans (hfb.below hk.size (fun b hb=>(own_lt hB.o3 hb).1));replace hB:=hBn;clear hBn hT hob hfb hkb hy2
            have hS:(false=true∨wb.cell? ⟨gt,2,none⟩=some v2)∧wb.cell? ⟨gt,3,none⟩=some v3:=⟨.inr (cell_of_blk hB.tb 2),cell_of_blk hB.tb 3⟩
            refine HKK17.out _ _ (.inr hS) ?_;clear HKK17
            try simp only [Act.put,sA,sZ,sS]
            refine tkF 18 ?_ ?hy18 hS ?rest18
            case hy18=>(intro w hSw;obtain ⟨_,hSw⟩:=hSw;(try dsimp only at hSw);obtain ⟨s4,s6⟩:=hSw;clear s4;go_simp<;>with_reducible rfl)
            case rest18 =>
            simp only [Act.put,sA,sZ,sS];refine tkF 19 ?_ ?hy19 hS ?rest19
            case hy19=>(intro w hSw;obtain ⟨_,hSw⟩:=hSw;(try dsimp only at hSw);obtain ⟨s4,s6⟩:=hSw;clear s4;go_simp<;>with_reducible rfl)
            case rest19 =>
            simp only [Act.put,sA,sZ,sS];have hc:=cell_of_blk hB.tb 2;have hz:=frozen_of_blk hB.tb 2;clear hS;refine wpAnyF_one (i:=20) (b:=true) (by kernel_rfl) rfl (by rfl) (fun KK hKK=>?_);have HKK20:=Lib.hid hKK;clear hKK;go_simp;replace hk:=bl_set (p:=⟨gt,2,none⟩) (u:=.slice Aa (i+1) ca) hk hB.lg;replace hB:=hB.set 2 (.slice Aa (i+1) ca) rfl
            obtain ⟨wc1,hwc⟩:∃ x0,x0=wb.setCell ⟨gt,2,none⟩ (.slice Aa (i+1) ca):=⟨_,rfl⟩
            rw [←hwc] at hB hk ⊢;clear hwc hc hz
            have hS:(true=true∨wc1.cell? ⟨gt,2,none⟩=some v2)∧wc1.cell? ⟨gt,3,none⟩=some v3:=⟨.inl rfl,cell_of_blk hB.tb 3⟩
            refine HKK20.out _ _ (.inr hS) ?_;clear HKK20
            try simp only [Act.put,sA,sZ,sS]
            refine wpAnyF_one (i:=21) (b:=true) (by kernel_rfl) rfl (by rfl) (fun KK hKK=>?_);have HKK21:=Lib.hid hKK;clear hKK;go_simp;refine HKK21.out _ _ (.inr hS) ?_;clear HKK21
            try simp only [Act.put,sA,sZ,sS]
            refine wpAnyF_one (i:=22) (b:=true) (by kernel_rfl) rfl (by rfl) (fun KK hKK=>?_);have HKK22:=Lib.hid hKK;clear hKK;go_simp;refine HKK22.out _ _ (.inr hS) ?_;clear HKK22
            try simp only [Act.put,sA,sZ,sS]
            have hc:=cell_of_blk hB.tb 3;have hz:=frozen_of_blk hB.tb 3;clear hS;refine wpAnyF_one (i:=23) (b:=true) (by kernel_rfl) rfl (by rfl) (fun KK hKK=>?_);have HKK23:=Lib.hid hKK;clear hKK;go_simp;refine HKK23.out _ _ (.inl rfl) ?_;clear HKK23 hc hz;refine wpAnyF_done (by kernel_rfl) ?_ _;have HFB:=Lib.hid hB;have HFK:=Lib.hid hk;clear hB hk;clear bw
            go_wp2_with fail
            go_roundw
            case rel=>exact ⟨i+1,_,_,_,_,_,_,by omega,by go_num,HFB.out.set 3 (.slice Ab (nv+i+1) cb) rfl,bl_set HFK.out HFB.out.lg⟩
            case measure=>simp [intOf];omega
     · obtain rfl:m=i:=by omega
       have hlt2:¬ ((m:Int)<(m:Int)):=by omega
       have hte:=tab_of HL.out (by rw [←HML.out];exact hb) hk hnv0 hnv (by rw [←HML.out];exact hm);obtain ⟨T,eT,hT⟩:=hte;subst eT;have HT:=Lib.hid (And.intro hT hk);clear hT hb hk hlt hin
       go_wp2_with fail
       go_ret;exact ⟨T,rfl,HT.out.1,HT.out.2⟩
end Go.Proofs.YtdefcbfofonabaaGreat
