/- Contract of attesttop.light. -/
import Derived.Test.YtdefcbfofonabaaGreatLinX
import Derived.Test.YtdefcbfofonabaaGreatLawEx9
import Derived.Test.YtdefcbfofonabaaGreatRegE
namespace Go.Proofs.YtdefcbfofonabaaGreat
open Go.RowKit
set_option linter.unusedVariables false
set_option linter.unusedSimpArgs false
theorem bx5 {w:World} {g:Nat} {a b c d e:Value} {t:TypeId} (h:w.heap[g]?=some (.cells #[a,b,c,d,e] t (0,0))):w.cell? ⟨g,0,none⟩=some a∧w.cell? ⟨g,1,none⟩=some b∧w.cell? ⟨g,2,none⟩=some c∧w.cell? ⟨g,3,none⟩=some d∧w.cell? ⟨g,4,none⟩=some e :=
 ⟨cell_of_blk h 0,cell_of_blk h 1,cell_of_blk h 2,cell_of_blk h 3,cell_of_blk h 4⟩
theorem four_one (v:Int) (s:Bool) (A A2:Option Addr) (n c n2 c2:Nat):∀ u ∈ [Value.int .i64 v,.bool s,.slice A n c,.slice A2 n2 c2],u.oneCell'=true:=by
 intro u hu;simp at hu
 rcases hu with rfl | rfl | rfl | rfl<;>rfl
theorem five_one (v:Int) (s:Bool) (A A2 A3:Option Addr) (n c n2 c2 n3 c3:Nat):∀ u ∈ [Value.slice A3 n3 c3,.bool s,.slice A n c,.slice A2 n2 c2,.int .i64 v],u.oneCell'=true:=by
 intro u hu;simp at hu
 rcases hu with rfl | rfl | rfl | rfl | rfl<;>rfl
structure VT (w:World) (t:VB):Prop where
 b:NTin w t.b
 v : -9223372036854775808≤t.v∧t.v≤9223372036854775807
theorem VT.below {w w':World} {t:VB} (h:VT w t) (hb:Below w.heap.size w w'):VT w' t:=⟨h.b.below hb,h.v⟩
theorem VT.frT {S:Nat→Prop} {w w':World} {t:VB} (h:VT w t) (hf:Fr S w w') (hS:∀ b,S b→∃ cs t m,w.heap[b]?=some (.cells cs t m)∧t≠125):VT w' t:=⟨h.b.frT hf hS,h.v⟩
theorem vbsL_app (l m:List VB):vbsL (l ++ m)=vbsL l ++ vbsL m:=List.flatMap_append
structure VOut (B:Nat) (w:World) (v:Value) (lo:List VB):Prop where
 own:w.ownsRow B 78 4 v lo.length (vbsL lo)
 each:∀ t ∈ lo,VT w t
theorem ty_ownV {w:World} {B n size:Nat} {v:Value} {xs:List Value} {e:TypeId} (h:w.ownsRow B e size v n xs) (h1:e≠125):∀ b,ownS v b→∃ cs t m,w.heap[b]?=some (.cells cs t m)∧t≠125:=fun b hb=>by
 rcases h.2 with ⟨rfl,_⟩ | ⟨g,cap,cur,rfl,_,hx,_⟩
 · simp [ownS,Value.ownBlock] at hb
 · have:g=b:=by simpa [ownS,Value.ownBlock] using hb
   subst this;exact ⟨cur,_,_,hx,h1⟩
theorem VOut.below {B:Nat} {w w':World} {v:Value} {lo:List VB} (h:VOut B w v lo) (hb:Below w.heap.size w w'):VOut B w' v lo:=⟨own_below h.own hb,fun t ht=>(h.each t ht).below hb⟩
theorem VOut.app {B:Nat} {w w':World} {v v':Value} {lo:List VB} (h:VOut B w v lo) {t:VB} (ho:w'.ownsRow B 78 4 v' (lo.length+1) (vbsL lo ++ t.cells)) (hf:Fr (ownS v) w w') (ht:VT w t):VOut B w' v' (lo ++ [t]):=by
 have hty:=ty_ownV h.own (by decide);refine ⟨?_,fun u hu=>?_⟩
 · rw [vbsL_app,List.length_append,List.length_singleton]
   simpa [vbsL] using ho
 · rcases List.mem_append.1 hu with h1 | h1
   · exact (h.each u h1).frT hf hty
   · simp at h1
     rw [h1];exact ht.frT hf hty
theorem VOut.frE {B g:Nat} {w w':World} {v:Value} {lo:List VB} (h:VOut B w v lo) (hf:Fr (fun b=>b=g) w w') {cs:Array Value} (hg:w.heap[g]?=some (.cells cs 74 (0,0))):VOut B w' v lo :=
 ⟨hf.own h.own (fun b hb e=>own_type h.own hg (by decide) (by rw [←e];exact hb)),fun t ht=>(h.each t ht).frT hf (tyU_of hg (by decide))⟩
structure XT (w:World) (x:XB):Prop where
 rd:Rd w 4 x.A x.n (vbsL x.l)
 len:x.l.length=x.n
 cap:x.n≤x.c
 each:∀ t ∈ x.l,VT w t
 cst:NTin w x.b
 typ:0<x.n→∃ b off cs m,x.A=some ⟨b,off,none⟩∧w.heap[b]?=some (.cells cs 78 m)
theorem XT.below {w w':World} {x:XB} (h:XT w x) (hb:Below w.heap.size w w'):XT w' x:=⟨h.rd.below hb,h.len,h.cap,fun t ht=>(h.each t ht).below hb,h.cst.below hb,fun h0=>by
 obtain ⟨b,off,cs,m,e,hx⟩:=h.typ h0
 exact ⟨b,off,cs,m,e,(hb.block b (Array.getElem?_eq_some_iff.1 hx).1).trans hx⟩⟩
theorem XT.fr {S:Nat→Prop} {w w':World} {x:XB} (h:XT w x) (hf:Fr S w w') (hS:∀ b,S b→∃ cs t m,w.heap[b]?=some (.cells cs t m)∧t≠125∧t≠78):XT w' x:=by
 have hU:∀ b,S b→∃ cs t m,w.heap[b]?=some (.cells cs t m)∧t≠125:=fun b hb=>by
  obtain ⟨cs,t,m,h1,h2,_⟩:=hS b hb;exact ⟨cs,t,m,h1,h2⟩
 have hno:∀ b off,x.A=some ⟨b,off,none⟩→0<x.n→¬ S b:=fun b off e h0 hs=>by
  obtain ⟨b',o',cs,m,e',hx⟩:=h.typ h0;rw [e] at e'
  injection e' with e'
  injection e' with e1 e2
  subst e1;obtain ⟨cs',t,m',hx',_,hne⟩:=hS b hs;rw [hx] at hx'
  injection hx' with hx'
  injection hx' with _ ht _
  exact hne ht.symm
 refine ⟨⟨h.rd.1,fun h0=>?_⟩,h.len,h.cap,fun t ht=>(h.each t ht).frT hf hU,h.cst.frT hf hU,fun h0=>?_⟩
 · obtain ⟨b,o,e,hc⟩:=h.rd.2 h0
   refine ⟨b,o,e,fun j u hu=>?_⟩;rw [hf.cell (p:=⟨b,o+j,none⟩) (World.block_lt_of_cell? w _ (hc j u hu)) (hno b o e h0)];exact hc j u hu
 · obtain ⟨b,o,cs,m,e,hx⟩:=h.typ h0
   exact ⟨b,o,cs,m,e,(hf.block b (Array.getElem?_eq_some_iff.1 hx).1 (hno b o e h0)).trans hx⟩
theorem XT.ok {w:World} {x:XB} (h:XT w x):x.ok w∧x.tiny:=⟨⟨⟨h.rd,h.len,h.cap,fun t ht=>⟨(h.each t ht).b.ok,(h.each t ht).v⟩⟩,h.cst.ok⟩,fun t ht=>(h.each t ht).b.tin,h.cst.tin⟩
theorem xt_of {B:Nat} {w:World} {v:Value} {lo:List VB} {b:NB} {op:Int} (h:VOut B w v lo) (hb:NTin w b):∃ A c,v=.slice A lo.length c∧XT w ⟨A,lo.length,c,lo,b,op⟩:=by
 obtain ⟨A,c,rfl,hc,hr⟩:=ownsRow_form h.own;refine ⟨A,c,rfl,hr,rfl,hc,h.each,hb,fun h0=>?_⟩;rcases h.own.2 with ⟨_,hx⟩ | ⟨g,cap,cur,hv,_,hx,_⟩
 · exact absurd h0 (by dsimp only;omega)
 · injection hv with h1 h2 h3
   exact ⟨g,0,cur,(0,0),h1,hx⟩
theorem xbsL_app (l m:List XB):xbsL (l ++ m)=xbsL l ++ xbsL m:=List.flatMap_append
theorem info_T:(Tryz.prog.info? 78).map (fun i=>(i.zero,i.size,i.bytes))=some (some (.agg #[.int .i64 0,.bool false,.slice none 0 0,.slice none 0 0]),4,64):=by kernel_rfl
theorem info_A9:(Tryz.prog.info? 74).map (fun i=>(i.zero,i.size,i.bytes))=some (some (.agg #[.slice none 0 0,.bool false,.slice none 0 0,.slice none 0 0,.int .i64 0]),5,88):=by kernel_rfl
theorem own_typL {w:World} {B n:Nat} {v:Value} {xs:List Value} (h:w.ownsRow B 74 5 v n xs):∀ b,ownS v b→∃ cs t m,w.heap[b]?=some (.cells cs t m)∧t≠125∧t≠78:=by
 intro b hb;rcases h.2 with ⟨rfl,_⟩ | ⟨g,cap,cur,rfl,_,hx,_⟩
 · simp [ownS,Value.ownBlock] at hb
 · have:g=b:=by simpa [ownS,Value.ownBlock] using hb
   subst this;exact ⟨cur,_,_,hx,by decide,by decide⟩
def LightP (w:World) (e:Ending) (w':World):Prop:=∃ (A:Option Addr) (n c:Nat) (l:List XB),e=.returned (.slice A n c)∧XsAt w' A n c l∧(∀ x ∈ l,x.tiny)∧Below w.heap.size w w'
set_option maxRecDepth 100000 in
set_option maxHeartbeats 8000000 in
theorem light_any (A:Option Addr) (n c:Nat) (l:List XB) (w:World) (h:XsAt w A n c l) (hbx:∀ x ∈ l,x.n*64≤140737488351232) :
 Calls Tryz.prog 9 #[.slice A n c] w fun r w'=>LightP w r w':=by
 have H:=Lib.hid h;have HBX:=Lib.hid hbx;obtain ⟨k0,hk',hk0,hk1,hk2⟩:=info_parts info_T;obtain ⟨i0,hi,hz0,hz1,hz2⟩:=info_parts info_A9;clear h hbx
 go_enter Tryz.func9,Tryz.ntmps9
 go_upto_region 2 with fail
 obtain ⟨w1,hw1⟩:∃ x,x=w.alloc (.cells #[] 74):=⟨_,rfl⟩
 rw [←hw1]
 go_wp2_with fail
 go_loopw [3,4] (fun v y wr=>∃ (i:Nat) (la:List XB),i≤n∧i≤40∧y=.int .i64 i∧wr.ownsRow w.heap.size 74 5 v la.length (xbsL la)∧la.length≤i∧(∀ a ∈ la,XT wr a)∧Below w.heap.size w wr) (fun _ x _=>n - (intOf x).toNat)
 case atStart =>
  refine ⟨0,[],Nat.zero_le _,Nat.zero_le _,by first | rfl | go_num,?_,Nat.le_refl _,by simp,?_⟩
  · rw [hw1]
    have:=World.ownsRow_lit (base:=w.heap.size) (e:=74) (size:=5) w #[] 0 (Nat.le_refl _) (by unfold maxLen;omega) rfl
    simpa [xbsL] using this
  · rw [hw1]
    exact (Below.refl _ _).alloc (Nat.le_refl _) _
 case round =>
  obtain ⟨i,la,hin,hi6,rfl,hown,hlen,heach,hb⟩:=hrel
  obtain ⟨w5,rfl⟩:∃ x,x=wr:=⟨_,rfl⟩
  by_cases hlt:i<n
  · by_cases h6:i<40
    · obtain ⟨g3,of3,x,ea,hxi,y0,y1,y2,y3,y4⟩:=(H.out.below hb).rd.atX H.out.len hlt
      subst ea;have hmx:=List.mem_of_getElem? hxi;have hok:=(H.out.below hb).each x hmx
      have hcs:∀ W',Below w5.heap.size w5 W'→W'.cell? ⟨g3,of3+i*5,none⟩=some (.slice x.A x.n x.c)∧W'.cell? ⟨g3,of3+i*5+1,none⟩=some (.bool x.b.s)∧W'.cell? ⟨g3,of3+i*5+2,none⟩=some (.slice x.b.A x.b.n x.b.c)∧W'.cell? ⟨g3,of3+i*5+3,none⟩=some (.slice x.b.A2 x.b.n2 x.b.c2)∧W'.cell? ⟨g3,of3+i*5+4,none⟩=some (.int .i64 x.op):=fun W' hb'=>by
       have k1:∀ {g i:Nat} {u:Value},w5.cell? ⟨g,i,none⟩=some u→W'.cell? ⟨g,i,none⟩=some u:=fun {g i u} e=>(hb'.cell (p:=⟨g,i,none⟩) (World.block_lt_of_cell? w5 _ e)).trans e
       exact ⟨k1 y0,k1 y1,k1 y2,k1 y3,k1 y4⟩
      have htn:=fun W (hW:Below w5.heap.size w5 W)=>tiny_any x.b.s (hok.2.1.below hW) (hok.2.2.below hW)
      have b0:(0:Int)≤(i:Int):=by omega
      have b1:(i:Int)<(n:Int):=by omega
      have hxn:=HBX.out x hmx;have HCX:=Lib.hid hcs;have HTN:=Lib.hid htn;have HOK:=Lib.hid hok;have HXN:=Lib.hid hxn
      have hxnb:x.n≤2199023255552:=by omega
      have HOW:=Lib.hid (And.intro hown (And.intro heach (And.intro hb hlen)));clear hcs htn hok hxn hown heach hb hlen hmx hxi
      go_upto_region 5 with fail
      go_cut [5] (fun y wx=>∃ (g5:Nat) (b5:NB),y=.pointer (some ⟨g5,0,none⟩)∧w5.heap.size≤g5∧b5.s=x.b.s∧wx.heap[g5]?=some (.cells #[.slice none 0 0,.bool x.b.s,.slice b5.A b5.n b5.c,.slice b5.A2 b5.n2 b5.c2,.int .i64 x.op] 74 (0,0))∧NTin wx b5∧Below w5.heap.size w5 wx)
      case first =>
       have HCS:=Lib.hid (fun W' hb=>HCX.out W' hb);have kb:Below w5.heap.size w5 w5.drew:=below_drew2 (Below.refl _ _);have hS:=HCX.out w5.drew kb;refine wp_region_E 15 (fun W'=>W'.cell? ⟨g3,of3+i*5,none⟩=some (.slice x.A x.n x.c)∧W'.cell? ⟨g3,of3+i*5+1,none⟩=some (.bool x.b.s)∧W'.cell? ⟨g3,of3+i*5+2,none⟩=some (.slice x.b.A x.b.n x.b.c)∧W'.cell? ⟨g3,of3+i*5+3,none⟩=some (.slice x.b.A2 x.b.n2 x.b.c2)∧W'.cell? ⟨g3,of3+i*5+4,none⟩=some (.int .i64 x.op)) (by kernel_rfl) ?_;generalize w5.drew=w8 at kb hS ⊢;clear y0 y1 y2 y3 y4 HCX HOK HOW;refine tkE 0 hS ?_;simp only [Act.put,sA,sZ,sS];refine tkE 1 hS ?_;simp only [Act.put,sA,sZ,sS];refine tkE 2 hS ?_;simp only [Act.put,sA,sZ,sS];refine tkE 3 hS ?_;simp only [Act.put,sA,sZ,sS];refine tkE 4 hS ?_;simp only [Act.put,sA,sZ,sS];refine tkE 5 hS ?_;simp only [Act.put,sA,sZ,sS];refine tkE 6 hS ?_;simp only [Act.put,sA,sZ,sS];refine tkE 7 hS ?_;simp only [Act.put,sA,sZ,sS];refine tkE 8 hS ?_;simp only [Act.put,sA,sZ,sS];refine tkE 9 hS ?_;simp only [Act.put,sA,sZ,sS];refine tkE 10 hS ?_;simp only [Act.put,sA,sZ,sS];refine wpAnyE_two (i:=11) (j:=14) (by kernel_rfl) rfl rfl (fun KK hKK=>?_) (fun KK hKK=>?_)
       · have HKK11:=Lib.hid hKK
         clear hKK;go_simp
         go_at_call 27
         refine (HTN.out _ kb).mono ?_;rintro e u1 ⟨b1,hb1s,rfl,hn1,hb1⟩;have hS:=HCS.out u1 (kb.trans (hb1.mono kb.size));replace kb:=kb.trans (hb1.mono kb.size);clear hb1;refine HKK11.out _ _ (.inr hS) ?_;clear HKK11
         try simp only [Act.put,sA,sZ,sS]
         refine tkE 12 hS ?_;simp only [Act.put,sA,sZ,sS];refine tkE 13 hS ?_;simp only [Act.put,sA,sZ,sS]
         refine onE 14 fun KK HKK14=>?_
         go_simp;have hxg:=heap_alloc_new u1 (.cells #[.slice none 0 0,.bool false,.slice none 0 0,.slice none 0 0,.int .i64 0] 74);have hal:=(Below.refl u1.heap.size u1).alloc (Nat.le_refl _) (.cells #[.slice none 0 0,.bool false,.slice none 0 0,.slice none 0 0,.int .i64 0] 74);have hgl:=kb.size
         obtain ⟨g5,hg⟩:∃ x0,x0=u1.heap.size:=⟨_,rfl⟩
         rw [←hg] at hxg hgl ⊢
         obtain ⟨ua,hua⟩:∃ x0,x0=u1.alloc (.cells #[.slice none 0 0,.bool false,.slice none 0 0,.slice none 0 0,.int .i64 0] 74):=⟨_,rfl⟩
         rw [←hua] at hxg hal ⊢;clear hg hua;replace hn1:=hn1.below hal;have hS:=HCS.out ua (kb.trans (hal.mono kb.size));replace kb:=kb.trans (hal.mono kb.size);clear hal;refine HKK14.out _ _ (.inr hS) ?_;clear HKK14
         try simp only [Act.put,sA,sZ,sS]
         obtain ⟨p0,p1,p2,p3,p4⟩:=bx5 hxg;have z0:=frozen_of_blk hxg 0;have z1:=frozen_of_blk hxg 1;have z2:=frozen_of_blk hxg 2;have z3:=frozen_of_blk hxg 3;have z4:=frozen_of_blk hxg 4;have HXG:=Lib.hid hxg;have HN1:=Lib.hid (And.intro hn1 hb1s);have HKB:=Lib.hid (And.intro kb hgl);clear hS hxg hn1 hb1s kb hgl
         refine onE 15 fun KK HKK15=>?_
         go_simp;refine HKK15.out _ _ (.inl rfl) ?_;clear HKK15;refine wpAnyE_done (by kernel_rfl) ?_ _
         go_wp2_with fail
         go_meet;have hfr:Fr (fun b=>b=g5) ua ((((((ua.setCell ⟨g5,0,none⟩ (.slice none 0 0)).setCell ⟨g5,1,none⟩ (.bool x.b.s)).setCell ⟨g5,2,none⟩ (.slice b1.A b1.n b1.c)).setCell ⟨g5,3,none⟩ (.slice b1.A2 b1.n2 b1.c2)).setCell ⟨g5,4,none⟩ (.int .i64 x.op))):=fr_set (fr_set (fr_set (fr_set (fr_set (Fr.refl _ _) (.inl rfl)) (.inl rfl)) (.inl rfl)) (.inl rfl)) (.inl rfl);refine ⟨g5,b1,rfl,HKB.out.2,HN1.out.2,?_,HN1.out.1.frT hfr (tyU_of HXG.out (by decide)),?_⟩
         · exact set_blk (set_blk (set_blk (set_blk (set_blk HXG.out 0 (.slice none 0 0)) 1 (.bool x.b.s)) 2 (.slice b1.A b1.n b1.c)) 3 (.slice b1.A2 b1.n2 b1.c2)) 4 (.int .i64 x.op)
         · exact bl_set (bl_set (bl_set (bl_set (bl_set HKB.out.1 HKB.out.2) HKB.out.2) HKB.out.2) HKB.out.2) HKB.out.2
       · have HKK14:=Lib.hid hKK
         clear hKK;go_simp;have hxg:=heap_alloc_new w8 (.cells #[.slice none 0 0,.bool false,.slice none 0 0,.slice none 0 0,.int .i64 0] 74);have hal:=(Below.refl w8.heap.size w8).alloc (Nat.le_refl _) (.cells #[.slice none 0 0,.bool false,.slice none 0 0,.slice none 0 0,.int .i64 0] 74);have hgl:=kb.size
         obtain ⟨g5,hg⟩:∃ x0,x0=w8.heap.size:=⟨_,rfl⟩
         rw [←hg] at hxg hgl ⊢
         obtain ⟨ua,hua⟩:∃ x0,x0=w8.alloc (.cells #[.slice none 0 0,.bool false,.slice none 0 0,.slice none 0 0,.int .i64 0] 74):=⟨_,rfl⟩
         rw [←hua] at hxg hal ⊢;clear hg hua;have hS:=HCS.out ua (kb.trans (hal.mono kb.size));replace kb:=kb.trans (hal.mono kb.size);clear hal;refine HKK14.out _ _ (.inr hS) ?_;clear HKK14
         try simp only [Act.put,sA,sZ,sS]
         refine onE 11 fun KK HKK11=>?_
         go_simp
         go_at_call 27
         refine (HTN.out _ kb).mono ?_;rintro e u1 ⟨b1,hb1s,rfl,hn1,hb1⟩;replace hxg:=box_keep hxg hb1;have hS:=HCS.out u1 (kb.trans (hb1.mono kb.size));replace kb:=kb.trans (hb1.mono kb.size);clear hb1;refine HKK11.out _ _ (.inr hS) ?_;clear HKK11
         try simp only [Act.put,sA,sZ,sS]
         refine tkE 12 hS ?_;simp only [Act.put,sA,sZ,sS];refine tkE 13 hS ?_;simp only [Act.put,sA,sZ,sS];obtain ⟨p0,p1,p2,p3,p4⟩:=bx5 hxg;have z0:=frozen_of_blk hxg 0;have z1:=frozen_of_blk hxg 1;have z2:=frozen_of_blk hxg 2;have z3:=frozen_of_blk hxg 3;have z4:=frozen_of_blk hxg 4;have HXG:=Lib.hid hxg;have HN1:=Lib.hid (And.intro hn1 hb1s);have HKB:=Lib.hid (And.intro kb hgl);clear hS hxg hn1 hb1s kb hgl
         refine onE 15 fun KK HKK15=>?_
         go_simp;refine HKK15.out _ _ (.inl rfl) ?_;clear HKK15;refine wpAnyE_done (by kernel_rfl) ?_ _
         go_wp2_with fail
         go_meet;have hfr:Fr (fun b=>b=g5) u1 ((((((u1.setCell ⟨g5,0,none⟩ (.slice none 0 0)).setCell ⟨g5,1,none⟩ (.bool x.b.s)).setCell ⟨g5,2,none⟩ (.slice b1.A b1.n b1.c)).setCell ⟨g5,3,none⟩ (.slice b1.A2 b1.n2 b1.c2)).setCell ⟨g5,4,none⟩ (.int .i64 x.op))):=fr_set (fr_set (fr_set (fr_set (fr_set (Fr.refl _ _) (.inl rfl)) (.inl rfl)) (.inl rfl)) (.inl rfl)) (.inl rfl);refine ⟨g5,b1,rfl,HKB.out.2,HN1.out.2,?_,HN1.out.1.frT hfr (tyU_of HXG.out (by decide)),?_⟩
         · exact set_blk (set_blk (set_blk (set_blk (set_blk HXG.out 0 (.slice none 0 0)) 1 (.bool x.b.s)) 2 (.slice b1.A b1.n b1.c)) 3 (.slice b1.A2 b1.n2 b1.c2)) 4 (.int .i64 x.op)
         · exact bl_set (bl_set (bl_set (bl_set (bl_set HKB.out.1 HKB.out.2) HKB.out.2) HKB.out.2) HKB.out.2) HKB.out.2
      case rest =>
      obtain ⟨g5,b5,rfl,hg5,hs5,hx5,hn5,hb5⟩:=hcut
      obtain ⟨w6,rfl⟩:∃ x0,x0=wc:=⟨_,rfl⟩
      obtain ⟨x0,x1,x2,x3,x4⟩:=HCX.out w6 hb5
      obtain ⟨xA,hxA⟩:∃ a,a=x.A:=⟨_,rfl⟩
      rw [←hxA] at x0;have HXA:=Lib.hid hxA;clear hxA;have H5:=Lib.hid (And.intro hg5 (And.intro hs5 (And.intro hx5 (And.intro hn5 hb5))));clear hg5 hs5 hx5 hn5 hb5 HTN HCX y0 y1 y2 y3 y4
      go_wp2_with fail
      clear x0 x1 x2 x3 x4
      go_loopw [40] (fun y wr=>∃ (j:Nat) (lo:List VB) (A':Option Addr) (c':Nat),j≤x.n∧y=.int .i64 j∧wr.heap[g5]?=some (.cells #[.slice A' lo.length c',.bool x.b.s,.slice b5.A b5.n b5.c,.slice b5.A2 b5.n2 b5.c2,.int .i64 x.op] 74 (0,0))∧VOut w6.heap.size wr (.slice A' lo.length c') lo∧lo.length=j∧Fr (fun b=>b=g5) w6 wr) (fun y _=>x.n - (intOf y).toNat)
      case atStart=>exact ⟨0,[],none,0,Nat.zero_le _,by first | rfl | go_num,H5.out.2.2.1,⟨World.ownsRow_nil _ _ _ _,by simp⟩,rfl,Fr.refl _ _⟩
      case round =>
       obtain ⟨j,lo,A',c',hjn,rfl,hxg,hvo,hll,hfw⟩:=hrel
       obtain ⟨w7,rfl⟩:∃ x,x=wr:=⟨_,rfl⟩
       have hbw:Below w5.heap.size w5 w7:=H5.out.2.2.2.2.trans (hfw.below H5.out.2.2.2.2.size (fun b hb=>by rw [hb];exact H5.out.1))
       by_cases hlt2:j<x.n
       · obtain ⟨gT,oT,t,ea,hti,y0,y1,y2,y3⟩:=(HOK.out.1.below hbw).rd.atV HOK.out.1.len hlt2
         have hvk:=(HOK.out.1.below hbw).each t (List.mem_of_getElem? hti)
         have c1:(0:Int)≤(j:Int):=by omega
         have c2:(j:Int)<(x.n:Int):=by omega
         have HEA:=Lib.hid ea;have HBY:=Lib.hid (show (lo.length+1)*64≤140737488355328 by have:=HXN.out;omega);have HVK:=Lib.hid hvk;have HXG:=Lib.hid hxg;have HVO7:=Lib.hid hvo;have HLL:=Lib.hid hll;have HFW:=Lib.hid hfw;clear ea hti hvk hxg hvo hll hfw hbw;have e2:=HXA.out.trans HEA.out;subst e2
         go_upto_region 9 with fail
         have hx7:=heap_alloc_new w7 (.cells #[.int .i64 t.v,.bool t.b.s,.slice t.b.A t.b.n t.b.c,.slice t.b.A2 t.b.n2 t.b.c2] 78)
         have zw8:(w7.alloc (.cells #[.int .i64 t.v,.bool t.b.s,.slice t.b.A t.b.n t.b.c,.slice t.b.A2 t.b.n2 t.b.c2] 78)).heap.size=w7.heap.size+1:=by simp
         have aw8:=(Below.refl w7.heap.size w7).alloc (Nat.le_refl _) (.cells #[.int .i64 t.v,.bool t.b.s,.slice t.b.A t.b.n t.b.c,.slice t.b.A2 t.b.n2 t.b.c2] 78)
         obtain ⟨w8,ew8⟩:∃ x0,x0=w7.alloc (.cells #[.int .i64 t.v,.bool t.b.s,.slice t.b.A t.b.n t.b.c,.slice t.b.A2 t.b.n2 t.b.c2] 78):=⟨_,rfl⟩
         rw [←ew8] at hx7 zw8 aw8 ⊢;clear ew8
         obtain ⟨g7,hg7⟩:∃ x0,x0=w7.heap.size:=⟨_,rfl⟩
         rw [←hg7] at hx7 ⊢;have hvo:=HVO7.out.below aw8;have hxg:=box_keep HXG.out aw8
         have hcs:∀ W',Fr (ownS (.slice A' lo.length c')) w8 W'→W'.cell? ⟨g5,0,none⟩=some (.slice A' lo.length c')∧W'.cell? ⟨g7,0,none⟩=some (.int .i64 t.v)∧W'.cell? ⟨g7,1,none⟩=some (.bool t.b.s)∧W'.cell? ⟨g7,2,none⟩=some (.slice t.b.A t.b.n t.b.c)∧W'.cell? ⟨g7,3,none⟩=some (.slice t.b.A2 t.b.n2 t.b.c2):=fun W' hW=>by
          have e1:=(hW.block g5 (lt_of_blk hxg) (fun hh=>own_type hvo.own hxg (by decide) hh)).trans hxg
          have hn7:¬ ownS (.slice A' lo.length c') g7:=fun hh=>by
           have h1:=(own_lt HVO7.out.own hh).2;omega
          have e2:=(hW.block g7 (lt_of_blk hx7) hn7).trans hx7;exact ⟨cell_of_blk e1 0,cell_of_blk e2 0,cell_of_blk e2 1,cell_of_blk e2 2,cell_of_blk e2 3⟩
         have htn:=fun W (hW:Below w8.heap.size w8 W)=>tiny_any t.b.s ((HVK.out.1.1.below aw8).below hW) ((HVK.out.1.2.below aw8).below hW)
         have hsz:∀ W,Below w8.heap.size w8 W→w6.heap.size≤W.heap.size:=fun W hW=>Nat.le_trans (Nat.le_trans HFW.out.size aw8.size) hW.size
         have kb:Below w8.heap.size w8 w8.drew:=below_drew2 (Below.refl _ _);have hS:=hcs w8.drew (Fr.refl _ _).drew;have HVO:=Lib.hid hvo;have HX:=Lib.hid hxg;have HCS:=Lib.hid hcs;have HTN:=Lib.hid htn;have HSZ:=Lib.hid hsz;have HVV:=Lib.hid HVK.out.2;have HBW:=Lib.hid aw8;clear hvo hxg hcs htn hsz hx7 aw8 zw8 hg7 y0 y1 y2 y3 HVK HXG HVO7 HEA;refine wp_region_F 13 13 (fun b W'=>W'.cell? ⟨g5,0,none⟩=some (.slice A' lo.length c')∧W'.cell? ⟨g7,0,none⟩=some (.int .i64 t.v)∧W'.cell? ⟨g7,1,none⟩=some (.bool t.b.s)∧W'.cell? ⟨g7,2,none⟩=some (.slice t.b.A t.b.n t.b.c)∧W'.cell? ⟨g7,3,none⟩=some (.slice t.b.A2 t.b.n2 t.b.c2)) (by kernel_rfl) ?_;generalize w8.drew=w10 at kb hS ⊢;refine tkF 0 ?_ ?hy0 hS ?rest0
         case hy0=>(intro w hSw;obtain ⟨_,hSw⟩:=hSw;(try dsimp only at hSw);go_simp<;>with_reducible rfl)
         case rest0 =>
         simp only [Act.put,sA,sZ,sS];refine tkF 1 ?_ ?hy1 hS ?rest1
         case hy1=>(intro w hSw;obtain ⟨_,hSw⟩:=hSw;(try dsimp only at hSw);go_simp<;>with_reducible rfl)
         case rest1 =>
         simp only [Act.put,sA,sZ,sS];refine tkF 2 ?_ ?hy2 hS ?rest2
         case hy2=>(intro w hSw;obtain ⟨_,hSw⟩:=hSw;(try dsimp only at hSw);go_simp<;>with_reducible rfl)
         case rest2 =>
         simp only [Act.put,sA,sZ,sS];refine tkF 3 ?_ ?hy3 hS ?rest3
         case hy3=>(intro w hSw;obtain ⟨_,hSw⟩:=hSw;(try dsimp only at hSw);go_simp<;>with_reducible rfl)
         case rest3 =>
         simp only [Act.put,sA,sZ,sS];refine tkF 4 ?_ ?hy4 hS ?rest4
         case hy4=>(intro w hSw;obtain ⟨_,hSw⟩:=hSw;(try dsimp only at hSw);go_simp<;>with_reducible rfl)
         case rest4 =>
         simp only [Act.put,sA,sZ,sS];refine tkF 5 ?_ ?hy5 hS ?rest5
         case hy5=>(intro w hSw;obtain ⟨_,hSw⟩:=hSw;(try dsimp only at hSw);go_simp<;>with_reducible rfl)
         case rest5 =>
         simp only [Act.put,sA,sZ,sS];refine tkF 6 ?_ ?hy6 hS ?rest6
         case hy6=>(intro w hSw;obtain ⟨_,hSw⟩:=hSw;(try dsimp only at hSw);go_simp<;>with_reducible rfl)
         case rest6 =>
         simp only [Act.put,sA,sZ,sS];refine wpAnyF_one (i:=7) (b:=false) (by kernel_rfl) rfl (by rfl) (fun KK hKK=>?_);have HKK7:=Lib.hid hKK;clear hKK;go_simp
         go_at_call 27
         refine (HTN.out _ kb).mono ?_;rintro e u1 ⟨b1,hb1s,rfl,hn1,hb1⟩;replace kb:=kb.trans (hb1.mono kb.size);clear hS;have hS:=HCS.out u1 (Fr.of_below kb);clear hb1;refine HKK7.out _ _ (.inr hS) ?_;clear HKK7
         try simp only [Act.put,sA,sZ,sS]
         refine wpAnyF_one (i:=8) (b:=false) (by kernel_rfl) rfl (by rfl) (fun KK hKK=>?_);have HKK8:=Lib.hid hKK;clear hKK;go_simp;refine HKK8.out _ _ (.inr hS) ?_;clear HKK8
         try simp only [Act.put,sA,sZ,sS]
         refine wpAnyF_one (i:=9) (b:=false) (by kernel_rfl) rfl (by rfl) (fun KK hKK=>?_);have HKK9:=Lib.hid hKK;clear hKK;go_simp;have hal:=(Below.refl u1.heap.size u1).alloc (Nat.le_refl _) (.cells #[.int .i64 t.v,.bool t.b.s,.slice b1.A b1.n b1.c,.slice b1.A2 b1.n2 b1.c2] 78);have hy:=heap_alloc_new u1 (.cells #[.int .i64 t.v,.bool t.b.s,.slice b1.A b1.n b1.c,.slice b1.A2 b1.n2 b1.c2] 78)
         obtain ⟨gy,hg⟩:∃ x0,x0=u1.heap.size:=⟨_,rfl⟩
         obtain ⟨u2,hu⟩:∃ x0,x0=u1.alloc (.cells #[.int .i64 t.v,.bool t.b.s,.slice b1.A b1.n b1.c,.slice b1.A2 b1.n2 b1.c2] 78):=⟨_,rfl⟩
         rw [←hg] at hy ⊢;rw [←hu] at hy hal ⊢;clear hg hu;replace hn1:=hn1.below hal;replace kb:=kb.trans (hal.mono kb.size);clear hal hS;have hS:=HCS.out u2 (Fr.of_below kb);refine HKK9.out _ _ (.inr hS) ?_;clear HKK9
         try simp only [Act.put,sA,sZ,sS]
         refine wpAnyF_one (i:=10) (b:=false) (by kernel_rfl) rfl (by rfl) (fun KK hKK=>?_);have HKK10:=Lib.hid hKK;clear hKK;have hvo:=HVO.out.below kb;refine stepRn w6.heap.size u2 4 78 rfl _ _ 68 rfl k0 _ 64 Tryz.underlying68 hk' hk0 hk1 hk2 rfl (by decide) (by decide) (.slice A' lo.length c') lo.length (vbsL lo) rfl (HSZ.out u2 kb) hvo.own _ 1 1 [.int .i64 t.v,.bool t.b.s,.slice b1.A b1.n b1.c,.slice b1.A2 b1.n2 b1.c2] rfl (rd_of_blk hy rfl) (four_one _ _ _ _ _ _ _ _) HBY.out ?_;intro v9 w9 ho9 hf9 hk9;obtain ⟨A9,c9,rfl,_⟩:=ownsRow_form ho9
         have hvt:VT u2 ⟨t.v,b1⟩:=⟨hn1,HVV.out⟩
         have hvo9:=hvo.app (t:=⟨t.v,b1⟩) (by unfold VB.cells;dsimp only;rw [hb1s];exact ho9) hf9 hvt;have hf89:=(Fr.of_below (S:=ownS (.slice A' lo.length c')) kb).trans hf9 (fun b hb=>.inl hb);clear hS;have hS:=HCS.out w9 hf89;have HVO9:=Lib.hid hvo9;have HF9:=Lib.hid hf89;have HF99:=Lib.hid (And.intro kb hf9);clear hvo ho9 hf9 hk9 hvt hvo9 hf89 hy hn1 kb hb1s;refine HKK10.out _ _ (.inr hS) ?_;clear HKK10
         try simp only [Act.put,sA,sZ,sS]
         refine wpAnyF_one (i:=11) (b:=false) (by kernel_rfl) rfl (by rfl) (fun KK hKK=>?_);have HKK11:=Lib.hid hKK;clear hKK;go_simp;refine HKK11.out _ _ (.inr hS) ?_;clear HKK11
         try simp only [Act.put,sA,sZ,sS]
         refine wpAnyF_one (i:=12) (b:=false) (by kernel_rfl) rfl (by rfl) (fun KK hKK=>?_);have HKK12:=Lib.hid hKK;clear hKK;go_simp;refine HKK12.out _ _ (.inr hS) ?_;clear HKK12
         try simp only [Act.put,sA,sZ,sS]
         have hx9:=(HF9.out.block g5 (lt_of_blk HX.out) (fun hh=>own_type HVO.out.own HX.out (by decide) hh)).trans HX.out;have p0:=cell_of_blk hx9 0;have z0:=frozen_of_blk hx9 0;have HX9:=Lib.hid hx9;clear hx9 hS;refine wpAnyF_one (i:=13) (b:=true) (by kernel_rfl) rfl (by rfl) (fun KK hKK=>?_);have HKK13:=Lib.hid hKK;clear hKK;go_simp;refine HKK13.out _ _ (.inl rfl) ?_;clear HKK13;refine wpAnyF_done (by kernel_rfl) ?_ _
         go_wp2_with fail
         go_roundw
         case rel =>
          refine ⟨j+1,lo ++ [⟨t.v,b1⟩],A9,c9,by omega,by go_num,?_,?_,by rw [List.length_append,List.length_singleton,HLL.out],fr_set ((HFW.out.trans (Fr.of_below (S:=fun b=>b=g5) (HBW.out.trans (HF99.out.1.mono HBW.out.size))) (fun b hb=>.inl hb)).trans HF99.out.2 (fun b hb=>.inr (own_lt HVO.out.own hb).1)) (.inl rfl)⟩
          · rw [List.length_append,List.length_singleton]
            exact set_blk HX9.out 0 _
          · rw [List.length_append,List.length_singleton]
            have hfs:Fr (fun b=>b=g5) w9 (w9.setCell ⟨g5,0,none⟩ (.slice A9 (lo.length+1) c9)):=fr_set (Fr.refl _ _) (.inl rfl);exact HVO9.out.frE hfs HX9.out
         case measure=>simp [intOf];omega
       · have hjx:j=x.n:=by omega
         have hlt3:¬ (j<x.n):=hlt2;obtain ⟨Ae,ce,ee,hxt⟩:=xt_of (op:=x.op) hvo (H5.out.2.2.2.1.frT hfw (tyU_of H5.out.2.2.1 (by decide)))
         injection ee with e1 _ e3
         subst e1;subst e3;obtain ⟨p0,p1,p2,p3,p4⟩:=bx5 hxg;have hal:=(Below.refl w7.heap.size w7).alloc (Nat.le_refl _) (.cells #[.slice A' lo.length c',.bool x.b.s,.slice b5.A b5.n b5.c,.slice b5.A2 b5.n2 b5.c2,.int .i64 x.op] 74);have hown8:=own_below HOW.out.1 (hbw.trans (hal.mono hbw.size));have hbel8:=HOW.out.2.2.1.trans ((hbw.trans (hal.mono hbw.size)).mono HOW.out.2.2.1.size);have HRD:=Lib.hid (rd_of_blk (heap_alloc_new w7 (.cells #[.slice A' lo.length c',.bool x.b.s,.slice b5.A b5.n b5.c,.slice b5.A2 b5.n2 b5.c2,.int .i64 x.op] 74)) (by rfl:(#[.slice A' lo.length c',.bool x.b.s,.slice b5.A b5.n b5.c,.slice b5.A2 b5.n2 b5.c2,.int .i64 x.op]:Array Value).size=5));have HN8:=Lib.hid (And.intro (hxt.below hal) (And.intro (fun a ha=>((HOW.out.2.1 a ha).below hbw).below hal) hown8));have HO8:=Lib.hid (And.intro hown8 hbel8);have HLB:=Lib.hid (show (la.length+1)*88≤140737488355328 by have:=HOW.out.2.2.2;omega);clear hxg hvo hll hfw hbw hal hown8 hbel8 hxt hjx hlt2 hjn
         go_wp2_with (at_builtin;refine appRn w.heap.size w _ 5 74 rfl _ _ 22 rfl i0 _ 88 Tryz.underlying22 hi hz0 hz1 hz2 rfl (by decide) (by decide) _ la.length (xbsL la) rfl (Nat.le_refl _) HO8.out.1 HO8.out.2 _ 1 1 [.slice A' lo.length c',.bool x.b.s,.slice b5.A b5.n b5.c,.slice b5.A2 b5.n2 b5.c2,.int .i64 x.op] rfl HRD.out (five_one _ _ _ _ _ _ _ _ _ _ _) HLB.out ?_;intro v8 w8 hown8 hbel8 hg8)
         go_roundw
         case rel =>
          have hf:=Fr.of_grown (S:=ownS u3) hg8 (fun k hk=>.inl hk);have hty:=own_typL HN8.out.2.2;refine ⟨i+1,la ++ [⟨A',lo.length,c',lo,b5,x.op⟩],by omega,by omega,by go_num,?_,by have:=HOW.out.2.2.2;simp;omega,?_,hbel8⟩
          · rw [xbsL_app,List.length_append,List.length_singleton]
            have e:xbsL [(⟨A',lo.length,c',lo,b5,x.op⟩:XB)]=[.slice A' lo.length c',.bool x.b.s,.slice b5.A b5.n b5.c,.slice b5.A2 b5.n2 b5.c2,.int .i64 x.op]:=by
             rw [xbsL_cons];unfold XB.cells xbsL;rw [H5.out.2.1]
             rfl
            rw [e];exact hown8
          · intro a ha
            rcases List.mem_append.1 ha with h1 | h1
            · exact (HN8.out.2.1 a h1).fr hf hty
            · simp at h1
              subst h1;exact HN8.out.1.fr hf hty
         case measure=>simp [intOf];omega
    · have h6':¬ ((i:Int)<40):=by omega
      obtain ⟨Ax,cx,rfl,hc,hr⟩:=ownsRow_form hown;have HP:=Lib.hid (XsAt.mk hr rfl hc (fun x hx=>(heach x hx).ok.1));have HT9:=Lib.hid (fun x hx=>(heach x hx).ok.2);have HB:=Lib.hid hb;clear hown heach hb hr hc
      go_wp2_with fail
      go_ret;exact ⟨Ax,la.length,cx,la,rfl,HP.out,HT9.out,HB.out⟩
  · skip
    obtain ⟨Ax,cx,rfl,hc,hr⟩:=ownsRow_form hown;have HP:=Lib.hid (XsAt.mk hr rfl hc (fun x hx=>(heach x hx).ok.1));have HT9:=Lib.hid (fun x hx=>(heach x hx).ok.2);have HB:=Lib.hid hb;clear hown heach hb hr hc
    go_wp2_with fail
    go_ret;exact ⟨Ax,la.length,cx,la,rfl,HP.out,HT9.out,HB.out⟩
end Go.Proofs.YtdefcbfofonabaaGreat
