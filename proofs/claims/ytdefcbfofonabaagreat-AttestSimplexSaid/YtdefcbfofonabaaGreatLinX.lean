/- Contracts of lin.Canon, Add, Scale, Var by what an expression in its one form means. -/
import Derived.Test.YtdefcbfofonabaaGreatLinAdd
import Derived.Test.YtdefcbfofonabaaGreatLawBot9
namespace Go.Proofs.YtdefcbfofonabaaGreat
open Go.RowKit
set_option linter.unusedVariables false
set_option linter.unusedSimpArgs false
structure ExC (w:World) (e:EB) (l:List TB) (q:Rat) (k:Nat):Prop where
 tms:TmsAt w e.A e.n e.c l k
 cst:RatAt w e.b q
 le:RatLe q k
 can:Cano (tmsOf l)
theorem ExC.below {w w':World} {e:EB} {l:List TB} {q:Rat} {k:Nat} (h:ExC w e l q k) (hb:Below w.heap.size w w'):ExC w' e l q k:=⟨h.tms.below hb,h.cst.below hb,h.le,h.can⟩
def XcP (w:World) (f:Int→Rat) (q:Rat) (k:Nat) (r:Ending) (w':World):Prop :=
 ∃ (e:EB) (l:List TB),r=.returned (e.val (ratNeg q))∧ExC w' e l q k∧(∀ v,coT (tmsOf l) v=f v)∧Below w.heap.size w w'
theorem tms_le {w:World} {A:Option Addr} {n c k k':Nat} {l:List TB} (h:TmsAt w A n c l k) (hle:∀ t ∈ l,RatLe t.2.2 k'):TmsAt w A n c l k' :=
 ⟨h.rd,h.len,h.cap,fun t ht=>⟨(h.each t ht).1,hle t ht,(h.each t ht).2.2⟩,h.typ⟩
theorem exc_of {w:World} {A:Option Addr} {n c K k:Nat} {b:RB} {l' ls:List TB} {q:Rat} {f:Int→Rat} (hsr:SrtV (tmsOf ls)) (hg:tmsOf l'=grp (tmsOf ls)) (hco:∀ v,coT (tmsOf ls) v=f v) (ht:TmsAt w A n c l' K) (hr:RatAt w b q) (hq:RatLe q k) (hf:∀ v,RatLe (f v) k) :
 ExC w ⟨A,n,c,b⟩ l' q k∧∀ v,coT (tmsOf l') v=f v:=by
 have hc:=cano_grp hsr;rw [←hg] at hc
 have he:∀ v,coT (tmsOf l') v=f v:=fun v=>by rw [hg,coT_grp,hco]
 refine ⟨⟨tms_le ht fun t htl=>?_,hr,hq,hc⟩,he⟩;have:=cano_co hc.inc t.2 (List.mem_map.2 ⟨t,htl,rfl⟩);rw [←this,he];exact hf _
theorem canonX (e:EB) (l:List TB) (q:Rat) (k kc:Nat) (w:World) (h:TmsAt w e.A e.n e.c l k) (hr:RatAt w e.b q) (hq:RatLe q kc) (hn:e.n≤19) (hk:k≤30000) (hf:∀ v,RatLe (coT (tmsOf l) v) kc) :
 Calls Tryz.prog 23 #[e.val (ratNeg q)] w fun r w'=>∃ (e':EB) (l':List TB),e'.b=e.b∧r=.returned (e'.val (ratNeg q))∧ExC w' e' l' q kc∧(∀ v,coT (tmsOf l') v=coT (tmsOf l) v)∧Below w.heap.size w w':=by
 refine (canon_any e.A e.n e.c e.b l q k w h hn hk).mono ?_;rintro r w' ⟨A',n',c',l',ls,rfl,hp,hsr,hg,ht,hn',hb⟩;obtain ⟨h1,h2⟩:=exc_of (f:=coT (tmsOf l)) hsr hg (fun v=>coT_perm (hp.map _) v) ht (hr.below hb) hq hf;exact ⟨⟨A',n',c',e.b⟩,l',rfl,rfl,h1,h2,hb⟩
theorem scaleX (br:RB) (r:Rat) (e:EB) (l:List TB) (q:Rat) (kr k kc:Nat) (w:World) (hrr:RatAt w br r) (hrl:RatLe r kr) (h:TmsAt w e.A e.n e.c l k) (hr:RatAt w e.b q) (hq:RatLe q k) (hn:e.n≤19) (hk:kr+k≤30000) (hqc:RatLe (r*q) kc) (hf:∀ v,RatLe (r*coT (tmsOf l) v) kc) :
 Calls Tryz.prog 6 #[br.val (ratNeg r),e.val (ratNeg q)] w fun x w'=>XcP w (fun v=>r*coT (tmsOf l) v) (r*q) kc x w':=by
 refine (scale_any br r e.A e.n e.c e.b l q kr k w hrr hrl h hr hq hn hk).mono ?_;rintro x w' ⟨l2,h2,A',n',c',b',l',ls,rfl,hp,hsr,hg,ht,hr',hq',hn',hb⟩;obtain ⟨g1,g2⟩:=exc_of (f:=fun v=>r*coT (tmsOf l) v) hsr hg (fun v=>by rw [coT_perm hp v,h2,coT_sc]) ht hr' hqc hf;exact ⟨⟨A',n',c',b'⟩,l',rfl,g1,g2,hb⟩
theorem addX (e e2:EB) (l l2:List TB) (q q2:Rat) (k kc:Nat) (w:World) (h:TmsAt w e.A e.n e.c l k) (hr:RatAt w e.b q) (hq:RatLe q k) (h2:TmsAt w e2.A e2.n e2.c l2 k) (hr2:RatAt w e2.b q2) (hq2:RatLe q2 k) (hn:e.n+e2.n≤19) (hk:k≤30000) (hqc:RatLe (q+q2) kc) (hf:∀ v,RatLe (coT (tmsOf l) v+coT (tmsOf l2) v) kc) :
 Calls Tryz.prog 66 #[e.val (ratNeg q),e2.val (ratNeg q2)] w fun x w'=>XcP w (fun v=>coT (tmsOf l) v+coT (tmsOf l2) v) (q+q2) kc x w':=by
 refine (eadd_any e.A e.n e.c e.b l q e2.A e2.n e2.c e2.b l2 q2 k w h hr hq h2 hr2 hq2 hn hk).mono ?_;rintro x w' ⟨A',n',c',b',l',ls,rfl,hp,hsr,hg,ht,hr',hq',hn',hb⟩;obtain ⟨g1,g2⟩:=exc_of (f:=fun v=>coT (tmsOf l) v+coT (tmsOf l2) v) hsr hg (fun v=>by rw [coT_perm hp v,tmsOf_app,coT_app]) ht hr' hqc hf;exact ⟨⟨A',n',c',b'⟩,l',rfl,g1,g2,hb⟩
set_option maxRecDepth 100000 in
set_option maxHeartbeats 4000000 in
theorem varX (v:Int) (w:World) (h1 : -9223372036854775808≤v) (h2:v≤9223372036854775807) :
 Calls Tryz.prog 4 #[.int .i64 v] w fun r w'=>XcP w (fun u=>if v=u then 1 else 0) 0 1 r w':=by
 go_enter Tryz.func4,Tryz.ntmps4
 go_upto_region 1 with fail
 have hx1:=heap_alloc_new w (.cells #[.slice none 0 0,.bool false,.slice none 0 0,.slice none 0 0] 28)
 have zw1:(w.alloc (.cells #[.slice none 0 0,.bool false,.slice none 0 0,.slice none 0 0] 28)).heap.size=w.heap.size+1:=by simp
 have aw1:=(Below.refl w.heap.size w).alloc (Nat.le_refl _) (.cells #[.slice none 0 0,.bool false,.slice none 0 0,.slice none 0 0] 28)
 obtain ⟨w1,ew1⟩:∃ x,x=w.alloc (.cells #[.slice none 0 0,.bool false,.slice none 0 0,.slice none 0 0] 28):=⟨_,rfl⟩
 rw [←ew1] at hx1 zw1 aw1 ⊢;clear ew1;have hi:=int_p1 w1;unfold RB.val at hi;have HX1:=Lib.hid hx1;have HA1:=Lib.hid aw1;have HI:=Lib.hid hi;clear hx1 aw1 hi zw1
 go_wp2_with (go_at_call 7;refine HI.out.mono ?_;rintro e w2 ⟨b2,rfl,hr2,hb2⟩;have hx2:=(alloc_old (.cells #[.int .i64 v,.bool (ratNeg 1),.slice b2.A b2.n b2.c,.slice b2.A2 b2.n2 b2.c2] 44) (lt_of_blk (box_keep HX1.out hb2))).trans (box_keep HX1.out hb2);obtain ⟨p0,p1,p2,p3⟩:=box4 hx2;have z0:=frozen_of_blk hx2 0;have z1:=frozen_of_blk hx2 1;have z2:=frozen_of_blk hx2 2;have z3:=frozen_of_blk hx2 3;have HX2:=Lib.hid hx2;have HR2:=Lib.hid hr2;have HB2:=Lib.hid hb2;clear hx2 hr2 hb2)
 refine bodyPost_ret (v:=.agg #[.slice (some ⟨w2.heap.size,0,none⟩) 1 1,.bool false,.slice none 0 0,.slice none 0 0]) (by simp [results,Tryz.results4,go_sem,p0,p1,p2,p3]) rfl ?_;have hown:=World.ownsRow_lit (base:=0) (e:=44) (size:=4) w2 #[.int .i64 v,.bool (ratNeg 1),.slice b2.A b2.n b2.c,.slice b2.A2 b2.n2 b2.c2] 1 (Nat.zero_le _) (by unfold maxLen;omega) rfl
 have hok:TOk (w2.alloc (.cells #[.int .i64 v,.bool (ratNeg 1),.slice b2.A b2.n b2.c,.slice b2.A2 b2.n2 b2.c2] 44)) 1 (b2,(v,1)):=⟨HR2.out.alloc _,p1_le 1 (Nat.le_refl _),h1,h2⟩
 obtain ⟨Ax,cx,ex,ht⟩:=TmsAt.of_own (l:=[(b2,(v,(1:Rat)))]) (k:=1) hown (fun t ht=>by simp at ht;rw [ht];exact hok)
 injection ex with e1 _ e3
 subst e1;subst e3;have hbel:=HA1.out.trans ((HB2.out.alloc HB2.out.size (.cells #[.int .i64 v,.bool (ratNeg 1),.slice b2.A b2.n b2.c,.slice b2.A2 b2.n2 b2.c2] 44)).mono HA1.out.size);refine ⟨⟨some ⟨w2.heap.size,0,none⟩,1,1,⟨none,0,0,none,0,0⟩⟩,[(b2,(v,1))],by rw [zero_neg];rfl,⟨ht.fr (store4_fr _ w.heap.size _ 1 1 false ⟨none,0,0,none,0,0⟩) (typ_of HX2.out (by decide)),zero_at _,zero_le 1 (Nat.le_refl _),Cano.one v 1 (by decide)⟩,fun u=>?_,store4_bel hbel (Nat.le_refl _) _ 1 1 false ⟨none,0,0,none,0,0⟩⟩;simp only [tmsOf,List.map_cons,List.map_nil,coT]
 split<;>grind
end Go.Proofs.YtdefcbfofonabaaGreat

namespace Go.Proofs.YtdefcbfofonabaaGreat
open Go.RowKit
set_option linter.unusedVariables false
set_option linter.unusedSimpArgs false
structure AB where
 A:Option Addr
 n:Nat
 c:Nat
 b:RB
 l:List TB
 q:Rat
 op:Int
def AB.cells (a:AB):List Value:=[.slice a.A a.n a.c,.bool (ratNeg a.q),.slice a.b.A a.b.n a.b.c,.slice a.b.A2 a.b.n2 a.b.c2,.int .i64 a.op]
def AB.val (a:AB):Value:=.agg #[.slice a.A a.n a.c,.bool (ratNeg a.q),.slice a.b.A a.b.n a.b.c,.slice a.b.A2 a.b.n2 a.b.c2,.int .i64 a.op]
structure AOk (w:World) (m k:Nat) (a:AB):Prop where
 tms:TmsAt w a.A a.n a.c a.l k
 cst:RatAt w a.b a.q
 le:RatLe a.q k
 few:a.n≤m
 lo:1≤a.op
 hi:a.op≤3
theorem AOk.below {w w':World} {m k:Nat} {a:AB} (h:AOk w m k a) (hb:Below w.heap.size w w'):AOk w' m k a:=⟨h.tms.below hb,h.cst.below hb,h.le,h.few,h.lo,h.hi⟩
theorem AOk.fr {S:Nat→Prop} {w w':World} {m k:Nat} {a:AB} (h:AOk w m k a) (hf:Fr S w w') (hS:∀ b,S b→∃ cs t m,w.heap[b]?=some (.cells cs t m)∧t≠125∧t≠44):AOk w' m k a:=⟨h.tms.fr hf hS,h.cst.frB hf hS,h.le,h.few,h.lo,h.hi⟩
def atmsL (l:List AB):List Value:=l.flatMap AB.cells
theorem atmsL_cons (a:AB) (l:List AB):atmsL (a :: l)=a.cells ++ atmsL l:=List.flatMap_cons
theorem atmsL_app (l m:List AB):atmsL (l ++ m)=atmsL l ++ atmsL m:=List.flatMap_append
theorem atmsL_len:∀ l:List AB,(atmsL l).length=l.length*5
 | []=>rfl
 | p :: l=>by
   have:=atmsL_len l;rw [atmsL_cons,List.length_append,this,List.length_cons];simp [AB.cells];omega
theorem atmsL_at:∀ (l:List AB) (k:Nat) (p:AB),l[k]?=some p→∀ j,j<5→(atmsL l)[k*5+j]?=p.cells[j]?
 | [],k,p,h,_,_=>by simp at h
 | p' :: l,0,p,h,j,hj=>by
   simp at h;subst h;rw [atmsL_cons,List.getElem?_append_left (by simp [AB.cells];omega)];simp
 | p' :: l,k+1,p,h,j,hj=>by
   have ih:=atmsL_at l k p (by simpa using h) j hj;have hl:p'.cells.length=5:=rfl;rw [atmsL_cons,List.getElem?_append_right (by omega),hl,show (k+1)*5+j - 5=k*5+j by omega];exact ih
structure AtmsAt (w:World) (A:Option Addr) (n c:Nat) (l:List AB) (m k:Nat):Prop where
 rd:Rd w 5 A n (atmsL l)
 len:l.length=n
 cap:n≤c
 each:∀ a ∈ l,AOk w m k a
theorem AtmsAt.below {w w':World} {A:Option Addr} {n c m k:Nat} {l:List AB} (h:AtmsAt w A n c l m k) (hb:Below w.heap.size w w'):AtmsAt w' A n c l m k:=⟨h.rd.below hb,h.len,h.cap,fun p hp=>(h.each p hp).below hb⟩
theorem Rd.at5 {w:World} {A:Option Addr} {n:Nat} {l:List AB} (h:Rd w 5 A n (atmsL l)) (hl:l.length=n) {i:Nat} (hi:i<n):∃ (g off:Nat) (a:AB),A=some ⟨g,off,none⟩∧l[i]?=some a∧w.cell? ⟨g,off+i*5,none⟩=some (.slice a.A a.n a.c)∧w.cell? ⟨g,off+i*5+1,none⟩=some (.bool (ratNeg a.q))∧w.cell? ⟨g,off+i*5+2,none⟩=some (.slice a.b.A a.b.n a.b.c)∧w.cell? ⟨g,off+i*5+3,none⟩=some (.slice a.b.A2 a.b.n2 a.b.c2)∧w.cell? ⟨g,off+i*5+4,none⟩=some (.int .i64 a.op):=by
 obtain ⟨g,off,e,hc⟩:=h.2 (by omega)
 have hl':i<l.length:=by omega
 have key:=atmsL_at l i l[i] (List.getElem?_eq_getElem hl');refine ⟨g,off,l[i],e,List.getElem?_eq_getElem hl',?_,?_,?_,?_,?_⟩
 · have:=hc (i*5) _ ((key 0 (by decide)).trans rfl)
   exact this
 · have:=hc (i*5+1) _ ((key 1 (by decide)).trans rfl)
   rwa [←Nat.add_assoc] at this
 · have:=hc (i*5+2) _ ((key 2 (by decide)).trans rfl)
   rwa [←Nat.add_assoc] at this
 · have:=hc (i*5+3) _ ((key 3 (by decide)).trans rfl)
   rwa [←Nat.add_assoc] at this
 · have:=hc (i*5+4) _ ((key 4 (by decide)).trans rfl)
   rwa [←Nat.add_assoc] at this
theorem AtmsAt.of_own {w:World} {B n m k:Nat} {v:Value} {l:List AB} (h:w.ownsRow B 37 5 v n (atmsL l)) (he:∀ a ∈ l,AOk w m k a):∃ A c,v=.slice A n c∧AtmsAt w A n c l m k:=by
 obtain ⟨A,c,rfl,hc,hr⟩:=ownsRow_form h;refine ⟨A,c,rfl,hr,?_,hc,he⟩;have:=h.1;rw [atmsL_len] at this;omega
end Go.Proofs.YtdefcbfofonabaaGreat

namespace Go.Proofs.YtdefcbfofonabaaGreat
open Go.RowKit
set_option linter.unusedVariables false
set_option linter.unusedSimpArgs false
structure NB where
 s:Bool
 A:Option Addr
 n:Nat
 c:Nat
 A2:Option Addr
 n2:Nat
 c2:Nat
 l:List Nat
 m:List Nat
def NB.cells (b:NB):List Value:=[.bool b.s,.slice b.A b.n b.c,.slice b.A2 b.n2 b.c2]
def NB.ok (w:World) (b:NB):Prop:=NumU w b.A b.n b.c b.l∧NumU w b.A2 b.n2 b.c2 b.m
theorem NB.ok.below {w w':World} {b:NB} (h:b.ok w) (hb:Below w.heap.size w w'):b.ok w':=⟨h.1.below hb,h.2.below hb⟩
structure TinyL (l m:List Nat):Prop where
 a:l.length≤8
 b:lv l<100
 c:m.length≤8
 d:lv m<10
def NB.tiny (b:NB):Prop:=TinyL b.l b.m
set_option maxRecDepth 100000 in
set_option maxHeartbeats 4000000 in
theorem lof9 (s:Bool) {w:World} {A A2:Option Addr} {n c n2 c2:Nat} {l m:List Nat} (h:NumU w A n c l) (h2:NumU w A2 n2 c2 m) (ht:TinyL l m) :
 Calls Tryz.prog 80 #[.agg #[.bool s,.slice A n c,.slice A2 n2 c2]] w fun e w'=>∃ (b:RB) (q:Rat),e=.returned (b.val (ratNeg q))∧RatAt w' b q∧(RatLe q 8∧IntB (2520*q) 249480)∧Below w.heap.size w w':=by
 unfold RB.val
 go_enter Tryz.func80,Tryz.ntmps80
 go_upto_region 1 with fail
 have hx1:=heap_alloc_new w (.cells #[.bool s,.slice A n c,.slice A2 n2 c2] 70)
 have hw1:(w.alloc (.cells #[.bool s,.slice A n c,.slice A2 n2 c2] 70)).heap.size=w.heap.size+1:=by simp
 have hbw:=(Below.refl w.heap.size w).alloc (Nat.le_refl _) (.cells #[.bool s,.slice A n c,.slice A2 n2 c2] 70)
 obtain ⟨wk,hwk⟩:∃ x,x=w.alloc (.cells #[.bool s,.slice A n c,.slice A2 n2 c2] 70):=⟨_,rfl⟩
 rw [←hwk] at hx1 hbw hw1 ⊢;have hx2:=heap_alloc_new wk (.cells #[.bool false,.slice none 0 0,.slice none 0 0] 26);have hx1':=box_keep hx1 ((Below.refl _ _).alloc (Nat.le_refl _) (.cells #[.bool false,.slice none 0 0,.slice none 0 0] 26));have hbk:=hbw.alloc hbw.size (.cells #[.bool false,.slice none 0 0,.slice none 0 0] 26)
 obtain ⟨wz,hwz⟩:∃ x,x=wk.alloc (.cells #[.bool false,.slice none 0 0,.slice none 0 0] 26):=⟨_,rfl⟩
 rw [hw1] at hx2;rw [←hwz] at hx2 hx1' hbk ⊢;have hbo:=both9 s (h.below hbk) (h2.below hbk) ht.a ht.b ht.c ht.d;have HX2:=Lib.hid hx2;have HBZ:=Lib.hid hbk;have HBO:=Lib.hid hbo;obtain ⟨r0,r1,r2⟩:=Box.of hx1';clear hwz hwk hx1 hx1' hx2 hbw hbk hbo hw1 h h2
 go_upto_region 2 with (go_at_call 94;refine HBO.out.mono ?_;rintro e w5 ⟨rb,q,z,A3,n3,c3,A4,n4,c4,rfl,hrat,hle1,hle2,hb5⟩;have hle:=And.intro hle1 hle2;unfold RB.val)
 have y5:=box_keep (heap_alloc_new w5 (.cells #[.bool (ratNeg q),.slice rb.A rb.n rb.c,.slice rb.A2 rb.n2 rb.c2] 26)) ((Below.refl _ _).alloc (Nat.le_refl _) (.cells #[.bool z,.slice A3 n3 c3,.slice A4 n4 c4] 83));have be:=(hb5.alloc hb5.size (.cells #[.bool (ratNeg q),.slice rb.A rb.n rb.c,.slice rb.A2 rb.n2 rb.c2] 26)).alloc (Nat.le_trans hb5.size (by simp)) (.cells #[.bool z,.slice A3 n3 c3,.slice A4 n4 c4] 83);have hr5:=(hrat.alloc (.cells #[.bool (ratNeg q),.slice rb.A rb.n rb.c,.slice rb.A2 rb.n2 rb.c2] 26)).alloc (.cells #[.bool z,.slice A3 n3 c3,.slice A4 n4 c4] 83)
 obtain ⟨we,hwe⟩:∃ x,x=(w5.alloc (.cells #[.bool (ratNeg q),.slice rb.A rb.n rb.c,.slice rb.A2 rb.n2 rb.c2] 26)).alloc (.cells #[.bool z,.slice A3 n3 c3,.slice A4 n4 c4] 83):=⟨_,rfl⟩
 rw [←hwe] at y5 be hr5 ⊢;have hlt5:=Nat.lt_of_lt_of_le (lt_of_blk HX2.out) hb5.size;have y2:=box_keep HX2.out be;obtain ⟨x0,x1,x2⟩:=Box.of y5;obtain ⟨r3,r4,r5⟩:=Box.of y2;have s3':=frozen_of_blk y2 0;have s4':=frozen_of_blk y2 1;have s5':=frozen_of_blk y2 2;have Y2:=Lib.hid y2;have BE:=Lib.hid be;have HR5:=Lib.hid hr5;clear hwe y5 be hr5 y2 hrat hb5 r0 r1 r2
 generalize w5.heap.size=g at *
 go_wp2_with fail
 refine bodyPost_ret (v:=.agg #[.bool (ratNeg q),.slice rb.A rb.n rb.c,.slice rb.A2 rb.n2 rb.c2]) (by simp [results,Tryz.results80,go_sem,r3,r4,r5]) rfl ?_;refine ⟨rb,q,rfl,HR5.out.fr (S:=fun b=>b=w.heap.size+1) (w:=we) ?_ ?_,hle,?_⟩
 · repeat' (first | with_reducible exact Fr.refl _ _ | with_reducible refine fr_set ?_ ?_ | exact .inl rfl)
 · intro b i k hb e
   subst hb;rw [cell_of_blk Y2.out i] at e;exact no_int3 _ _ _ (by simp) (by simp) (by simp) i k e
 · have hbe:=HBZ.out.trans (BE.out.mono HBZ.out.size)
   repeat' (first | with_reducible exact hbe | with_reducible refine bl_set ?_ ?_ | (show w.heap.size≤w.heap.size+1;omega))
set_option maxRecDepth 100000 in
theorem good9 (A:Option Addr) (n c:Nat) (s:Bool) (A1:Option Addr) (n1 c1:Nat) (A2:Option Addr) (n2 c2:Nat) (op:Int) (w:World) :
 Calls Tryz.prog 25 #[.agg #[.slice A n c,.bool s,.slice A1 n1 c1,.slice A2 n2 c2,.int .i64 op]] w fun r w'=>r=.returned (.bool (decide (1≤op) && decide (op≤3)))∧Below w.heap.size w w':=by
 have hb:=(Below.refl w.heap.size w).alloc (Nat.le_refl _) (.cells #[.slice A n c,.bool s,.slice A1 n1 c1,.slice A2 n2 c2,.int .i64 op] 74);have HB:=Lib.hid hb;clear hb
 by_cases h1:1≤op
 · by_cases h3:op≤3
   · rw [decide_eq_true h1,decide_eq_true h3]
     go_enter Tryz.func25,Tryz.ntmps25
     go_wp2_with fail
     go_ret;exact ⟨rfl,HB.out⟩
   · rw [decide_eq_true h1,decide_eq_false h3]
     go_enter Tryz.func25,Tryz.ntmps25
     go_wp2_with fail
     go_ret;exact ⟨rfl,HB.out⟩
 · rw [decide_eq_false h1]
   go_enter Tryz.func25,Tryz.ntmps25
   go_wp2_with fail
   go_ret;exact ⟨rfl,HB.out⟩
end Go.Proofs.YtdefcbfofonabaaGreat

namespace Go.Proofs.YtdefcbfofonabaaGreat
open Go.RowKit
set_option linter.unusedVariables false
set_option linter.unusedSimpArgs false
theorem num_lit (w:World) (x:Nat) (hx:x<4294967296):Num (w.alloc (.cells #[.int .u32 (x:Int)] 125)) (some ⟨w.heap.size,0,none⟩) 1 1 [x] :=
 ⟨rd_lit w _ _,rfl,Nat.le_refl _,fun y hy=>by simp at hy;omega,fun _=>⟨w.heap.size,0,#[.int .u32 (x:Int)],(0,0),rfl,heap_alloc_new w _⟩⟩
def LowP (w:World) (most:Nat) (e:Ending) (w':World):Prop:=∃ (A:Option Addr) (n c:Nat) (l:List Nat),e=.returned (.slice A n c)∧Num w' A n c l∧l.length≤8∧lv l<most∧Below w.heap.size w w'
set_option maxRecDepth 100000 in
set_option maxHeartbeats 4000000 in
theorem low9_any {w:World} {A:Option Addr} {n c:Nat} {l:List Nat} (most:Nat) (h:NumU w A n c l) (hm:0<most) (hm2:most≤1000) :
 Calls Tryz.prog 57 #[.slice A n c,.int .u32 (most:Int)] w fun e w'=>LowP w most e w':=by
 have hlen:=h.len
 cases l with
 | nil =>
   have hn0:n=0:=by simpa using hlen.symm
   subst hn0
   go_enter Tryz.func57,Tryz.ntmps57
   go_wp2_with fail
   go_ret;exact ⟨none,0,0,[],rfl,Num.nil_ w,by simp,hm,Below.refl _ _⟩
 | cons x r =>
   have hn0:0<n:=by
    rw [←hlen];simp
   have hx:x<4294967296:=h.sm x (by simp);obtain ⟨b,off,u,eA,hu,hc⟩:=h.rd.at_ hn0;subst eA
   have hu':u=.int .u32 (x:Int):=by
    simp [lw] at hu;exact hu.symm
   subst hu';rw [Nat.add_zero] at hc
   have d1:¬ ((n:Int) == 0)=true:=by simp;omega
   have d2:((n:Int) == 0)=false:=by simpa using d1
   have d3:(0:Int)<(n:Int):=by omega
   have d4:¬ ((most:Int)=0):=by omega
   have d5:(0:Int)≤(x:Int):=by omega
   have hlt:x % most<most:=Nat.mod_lt _ hm;have HLT:=Lib.hid hlt;have HM:=Lib.hid hm2;clear h hlen d1 hu hlt
   have d6:(x:Int).tmod (most:Int)=((x % most:Nat):Int):=by
    rw [Int.tmod_eq_emod_of_nonneg d5];exact (Int.natCast_emod x most).symm
   have HD6:=Lib.hid d6;clear d6
   go_enter Tryz.func57,Tryz.ntmps57
   go_wp2_with fail
   go_ret;have e:((x:Int) % (most:Int))=((x % most:Nat):Int):=(Int.natCast_emod x most).symm;rw [e];have hlt:=HLT.out;have hmm:=HM.out;exact ⟨_,1,1,[x % most],rfl,num_lit w (x % most) (by omega),by simp,by show x % most+4294967296*0<most;omega,(Below.refl _ _).alloc (Nat.le_refl _) _⟩
structure NTin (w:World) (b:NB):Prop where
 num:Num w b.A b.n b.c b.l
 den:Num w b.A2 b.n2 b.c2 b.m
 tin:b.tiny
theorem NTin.below {w w':World} {b:NB} (h:NTin w b) (hb:Below w.heap.size w w'):NTin w' b:=⟨h.num.below hb,h.den.below hb,h.tin⟩
theorem NTin.frT {S:Nat→Prop} {w w':World} {b:NB} (h:NTin w b) (hf:Fr S w w') (hS:∀ b,S b→∃ cs t m,w.heap[b]?=some (.cells cs t m)∧t≠125):NTin w' b:=⟨h.num.frT hf hS,h.den.frT hf hS,h.tin⟩
theorem NTin.ok {w:World} {b:NB} (h:NTin w b):b.ok w:=⟨h.num.u,h.den.u⟩
def TinyP (w:World) (s:Bool) (e:Ending) (w':World):Prop:=∃ b:NB,b.s=s∧e=.returned (.agg #[.bool s,.slice b.A b.n b.c,.slice b.A2 b.n2 b.c2])∧NTin w' b∧Below w.heap.size w w'
theorem bx3 {w:World} {g:Nat} {a b c:Value} {t:TypeId} (h:w.heap[g]?=some (.cells #[a,b,c] t (0,0))):w.cell? ⟨g,0,none⟩=some a∧w.cell? ⟨g,1,none⟩=some b∧w.cell? ⟨g,2,none⟩=some c :=
 ⟨cell_of_blk h 0,cell_of_blk h 1,cell_of_blk h 2⟩
theorem tyU_of {w:World} {g:Nat} {cs:Array Value} {t:TypeId} {m:Nat × Nat} (h:w.heap[g]?=some (.cells cs t m)) (ht:t≠125):∀ b,b=g→∃ cs t m,w.heap[b]?=some (.cells cs t m)∧t≠125:=fun b hb=>⟨cs,t,m,by rw [hb];exact h,ht⟩
set_option maxRecDepth 100000 in
set_option maxHeartbeats 4000000 in
theorem tiny_any (s:Bool) {w:World} {A A2:Option Addr} {n c n2 c2:Nat} {l m:List Nat} (h:NumU w A n c l) (h2:NumU w A2 n2 c2 m) :
 Calls Tryz.prog 27 #[.agg #[.bool s,.slice A n c,.slice A2 n2 c2]] w fun e w'=>TinyP w s e w':=by
 go_enter Tryz.func27,Tryz.ntmps27
 go_upto_region 1 with fail
 have hx1:=heap_alloc_new w (.cells #[.bool s,.slice A n c,.slice A2 n2 c2] 70)
 have zw1:(w.alloc (.cells #[.bool s,.slice A n c,.slice A2 n2 c2] 70)).heap.size=w.heap.size+1:=by simp
 have aw1:=(Below.refl w.heap.size w).alloc (Nat.le_refl _) (.cells #[.bool s,.slice A n c,.slice A2 n2 c2] 70)
 obtain ⟨w1,ew1⟩:∃ x0,x0=w.alloc (.cells #[.bool s,.slice A n c,.slice A2 n2 c2] 70):=⟨_,rfl⟩
 rw [←ew1] at hx1 zw1 aw1 ⊢;clear ew1;have hx2:=heap_alloc_new w1 (.cells #[.bool false,.slice none 0 0,.slice none 0 0] 70)
 have zw2:(w1.alloc (.cells #[.bool false,.slice none 0 0,.slice none 0 0] 70)).heap.size=w1.heap.size+1:=by simp
 have aw2:=(Below.refl w1.heap.size w1).alloc (Nat.le_refl _) (.cells #[.bool false,.slice none 0 0,.slice none 0 0] 70)
 obtain ⟨w2,ew2⟩:∃ x0,x0=w1.alloc (.cells #[.bool false,.slice none 0 0,.slice none 0 0] 70):=⟨_,rfl⟩
 rw [←ew2] at hx2 zw2 aw2 ⊢;clear ew2;rw [zw1] at hx2;have b2:=aw1.trans (aw2.mono aw1.size);have hx1':=box_keep hx1 aw2
 obtain ⟨g1,hg1⟩:∃ x,x=w.heap.size:=⟨_,rfl⟩
 rw [←hg1] at hx1' hx2 ⊢
 have hcs:∀ W',Below w2.heap.size w2 W'→W'.cell? ⟨g1,0,none⟩=some (.bool s)∧W'.cell? ⟨g1,1,none⟩=some (.slice A n c)∧W'.cell? ⟨g1,2,none⟩=some (.slice A2 n2 c2):=fun W' hb=>bx3 (box_keep hx1' hb)
 have hl1:=fun W (hW:Below w2.heap.size w2 W)=>low9_any 100 ((h.below b2).below hW) (by decide) (by decide)
 have hl2:=fun W (hW:Below w2.heap.size w2 W)=>low9_any 10 ((h2.below b2).below hW) (by decide) (by decide)
 have kb:Below w2.heap.size w2 w2.drew:=below_drew2 (Below.refl _ _);have hS:=hcs w2.drew kb;have HCS:=Lib.hid hcs;have HL1:=Lib.hid hl1;have HL2:=Lib.hid hl2;have HX2:=Lib.hid (And.intro hx2 (And.intro b2 hg1));clear h h2 hx1 hx1' hx2 aw1 aw2 zw1 zw2 b2 hg1 hcs hl1 hl2;refine wp_region_E 9 (fun W'=>W'.cell? ⟨g1,0,none⟩=some (.bool s)∧W'.cell? ⟨g1,1,none⟩=some (.slice A n c)∧W'.cell? ⟨g1,2,none⟩=some (.slice A2 n2 c2)) (by kernel_rfl) ?_;generalize w2.drew=w8 at kb hS ⊢;refine tkE 0 hS ?_;simp only [Act.put,sA,sZ,sS];refine tkE 1 hS ?_;simp only [Act.put,sA,sZ,sS];refine tkE 2 hS ?_;simp only [Act.put,sA,sZ,sS];refine tkE 3 hS ?_;simp only [Act.put,sA,sZ,sS];refine tkE 5 hS ?_;simp only [Act.put,sA,sZ,sS];refine tkE 6 hS ?_;simp only [Act.put,sA,sZ,sS]
 refine onE 4 fun KK HKK4=>?_
 go_simp
 go_at_call 57
 refine (HL1.out _ kb).mono ?_;rintro e u1 ⟨A3,n3,c3,l3,rfl,hn3,hs3,hv3,hb1⟩;have hS:=HCS.out u1 (kb.trans (hb1.mono kb.size));replace kb:=kb.trans (hb1.mono kb.size);clear hb1;refine HKK4.out _ _ (.inr hS) ?_;clear HKK4
 try simp only [Act.put,sA,sZ,sS]
 refine onE 7 fun KK HKK7=>?_
 go_simp
 go_at_call 57
 refine (HL2.out _ kb).mono ?_;rintro e u2 ⟨A4,n4,c4,l4,rfl,hn4,hs4,hv4,hb2⟩;replace hn3:=hn3.below hb2;have hS:=HCS.out u2 (kb.trans (hb2.mono kb.size));replace kb:=kb.trans (hb2.mono kb.size);clear hb2;refine HKK7.out _ _ (.inr hS) ?_;clear HKK7
 try simp only [Act.put,sA,sZ,sS]
 refine tkE 8 hS ?_;simp only [Act.put,sA,sZ,sS];have hx:=box_keep HX2.out.1 kb;obtain ⟨p0,p1,p2⟩:=bx3 hx;have z0:=frozen_of_blk hx 0;have z1:=frozen_of_blk hx 1;have z2:=frozen_of_blk hx 2;have HXX:=Lib.hid hx;have HN:=Lib.hid (And.intro (And.intro hn3 hn4) (And.intro hs3 (And.intro hv3 (And.intro hs4 hv4))));have HKB:=Lib.hid kb;clear hS hx hn3 hn4 hs3 hv3 hs4 hv4 kb
 refine onE 9 fun KK HKK9=>?_
 go_simp;refine HKK9.out _ _ (.inl rfl) ?_;clear HKK9;refine wpAnyE_done (by kernel_rfl) ?_ _
 go_wp2_with fail
 refine bodyPost_ret (v:=.agg #[.bool s,.slice A3 n3 c3,.slice A4 n4 c4]) (by simp [results,Tryz.results27,go_sem,p0,p1,p2]) rfl ?_;have hfr:Fr (fun b=>b=g1+1) u2 (((u2.setCell ⟨g1+1,0,none⟩ (.bool s)).setCell ⟨g1+1,1,none⟩ (.slice A3 n3 c3)).setCell ⟨g1+1,2,none⟩ (.slice A4 n4 c4)):=fr_set (fr_set (fr_set (Fr.refl _ _) (.inl rfl)) (.inl rfl)) (.inl rfl);have hty:=tyU_of HXX.out (by decide)
 have hle:w.heap.size≤g1+1:=by have:=HX2.out.2.2;omega
 exact ⟨⟨s,A3,n3,c3,A4,n4,c4,l3,l4⟩,rfl,rfl,⟨HN.out.1.1.frT hfr hty,HN.out.1.2.frT hfr hty,⟨HN.out.2.1,HN.out.2.2.1,HN.out.2.2.2.1,HN.out.2.2.2.2⟩⟩,bl_set (bl_set (bl_set (HX2.out.2.1.trans (HKB.out.mono HX2.out.2.1.size)) hle) hle) hle⟩
end Go.Proofs.YtdefcbfofonabaaGreat
