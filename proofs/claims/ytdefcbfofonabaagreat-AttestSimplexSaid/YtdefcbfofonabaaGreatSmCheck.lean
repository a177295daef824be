/- Contracts of slices.IndexFunc, ContainsFunc with Check's test, and of simplex.Check at constraints in form. -/
import Derived.Test.YtdefcbfofonabaaGreatLinX
import Derived.Test.YtdefcbfofonabaaGreatSxT
import Derived.Test.YtdefcbfofonabaaGreatSmMake
import Derived.Test.YtdefcbfofonabaaGreatSmRoom
import Derived.Test.YtdefcbfofonabaaGreatLongMath3
namespace Go.Proofs.YtdefcbfofonabaaGreat
open Go.RowKit
set_option linter.unusedVariables false
set_option linter.unusedSimpArgs false
theorem box5c {w:World} {g:Nat} {a b c d e:Value} {t:TypeId} (h:w.heap[g]?=some (.cells #[a,b,c,d,e] t (0,0))):w.cell? ⟨g,0,none⟩=some a∧w.cell? ⟨g,1,none⟩=some b∧w.cell? ⟨g,2,none⟩=some c∧w.cell? ⟨g,3,none⟩=some d∧w.cell? ⟨g,4,none⟩=some e :=
 ⟨cell_of_blk h 0,cell_of_blk h 1,cell_of_blk h 2,cell_of_blk h 3,cell_of_blk h 4⟩
set_option maxRecDepth 100000 in
set_option maxHeartbeats 4000000 in
theorem chk1_any (t:TB) (g nv:Nat) (w:World) (hc:w.cell? ⟨g,0,none⟩=some (.int .i64 (nv:Int))) (h0:0≤t.2.1) (h1:t.2.1<(nv:Int)) :
 Calls Tryz.prog 38 #[tmV t,.pointer (some ⟨g,0,none⟩)] w fun e w'=>e=.returned (.bool false)∧Below w.heap.size w w':=by
 obtain ⟨b,v,q⟩:=t;unfold tmV;simp only at h0 h1 ⊢
 have h2:¬ (v<0):=by omega
 have h3:¬ ((nv:Int)≤v):=by omega
 have h4:¬ (v≥(nv:Int)):=by omega
 go_enter Tryz.func38,Tryz.ntmps38
 go_upto_region 1 with fail
 have hx1:=heap_alloc_new w (.cells #[.int .i64 v,.bool (ratNeg q),.slice b.A b.n b.c,.slice b.A2 b.n2 b.c2] 44)
 have zw1:(w.alloc (.cells #[.int .i64 v,.bool (ratNeg q),.slice b.A b.n b.c,.slice b.A2 b.n2 b.c2] 44)).heap.size=w.heap.size+1:=by simp
 have aw1:=(Below.refl w.heap.size w).alloc (Nat.le_refl _) (.cells #[.int .i64 v,.bool (ratNeg q),.slice b.A b.n b.c,.slice b.A2 b.n2 b.c2] 44)
 obtain ⟨w1,ew1⟩:∃ x0,x0=w.alloc (.cells #[.int .i64 v,.bool (ratNeg q),.slice b.A b.n b.c,.slice b.A2 b.n2 b.c2] 44):=⟨_,rfl⟩
 rw [←ew1] at hx1 zw1 aw1 ⊢;clear ew1;have p0:=cell_of_blk hx1 0;have hg:=(aw1.cell (p:=⟨g,0,none⟩) (World.block_lt_of_cell? w _ hc)).trans hc;have HA:=Lib.hid aw1;clear hx1 zw1 aw1 hc
 go_wp2_with fail
 go_ret;exact ⟨rfl,HA.out⟩
set_option maxRecDepth 100000 in
set_option maxHeartbeats 4000000 in
theorem idxf_any (A:Option Addr) (n c:Nat) (l:List TB) (k g nv:Nat) (w:World) (h:TmsAt w A n c l k) (hn:n≤1000) (hc:w.cell? ⟨g,0,none⟩=some (.int .i64 (nv:Int))) (hv:∀ t ∈ l,0≤t.2.1∧t.2.1<(nv:Int)) :
 Calls Tryz.prog 67 #[.slice A n c,.func (.func 38) #[] #[.pointer (some ⟨g,0,none⟩)]] w fun e w'=>e=.returned (.int .i64 (-1))∧Below w.heap.size w w':=by
 have H:=Lib.hid h;have HC:=Lib.hid hc;have HV:=Lib.hid hv;clear h hc hv
 go_enter Tryz.func67,Tryz.ntmps67
 go_wp2_with fail
 go_loopw [5,8] (fun _ x wr=>∃ i:Nat,i≤n∧x=.int .i64 i∧Below w.heap.size w wr) (fun _ x _=>n - (intOf x).toNat)
 case atStart=>exact ⟨0,Nat.zero_le _,by first | rfl | go_num,Below.refl _ _⟩
 case round =>
  obtain ⟨i,hin,rfl,hb⟩:=hrel
  obtain ⟨w5,rfl⟩:∃ x,x=wr:=⟨_,rfl⟩
  by_cases hlt:i<n
  · obtain ⟨g3,of3,t,ea,hti,y0,y1,y2,y3⟩:=(H.out.below hb).rd.at4 H.out.len hlt
    subst ea;obtain ⟨v0,v1⟩:=HV.out t (List.mem_of_getElem? hti);have hck:=chk1_any t g nv w5 ((hb.cell (p:=⟨g,0,none⟩) (World.block_lt_of_cell? w _ HC.out)).trans HC.out) v0 v1;unfold tmV at hck
    have b0:(0:Int)≤(i:Int):=by omega
    have HCK:=Lib.hid hck;have HB:=Lib.hid hb;clear hck hb hti v0 v1
    go_wp2_with (go_at_call 38;refine HCK.out.mono ?_;rintro e w7 ⟨rfl,hb7⟩;have HB7:=Lib.hid hb7;clear hb7)
    go_roundw
    case rel=>exact ⟨i+1,by omega,by go_num,HB.out.trans (HB7.out.mono HB.out.size)⟩
    case measure=>simp [intOf];omega
  · obtain rfl:i=n:=by omega
    have hlt2:¬ (i<i):=by omega
    have HB:=Lib.hid hb;clear hb
    go_wp2_with fail
    go_ret;exact ⟨rfl,HB.out⟩
set_option maxRecDepth 100000 in
set_option maxHeartbeats 4000000 in
theorem contf_any (A:Option Addr) (n c:Nat) (l:List TB) (k g nv:Nat) (w:World) (h:TmsAt w A n c l k) (hn:n≤1000) (hc:w.cell? ⟨g,0,none⟩=some (.int .i64 (nv:Int))) (hv:∀ t ∈ l,0≤t.2.1∧t.2.1<(nv:Int)) :
 Calls Tryz.prog 37 #[.slice A n c,.func (.func 38) #[] #[.pointer (some ⟨g,0,none⟩)]] w fun e w'=>e=.returned (.bool false)∧Below w.heap.size w w':=by
 have hi:=idxf_any A n c l k g nv w h hn hc hv;have HI:=Lib.hid hi;clear hi h hc hv
 go_enter Tryz.func37,Tryz.ntmps37
 go_wp2_with (go_at_call 67;refine HI.out.mono ?_;rintro e w7 ⟨rfl,hb7⟩;have HB7:=Lib.hid hb7;clear hb7)
 go_ret;exact ⟨rfl,HB7.out⟩
theorem checkS_any (A:Option Addr) (n c:Nat) (b:RB) (s:Bool) (op:Int) (w:World) (h1:1≤op) (h3:op≤3) :
 Calls Tryz.prog 36 #[.agg #[.slice A n c,.bool s,.slice b.A b.n b.c,.slice b.A2 b.n2 b.c2,.int .i64 op]] w fun r w'=>r=.returned (.int .i64 0)∧Below w.heap.size w w':=by
 have hb:=(Below.refl w.heap.size w).alloc (Nat.le_refl _) (.cells #[.slice A n c,.bool s,.slice b.A b.n b.c,.slice b.A2 b.n2 b.c2,.int .i64 op] 37);have HB:=Lib.hid hb
 have q1:¬ (op<1):=by omega
 have q2:¬ (3<op):=by omega
 clear hb
 go_enter Tryz.func36,Tryz.ntmps36
 go_wp2_with fail
 go_ret;exact ⟨rfl,HB.out⟩
def VarsIn (nv:Nat) (l:List AB):Prop:=∀ a ∈ l,∀ t ∈ a.l,0≤t.2.1∧t.2.1<(nv:Int)
set_option maxRecDepth 100000 in
set_option maxHeartbeats 4000000 in
theorem check_ok (A:Option Addr) (n c:Nat) (l:List AB) (m k nv:Nat) (w:World) (h:AtmsAt w A n c l m k) (hn:n≤1000) (hm:m≤1000) (hnv:nv≤400) (hv:VarsIn nv l) :
 Calls Tryz.prog 15 #[.int .i64 (nv:Int),.slice A n c] w fun e w'=>e=.returned (.int .i64 0)∧Below w.heap.size w w':=by
 have H:=Lib.hid h;have HV:=Lib.hid hv;clear h hv
 have c1:¬ ((400:Int)<(nv:Int)):=by omega
 have c2:¬ ((2000:Int)<(n:Int)):=by omega
 have c3:¬ ((nv:Int)<0):=by omega
 go_enter Tryz.func15,Tryz.ntmps15
 go_upto_region 1 with fail
 have hx1:=heap_alloc_new w (.cells #[.int .i64 (nv:Int)] 3)
 have zw1:(w.alloc (.cells #[.int .i64 (nv:Int)] 3)).heap.size=w.heap.size+1:=by simp
 have aw1:=(Below.refl w.heap.size w).alloc (Nat.le_refl _) (.cells #[.int .i64 (nv:Int)] 3)
 obtain ⟨w1,ew1⟩:∃ x0,x0=w.alloc (.cells #[.int .i64 (nv:Int)] 3):=⟨_,rfl⟩
 rw [←ew1] at hx1 zw1 aw1 ⊢;clear ew1;have p0:=cell_of_blk hx1 0;have HX:=Lib.hid hx1;have HA:=Lib.hid aw1;clear hx1 zw1 aw1
 go_wp2_with fail
 clear p0
 go_loopw [18] (fun x wr=>∃ i:Nat,i≤n∧x=.int .i64 i∧Below w1.heap.size w1 wr) (fun x _=>n - (intOf x).toNat)
 case atStart=>exact ⟨0,Nat.zero_le _,by first | rfl | go_num,Below.refl _ _⟩
 case round =>
  obtain ⟨i,hin,rfl,hb⟩:=hrel
  obtain ⟨w5,rfl⟩:∃ x,x=wr:=⟨_,rfl⟩
  have hbw:=HA.out.trans (hb.mono HA.out.size)
  by_cases hlt:i<n
  · obtain ⟨g3,of3,t,ea,hti,y0,y1,y2,y3,y4⟩:=(H.out.below hbw).rd.at5 H.out.len hlt
    subst ea;have hok:=(H.out.below hbw).each t (List.mem_of_getElem? hti);have hvt:=HV.out t (List.mem_of_getElem? hti);have hp:=cell_of_blk (box_keep HX.out hb) 0
    have hch:=fun W=>checkS_any t.A t.n t.c t.b (ratNeg t.q) t.op W hok.lo hok.hi
    have hcf:=fun W (hW:Below w5.heap.size w5 W)=>contf_any t.A t.n t.c t.l k w.heap.size nv W (hok.tms.below hW) (Nat.le_trans hok.few hm) ((hW.cell (p:=⟨w.heap.size,0,none⟩) (World.block_lt_of_cell? w5 _ hp)).trans hp) hvt
    have b0:(0:Int)≤(i:Int):=by omega
    have HCH:=Lib.hid hch;have HCF:=Lib.hid hcf;have HB:=Lib.hid hb;clear hch hcf hok hvt hp hb hti hbw
    go_upto_region 8 with fail
    have hxt:=heap_alloc_new w5 (.cells #[.slice t.A t.n t.c,.bool (ratNeg t.q),.slice t.b.A t.b.n t.b.c,.slice t.b.A2 t.b.n2 t.b.c2,.int .i64 t.op] 37)
    have zw6:(w5.alloc (.cells #[.slice t.A t.n t.c,.bool (ratNeg t.q),.slice t.b.A t.b.n t.b.c,.slice t.b.A2 t.b.n2 t.b.c2,.int .i64 t.op] 37)).heap.size=w5.heap.size+1:=by simp
    have aw6:=(Below.refl w5.heap.size w5).alloc (Nat.le_refl _) (.cells #[.slice t.A t.n t.c,.bool (ratNeg t.q),.slice t.b.A t.b.n t.b.c,.slice t.b.A2 t.b.n2 t.b.c2,.int .i64 t.op] 37)
    obtain ⟨w6,ew6⟩:∃ x0,x0=w5.alloc (.cells #[.slice t.A t.n t.c,.bool (ratNeg t.q),.slice t.b.A t.b.n t.b.c,.slice t.b.A2 t.b.n2 t.b.c2,.int .i64 t.op] 37):=⟨_,rfl⟩
    rw [←ew6] at hxt zw6 aw6 ⊢;clear ew6;obtain ⟨x0,x1,x2,x3,x4⟩:=box5c hxt;have HXT:=Lib.hid hxt;have HA6:=Lib.hid aw6;clear y0 y1 y2 y3 y4 hxt zw6 aw6
    go_wp2_with (first | (go_at_call 36;refine (HCH.out _).mono ?_;rintro e w7 ⟨rfl,hb7⟩;have HB7:=Lib.hid (HA6.out.trans (hb7.mono HA6.out.size));clear x0 x1 x2 x3 x4;obtain ⟨x0,x1,x2,x3,x4⟩:=box5c (box_keep HXT.out hb7);clear hb7) | (go_at_call 37;refine (HCF.out _ HB7.out).mono ?_;rintro e w8 ⟨rfl,hb8⟩;have HB8:=Lib.hid (HB7.out.trans (hb8.mono HB7.out.size));clear hb8))
    go_roundw
    case rel=>exact ⟨i+1,by omega,by go_num,HB.out.trans (HB8.out.mono HB.out.size)⟩
    case measure=>simp [intOf];omega
  · obtain rfl:i=n:=by omega
    have hlt2:¬ (i<i):=by omega
    have HB:=Lib.hid hbw;clear hb hbw
    go_wp2_with fail
    go_ret;exact ⟨rfl,HB.out⟩
end Go.Proofs.YtdefcbfofonabaaGreat

namespace Go.Proofs.YtdefcbfofonabaaGreat
set_option linter.unusedVariables false
set_option linter.unusedSimpArgs false
def codeOf (f:Nat→Bool):Nat→Nat
 | 0=>0
 | n+1=>codeOf f n+if f n then 2 ^ n else 0
theorem codeOf_lt (f:Nat→Bool):∀ n,codeOf f n<2 ^ n
 | 0=>by simp [codeOf]
 | n+1=>by
   have:=codeOf_lt f n;unfold codeOf;rw [Nat.pow_succ]
   split<;>omega
theorem codeOf_inj (f g:Nat→Bool):∀ n,codeOf f n=codeOf g n→∀ u,u<n→f u=g u
 | 0,_,u,hu=>by omega
 | n+1,h,u,hu=>by
   have h1:=codeOf_lt f n;have h2:=codeOf_lt g n;unfold codeOf at h
   have h3:f n=g n:=by
    cases hf:f n<;>cases hg:g n<;>rw [hf,hg] at h<;>simp at h<;>first | rfl | omega
   have h4:codeOf f n=codeOf g n:=by
    rw [h3] at h;omega
   rcases Nat.lt_succ_iff_lt_or_eq.1 hu with h5 | h5
   · exact codeOf_inj f g n h4 u h5
   · rw [h5,h3]
theorem pigeon:∀ (M:Nat) (g:Nat→Nat),(∀ i,i≤M→g i<M)→∃ i j,i<j∧j≤M∧g i=g j
 | 0,g,h=>by
   have:=h 0 (Nat.le_refl _);omega
 | M+1,g,h=>by
   by_cases hx:∃ i,i≤M∧g i=g (M+1)
   · obtain ⟨i,h1,h2⟩:=hx
     exact ⟨i,M+1,by omega,Nat.le_refl _,h2⟩
   · have hne:∀ i,i≤M→g i≠g (M+1):=fun i hi e=>hx ⟨i,hi,e⟩
     have hM:=h (M+1) (Nat.le_refl _)
     obtain ⟨i,j,h1,h2,h3⟩:=pigeon M (fun i=>if g (M+1)<g i then g i - 1 else g i) fun i hi=>by
      have h1:=h i (by omega);have h2:=hne i hi
      split<;>omega
     refine ⟨i,j,h1,by omega,?_⟩;have e1:=hne i (by omega);have e2:=hne j h2
     split at h3<;>split at h3<;>omega
structure Chain (P:Pb) (c:Nat→Sx) (t:Nat):Prop where
 start:InvE P (c 0)
 steps:∀ s,s<t→∃ v g k,Stp P (c s) v g k∧c (s+1)=mov P (c s) v k
theorem Chain.inv {P:Pb} {c:Nat→Sx} {t:Nat} (h:Chain P c t):∀ s,s≤t→InvE P (c s)
 | 0,_=>h.start
 | s+1,hs=>by
   obtain ⟨v,g,k,h1,h2⟩:=h.steps s (by omega);rw [h2];exact (h.inv s (by omega)).step h1
theorem Chain.short {P:Pb} {c:Nat→Sx} {t:Nat} (h:Chain P c t):t<2 ^ (P.nv+P.m):=by
 by_cases hlt:t<2 ^ (P.nv+P.m)
 · exact hlt
 · exfalso
   obtain ⟨i,j,h1,h2,h3⟩:=pigeon (2 ^ (P.nv+P.m)) (fun s=>codeOf (fun u=>decide ((c s).row u = -1)) (P.nv+P.m)) fun s _=>codeOf_lt _ _
   have hch:∀ s,∃ x:Nat × Bool × Nat,s<t→Stp P (c s) x.1 x.2.1 x.2.2∧c (s+1)=mov P (c s) x.1 x.2.2:=fun s=>by
    by_cases hs:s<t
    · obtain ⟨v,g,k,h⟩:=h.steps s hs
      exact ⟨(v,g,k),fun _=>h⟩
    · exact ⟨(0,true,0),fun h=>absurd h hs⟩
   obtain ⟨x,hx⟩:=Classical.skolem.1 hch
   refine no_cycle c (fun s=>(x s).1) (fun s=>(x s).2.2) (fun s=>(x s).2.1) i j h1 (h.inv i (by omega)) (fun s _ hs=>hx s (by omega)) fun u hu=>?_
   have:=codeOf_inj _ _ _ h3 u hu;exact decide_eq_decide.1 this
theorem Chain.next {P:Pb} {c:Nat→Sx} {t v k:Nat} {g:Bool} (h:Chain P c t) (hs:Stp P (c t) v g k):∃ c',Chain P c' (t+1)∧c' (t+1)=mov P (c t) v k:=by
 refine ⟨fun s=>if s≤t then c s else mov P (c t) v k,⟨by simpa using h.start,fun s hst=>?_⟩,if_neg (by omega)⟩
 by_cases e:s<t
 · obtain ⟨v',g',k',h1,h2⟩:=h.steps s e
   refine ⟨v',g',k',by simpa [Nat.le_of_lt e] using h1,?_⟩;simp only [if_pos (show s+1≤t by omega),if_pos (Nat.le_of_lt e)];exact h2
 · obtain rfl:s=t:=by omega
   refine ⟨v,g,k,by simpa using hs,?_⟩;rw [if_neg (by omega),if_pos (Nat.le_refl _)]
end Go.Proofs.YtdefcbfofonabaaGreat

namespace Go.Proofs.YtdefcbfofonabaaGreat
open Go.RowKit
set_option linter.unusedVariables false
set_option linter.unusedSimpArgs false
def coA (a:AB) (c:Nat):Rat:=coT (tmsOf a.l) (c:Int)
def hiA (a:AB):Dl:=⟨-a.q,if a.op=2 then -1 else 0⟩
def pbOf (nv:Nat) (l:List AB):Pb where
 nv:=nv
 m:=l.length
 co:=fun i c=>(l[i]?.map fun a=>coA a c).getD 0
 hi:=fun i=>(l[i]?.map hiA).getD dzero
 op:=fun i=>(l[i]?.map AB.op).getD 0
def startF (nv:Nat) (l:List AB) (i j:Nat):Rat:=if j<nv then (pbOf nv l).co i j else 0
def startS (nv:Nat) (l:List AB):Sx where
 a:=startF nv l
 val:=fun _=>dzero
 bas:=fun i=>nv+i
 row:=fun j=>if j<nv+l.length then rowI nv j else -1
theorem pb_co {nv:Nat} {l:List AB} {i c:Nat} {a:AB} (h:l[i]?=some a):(pbOf nv l).co i c=coA a c:=by
 show (l[i]?.map fun a=>coA a c).getD 0=_
 rw [h]
 rfl
theorem pb_hi {nv:Nat} {l:List AB} {i:Nat} {a:AB} (h:l[i]?=some a):(pbOf nv l).hi i=hiA a:=by
 show (l[i]?.map hiA).getD dzero=_
 rw [h]
 rfl
theorem pb_op {nv:Nat} {l:List AB} {i:Nat} {a:AB} (h:l[i]?=some a):(pbOf nv l).op i=a.op:=by
 show (l[i]?.map AB.op).getD 0=_
 rw [h]
 rfl
theorem coA_out {nv:Nat} {l:List AB} (hv:VarsIn nv l) {a:AB} (ha:a ∈ l) {c:Nat} (hc:nv≤c):coA a c=0:=by
 unfold coA
 refine coT_none fun t ht=>?_
 unfold tmsOf at ht;obtain ⟨u,hu,rfl⟩:=List.mem_map.1 ht;have:=hv a ha u hu;omega
theorem pb_co_out {nv:Nat} {l:List AB} (hv:VarsIn nv l) (i:Nat) {c:Nat} (hc:nv≤c):(pbOf nv l).co i c=0:=by
 cases h:l[i]? with
 | none =>
   show (l[i]?.map fun a=>coA a c).getD 0=_
   rw [h]
   rfl
 | some a=>rw [pb_co h,coA_out hv (List.mem_of_getElem? h) hc]
theorem own_open {w:World} {B n size:Nat} {e:TypeId} {v:Value} {xs:List Value} (h:w.ownsRow B e size v n xs):∃ (A:Option Addr) (c g:Nat),v=.slice A n c∧n≤c∧(0<n→A=some ⟨g,0,none⟩∧B≤g∧Wrt w g e∧v.ownBlock=some g)∧∀ j u,xs[j]?=some u→w.cell? ⟨g,j,none⟩=some u:=by
 rcases h.2 with ⟨rfl,rfl⟩ | ⟨g,cap,cur,rfl,hB,hx,hc,_⟩
 · refine ⟨none,0,0,rfl,Nat.le_refl _,fun h0=>by omega,fun j u hu=>?_⟩
   have h1:=h.1;have h2:=(List.getElem?_eq_some_iff.1 hu).1;omega
 · refine ⟨_,cap,g,rfl,hc,fun _=>⟨rfl,hB,⟨cur,hx⟩,rfl⟩,fun j u hu=>?_⟩
   have:=h.cells (g:=g) rfl j u hu;rw [addr_add_none,Nat.zero_add] at this;exact this
theorem row_open {w:World} {B n:Nat} {v:Value} {f:Nat→Int} (h:w.ownsRow B 3 1 v n ((List.range n).map fun j=>.int .i64 (f j))):∃ (A:Option Addr) (c g:Nat),v=.slice A n c∧n≤c∧(0<n→A=some ⟨g,0,none⟩∧B≤g∧v.ownBlock=some g)∧IRow w g n f:=by
 obtain ⟨A,c,g,e,hc,h1,h2⟩:=own_open h;exact ⟨A,c,g,e,hc,fun h0=>⟨(h1 h0).1,(h1 h0).2.1,(h1 h0).2.2.2⟩,fun h0=>(h1 h0).2.2.1,fun j hj=>h2 j _ (mapr_at _ hj)⟩
theorem tab_of {w0 w:World} {gt nv c gv K mt k:Nat} {l:List AB} {A:Option Addr} {v2 v3 v4 v6:Value} {rb:Nat→Nat} {db:Nat→DB} (hl:AtmsAt w0 A l.length c l mt k)
 (h:Bld w w0.heap.size gt nv l.length A c gv v2 v3 v4 v6 v2 v3 v4 v6 l.length (nv+l.length) l.length l.length rb db (startF nv l) (pbOf nv l).hi K) (hb:Below w0.heap.size w0 w) (hn0:0<nv) (hn3:nv≤3) (hm:l.length≤8) :
 ∃ T:TL,T.g=gt∧TabAt w w0.heap.size T (pbOf nv l) (startS nv l) K:=by
 obtain ⟨A2,c2,g2,e2,hc2,h2,r2⟩:=row_open h.o2;obtain ⟨A3,c3,g3,e3,hc3,h3,r3⟩:=row_open h.o3;obtain ⟨A4,c4,g4,e4,hc4,h4,r4⟩:=own_open h.o4;obtain ⟨A6,c6,g6,e6,hc6,h6,r6⟩:=own_open h.o6;have ht:=h.tb;obtain ⟨e3a,hB3,hk3⟩:=h3 (by omega);subst e3a;refine ⟨{ g:=gt,LA:=A,lc:=c,gb:=g2,bA:=A2,bc:=c2,gr:=g3,rc:=c3,ga:=g4,aA:=A4,ac:=c4,gv:=gv,vc:=nv+l.length,gh:=g6,hA:=A6,hc:=c6,rb:=rb,rbc:=fun _=>nv+l.length },rfl,?_⟩;refine ⟨?_,?_,fun h0=>(h2 h0).1,fun h0=>(h4 h0).1,fun h0=>(h6 h0).1,r2.congr fun _ _=>rfl,r3.congr fun j hj=>?_,h.val,⟨fun h0=>(h6 h0).2.2.1,fun j hj=>?_⟩,⟨fun h0=>(h4 h0).2.2.1,fun j hj=>r4 j _ (mapr_at _ hj)⟩,fun i hi=>h.rws i hi,h.lg,hB3,h.lv,fun h0=>⟨(h2 h0).2.1,(h4 h0).2.1,(h6 h0).2.1⟩,h.lrb,fun h0 e=>?_,fun h0 e=>?_,h.rnd,Nat.le_refl _,hn0,hn3,hm⟩
 · rw [ht,e2,e3,e4,e6]
   rfl
 · intro i hi
   have hi':i<l.length:=hi;obtain ⟨g,off,a,eA,ha,_,_,_,_,hop⟩:=hl.rd.at5 rfl hi';refine ⟨g,off,eA,World.block_lt_of_cell? w0 _ hop,?_⟩;rw [pb_op ha];exact (hb.cell (p:=⟨g,off+i*5+4,none⟩) (World.block_lt_of_cell? w0 _ hop)).trans hop
 · have hj':j<nv+l.length:=hj
   show rowI nv j=if j<nv+l.length then rowI nv j else -1
   rw [if_pos hj']
 · have hj':j<l.length:=hj
   have key:∀ i,i<6→w.cell? ⟨g6,j*6+i,none⟩=(dCells (db j) ((pbOf nv l).hi j))[i]?:=fun i hi=>by
    have h7:=dsL_at db (pbOf nv l).hi hj' hi
    have h8:∃ u,(dCells (db j) ((pbOf nv l).hi j))[i]?=some u:=⟨(dCells (db j) ((pbOf nv l).hi j))[i]'(by simp [dCells];omega),List.getElem?_eq_getElem _⟩
    obtain ⟨u,hu⟩:=h8;rw [hu] at h7 ⊢;exact r6 _ _ h7
   exact ⟨db j,⟨key 0 (by decide),key 1 (by decide),key 2 (by decide),key 3 (by decide),key 4 (by decide),key 5 (by decide)⟩,h.dss j hj'⟩
 · exact h.n23 g2 (h2 h0).2.2 (by rw [hk3];exact congrArg some e.symm)
 · exact h.n6v (by rw [(h6 h0).2.2.2];exact congrArg some e.symm)
end Go.Proofs.YtdefcbfofonabaaGreat

namespace Go.Proofs.YtdefcbfofonabaaGreat
set_option linter.unusedVariables false
set_option linter.unusedSimpArgs false
def Sx.withVal (S:Sx) (f:Nat→Dl):Sx:={ S with val:=f }
def Sx.withA (S:Sx) (f:Nat→Nat→Rat):Sx:={ S with a:=f }
def mvV (P:Pb) (S:Sx) (v kx i:Nat):Nat→Dl:=fun j=>if j=v then hiOf P v else if j=kx then dadd (S.val kx) (stepOf P S v kx) else if 0≤S.row j∧S.row j<(i:Int) then dadd (S.val j) (dmul (S.a (rowOf S j) kx) (stepOf P S v kx)) else S.val j
theorem mvV_step {P:Pb} {S:Sx} {v kx i b:Nat} (hb:S.row b=(i:Int)) (hbv:b≠v) (hbk:b≠kx) (h2:∀ j,S.row j=(i:Int)→j=b):updF (mvV P S v kx i) b (dadd (S.val b) (dmul (S.a i kx) (stepOf P S v kx)))=mvV P S v kx (i+1):=by
 funext j
 unfold updF mvV
 by_cases h0:j=b
 · subst h0
   rw [if_pos rfl,if_neg hbv,if_neg hbk,if_pos (by omega)]
   have:rowOf S j=i:=by unfold rowOf;omega
   rw [this]
 · rw [if_neg h0]
   by_cases h1:j=v
   · rw [if_pos h1,if_pos h1]
   · rw [if_neg h1,if_neg h1]
     by_cases h3:j=kx
     · rw [if_pos h3,if_pos h3]
     · rw [if_neg h3,if_neg h3]
       have h4:S.row j≠(i:Int):=fun e=>h0 (h2 j e)
       by_cases h5:0≤S.row j∧S.row j<(i:Int)
       · rw [if_pos h5,if_pos (by omega)]
       · rw [if_neg h5,if_neg (by omega)]
theorem mvV_same {P:Pb} {S:Sx} {v kx i:Nat} (h2:∀ j,S.row j=(i:Int)→j=v):mvV P S v kx i=mvV P S v kx (i+1):=by
 funext j
 unfold mvV
 by_cases h1:j=v
 · rw [if_pos h1,if_pos h1]
 · rw [if_neg h1,if_neg h1]
   have h4:S.row j≠(i:Int):=fun e=>h1 (h2 j e)
   by_cases h3:j=kx
   · rw [if_pos h3,if_pos h3]
   · rw [if_neg h3,if_neg h3]
     by_cases h5:0≤S.row j∧S.row j<(i:Int)
     · rw [if_pos h5,if_pos (by omega)]
     · rw [if_neg h5,if_neg (by omega)]
theorem mvV_zero {P:Pb} {S:Sx} {v kx:Nat} (hvk:v≠kx):((S.setVal v (hiOf P v)).setVal kx (dadd (S.val kx) (stepOf P S v kx))).val=mvV P S v kx 0:=by
 funext j
 show updF (updF S.val v (hiOf P v)) kx _ j=_
 unfold updF mvV
 by_cases h1:j=v
 · subst h1
   rw [if_neg hvk,if_pos rfl,if_pos rfl]
 · by_cases h3:j=kx
   · rw [if_pos h3,if_neg h1,if_pos h3]
   · rw [if_neg h3,if_neg h1,if_neg h1,if_neg h3,if_neg (by omega)]
theorem mv_start {P:Pb} {S:Sx} {v kx:Nat} {xh xk st:Dl} (hvk:v≠kx) (h1:xh=hiOf P v) (h2:xk=S.val kx) (h3:st=stepOf P S v kx):(S.setVal v xh).setVal kx (dadd xk st)=S.withVal (mvV P S v kx 0):=by
 subst h1;subst h2;subst h3;exact congrArg S.withVal (mvV_zero hvk)
theorem mvV_end {P:Pb} {S:Sx} {v kx:Nat} (h:∀ (j i:Nat),S.row j=(i:Int)→i<P.m):mvV P S v kx P.m=(mov P S v kx).val:=by
 funext j
 unfold mvV mov;simp only
 by_cases h1:j=v
 · rw [if_pos h1,if_pos h1]
 · rw [if_neg h1,if_neg h1]
   by_cases h3:j=kx
   · rw [if_pos h3,if_pos h3]
   · rw [if_neg h3,if_neg h3]
     by_cases h5:0≤S.row j
     · have:=h j (S.row j).toNat (by omega)
       rw [if_pos (by omega),if_pos h5]
     · rw [if_neg (by omega),if_neg h5]
def nwI (S:Sx) (kx r:Nat) (by_:Rat) (j:Nat):Nat→Rat:=fun i=>if i<j∧i≠kx then -(by_*S.a r i) else 0
theorem nwI_step {S:Sx} {kx r j:Nat} {by_:Rat} (h:j≠kx):updF (nwI S kx r by_ j) j (-(by_*S.a r j))=nwI S kx r by_ (j+1):=by
 funext i
 unfold updF nwI
 by_cases h0:i=j
 · subst h0
   rw [if_pos rfl,if_pos (by omega)]
 · rw [if_neg h0]
   by_cases h1:i<j∧i≠kx
   · rw [if_pos h1,if_pos (by omega)]
   · rw [if_neg h1,if_neg (by omega)]
theorem nwI_same {S:Sx} {kx r:Nat} {by_:Rat}:nwI S kx r by_ kx=nwI S kx r by_ (kx+1):=by
 funext i
 unfold nwI
 by_cases h1:i<kx∧i≠kx
 · rw [if_pos h1,if_pos (by omega)]
 · rw [if_neg h1,if_neg (by omega)]
theorem nwI_end {S:Sx} {v kx r n:Nat} (hr:rowOf S v=r):∀ j,j<n→updF (nwI S kx r (byOf S v kx) n) v (byOf S v kx) j=nowOf S v kx j:=fun j hj=>by
 unfold updF nwI nowOf;rw [hr]
 by_cases h1:j=v
 · rw [if_pos h1,if_pos h1]
 · rw [if_neg h1,if_neg h1]
   by_cases h3:j=kx
   · rw [if_neg (by omega),if_pos h3]
   · rw [if_pos (by omega),if_neg h3]
def mvA (S:Sx) (v kx i:Nat):Nat→Nat→Rat:=fun i' j'=>if i'<i∧i'≠rowOf S v then (if j'=kx then 0 else S.a i' j'+S.a i' kx*nowOf S v kx j') else S.a i' j'
def mvAj (S:Sx) (v kx i j:Nat):Nat→Nat→Rat:=fun i' j'=>if i'=i then (if j'<j then S.a i j'+S.a i kx*nowOf S v kx j' else S.a i j') else mvA S v kx i i' j'
theorem mvAj_zero {S:Sx} {v kx i:Nat}:mvA S v kx i=mvAj S v kx i 0:=by
 funext i' j'
 unfold mvAj mvA
 by_cases h:i'=i
 · rw [if_neg (by omega),if_pos h,if_neg (by omega),h]
 · rw [if_neg h]
theorem mvAj_step {S:Sx} {v kx i j:Nat}:updF (mvAj S v kx i j) i (updF (mvAj S v kx i j i) j (S.a i j+S.a i kx*nowOf S v kx j))=mvAj S v kx i (j+1):=by
 funext i' j'
 by_cases h:i'=i
 · subst h
   rw [updF_self];unfold updF mvAj;simp only [if_true]
   by_cases h1:j'=j
   · subst h1
     rw [if_pos rfl,if_pos (by omega)]
   · rw [if_neg h1]
     by_cases h2:j'<j
     · rw [if_pos h2,if_pos (by omega)]
     · rw [if_neg h2,if_neg (by omega)]
 · rw [updF_ne _ _ h]
   unfold mvAj;rw [if_neg h,if_neg h]
theorem mvAj_end {S:Sx} {v kx i n:Nat} (hi:i≠rowOf S v):∀ i' j',j'<n→updF (mvAj S v kx i n) i (updF (mvAj S v kx i n i) kx 0) i' j'=mvA S v kx (i+1) i' j':=fun i' j' hj=>by
 by_cases h:i'=i
 · subst h
   rw [updF_self];unfold updF mvAj mvA;simp only [if_true];rw [if_pos (show i'<i'+1∧i'≠rowOf S v from ⟨by omega,hi⟩)]
   by_cases h1:j'=kx
   · rw [if_pos h1,if_pos h1]
   · rw [if_neg h1,if_neg h1,if_pos hj]
 · rw [updF_ne _ _ h]
   unfold mvAj mvA;rw [if_neg h]
   by_cases h2:i'<i∧i'≠rowOf S v
   · rw [if_pos h2,if_pos (show i'<i+1∧i'≠rowOf S v by omega)]
   · rw [if_neg h2,if_neg (show ¬ (i'<i+1∧i'≠rowOf S v) by omega)]
theorem mvA_skip {S:Sx} {v kx i:Nat} (h:i=rowOf S v∨S.a i kx=0):mvA S v kx i=mvA S v kx (i+1):=by
 funext i' j'
 unfold mvA
 by_cases h0:i'=i
 · subst h0
   rw [if_neg (by omega)];rcases h with h | h
   · rw [if_neg (by omega)]
   · by_cases h1:i'<i'+1∧i'≠rowOf S v
     · rw [if_pos h1]
       by_cases h2:j'=kx
       · rw [if_pos h2,h2,h]
       · rw [if_neg h2,h]
         grind
     · rw [if_neg h1]
 · by_cases h2:i'<i∧i'≠rowOf S v
   · rw [if_pos h2,if_pos (show i'<i+1∧i'≠rowOf S v by omega)]
   · rw [if_neg h2,if_neg (show ¬ (i'<i+1∧i'≠rowOf S v) by omega)]
theorem mvA_zero {S:Sx} {v kx:Nat}:mvA S v kx 0=S.a:=by
 funext i' j'
 unfold mvA;rw [if_neg (by omega)]
theorem mvA_end {P:Pb} {S:Sx} {v kx:Nat}:∀ i j,i<P.m→updF (mvA S v kx P.m) (rowOf S v) (nowOf S v kx) i j=(mov P S v kx).a i j:=fun i j hi=>by
 unfold updF mvA mov;simp only
 by_cases h:i=rowOf S v
 · rw [if_pos h,if_pos h]
 · rw [if_neg h,if_neg h,if_pos ⟨hi,h⟩]
end Go.Proofs.YtdefcbfofonabaaGreat

namespace Go.Proofs.YtdefcbfofonabaaGreat
open Go.RowKit
set_option linter.unusedVariables false
set_option linter.unusedSimpArgs false
def HB9:Nat:=2993760
structure Fit9 (a:AB):Prop where
 co:∀ v,IntB (2520*coT (tmsOf a.l) v) HB9
 q:IntB (2520*a.q) HB9
theorem hb9_big:18*(HB9*HB9*HB9)*HB9<2 ^ (32*4):=by unfold HB9;decide
theorem hb9_mid:6*(HB9*HB9*HB9)<2 ^ (32*4):=by unfold HB9;decide
theorem hb9_mid2:6*(HB9*HB9*HB9)*HB9<2 ^ (32*4):=by unfold HB9;decide
theorem ratLe_lt {q:Rat} (h1:q.num.natAbs<2 ^ (32*4)) (h2:q.den<2 ^ (32*4)):RatLe q 4:=⟨limbs_len_lt 4 _ h1,limbs_len_lt 4 _ h2⟩
theorem ratLe_fit {q:Rat} (h:IntB (2520*q) HB9):RatLe q 4:=by
 have:=quot_le (q:=q) (D:=2520) (by rw [Rat.mul_comm]) int2520 h (by decide);refine ratLe_lt (Nat.lt_of_le_of_lt this.1 ?_) (Nat.lt_of_le_of_lt this.2 ?_)
 · unfold HB9;decide
 · decide
theorem at_of_lt {l:List AB} {i:Nat} (h:i<l.length):∃ a,l[i]?=some a∧a ∈ l:=⟨l[i],List.getElem?_eq_getElem h,List.getElem_mem h⟩
theorem small_of {nv:Nat} {l:List AB} (h:∀ a ∈ l,Fit9 a):Small (pbOf nv l) HB9:=by
 refine ⟨by unfold HB9;decide,fun i c hi=>?_,fun i hi=>?_,fun i hi=>?_⟩
 · obtain ⟨a,ha,hm⟩:=at_of_lt hi
   rw [pb_co ha];exact (h a hm).co _
 · obtain ⟨a,ha,hm⟩:=at_of_lt hi
   rw [pb_hi ha]
   show IntB (2520 * -a.q) HB9
   have e:(2520:Rat) * -a.q = -(2520*a.q):=by grind
   rw [e];exact (h a hm).q.neg
 · obtain ⟨a,ha,hm⟩:=at_of_lt hi
   rw [pb_hi ha]
   show IntB (2520*(if a.op=2 then -1 else 0)) HB9
   split
   · have e:(2520:Rat) * -1 = -2520:=by grind
     rw [e];exact (int2520.neg).up (by unfold HB9;decide)
   · have e:(2520:Rat)*0=0:=by grind
     rw [e];exact IntB.zero _
theorem pbok_of {nv:Nat} {l:List AB} (h:∀ a ∈ l,1≤a.op∧a.op≤3):PbOk (pbOf nv l):=by
 refine ⟨fun i hi=>?_,fun i hi=>?_⟩
 · obtain ⟨a,ha,hm⟩:=at_of_lt hi
   rw [pb_op ha];have:=h a hm;omega
 · obtain ⟨a,ha,hm⟩:=at_of_lt hi
   rw [pb_op ha,pb_hi ha]
   rfl
section
variable {nv:Nat} {l:List AB}
theorem vec_giv (nv:Nat) (l:List AB) (j c:Nat) (h:j<nv):vec (pbOf nv l) j c=if j=c then 1 else 0:=if_pos h
theorem vec_con {i:Nat} (c:Nat) (h:i<l.length):vec (pbOf nv l) (nv+i) c=(pbOf nv l).co i c:=by
 show (if nv+i<nv then (if nv+i=c then 1 else 0) else if nv+i<nv+l.length then (pbOf nv l).co (nv+i - nv) c else if nv+i=1000+c then 1 else 0)=_
 rw [if_neg (show ¬ nv+i<nv by omega),if_pos (show nv+i<nv+l.length by omega),Nat.add_sub_cancel_left nv i]
theorem vec_out (nv:Nat) (l:List AB) (j c:Nat) (h:nv+l.length≤j):vec (pbOf nv l) j c=if j=1000+c then 1 else 0:=by
 show (if j<nv then (if j=c then 1 else 0) else if j<nv+l.length then (pbOf nv l).co (j - nv) c else if j=1000+c then 1 else 0)=_
 rw [if_neg (show ¬ j<nv by omega),if_neg (show ¬ j<nv+l.length by omega)]
theorem hi_giv (nv:Nat) (l:List AB) (j:Nat) (h:j<nv):hiOf (pbOf nv l) j=dzero:=if_pos h
theorem st_row {j:Nat}:(startS nv l).row j=if nv≤j∧j<nv+l.length then ((j - nv:Nat):Int) else -1:=by
 show (if j<nv+l.length then rowI nv j else -1)=_
 unfold rowI
 by_cases h1:j<nv+l.length
 · rw [if_pos h1]
   by_cases h2:j<nv
   · rw [if_pos h2,if_neg (by omega)]
   · rw [if_neg h2,if_pos (by omega)]
 · rw [if_neg h1,if_neg (by omega)]
theorem start_b1:∀ i,i<(pbOf nv l).m→(startS nv l).bas i<(pbOf nv l).nv+(pbOf nv l).m∧(startS nv l).row ((startS nv l).bas i)=(i:Int):=fun i hi=>by
 have hi':i<l.length:=hi;refine ⟨show nv+i<nv+l.length by omega,?_⟩;rw [st_row]
 show (if nv≤nv+i∧nv+i<nv+l.length then ((nv+i - nv:Nat):Int) else -1)=_
 rw [if_pos (by omega)];omega
theorem start_b2:∀ (j r:Nat),(startS nv l).row j=(r:Int)→r<(pbOf nv l).m∧(startS nv l).bas r=j:=fun j r h=>by
 rw [st_row] at h
 show r<l.length∧nv+r=j
 split at h<;>omega
theorem start_b3:∀ j,(startS nv l).row j<0→(startS nv l).row j = -1:=fun j h=>by
 rw [st_row] at h ⊢
 split at h<;>rename_i h'<;>simp only [h',if_true,if_false]<;>omega
end
theorem start_inv3 {l:List AB} (hm:l.length≤8):Inv (pbOf 3 l) (startS 3 l) 0 1 2:=by
 have hr:∀ j,j<3→(startS 3 l).row j = -1:=fun j hj=>by rw [st_row,if_neg (by omega)]
 have ha:∀ i j,j<3→(startS 3 l).a i j=(pbOf 3 l).co i j:=fun i j hj=>if_pos hj
 have hro:∀ c,c<3→Rows (startS 3 l) (pbOf 3 l).m 0 1 2 (fun j=>vec (pbOf 3 l) j c):=fun c hc i hi=>by
  show vec (pbOf 3 l) (3+i) c=_
  dsimp only
  rw [vec_con c hi,ha i 0 (by decide),ha i 1 (by decide),ha i 2 (by decide),vec_giv 3 l 0 c (by decide),vec_giv 3 l 1 c (by decide),vec_giv 3 l 2 c (by decide)]
  have:c=0∨c=1∨c=2:=by omega
  rcases this with rfl | rfl | rfl<;>simp<;>grind
 refine ⟨start_b1,start_b2,start_b3,fun j hj h=>?_,hr 0 (by decide),hr 1 (by decide),hr 2 (by decide),by decide,by decide,by decide,fun i j hi h=>?_,hro 0 (by decide),hro 1 (by decide),hro 2 (by decide),fun i hi=>?_,fun i hi=>?_,?_,fun _=>?_,fun _=>?_,fun _=>?_⟩
 · rw [st_row] at h
   have hj':j<3+l.length:=hj
   split at h<;>omega
 · show (if j<3 then (pbOf 3 l).co i j else 0)=0
   rw [if_neg];rcases h with h | h
   · omega
   · have:3+l.length≤j:=h
     omega
 · show (0:Rat)=_*0+_*0+_*0
   grind
 · show (0:Rat)=_*0+_*0+_*0
   grind
 · unfold det3
   rw [vec_giv 3 l 0 0 (by decide),vec_giv 3 l 0 1 (by decide),vec_giv 3 l 0 2 (by decide),vec_giv 3 l 1 0 (by decide),vec_giv 3 l 1 1 (by decide),vec_giv 3 l 1 2 (by decide),vec_giv 3 l 2 0 (by decide),vec_giv 3 l 2 1 (by decide),vec_giv 3 l 2 2 (by decide)]
   first
    | (simp;done)
    | (simp;grind)
    | grind
 · exact (hi_giv 3 l 0 (by decide)).symm
 · exact (hi_giv 3 l 1 (by decide)).symm
 · exact (hi_giv 3 l 2 (by decide)).symm
theorem start_inv1 {l:List AB} (hv:VarsIn 1 l) (hm:l.length≤8):Inv (pbOf 1 l) (startS 1 l) 0 1001 1002:=by
 have hr:∀ j,j<1∨1+l.length≤j→(startS 1 l).row j = -1:=fun j hj=>by rw [st_row,if_neg (by omega)]
 have ha:∀ i,(startS 1 l).a i 0=(pbOf 1 l).co i 0:=fun i=>(show (if 0<1 then (pbOf 1 l).co i 0 else 0)=_ from if_pos (by decide))
 have ha2:∀ i j,1≤j→(startS 1 l).a i j=0:=fun i j h=>if_neg (by omega)
 have hro:∀ c,c<3→Rows (startS 1 l) (pbOf 1 l).m 0 1001 1002 (fun j=>vec (pbOf 1 l) j c):=fun c hc i hi=>by
  show vec (pbOf 1 l) (1+i) c=_
  dsimp only
  rw [vec_con c hi,ha i,ha2 i 1001 (by decide),ha2 i 1002 (by decide),vec_giv 1 l 0 c (by decide)]
  have:c=0∨1≤c:=by omega
  rcases this with rfl | h
  · simp
    grind
  · rw [pb_co_out hv i h,if_neg (by omega)]
    grind
 refine ⟨start_b1,start_b2,start_b3,fun j hj h=>?_,hr 0 (by omega),hr 1001 (by omega),hr 1002 (by omega),by decide,by decide,by decide,fun i j hi h=>?_,hro 0 (by decide),hro 1 (by decide),hro 2 (by decide),fun i hi=>?_,fun i hi=>?_,?_,fun _=>?_,fun h=>?_,fun h=>?_⟩
 · rw [st_row] at h
   have hj':j<1+l.length:=hj
   split at h<;>omega
 · refine ha2 i j ?_
   rcases h with h | h
   · omega
   · have:1+l.length≤j:=h
     omega
 · show (0:Rat)=_*0+_*0+_*0
   grind
 · show (0:Rat)=_*0+_*0+_*0
   grind
 · unfold det3
   rw [vec_giv 1 l 0 0 (by decide),vec_giv 1 l 0 1 (by decide),vec_giv 1 l 0 2 (by decide),vec_out 1 l 1001 0 (by omega),vec_out 1 l 1001 1 (by omega),vec_out 1 l 1001 2 (by omega),vec_out 1 l 1002 0 (by omega),vec_out 1 l 1002 1 (by omega),vec_out 1 l 1002 2 (by omega)]
   first
    | (simp;done)
    | (simp;grind)
    | grind
 · exact (hi_giv 1 l 0 (by decide)).symm
 · have:1001<1+l.length:=h
   omega
 · have:1002<1+l.length:=h
   omega
theorem start_inv {nv:Nat} {l:List AB} (hn:nv=3∨nv=1) (hv:VarsIn nv l) (hm:l.length≤8):InvE (pbOf nv l) (startS nv l):=by
 rcases hn with rfl | rfl
 · exact ⟨_,_,_,start_inv3 hm⟩
 · exact ⟨_,_,_,start_inv1 hv hm⟩
section
variable {P:Pb} {S:Sx}
theorem InvE.a_le (h:InvE P S) (hP:Small P HB9) {i j:Nat} (hi:i<P.m):RatLe (S.a i j) 4:=by
 obtain ⟨N0,N1,N2,h⟩:=h;obtain ⟨h1,h2⟩:=h.a_le hP hi (j:=j);exact ratLe_lt (Nat.lt_of_le_of_lt h1 hb9_mid) (Nat.lt_of_le_of_lt h2 hb9_mid)
theorem InvE.val_le (h:InvE P S) (hP:Small P HB9) {j:Nat} (hj:j<P.nv+P.m):DLe (S.val j) 4:=by
 obtain ⟨N0,N1,N2,h⟩:=h;obtain ⟨⟨h1,h2⟩,h3,h4⟩:=h.val_le hP hj;exact ⟨ratLe_lt (Nat.lt_of_le_of_lt h1 hb9_big) (Nat.lt_of_le_of_lt h2 hb9_mid2),ratLe_lt (Nat.lt_of_le_of_lt h3 hb9_big) (Nat.lt_of_le_of_lt h4 hb9_mid2)⟩
theorem cmpD_self (x:Dl):cmpD x x≤0:=by
 have h:¬ 0<cmpD x x:=by
  rw [cmpD_pos];unfold Dl.pos dsub;simp only;intro h
  rcases h with h | h<;>grind
 omega
theorem cmp_of_no (h:InvE P S) (hno:∀ v g,¬ Brk P S v g):∀ u,u<P.m→cmpD (S.val (P.nv+u)) (P.hi u)≤0:=fun u hu=>by
 by_cases h0:0≤S.row (P.nv+u)
 · have:¬ 0<cmpD (S.val (P.nv+u)) (P.hi u):=fun hp=>hno (P.nv+u) true ((brk_iff P S u true).2 ⟨hu,h0,.inl ⟨rfl,hp⟩⟩)
   omega
 · obtain ⟨N0,N1,N2,hI⟩:=h
   have hr:=hI.b3 (P.nv+u) (by omega)
   have e:S.val (P.nv+u)=hiOf P (P.nv+u):=by
    rcases hI.n0 (P.nv+u) (by omega) hr with e | e | e
    · rw [e];exact hI.h0 (by omega)
    · rw [e];exact hI.h1 (by omega)
    · rw [e];exact hI.h2 (by omega)
   rw [e];unfold hiOf;rw [if_neg (by omega),Nat.add_sub_cancel_left];exact cmpD_self _
theorem brk_row (h:InvE P S) {v:Nat} {g:Bool} (hb:Brk P S v g):rowOf S v<P.m∧S.a (rowOf S v) v=0:=by
 obtain ⟨N0,N1,N2,h⟩:=h;have hr:=hb.row;obtain ⟨h1,h2⟩:=h.b2 v _ hr;refine ⟨h1,h.a0 _ _ h1 (.inl ⟨fun e=>?_,fun e=>?_,fun e=>?_⟩)⟩
 · have:=h.r0;rw [←e] at this;omega
 · have:=h.r1;rw [←e] at this;omega
 · have:=h.r2;rw [←e] at this;omega
end
end Go.Proofs.YtdefcbfofonabaaGreat
