/- Contract of farkas.Refutes at numbers that refute. -/
import Derived.Test.YtdefcbfofonabaaGreatFkSum
import Derived.Test.YtdefcbfofonabaaGreatRxTold8
import Derived.Test.YtdefcbfofonabaaGreatRxFeas
import Derived.Test.YtdefcbfofonabaaGreatRxOps
import Derived.Test.YtdefcbfofonabaaGreatFkMem
import Derived.Test.YtdefcbfofonabaaGreatLawEx9
import Derived.Test.YtdefcbfofonabaaGreatSmWhy
namespace Go.Proofs.YtdefcbfofonabaaGreat
open Go.RowKit
set_option linter.unusedVariables false
set_option linter.unusedSimpArgs false
section
variable {l:List AB} {t:Nat→Rat}
theorem pb_coL {i:Nat} (h:i<l.length) (c:Nat):(pbOf 3 l).co i c=coL l i (c:Int):=by
 obtain ⟨a,ha,_⟩:=at_of_lt h;rw [pb_co ha,coL_at ha]
 rfl
theorem pb_qL {i:Nat} (h:i<l.length) : -((pbOf 3 l).hi i).a=qL l i:=by
 obtain ⟨a,ha,_⟩:=at_of_lt h;rw [pb_hi ha,qL_at ha]
 show - -a.q=a.q
 grind
theorem linv_con (x0 x1 x2:Rat) {i:Nat} (h:i<l.length):linv (pbOf 3 l) x0 x1 x2 (3+i)=coL l i 0*x0+coL l i 1*x1+coL l i 2*x2:=by
 unfold linv;rw [vec_con 0 h,vec_con 1 h,vec_con 2 h,pb_coL h,pb_coL h,pb_coL h]
 rfl
theorem fark_zero (hF:Fark (pbOf 3 l) t) (hv:VarsIn 3 l) (v:Int):sumN (fun j=>t j*coL l j v) l.length=0:=by
 by_cases h:0≤v∧v<3
 · have key:∀ x0 x1 x2:Rat,sumN (fun i=>t i*(coL l i 0*x0+coL l i 1*x1+coL l i 2*x2)) l.length=0:=fun x0 x1 x2=>by
    have:=hF.zero x0 x1 x2;rw [←this]
    exact sumN_congr _ fun i hi=>by
     show _=t i*linv (pbOf 3 l) x0 x1 x2 (3+i)
     rw [linv_con x0 x1 x2 hi]
   have:v=0∨v=1∨v=2:=by omega
   rcases this with rfl | rfl | rfl
   · rw [←key 1 0 0]
     exact sumN_congr _ fun i hi=>by grind
   · rw [←key 0 1 0]
     exact sumN_congr _ fun i hi=>by grind
   · rw [←key 0 0 1]
     exact sumN_congr _ fun i hi=>by grind
 · exact Classical.byContradiction fun hn=>h (sum_range hv t _ v hn)
theorem strN_yes:∀ {n i:Nat},i<n→opL l i=2→0<t i→strN l t n=true
 | 0,i,h,_,_=>by omega
 | n+1,i,h,h1,h2=>by
   unfold strN
   by_cases e:i=n
   · subst e
     simp [h1,h2]
   · rw [strN_yes (by omega) h1 h2]
     rfl
theorem fark_pos (hF:Fark (pbOf 3 l) t):0<sumN (fun j=>t j*qL l j) l.length∨(sumN (fun j=>t j*qL l j) l.length=0∧strN l t l.length=true):=by
 have e:sumN (fun i=>t i * -((pbOf 3 l).hi i).a) (pbOf 3 l).m=sumN (fun j=>t j*qL l j) l.length:=sumN_congr _ fun i hi=>by rw [pb_qL hi]
 have h:=hF.pos;rw [e] at h;rcases h with h | ⟨h,i,hi,h1,h2⟩
 · exact .inl h
 · refine .inr ⟨h,strN_yes hi ?_ h2⟩
   obtain ⟨a,ha,_⟩:=at_of_lt hi;rw [opL_at ha,←h1,pb_op ha]
end
set_option maxRecDepth 100000 in
set_option maxHeartbeats 4000000 in
theorem refutes_any (A:Option Addr) (m c:Nat) (l:List AB) (mt k gt cc:Nat) (t:Nat→Rat) (w:World) (h:AtmsAt w A m c l mt k) (hm:m≤8) (hmt:mt≤16) (hk:k≤4) (ht:RRow w gt m t 8) (hv:VarsIn 3 l) (hf:∀ a ∈ l,Fit9 a) (hF:Fark (pbOf 3 l) t) :
 Calls Tryz.prog 12 #[.slice A m c,.slice (some ⟨gt,0,none⟩) m cc] w fun e w'=>e=.returned (.tuple #[.bool true,.int .i64 0])∧Below w.heap.size w w':=by
 have hlen:=h.len
 have hop:∀ i a,l[i]?=some a→a.op≠3→0≤t i:=fun i a ha h3=>hF.nn i (List.getElem?_eq_some_iff.1 ha).1 (by rw [pb_op ha];exact h3)
 have hsu:=fsum_any A m c l mt k gt cc t w h hm hmt hk ht hop hv hf
 have hz:=fun v=>fark_zero hF hv v
 have hp:=fark_pos hF;rw [hlen] at hz hp;have HSU:=Lib.hid hsu;have HZ:=Lib.hid hz
 obtain ⟨Q,hQ⟩:∃ x,x=sumN (fun j=>t j*qL l j) m:=⟨_,rfl⟩
 obtain ⟨sb,hsb⟩:∃ x,x=strN l t m:=⟨_,rfl⟩
 rw [←hQ,←hsb] at hp;unfold SumP at HSU;rw [←hQ,←hsb] at HSU
 have hzs:(0<signZ Q)∨(signZ Q=0∧sb=true):=by
  rcases hp with h | ⟨h,h'⟩
  · exact .inl (signZ_pos.2 h)
  · exact .inr ⟨signZ_nul.2 h,h'⟩
 obtain ⟨zs,hzz⟩:∃ z,z=signZ Q:=⟨_,rfl⟩
 rw [←hzz] at hzs;have HZZ:=Lib.hid hzz;clear h ht hv hf hF hlen hop hsu hz hp hQ hsb hzz;rcases hzs with hzs | ⟨hzs,hsb⟩
 · have hz1:decide (zs>0)=true:=by simpa using hzs
   have hz2:zs>0:=hzs
   go_enter Tryz.func12,Tryz.ntmps12
   go_upto_region 2 with (go_at_call 32;refine HSU.out.mono ?_;clear HSU;rintro e w1 ⟨⟨A8,n8,c8,b8⟩,l8,rfl,hex,hco,hb1⟩;unfold EB.val;dsimp only at hex ⊢;have hl0:l8=[]:=(by have h1:=hex.can.nil (fun v=>by rw [hco v];exact HZ.out v);have h2:=tmsOf_len l8;rw [h1] at h2;exact List.eq_nil_of_length_eq_zero h2.symm);have hn0:n8=0:=(by have h1:=hex.tms.len;rw [hl0] at h1;exact h1.symm);subst hn0;have HEX:=Lib.hid (And.intro hex.cst hb1);clear hex hco hb1 hl0)
   have hx6:=heap_alloc_new w1 (.cells #[.slice A8 0 c8,.bool (ratNeg Q),.slice b8.A b8.n b8.c,.slice b8.A2 b8.n2 b8.c2] 28)
   have zw2:(w1.alloc (.cells #[.slice A8 0 c8,.bool (ratNeg Q),.slice b8.A b8.n b8.c,.slice b8.A2 b8.n2 b8.c2] 28)).heap.size=w1.heap.size+1:=by simp
   have aw2:=(Below.refl w1.heap.size w1).alloc (Nat.le_refl _) (.cells #[.slice A8 0 c8,.bool (ratNeg Q),.slice b8.A b8.n b8.c,.slice b8.A2 b8.n2 b8.c2] 28)
   obtain ⟨w2,ew2⟩:∃ x0,x0=w1.alloc (.cells #[.slice A8 0 c8,.bool (ratNeg Q),.slice b8.A b8.n b8.c,.slice b8.A2 b8.n2 b8.c2] 28):=⟨_,rfl⟩
   rw [←ew2] at hx6 zw2 aw2 ⊢;clear ew2;obtain ⟨p0,p1,p2,p3⟩:=boxE4 hx6;have hsg:=sign_any b8 Q w2 (HEX.out.1.below aw2);unfold RB.val at hsg;rw [←HZZ.out] at hsg;have HSG:=Lib.hid hsg;have HX6:=Lib.hid (And.intro hx6 (HEX.out.2.trans (aw2.mono HEX.out.2.size)));clear hx6 aw2 zw2 hsg
   go_wp2_with (go_at_call 33;refine HSG.out.mono ?_;rintro e w3 ⟨rfl,hb3⟩;have HB3:=Lib.hid (HX6.out.2.trans (hb3.mono HX6.out.2.size));clear p0 p1 p2 p3;obtain ⟨p0,p1,p2,p3⟩:=boxE4 (box_keep HX6.out.1 hb3);clear hb3)
   go_ret2
   exact ⟨rfl,HB3.out⟩
 · subst hsb
   have HZS:=Lib.hid hzs;subst hzs
   go_enter Tryz.func12,Tryz.ntmps12
   go_upto_region 2 with (go_at_call 32;refine HSU.out.mono ?_;clear HSU;rintro e w1 ⟨⟨A8,n8,c8,b8⟩,l8,rfl,hex,hco,hb1⟩;unfold EB.val;dsimp only at hex ⊢;have hl0:l8=[]:=(by have h1:=hex.can.nil (fun v=>by rw [hco v];exact HZ.out v);have h2:=tmsOf_len l8;rw [h1] at h2;exact List.eq_nil_of_length_eq_zero h2.symm);have hn0:n8=0:=(by have h1:=hex.tms.len;rw [hl0] at h1;exact h1.symm);subst hn0;have HEX:=Lib.hid (And.intro hex.cst hb1);clear hex hco hb1 hl0)
   have hx6:=heap_alloc_new w1 (.cells #[.slice A8 0 c8,.bool (ratNeg Q),.slice b8.A b8.n b8.c,.slice b8.A2 b8.n2 b8.c2] 28)
   have zw2:(w1.alloc (.cells #[.slice A8 0 c8,.bool (ratNeg Q),.slice b8.A b8.n b8.c,.slice b8.A2 b8.n2 b8.c2] 28)).heap.size=w1.heap.size+1:=by simp
   have aw2:=(Below.refl w1.heap.size w1).alloc (Nat.le_refl _) (.cells #[.slice A8 0 c8,.bool (ratNeg Q),.slice b8.A b8.n b8.c,.slice b8.A2 b8.n2 b8.c2] 28)
   obtain ⟨w2,ew2⟩:∃ x0,x0=w1.alloc (.cells #[.slice A8 0 c8,.bool (ratNeg Q),.slice b8.A b8.n b8.c,.slice b8.A2 b8.n2 b8.c2] 28):=⟨_,rfl⟩
   rw [←ew2] at hx6 zw2 aw2 ⊢;clear ew2;obtain ⟨p0,p1,p2,p3⟩:=boxE4 hx6;have hsg:=sign_any b8 Q w2 (HEX.out.1.below aw2);unfold RB.val at hsg;rw [←HZZ.out] at hsg;have HSG:=Lib.hid hsg;have HX6:=Lib.hid (And.intro hx6 (HEX.out.2.trans (aw2.mono HEX.out.2.size)));clear hx6 aw2 zw2 hsg
   go_wp2_with (go_at_call 33;refine HSG.out.mono ?_;rintro e w3 ⟨rfl,hb3⟩;have HB3:=Lib.hid (HX6.out.2.trans (hb3.mono HX6.out.2.size));clear p0 p1 p2 p3;obtain ⟨p0,p1,p2,p3⟩:=boxE4 (box_keep HX6.out.1 hb3);clear hb3)
   go_ret2
   exact ⟨rfl,HB3.out⟩
end Go.Proofs.YtdefcbfofonabaaGreat

namespace Go.Proofs.YtdefcbfofonabaaGreat
open Go.RowKit
set_option linter.unusedVariables false
set_option linter.unusedSimpArgs false
def bdOf (a:AB):Bd:=⟨fun v=>coT (tmsOf a.l) v,a.q,decide (a.op=2)⟩
def bdNeg (a:AB):Bd:=⟨fun v=>(-1:Rat)*coT (tmsOf a.l) v,(-1:Rat)*a.q,false⟩
def bdL (a:AB):List Bd:=bdOf a :: (if a.op=3 then [bdNeg a] else [])
def bdsL (l:List AB):List Bd:=l.flatMap bdL
theorem bdsL_snoc {l:List AB} {i:Nat} {a:AB} (h:l[i]?=some a):bdsL (l.take (i+1))=bdsL (l.take i) ++ bdL a:=by
 unfold bdsL;rw [List.take_add_one,h,List.flatMap_append];simp
theorem QLe.neg1 {q:Rat} {K:Nat} (h:QLe q K):QLe ((-1:Rat)*q) K:=by
 have e:(-1:Rat)*q = -q:=by grind
 rw [e];exact ⟨by rw [Rat.neg_num,Int.natAbs_neg];exact h.num,by rw [Rat.neg_den];exact h.den⟩
theorem qm1_le {K:Nat} (hK:1≤K):QLe (-1) K:=⟨by rw [show (-1:Rat).num.natAbs=1 from rfl,bitl_one];simpa using hK,by rw [show (-1:Rat).den=1 from rfl,bitl_one];simpa using hK⟩
structure TFit (K:Nat) (a:AB):Prop where
 tk:∀ (v:Int) (i:Nat),QLe (coT ((tmsOf a.l).take i) v) K
 q:QLe a.q K
 vs:∀ u ∈ (tmsOf a.l).map (·.1),u=0∨u=1∨u=2
 few:a.n≤100
theorem TFit.take {K:Nat} {a:AB} (h:TFit K a) (hK:1≤K) (v:Int) (i:Nat):QLe (coT ((tmsOf a.l).take i) v) K:=h.tk v i
theorem TFit.all {K:Nat} {a:AB} (h:TFit K a) (hK:1≤K) (v:Int):QLe (coT (tmsOf a.l) v) K:=by
 have:=h.take hK v (tmsOf a.l).length
 rwa [List.take_length] at this
theorem xokT_of {w:World} {K:Nat} {a:AB} {t:TA} (h:TaOk w K a t) (hf:TFit K a) (hK:1≤K):XOk w K t.e a.q :=
 ⟨h.qs,h.cst,h.sgn,hf.q,by rw [h.num];exact hf.few,fun v i=>by rw [h.tms];exact hf.take hK v i⟩
theorem bok_of {w:World} {K:Nat} {a:AB} {t:TA} (h:TaOk w K a t) (hf:TFit K a) (hK:1≤K):BOk w K ⟨t.e,decide (a.op=2)⟩ (bdOf a) :=
 ⟨xokT_of h hf hK,fun v=>by unfold bdOf;rw [h.tms],rfl,fun u hu=>hf.vs u (by unfold XE.vars at hu;rwa [h.tms] at hu)⟩
theorem bok_neg {w:World} {K:Nat} {a:AB} {x:XE} (hf:TFit K a) (hK:1≤K) (hq:QsAt w x.A x.n x.c x.l K) (hc:QAt w x.b ((-1:Rat)*a.q)) (hs:x.s=ratNeg ((-1:Rat)*a.q)) (hn:x.n≤a.n) (hnd:((tmsOf x.l).map (·.1)).Nodup) (hv:∀ v,coT (tmsOf x.l) v=(-1:Rat)*coT (tmsOf a.l) v) (hV:∀ u ∈ x.vars,u ∈ (tmsOf a.l).map (·.1)):BOk w K ⟨x,false⟩ (bdNeg a):=by
 refine ⟨⟨hq,hc,hs,hf.q.neg1,Nat.le_trans hn hf.few,fun v i=>coT_take hK v _ hnd ?_ i⟩,fun v=>(hv v).symm,rfl,fun u hu=>hf.vs u (hV u hu)⟩;intro t ht;unfold tmsOf at ht;obtain ⟨u,hu,rfl⟩:=List.mem_map.1 ht;exact (hq.each u hu).le
theorem bdL_len (a:AB):(bdL a).length≤2:=by
 unfold bdL
 split<;>simp
theorem bdsL_len:∀ l:List AB,(bdsL l).length≤2*l.length
 | []=>by simp [bdsL]
 | a :: l=>by
   have h1:=bdL_len a;have h2:=bdsL_len l;unfold bdsL at h2 ⊢;rw [List.flatMap_cons,List.length_append,List.length_cons];omega
end Go.Proofs.YtdefcbfofonabaaGreat

namespace Go.Proofs.YtdefcbfofonabaaGreat
open Go.RowKit
set_option linter.unusedVariables false
set_option linter.unusedSimpArgs false
theorem tin_co (v:Int):∀ l:List TB,TinT l→IntB (2520*coT (tmsOf l) v) (l.length*249480)
 | [],_=>by
   have e:(2520:Rat)*coT (tmsOf []) v=0:=by
    show (2520:Rat)*0=0
    grind
   rw [e];exact IntB.zero _
 | t :: l,h=>by
   have h1:=tin_co v l fun u hu=>h u (by simp [hu])
   have h2:=h t (by simp)
   have e:(2520:Rat)*coT (tmsOf (t :: l)) v=(if t.2.1=v then 2520*t.2.2 else 0)+2520*coT (tmsOf l) v:=by
    show (2520:Rat)*((if t.2.1=v then t.2.2 else 0)+coT (tmsOf l) v)=_
    split<;>grind
   rw [e]
   have h3:IntB (if t.2.1=v then 2520*t.2.2 else 0) 249480:=by
    split
    · exact h2
    · exact IntB.zero _
   refine (h3.add h1).up ?_;rw [List.length_cons];omega
theorem fit_of {a:AB} (h:TinA a) (hn:a.l.length≤12):Fit9 a :=
 ⟨fun v=>(tin_co v a.l h.1).up (by unfold HB9;omega),h.2.up (by unfold HB9;omega)⟩
theorem qle_fit {q:Rat} (h:IntB (2520*q) HB9):QLe q 98:=by
 have:=quot_le (q:=q) (D:=2520) (by rw [Rat.mul_comm]) int2520 h (by decide);refine ⟨bitl_len (Nat.lt_of_le_of_lt this.1 ?_),bitl_len (Nat.lt_of_le_of_lt this.2 ?_)⟩
 · unfold HB9;decide
 · decide
theorem tfit_of {a:AB} (h:TinA a) (hn:a.l.length≤12) (hna:a.n≤12) (hv:∀ t ∈ a.l,0≤t.2.1∧t.2.1<((3:Nat):Int)):TFit 98 a:=by
 refine ⟨fun v i=>?_,qle_fit (fit_of h hn).q,fun u hu=>?_,by omega⟩
 · have e:(tmsOf a.l).take i=tmsOf (a.l.take i):=by
    unfold tmsOf;rw [List.map_take]
   rw [e]
   have h1:=tin_co v (a.l.take i) fun t ht=>h.1 t (List.mem_of_mem_take ht)
   have h2:(a.l.take i).length≤12:=by
    rw [List.length_take];omega
   exact qle_fit (h1.up (by unfold HB9;omega))
 · unfold tmsOf at hu
   rw [List.map_map] at hu;obtain ⟨t,ht,rfl⟩:=List.mem_map.1 hu;have:=hv t ht
   show t.2.1=0∨t.2.1=1∨t.2.1=2
   omega
def SatA (a:AB) (x0 x1 x2:Rat):Prop :=
 (a.op=1∧coT (tmsOf a.l) 0*x0+coT (tmsOf a.l) 1*x1+coT (tmsOf a.l) 2*x2 ≤ -a.q)∨(a.op=2∧coT (tmsOf a.l) 0*x0+coT (tmsOf a.l) 1*x1+coT (tmsOf a.l) 2*x2 < -a.q)∨(a.op=3∧coT (tmsOf a.l) 0*x0+coT (tmsOf a.l) 1*x1+coT (tmsOf a.l) 2*x2 = -a.q)
theorem sat_at {nv:Nat} {l:List AB} {i:Nat} {a:AB} (h:l[i]?=some a) (x0 x1 x2:Rat):Sat (pbOf nv l) i (linv (pbOf nv l) x0 x1 x2 (nv+i))↔SatA a x0 x1 x2:=by
 have hi:=(List.getElem?_eq_some_iff.1 h).1
 have e:linv (pbOf nv l) x0 x1 x2 (nv+i)=coT (tmsOf a.l) 0*x0+coT (tmsOf a.l) 1*x1+coT (tmsOf a.l) 2*x2:=by
  unfold linv;rw [vec_con 0 hi,vec_con 1 hi,vec_con 2 hi,pb_co h,pb_co h,pb_co h]
  rfl
 unfold Sat SatA;rw [e,pb_op h,pb_hi h]
 rfl
theorem sat_all {nv:Nat} {l:List AB} (x0 x1 x2:Rat):(∀ i,i<l.length→Sat (pbOf nv l) i (linv (pbOf nv l) x0 x1 x2 (nv+i)))↔∀ a ∈ l,SatA a x0 x1 x2:=by
 constructor
 · intro h a ha
   obtain ⟨i,hi⟩:=List.getElem?_of_mem ha;exact (sat_at hi x0 x1 x2).1 (h i (List.getElem?_eq_some_iff.1 hi).1)
 · intro h i hi
   obtain ⟨a,ha,hm⟩:=at_of_lt hi;exact (sat_at ha x0 x1 x2).2 (h a hm)
theorem hold_one {a:AB} (hlo:1≤a.op) (hhi:a.op≤3) (x0 x1 x2:Rat):(∀ b ∈ bdL a,holdB (valB b x0 x1 x2) b.s)↔SatA a x0 x1 x2:=by
 have e1:valB (bdOf a) x0 x1 x2=coT (tmsOf a.l) 0*x0+coT (tmsOf a.l) 1*x1+coT (tmsOf a.l) 2*x2+a.q:=rfl
 have e2:valB (bdNeg a) x0 x1 x2 = -(coT (tmsOf a.l) 0*x0+coT (tmsOf a.l) 1*x1+coT (tmsOf a.l) 2*x2+a.q):=by
  show (-1:Rat)*coT (tmsOf a.l) 0*x0+(-1:Rat)*coT (tmsOf a.l) 1*x1+(-1:Rat)*coT (tmsOf a.l) 2*x2+(-1:Rat)*a.q=_
  grind
 unfold SatA
 generalize coT (tmsOf a.l) 0*x0+coT (tmsOf a.l) 1*x1+coT (tmsOf a.l) 2*x2=y at *
 have:a.op=1∨a.op=2∨a.op=3:=by omega
 rcases this with h | h | h
 · have hl:bdL a=[bdOf a]:=by unfold bdL;rw [if_neg (by omega)]
   have hs:(bdOf a).s=false:=by unfold bdOf;simp [h]
   rw [hl];simp only [List.mem_singleton,forall_eq,e1,hs,h];unfold holdB;simp
   grind
 · have hl:bdL a=[bdOf a]:=by unfold bdL;rw [if_neg (by omega)]
   have hs:(bdOf a).s=true:=by unfold bdOf;simp [h]
   rw [hl];simp only [List.mem_singleton,forall_eq,e1,hs,h];unfold holdB;simp
   grind
 · have hl:bdL a=[bdOf a,bdNeg a]:=by unfold bdL;rw [if_pos h]
   have hs:(bdOf a).s=false:=by unfold bdOf;simp [h]
   have hs2:(bdNeg a).s=false:=rfl;rw [hl];simp only [List.mem_cons,List.not_mem_nil,or_false,forall_eq_or_imp,forall_eq,e1,e2,hs,hs2,h];unfold holdB;simp
   grind
theorem tog_iff {l:List AB} (hop:∀ a ∈ l,1≤a.op∧a.op≤3):((elimN (bdsL l) 3).all okB=true)↔∃ x0 x1 x2,∀ a ∈ l,SatA a x0 x1 x2:=by
 have e:elimN (bdsL l) 3=elimB 2 (elimB 1 (elimB 0 (bdsL l))):=rfl;rw [e,List.all_eq_true]
 have h1:(∀ b ∈ elimB 2 (elimB 1 (elimB 0 (bdsL l))),okB b=true)↔∀ b ∈ elimB 2 (elimB 1 (elimB 0 (bdsL l))),holdB b.k b.s :=
  ⟨fun h b hb=>(okB_iff b).1 (h b hb),fun h b hb=>(okB_iff b).2 (h b hb)⟩
 rw [h1,←fm_ok]
 have h2:∀ x0 x1 x2,(∀ b ∈ bdsL l,holdB (valB b x0 x1 x2) b.s)↔∀ a ∈ l,SatA a x0 x1 x2:=fun x0 x1 x2=>by
  constructor
  · intro h a ha
    exact (hold_one (hop a ha).1 (hop a ha).2 x0 x1 x2).1 fun b hb=>h b (List.mem_flatMap.2 ⟨a,ha,hb⟩)
  · intro h b hb
    obtain ⟨a,ha,hb⟩:=List.mem_flatMap.1 hb;exact (hold_one (hop a ha).1 (hop a ha).2 x0 x1 x2).2 (h a ha) b hb
 constructor
 · rintro ⟨x0,x1,x2,h⟩
   exact ⟨x0,x1,x2,(h2 x0 x1 x2).1 h⟩
 · rintro ⟨x0,x1,x2,h⟩
   exact ⟨x0,x1,x2,(h2 x0 x1 x2).2 h⟩
def pickL (l:List AB) (us:List Nat):List AB:=us.flatMap fun i=>(l[i]?).toList
theorem pickL_app (l:List AB) (us:List Nat) {i:Nat} {a:AB} (h:l[i]?=some a):pickL l (us ++ [i])=pickL l us ++ [a]:=by
 unfold pickL;rw [List.flatMap_append,List.flatMap_singleton,h]
 rfl
theorem pickL_len (l:List AB):∀ us:List Nat,(pickL l us).length≤us.length
 | []=>Nat.le_refl _
 | i :: us=>by
   have:=pickL_len l us;unfold pickL at this ⊢;rw [List.flatMap_cons,List.length_append,List.length_cons]
   have h2:(l[i]?).toList.length≤1:=by cases l[i]?<;>simp
   omega
theorem pick_no {l:List AB} {t:Nat→Rat} (hF:Fark (pbOf 3 l) t) (h:∃ x0 x1 x2,∀ a ∈ pickL l (usedL t l.length),SatA a x0 x1 x2):False:=by
 obtain ⟨x0,x1,x2,h⟩:=h
 refine hF.no (x0:=x0) (x1:=x1) (x2:=x2) fun i hi ht=>?_
 have hi':i<l.length:=hi;obtain ⟨a,ha,_⟩:=at_of_lt hi';refine (sat_at ha x0 x1 x2).2 (h a ?_);unfold pickL;refine List.mem_flatMap.2 ⟨i,?_,by rw [ha];simp⟩;unfold usedL;simp [hi',ht]
theorem fark_len {l:List AB} {t:Nat→Rat} (hF:Fark (pbOf 3 l) t):0<l.length:=by
 rcases Nat.eq_zero_or_pos l.length with h | h
 · exfalso
   have hp:=hF.pos;have e:(pbOf 3 l).m=0:=h;rw [e] at hp;simp only [sumN] at hp;rcases hp with hp | ⟨_,i,hi,_⟩
   · exact absurd hp (by decide)
   · omega
 · exact h
theorem two_no {a0 a1:AB} (h0:a0.op=2) (h1:a1.op=2) (c0:∀ u,coT (tmsOf a0.l) u=if (0:Int)=u then 1 else 0) (c1:∀ u,coT (tmsOf a1.l) u = -1*(if (0:Int)=u then 1 else 0)) (q0:a0.q=0) (q1:a1.q=0) (h:∃ x0 x1 x2,∀ a ∈ [a0,a1],SatA a x0 x1 x2):False:=by
 obtain ⟨x0,x1,x2,h⟩:=h;have e0:=h a0 (by simp);have e1:=h a1 (by simp);unfold SatA at e0 e1;rw [h0,q0,c0,c0,c0] at e0;rw [h1,q1,c1,c1,c1] at e1;simp at e0 e1
 grind
end Go.Proofs.YtdefcbfofonabaaGreat

namespace Go.Proofs.YtdefcbfofonabaaGreat
open Go.RowKit
set_option linter.unusedVariables false
set_option linter.unusedSimpArgs false
theorem FS.one (w0:World) {w:World} {v:Value} {L:List BX} {K:Nat} (h:BRow w0 w v L K) (hb:Below w0.heap.size w0 w):FS w0 w v (.slice none 0 0) (.slice none 0 0) L [] [] K 0 0 :=
 ⟨h,⟨World.ownsRow_nil _ _ _ _,by simp [Value.ownBlock],by simp⟩,⟨World.ownsRow_nil _ _ _ _,by simp [Value.ownBlock],by simp⟩,by simp [Value.ownBlock],by simp [Value.ownBlock],by simp [Value.ownBlock],hb⟩
theorem tog_step {w0 w w':World} {v v':Value} {L:List BX} {l:List AB} {i:Nat} {a:AB} {t:TA} {s:Bool} (hs:s=decide (a.op=2)) (h:FS w0 w v (.slice none 0 0) (.slice none 0 0) L [] [] 98 0 0) (hl:L.map (·.2)=bdsL (l.take i)) (hai:l[i]?=some a) (ht:TaOk w 98 a t) (hf:TFit 98 a) (hA:w'.ownsRow 0 89 5 v' (L.length+1) (bbsL L ++ bbL (⟨t.e,s⟩,bdOf a))∧Fr (ownS v) w w'∧(v'.ownBlock=v.ownBlock∨v'.ownBlock=some (w.heap.size+1))):FS w0 w' v' (.slice none 0 0) (.slice none 0 0) (L ++ [(⟨t.e,s⟩,bdOf a)]) [] [] 98 0 0:=by
 subst hs;exact h.appU (bok_of ht hf (by decide)) hA.1 hA.2.1 hA.2.2
set_option maxRecDepth 100000 in
set_option maxHeartbeats 400000 in
theorem together_any (A:Option Addr) (n c:Nat) (lt:List TA) (l:List AB) (w:World) (h:TasAt w A n c lt l 98) (hn:n≤5) (hfit:∀ a ∈ l,TFit 98 a) (hop:∀ a ∈ l,1≤a.op∧a.op≤3) :
 Calls Tryz.prog 10 #[.int .i64 3,.slice A n c] w fun r w'=>r=.returned (.bool ((elimN (bdsL l) 3).all okB))∧Below w.heap.size w w':=by
 have H:=Lib.hid h;have HFIT:=Lib.hid hfit;have HOP:=Lib.hid hop;obtain ⟨i0,hi,hz0,hz1,hz2⟩:=info_parts info_bound;clear h hfit hop
 go_enter Tryz.func10,Tryz.ntmps10
 go_upto_region 2 with fail
 have hx1:=heap_alloc_new w (.cells #[] 89)
 have zw1:(w.alloc (.cells #[] 89)).heap.size=w.heap.size+1:=by simp
 have aw1:=(Below.refl w.heap.size w).alloc (Nat.le_refl _) (.cells #[] 89)
 obtain ⟨w1,ew1⟩:∃ x0,x0=w.alloc (.cells #[] 89):=⟨_,rfl⟩
 rw [←ew1] at hx1 zw1 aw1 ⊢;clear ew1;have hst:FS w w1 (.slice (some ⟨w.heap.size,0,none⟩) 0 0) (.slice none 0 0) (.slice none 0 0) [] [] [] 98 0 0:=FS.one w (brow_nil w w1 w.heap.size 0 98 #[] (Nat.le_refl _) hx1) aw1;have HST:=Lib.hid hst;clear hst hx1 zw1 aw1
 go_wp2_with fail
 go_loopw [5,11] (fun v x wr=>∃ (i:Nat) (L:List BX),i≤n∧x=.int .i64 i∧FS w wr v (.slice none 0 0) (.slice none 0 0) L [] [] 98 0 0∧L.map (·.2)=bdsL (l.take i)) (fun _ x _=>n - (intOf x).toNat)
 case atStart=>exact ⟨0,[],Nat.zero_le _,by first | rfl | go_num,HST.out,by simp [bdsL]⟩
 case round =>
  obtain ⟨i,L,hin,rfl,hfs,hlm⟩:=hrel
  obtain ⟨w5,rfl⟩:∃ x,x=wr:=⟨_,rfl⟩
  have hLL:L.length≤10:=by
   have h1:=congrArg List.length hlm;have h2:=bdsL_len (l.take i);rw [List.length_map] at h1;rw [List.length_take] at h2;omega
  have HLL:=Lib.hid (show (L.length+1)*88≤140737488355328 by omega);have HLM:=Lib.hid hlm
  by_cases hlt:i<n
  · have hT5:=H.out.below hfs.bel
    obtain ⟨g3,of3,t,ea,hti,y0,y1,y2,y3,y4⟩:=hT5.rd.atT hT5.len hlt;subst ea
    obtain ⟨a,hai⟩:∃ a,l[i]?=some a:=⟨l[i]'(by rw [hT5.same];exact hlt),List.getElem?_eq_getElem _⟩
    have hok:=hT5.each i a t hai hti;have hma:=List.mem_of_getElem? hai;obtain ⟨o1,o3⟩:=HOP.out a hma;have hto:=hok.op;have HAI:=Lib.hid hai;have HOK:=Lib.hid hok;have HF:=Lib.hid (HFIT.out a hma);have HFS5:=Lib.hid hfs
    have b0:(0:Int)≤(i:Int):=by omega
    rcases (show t.op=1∨t.op=2∨t.op=3 by omega) with e | e | e
    · rw [e] at y4
      have HS:=Lib.hid (show false=decide (a.op=2) by rw [←hto,e];rfl);have H3:=Lib.hid (show a.op≠3 by rw [←hto,e];decide);clear hlm hLL hfs hT5 hti hai hok hma o1 o3 hto e
      go_upto_region 5 with fail
      have hxt:=heap_alloc_new w5 (.cells #[.slice t.e.A t.e.n t.e.c,.bool t.e.s,.slice t.e.b.A t.e.b.n t.e.b.c,.slice t.e.b.A2 t.e.b.n2 t.e.b.c2,.int .i64 1] 87)
      have zw6:(w5.alloc (.cells #[.slice t.e.A t.e.n t.e.c,.bool t.e.s,.slice t.e.b.A t.e.b.n t.e.b.c,.slice t.e.b.A2 t.e.b.n2 t.e.b.c2,.int .i64 1] 87)).heap.size=w5.heap.size+1:=by simp
      have aw6:=(Below.refl w5.heap.size w5).alloc (Nat.le_refl _) (.cells #[.slice t.e.A t.e.n t.e.c,.bool t.e.s,.slice t.e.b.A t.e.b.n t.e.b.c,.slice t.e.b.A2 t.e.b.n2 t.e.b.c2,.int .i64 1] 87)
      obtain ⟨w6,ew6⟩:∃ x0,x0=w5.alloc (.cells #[.slice t.e.A t.e.n t.e.c,.bool t.e.s,.slice t.e.b.A t.e.b.n t.e.b.c,.slice t.e.b.A2 t.e.b.n2 t.e.b.c2,.int .i64 1] 87):=⟨_,rfl⟩
      rw [←ew6] at hxt zw6 aw6 ⊢;clear ew6;obtain ⟨x0,x1,x2,x3,x4⟩:=box5b hxt;have HFS:=Lib.hid (HFS5.out.below aw6);have HOK6:=Lib.hid (HOK.out.below aw6);clear y0 y1 y2 y3 y4;have HXT:=Lib.hid hxt;have HAW:=Lib.hid aw6;clear hxt zw6 aw6
      go_upto_region 6 with (at_builtin;refine appS w6 5 #[.slice t.e.A t.e.n t.e.c,.bool t.e.s,.slice t.e.b.A t.e.b.n t.e.b.c,.slice t.e.b.A2 t.e.b.n2 t.e.b.c2,.bool false] 89 rfl _ _ 79 rfl i0 _ 88 Tryz.underlying79 hi hz0 hz1 hz2 rfl (by decide) (by decide) rfl _ L.length (bbsL L) rfl HFS.out.u.own rfl (bbL_one (⟨t.e,false⟩,bdOf a)) HLL.out ?_;intro v8 w8 ho8 hf8 hk8;have HA8:=Lib.hid (And.intro ho8 (And.intro hf8 hk8));clear ho8 hf8 hk8)
      have hfs8:=tog_step HS.out HFS.out HLM.out HAI.out HOK6.out HF.out HA8.out;have HFS8:=Lib.hid hfs8;have hg8:=HXT.out;have x4':=(HA8.out.2.1.block w5.heap.size (lt_of_blk HXT.out) (fun h=>own_type HFS.out.u.own HXT.out (by decide) h)).trans HXT.out;obtain ⟨x0,x1,x2,x3,x4⟩:=box5b x4';clear x4' hfs8 hg8
      go_wp2_with fail
      go_roundw
      case rel =>
       refine ⟨i+1,L ++ [(⟨t.e,false⟩,bdOf a)],by omega,by go_num,HFS8.out,?_⟩;rw [bds_snoc,HLM.out,bdsL_snoc HAI.out];unfold bdL;rw [if_neg H3.out]
      case measure=>simp [intOf];omega
    · rw [e] at y4
      have HS:=Lib.hid (show true=decide (a.op=2) by rw [←hto,e];rfl);have H3:=Lib.hid (show a.op≠3 by rw [←hto,e];decide);clear hlm hLL hfs hT5 hti hai hok hma o1 o3 hto e
      go_upto_region 5 with fail
      have hxt:=heap_alloc_new w5 (.cells #[.slice t.e.A t.e.n t.e.c,.bool t.e.s,.slice t.e.b.A t.e.b.n t.e.b.c,.slice t.e.b.A2 t.e.b.n2 t.e.b.c2,.int .i64 2] 87)
      have zw6:(w5.alloc (.cells #[.slice t.e.A t.e.n t.e.c,.bool t.e.s,.slice t.e.b.A t.e.b.n t.e.b.c,.slice t.e.b.A2 t.e.b.n2 t.e.b.c2,.int .i64 2] 87)).heap.size=w5.heap.size+1:=by simp
      have aw6:=(Below.refl w5.heap.size w5).alloc (Nat.le_refl _) (.cells #[.slice t.e.A t.e.n t.e.c,.bool t.e.s,.slice t.e.b.A t.e.b.n t.e.b.c,.slice t.e.b.A2 t.e.b.n2 t.e.b.c2,.int .i64 2] 87)
      obtain ⟨w6,ew6⟩:∃ x0,x0=w5.alloc (.cells #[.slice t.e.A t.e.n t.e.c,.bool t.e.s,.slice t.e.b.A t.e.b.n t.e.b.c,.slice t.e.b.A2 t.e.b.n2 t.e.b.c2,.int .i64 2] 87):=⟨_,rfl⟩
      rw [←ew6] at hxt zw6 aw6 ⊢;clear ew6;obtain ⟨x0,x1,x2,x3,x4⟩:=box5b hxt;have HFS:=Lib.hid (HFS5.out.below aw6);have HOK6:=Lib.hid (HOK.out.below aw6);clear y0 y1 y2 y3 y4;have HXT:=Lib.hid hxt;have HAW:=Lib.hid aw6;clear hxt zw6 aw6
      go_upto_region 6 with (at_builtin;refine appS w6 5 #[.slice t.e.A t.e.n t.e.c,.bool t.e.s,.slice t.e.b.A t.e.b.n t.e.b.c,.slice t.e.b.A2 t.e.b.n2 t.e.b.c2,.bool true] 89 rfl _ _ 79 rfl i0 _ 88 Tryz.underlying79 hi hz0 hz1 hz2 rfl (by decide) (by decide) rfl _ L.length (bbsL L) rfl HFS.out.u.own rfl (bbL_one (⟨t.e,true⟩,bdOf a)) HLL.out ?_;intro v8 w8 ho8 hf8 hk8;have HA8:=Lib.hid (And.intro ho8 (And.intro hf8 hk8));clear ho8 hf8 hk8)
      have hfs8:=tog_step HS.out HFS.out HLM.out HAI.out HOK6.out HF.out HA8.out;have HFS8:=Lib.hid hfs8;have hg8:=HXT.out;have x4':=(HA8.out.2.1.block w5.heap.size (lt_of_blk HXT.out) (fun h=>own_type HFS.out.u.own HXT.out (by decide) h)).trans HXT.out;obtain ⟨x0,x1,x2,x3,x4⟩:=box5b x4';clear x4' hfs8 hg8
      go_wp2_with fail
      go_roundw
      case rel =>
       refine ⟨i+1,L ++ [(⟨t.e,true⟩,bdOf a)],by omega,by go_num,HFS8.out,?_⟩;rw [bds_snoc,HLM.out,bdsL_snoc HAI.out];unfold bdL;rw [if_neg H3.out]
      case measure=>simp [intOf];omega
    · rw [e] at y4
      have HS:=Lib.hid (show false=decide (a.op=2) by rw [←hto,e];rfl);have H3:=Lib.hid (show a.op=3 by rw [←hto,e]);have HBY:=Lib.hid (show ((L ++ [((⟨t.e,false⟩:BB),bdOf a)]).length+1)*88≤140737488355328 by rw [List.length_append,List.length_singleton];omega);clear hlm hLL hfs hT5 hti hai hok hma o1 o3 hto e
      go_upto_region 5 with fail
      have hxt:=heap_alloc_new w5 (.cells #[.slice t.e.A t.e.n t.e.c,.bool t.e.s,.slice t.e.b.A t.e.b.n t.e.b.c,.slice t.e.b.A2 t.e.b.n2 t.e.b.c2,.int .i64 3] 87)
      have zw6:(w5.alloc (.cells #[.slice t.e.A t.e.n t.e.c,.bool t.e.s,.slice t.e.b.A t.e.b.n t.e.b.c,.slice t.e.b.A2 t.e.b.n2 t.e.b.c2,.int .i64 3] 87)).heap.size=w5.heap.size+1:=by simp
      have aw6:=(Below.refl w5.heap.size w5).alloc (Nat.le_refl _) (.cells #[.slice t.e.A t.e.n t.e.c,.bool t.e.s,.slice t.e.b.A t.e.b.n t.e.b.c,.slice t.e.b.A2 t.e.b.n2 t.e.b.c2,.int .i64 3] 87)
      obtain ⟨w6,ew6⟩:∃ x0,x0=w5.alloc (.cells #[.slice t.e.A t.e.n t.e.c,.bool t.e.s,.slice t.e.b.A t.e.b.n t.e.b.c,.slice t.e.b.A2 t.e.b.n2 t.e.b.c2,.int .i64 3] 87):=⟨_,rfl⟩
      rw [←ew6] at hxt zw6 aw6 ⊢;clear ew6;obtain ⟨x0,x1,x2,x3,x4⟩:=box5b hxt;have HFS:=Lib.hid (HFS5.out.below aw6);have HOK6:=Lib.hid (HOK.out.below aw6);clear y0 y1 y2 y3 y4;have HXT:=Lib.hid hxt;have HAW:=Lib.hid aw6;clear hxt zw6 aw6
      go_upto_region 7 with (at_builtin;refine appS w6 5 #[.slice t.e.A t.e.n t.e.c,.bool t.e.s,.slice t.e.b.A t.e.b.n t.e.b.c,.slice t.e.b.A2 t.e.b.n2 t.e.b.c2,.bool false] 89 rfl _ _ 79 rfl i0 _ 88 Tryz.underlying79 hi hz0 hz1 hz2 rfl (by decide) (by decide) rfl _ L.length (bbsL L) rfl HFS.out.u.own rfl (bbL_one (⟨t.e,false⟩,bdOf a)) HLL.out ?_;intro v8 w8 ho8 hf8 hk8;have HA8:=Lib.hid (And.intro ho8 (And.intro hf8 hk8));clear ho8 hf8 hk8;have hx8:=(HA8.out.2.1.block w5.heap.size (lt_of_blk HXT.out) (fun h=>own_type HFS.out.u.own HXT.out (by decide) h)).trans HXT.out;obtain ⟨q0,q1,q2,q3,q4⟩:=box5b hx8)
      have hfs8:=tog_step HS.out HFS.out HLM.out HAI.out HOK6.out HF.out HA8.out;have HOK8:=Lib.hid (HOK6.out.fr HA8.out.2.1 (own_typX HFS.out.u.own))
      obtain ⟨gt,hgt⟩:∃ x0,x0=w5.heap.size:=⟨_,rfl⟩
      rw [←hgt] at hx8 ⊢
      have hcs8:∀ W',Fr (ownS v8) w8 W'→W'.cell? ⟨gt,0,none⟩=some (.slice t.e.A t.e.n t.e.c)∧W'.cell? ⟨gt,1,none⟩=some (.bool t.e.s)∧W'.cell? ⟨gt,2,none⟩=some (.slice t.e.b.A t.e.b.n t.e.b.c)∧W'.cell? ⟨gt,3,none⟩=some (.slice t.e.b.A2 t.e.b.n2 t.e.b.c2):=fun W' hf=>by
       obtain ⟨z0,z1,z2,z3,_⟩:=box5b ((hf.block gt (lt_of_blk hx8) (fun h=>own_type hfs8.u.own hx8 (by decide) h)).trans hx8);exact ⟨z0,z1,z2,z3⟩
      have HCS8:=Lib.hid hcs8;have HFS8:=Lib.hid hfs8;clear hcs8 hfs8 hx8 hgt x0 x1 x2 x3 x4;clear q0 q1 q2 q3 q4;have hS:=HCS8.out w8.drew (Fr.refl _ _).drew;refine wp_region_E 8 (fun W'=>W'.cell? ⟨gt,0,none⟩=some (.slice t.e.A t.e.n t.e.c)∧W'.cell? ⟨gt,1,none⟩=some (.bool t.e.s)∧W'.cell? ⟨gt,2,none⟩=some (.slice t.e.b.A t.e.b.n t.e.b.c)∧W'.cell? ⟨gt,3,none⟩=some (.slice t.e.b.A2 t.e.b.n2 t.e.b.c2)) (by kernel_rfl) ?_;refine tkE 0 hS ?_;simp only [Act.put,sA,sZ,sS];refine tkE 2 hS ?_;simp only [Act.put,sA,sZ,sS];refine tkE 3 hS ?_;simp only [Act.put,sA,sZ,sS]
      refine onE 1 fun KK HKK1=>?_
      go_simp
      go_at_call 29
      refine (qint_m1 _).mono ?_;rintro e w9 ⟨b9,rfl,hq9,hb9⟩;have c9:Below w8.heap.size w8 w9:=(below_drew2 (Below.refl _ _)).trans (hb9.mono (Nat.le_refl _));have hS9:=HCS8.out w9 (Fr.of_below c9);have hsc:=xscale_any b9 (-1) t.e a.q 98 98 w9 hq9 (qm1_le (by decide)) (xokT_of (HOK8.out.below c9) HF.out (by decide)) (by decide) (by decide) (fun v=>(by rw [HOK8.out.tms];exact (HF.out.all (by decide) v).neg1));have HSC:=Lib.hid hsc;have C9:=Lib.hid c9;clear hsc hq9 hb9 hS;refine HKK1.out _ _ (.inr hS9) ?_;clear HKK1;unfold RB.val
      try simp only [Act.put,sA,sZ,sS]
      refine onE 4 fun KK HKK4=>?_
      go_simp
      go_at_call 28
      refine HSC.out.mono ?_;rintro e w10 ⟨x,rfl,hq10,hc10,hs10,hn10,hnd10,hv10,hV10,hb10⟩;have c10:Below w8.heap.size w8 w10:=C9.out.trans (hb10.mono C9.out.size);have hS10:=HCS8.out w10 (Fr.of_below c10);have HBN:=Lib.hid (bok_neg HF.out (by decide) hq10 hc10 hs10 (by have:=HOK8.out.num;omega) hnd10 (fun v=>by rw [hv10,HOK8.out.tms]) (fun u hu=>by have:=hV10 u hu;unfold XE.vars at this;rwa [HOK8.out.tms] at this));have HFS10:=Lib.hid (HFS8.out.below c10);have HC10:=Lib.hid c10;clear hq10 hc10 hs10 hn10 hnd10 hv10 hV10 hb10 hS9;refine HKK4.out _ _ (.inr hS10) ?_;clear HKK4;unfold XE.val
      try simp only [Act.put,sA,sZ,sS]
      refine tkE 5 hS10 ?_;simp only [Act.put,sA,sZ,sS]
      refine onE 6 fun KK HKK6=>?_
      go_simp;have c10a:=c10.alloc c10.size (.cells #[.slice x.A x.n x.c,.bool x.s,.slice x.b.A x.b.n x.b.c,.slice x.b.A2 x.b.n2 x.b.c2,.bool false] 89);have hS11:=HCS8.out _ (Fr.of_below c10a);refine HKK6.out _ _ (.inr hS11) ?_;clear HKK6
      try simp only [Act.put,sA,sZ,sS]
      refine onE 7 fun KK HKK7=>?_
      refine stepS w10 5 #[.slice x.A x.n x.c,.bool x.s,.slice x.b.A x.b.n x.b.c,.slice x.b.A2 x.b.n2 x.b.c2,.bool false] 89 rfl _ _ 79 rfl i0 _ 88 Tryz.underlying79 hi hz0 hz1 hz2 rfl (by decide) (by decide) rfl v8 (L ++ [((⟨t.e,false⟩:BB),bdOf a)]).length (bbsL (L ++ [((⟨t.e,false⟩:BB),bdOf a)])) rfl HFS10.out.u.own rfl (bbL_one (⟨x,false⟩,bdNeg a)) HBY.out ?_;intro v12 w12 ho12 hf12 hk12;have hf812:=(Fr.of_below (S:=ownS v8) HC10.out).trans hf12 (fun b hb=>.inl hb);have hS12:=HCS8.out w12 hf812;have HFS12:=Lib.hid (HFS10.out.appU (x:=(⟨x,false⟩,bdNeg a)) HBN.out ho12 hf12 hk12);clear ho12 hf12 hk12 hf812 hS10 hS11 c10a c10;refine HKK7.out _ _ (.inr hS12) ?_;clear HKK7
      try simp only [Act.put,sA,sZ,sS]
      refine onE 8 fun KK HKK8=>?_
      go_simp;refine HKK8.out _ _ (.inl rfl) ?_;clear HKK8;refine wpAnyE_done (by kernel_rfl) ?_ _
      go_wp2_with fail
      go_roundw
      case rel =>
       refine ⟨i+1,L ++ [(⟨t.e,false⟩,bdOf a)] ++ [(⟨x,false⟩,bdNeg a)],by omega,by go_num,HFS12.out,?_⟩;rw [bds_snoc,bds_snoc,HLM.out,bdsL_snoc HAI.out];unfold bdL;rw [if_pos H3.out,List.append_assoc]
       rfl
      case measure=>simp [intOf];omega
  · obtain rfl:i=n:=by omega
    have hlt2:¬ (i<i):=by omega
    obtain ⟨Ax,cx,rfl,hbs⟩:=hfs.u.at;have hfe:=feas_any Ax L.length cx L w5 hbs hLL;rw [hlm,List.take_of_length_le (by rw [H.out.same];exact Nat.le_refl _)] at hfe;have HB:=Lib.hid hfs.bel;clear hlm hLL hfs hbs
    go_wp2_with (go_at_call 30;refine hfe.mono ?_;rintro e w9 ⟨rfl,hb9⟩)
    go_ret;exact ⟨rfl,HB.out.trans (hb9.mono HB.out.size)⟩
end Go.Proofs.YtdefcbfofonabaaGreat
