/- Rational numbers as a sign and two naturals. No program in sight. -/
import Derived.Test.YtdefcbfofonabaaGreatLongMath3
import Derived.Test.YtdefcbfofonabaaGreatOpen
import Derived.Deep.DeepCutAuto
import Derived.Deep.RegionHeld3
import Derived.Lib.Hide
namespace Go.Proofs.YtdefcbfofonabaaGreat
set_option linter.unusedVariables false
set_option linter.unusedSimpArgs false
def sgn (b:Bool) (n:Nat):Int:=if b then -(n:Int) else n
def ratNeg (q:Rat):Bool:=decide (q.num<0)
theorem sgn_abs (b:Bool) (n:Nat):(sgn b n).natAbs=n:=by cases b<;>simp [sgn]
theorem sgn_neg (b:Bool) (n:Nat):decide (sgn b n<0)=(b && decide (0<n)):=by
 cases b
 · simp [sgn]
 · simp [sgn]
theorem rat_sgn (q:Rat):q.num=sgn (ratNeg q) q.num.natAbs:=by
 unfold ratNeg sgn
 by_cases h:q.num<0
 · simp [h];omega
 · simp [h];omega
theorem sgn_div (b:Bool) (a g:Nat) (h:g ∣ a):sgn b a / (g:Int)=sgn b (a / g):=by
 cases b
 · simp [sgn]
 · simp only [sgn,if_true]
   rw [Int.neg_ediv_of_dvd (Int.natCast_dvd_natCast.2 h)]
   rfl
theorem mk_num (b:Bool) (a d:Nat) (hd:0<d):(mkRat (sgn b a) d).num=sgn b (a / Nat.gcd a d):=by
 rw [Rat.num_mkRat,if_neg (by omega),sgn_abs,Nat.gcd_comm,sgn_div _ _ _ (Nat.gcd_dvd_left a d)]
theorem mk_den (b:Bool) (a d:Nat) (hd:0<d):(mkRat (sgn b a) d).den=d / Nat.gcd a d:=by
 rw [Rat.den_mkRat,if_neg (by omega),sgn_abs,Nat.gcd_comm]
theorem mk_abs (b:Bool) (a d:Nat) (hd:0<d):(mkRat (sgn b a) d).num.natAbs=a / Nat.gcd a d:=by rw [mk_num b a d hd,sgn_abs]
theorem mk_neg (b:Bool) (a d:Nat) (hd:0<d):ratNeg (mkRat (sgn b a) d)=(b && decide (0<a / Nat.gcd a d)):=by
 unfold ratNeg;rw [mk_num b a d hd,sgn_neg]
theorem mk_le (b:Bool) (a d:Nat) (hd:0<d):(mkRat (sgn b a) d).num.natAbs≤a∧(mkRat (sgn b a) d).den≤d:=by
 rw [mk_abs b a d hd,mk_den b a d hd];exact ⟨Nat.div_le_self _ _,Nat.div_le_self _ _⟩
def sumF (an:Bool) (a:Nat) (bn:Bool) (b:Nat):Bool × Nat:=if an=bn then (an,a+b) else if b≤a then (an,a - b) else (bn,b - a)
theorem sumF_val (an:Bool) (a:Nat) (bn:Bool) (b:Nat):sgn (sumF an a bn b).1 (sumF an a bn b).2=sgn an a+sgn bn b:=by
 unfold sumF
 split
 · rename_i he
   subst he;simp only
   cases an<;>simp [sgn]<;>omega
 · rename_i hne
   split
   · cases an<;>cases bn<;>simp_all [sgn]<;>omega
   · cases an<;>cases bn<;>simp_all [sgn]<;>omega
theorem sumF_le (an:Bool) (a:Nat) (bn:Bool) (b:Nat):(sumF an a bn b).2≤a+b:=by
 unfold sumF
 split
 · exact Nat.le_refl _
 · split<;>simp<;>omega
theorem sgn_mul (b:Bool) (n m:Nat):sgn b (n*m)=sgn b n*(m:Int):=by
 cases b<;>simp [sgn,Int.neg_mul]
theorem sgn_mul2 (a b:Bool) (n m:Nat):sgn (a != b) (n*m)=sgn a n*sgn b m:=by
 cases a<;>cases b<;>simp [sgn,Int.neg_mul,Int.mul_neg]
theorem add_rat (p q:Rat):mkRat (sgn (sumF (ratNeg p) (p.num.natAbs*q.den) (ratNeg q) (q.num.natAbs*p.den)).1 (sumF (ratNeg p) (p.num.natAbs*q.den) (ratNeg q) (q.num.natAbs*p.den)).2) (p.den*q.den)=p+q:=by
 rw [sumF_val,sgn_mul,sgn_mul,←rat_sgn,←rat_sgn,Rat.add_def']
theorem mul_rat (p q:Rat):mkRat (sgn (ratNeg p != ratNeg q) (p.num.natAbs*q.num.natAbs)) (p.den*q.den)=p*q:=by
 rw [sgn_mul2,←rat_sgn,←rat_sgn,Rat.mul_def']
theorem neg_rat (q:Rat):ratNeg (-q)=(!ratNeg q && decide (0<q.num.natAbs))∧(-q).num.natAbs=q.num.natAbs∧(-q).den=q.den:=by
 refine ⟨?_,by rw [Rat.neg_num,Int.natAbs_neg],Rat.neg_den q⟩;unfold ratNeg;rw [Rat.neg_num]
 by_cases h:q.num<0
 · rw [decide_eq_true h,decide_eq_false (by omega)];rfl
 · rw [decide_eq_false h]
   by_cases h0:q.num=0
   · rw [h0];rfl
   · rw [decide_eq_true (by omega),decide_eq_true (by omega)];rfl
theorem inv_rat (q:Rat) (h:q≠0):mkRat (sgn (ratNeg q) q.den) q.num.natAbs=q⁻¹:=by
 have hn:q.num≠0:=fun e=>h (Rat.num_eq_zero.1 e)
 have ha:q.num.natAbs≠0:=by omega
 have e:mkRat (sgn (ratNeg q) q.den) q.num.natAbs*q=1:=by
  have h1:q=mkRat q.num q.den:=(Rat.mkRat_self q).symm;rw [show mkRat (sgn (ratNeg q) q.den) q.num.natAbs*q=mkRat (sgn (ratNeg q) q.den) q.num.natAbs*mkRat q.num q.den by rw [←h1]];rw [Rat.mkRat_mul_mkRat]
  have h2:sgn (ratNeg q) q.den*q.num=((q.num.natAbs*q.den:Nat):Int):=by
   unfold sgn ratNeg
   by_cases hlt:q.num<0
   · simp only [hlt,decide_true,if_true,Int.natCast_mul]
     rw [show ((q.num.natAbs:Nat):Int) = -q.num by omega,Int.neg_mul,Int.neg_mul,Int.mul_comm]
   · simp only [hlt,decide_false,Bool.false_eq_true,if_false,Int.natCast_mul]
     rw [show ((q.num.natAbs:Nat):Int)=q.num by omega,Int.mul_comm]
  rw [h2];have hm:q.num.natAbs*q.den≠0:=Nat.mul_ne_zero ha q.den_nz
  generalize q.num.natAbs*q.den=M at *
  have h3:(1:Rat)=mkRat 1 1:=rfl;rw [h3,Rat.mkRat_eq_iff hm (by decide)];simp
 grind
theorem num_zero (q:Rat):q.num.natAbs=0↔q=0:=by
 rw [←Rat.num_eq_zero];omega
end Go.Proofs.YtdefcbfofonabaaGreat

namespace Go.Proofs.YtdefcbfofonabaaGreat
open Go.RowKit
set_option linter.unusedVariables false
set_option linter.unusedSimpArgs false
structure RB where
 A:Option Addr
 n:Nat
 c:Nat
 A2:Option Addr
 n2:Nat
 c2:Nat
def ratDen (q:Rat):List Nat:=if q.den=1 then [] else limbs q.den
structure RatAt (w:World) (b:RB) (q:Rat):Prop where
 num:Num w b.A b.n b.c (limbs q.num.natAbs)
 den:Num w b.A2 b.n2 b.c2 (ratDen q)
def RB.val (b:RB) (s:Bool):Value:=.agg #[.bool s,.slice b.A b.n b.c,.slice b.A2 b.n2 b.c2]
theorem RatAt.below {w w':World} {b:RB} {q:Rat} (h:RatAt w b q) (hb:Below w.heap.size w w'):RatAt w' b q:=⟨h.num.below hb,h.den.below hb⟩
theorem RatAt.alloc {w:World} {b:RB} {q:Rat} (h:RatAt w b q) (o:Obj):RatAt (w.alloc o) b q:=⟨h.num.alloc o,h.den.alloc o⟩
theorem ratDen_nil {w:World} {b:RB} {q:Rat} (h:RatAt w b q):(b.n2=0↔q.den=1):=by
 have hl:=h.den.len;unfold ratDen at hl
 by_cases h1:q.den=1
 · rw [if_pos h1] at hl
   simp at hl;omega
 · rw [if_neg h1] at hl
   have:=(limbs_top q.den q.den_nz).1;omega
theorem ratNum_nil {w:World} {b:RB} {q:Rat} (h:RatAt w b q):(b.n=0↔q.num.natAbs=0):=by
 have hl:=h.num.len
 by_cases h1:q.num.natAbs=0
 · rw [h1,limbs_zero] at hl
   simp at hl;omega
 · have:=(limbs_top q.num.natAbs h1).1
   omega
theorem num_lit1 (w:World):Num (w.alloc (.cells #[.int .u32 1] 125)) (some ⟨w.heap.size,0,none⟩) 1 1 (limbs 1):=by
 have e:limbs 1=[1]:=by rw [limbs_pos 1 (by decide),show 1 / 4294967296=0 by decide,limbs_zero]
 rw [e];exact ⟨rd_lit w _ _,rfl,Nat.le_refl _,fun y hy=>by simp at hy;omega,fun _=>⟨w.heap.size,0,#[.int .u32 1],(0,0),rfl,heap_alloc_new w _⟩⟩
theorem one_any (w:World) :
 Calls Tryz.prog 76 #[] w fun e w'=>∃ A' n' c',e=.returned (.slice A' n' c')∧Num w' A' n' c' (limbs 1)∧Below w.heap.size w w':=by
 go_enter Tryz.func76,Tryz.ntmps76
 go_wp2_with fail
 go_ret;exact ⟨_,_,_,rfl,num_lit1 w,(Below.refl _ _).alloc (Nat.le_refl _) _⟩
set_option maxRecDepth 100000 in
theorem below_any (s:Bool) (b:RB) (q:Rat) (w:World) (h:RatAt w b q) :
 Calls Tryz.prog 51 #[b.val s] w fun e w'=>∃ A' n' c',e=.returned (.slice A' n' c')∧Num w' A' n' c' (limbs q.den)∧Below w.heap.size w w':=by
 have hnil:=ratDen_nil h;obtain ⟨A,n,c,A2,n2,c2⟩:=b;have hd:=h.den;unfold RB.val;simp only at hnil hd ⊢;unfold ratDen at hd
 by_cases h1:q.den=1
 · obtain rfl:=hnil.2 h1
   rw [h1];clear h hd hnil h1
   go_enter Tryz.func51,Tryz.ntmps51
   go_wp2_with (go_at_call 76;refine (one_any _).mono ?_;rintro e w1 ⟨A1,n1,c1,rfl,h1,b1⟩)
   go_ret;exact ⟨_,_,_,rfl,h1,((Below.refl w.heap.size w).alloc (Nat.le_refl _) _).trans (b1.mono (by simp))⟩
 · rw [if_neg h1] at hd
   have hn2:((n2:Int) == 0)=false:=by rw [beq_eq_false_iff_ne];intro e;exact h1 (hnil.1 (by omega))
   have HD:=Lib.hid hd;clear h hd hnil h1
   go_enter Tryz.func51,Tryz.ntmps51
   go_wp2_with fail
   go_ret;exact ⟨_,_,_,rfl,HD.out.alloc _,(Below.refl w.heap.size w).alloc (Nat.le_refl _) _⟩
def signZ (q:Rat):Int:=if q.num.natAbs=0 then 0 else if ratNeg q then -1 else 1
theorem sign_any (b:RB) (q:Rat) (w:World) (h:RatAt w b q) :
 Calls Tryz.prog 33 #[b.val (ratNeg q)] w fun e w'=>e=.returned (.int .i64 (signZ q))∧Below w.heap.size w w':=by
 have hnil:=ratNum_nil h;obtain ⟨A,n,c,A2,n2,c2⟩:=b;unfold RB.val;simp only at hnil ⊢;unfold signZ
 by_cases h1:q.num.natAbs=0
 · rw [if_pos h1]
   obtain rfl:=hnil.2 h1;clear h hnil h1;generalize ratNeg q=s
   go_enter Tryz.func33,Tryz.ntmps33
   go_wp2_with fail
   go_ret;exact ⟨rfl,(Below.refl w.heap.size w).alloc (Nat.le_refl _) _⟩
 · rw [if_neg h1]
   have hn:((n:Int) == 0)=false:=by rw [beq_eq_false_iff_ne];intro e;exact h1 (hnil.1 (by omega))
   clear h hnil h1
   cases ratNeg q
   · go_enter Tryz.func33,Tryz.ntmps33
     go_wp2_with fail
     go_ret;exact ⟨rfl,(Below.refl w.heap.size w).alloc (Nat.le_refl _) _⟩
   · go_enter Tryz.func33,Tryz.ntmps33
     go_wp2_with fail
     go_ret;exact ⟨rfl,(Below.refl w.heap.size w).alloc (Nat.le_refl _) _⟩
end Go.Proofs.YtdefcbfofonabaaGreat

namespace Go.Proofs.YtdefcbfofonabaaGreat
set_option linter.unusedVariables false
set_option linter.unusedSimpArgs false
abbrev Tm:=Int × Rat
def evT (p:Int→Rat):List Tm→Rat
 | []=>0
 | t :: r=>t.2*p t.1+evT p r
theorem evT_app (p:Int→Rat):∀ l m:List Tm,evT p (l ++ m)=evT p l+evT p m
 | [],m=>by simp only [List.nil_append,evT];grind
 | t :: l,m=>by
   have:=evT_app p l m;simp only [List.cons_append,evT,this];grind
def scT (r:Rat) (l:List Tm):List Tm:=l.map fun t=>(t.1,r*t.2)
def grpGo (v:Int) (c:Rat):List Tm→List Tm
 | []=>if c=0 then [] else [(v,c)]
 | t :: r=>if t.1=v then grpGo v (c+t.2) r else (if c=0 then [] else [(v,c)]) ++ grpGo t.1 (0+t.2) r
def grp:List Tm→List Tm
 | []=>[]
 | t :: r=>grpGo t.1 (0+t.2) r
theorem evT_grpGo (p:Int→Rat):∀ (l:List Tm) (v:Int) (c:Rat),evT p (grpGo v c l)=c*p v+evT p l
 | [],v,c=>by
   unfold grpGo
   split<;>simp only [evT]<;>grind
 | t :: r,v,c=>by
   unfold grpGo
   split
   · rename_i h
     rw [evT_grpGo p r v,evT,h];grind
   · rw [evT_app,evT_grpGo p r t.1]
     simp only [evT]
     split<;>simp only [evT]<;>grind
theorem grpGo_nz:∀ (l:List Tm) (v:Int) (c:Rat),∀ t ∈ grpGo v c l,t.2≠0
 | [],v,c=>by
   unfold grpGo
   split
   · simp
   · rename_i h
     simpa using h
 | t :: r,v,c=>by
   unfold grpGo
   split
   · exact grpGo_nz r v _
   · intro u hu
     rcases List.mem_append.1 hu with h | h
     · split at h
       · simp at h
       · rename_i hc
         simp at h;rw [h];exact hc
     · exact grpGo_nz r _ _ u h
theorem grp_nz (l:List Tm):∀ t ∈ grp l,t.2≠0:=by
 cases l with
 | nil=>simp [grp]
 | cons t r=>exact grpGo_nz r _ _
end Go.Proofs.YtdefcbfofonabaaGreat

namespace Go.Proofs.YtdefcbfofonabaaGreat
set_option linter.unusedVariables false
set_option linter.unusedSimpArgs false
structure Dl where
 a:Rat
 b:Rat
def Dl.pos (x:Dl):Prop:=0<x.a∨(x.a=0∧0<x.b)
def Dl.nn (x:Dl):Prop:=0<x.a∨(x.a=0∧0≤x.b)
def dsub (x y:Dl):Dl:=⟨x.a - y.a,x.b - y.b⟩
def dadd (x y:Dl):Dl:=⟨x.a+y.a,x.b+y.b⟩
def dmul (r:Rat) (x:Dl):Dl:=⟨r*x.a,r*x.b⟩
def dzero:Dl:=⟨0,0⟩
structure Pb where
 nv:Nat
 m:Nat
 co:Nat→Nat→Rat
 hi:Nat→Dl
 op:Nat→Int
structure Sx where
 a:Nat→Nat→Rat
 val:Nat→Dl
 bas:Nat→Nat
 row:Nat→Int
def vec (P:Pb) (j c:Nat):Rat:=if j<P.nv then (if j=c then 1 else 0) else if j<P.nv+P.m then P.co (j - P.nv) c else if j=1000+c then 1 else 0
def Rows (S:Sx) (m N0 N1 N2:Nat) (z:Nat→Rat):Prop:=∀ i,i<m→z (S.bas i)=S.a i N0*z N0+S.a i N1*z N1+S.a i N2*z N2
def det3 (P:Pb) (i j k:Nat):Rat :=
 vec P i 0*(vec P j 1*vec P k 2 - vec P j 2*vec P k 1) - vec P i 1*(vec P j 0*vec P k 2 - vec P j 2*vec P k 0)+vec P i 2*(vec P j 0*vec P k 1 - vec P j 1*vec P k 0)
def hiOf (P:Pb) (j:Nat):Dl:=if j<P.nv then dzero else P.hi (j - P.nv)
structure Inv (P:Pb) (S:Sx) (N0 N1 N2:Nat):Prop where
 b1:∀ i,i<P.m→S.bas i<P.nv+P.m∧S.row (S.bas i)=(i:Int)
 b2:∀ (j r:Nat),S.row j=(r:Int)→r<P.m∧S.bas r=j
 b3:∀ j,S.row j<0→S.row j = -1
 n0:∀ j,j<P.nv+P.m→S.row j = -1→j=N0∨j=N1∨j=N2
 r0:S.row N0 = -1
 r1:S.row N1 = -1
 r2:S.row N2 = -1
 d01:N0≠N1
 d02:N0≠N2
 d12:N1≠N2
 a0:∀ i j,i<P.m→(j≠N0∧j≠N1∧j≠N2)∨P.nv+P.m≤j→S.a i j=0
 c0:Rows S P.m N0 N1 N2 (fun j=>vec P j 0)
 c1:Rows S P.m N0 N1 N2 (fun j=>vec P j 1)
 c2:Rows S P.m N0 N1 N2 (fun j=>vec P j 2)
 va:Rows S P.m N0 N1 N2 (fun j=>(S.val j).a)
 vb:Rows S P.m N0 N1 N2 (fun j=>(S.val j).b)
 dt:det3 P N0 N1 N2≠0
 h0:N0<P.nv+P.m→S.val N0=hiOf P N0
 h1:N1<P.nv+P.m→S.val N1=hiOf P N1
 h2:N2<P.nv+P.m→S.val N2=hiOf P N2
theorem Rows.sw01 {S:Sx} {m N0 N1 N2:Nat} {z:Nat→Rat} (h:Rows S m N0 N1 N2 z):Rows S m N1 N0 N2 z:=fun i hi=>by have:=h i hi;grind
theorem Rows.sw02 {S:Sx} {m N0 N1 N2:Nat} {z:Nat→Rat} (h:Rows S m N0 N1 N2 z):Rows S m N2 N1 N0 z:=fun i hi=>by have:=h i hi;grind
theorem Inv.sw01 {P:Pb} {S:Sx} {N0 N1 N2:Nat} (h:Inv P S N0 N1 N2):Inv P S N1 N0 N2:=by
 refine ⟨h.b1,h.b2,h.b3,fun j hj hr=>?_,h.r1,h.r0,h.r2,h.d01.symm,h.d12,h.d02,fun i j hi hj=>h.a0 i j hi ?_,h.c0.sw01,h.c1.sw01,h.c2.sw01,h.va.sw01,h.vb.sw01,?_,h.h1,h.h0,h.h2⟩
 · have:=h.n0 j hj hr
   omega
 · rcases hj with hj | hj
   · exact .inl ⟨hj.2.1,hj.1,hj.2.2⟩
   · exact .inr hj
 · have:=h.dt
   unfold det3 at this ⊢
   grind
theorem Inv.sw02 {P:Pb} {S:Sx} {N0 N1 N2:Nat} (h:Inv P S N0 N1 N2):Inv P S N2 N1 N0:=by
 refine ⟨h.b1,h.b2,h.b3,fun j hj hr=>?_,h.r2,h.r1,h.r0,h.d12.symm,h.d02.symm,h.d01.symm,fun i j hi hj=>h.a0 i j hi ?_,h.c0.sw02,h.c1.sw02,h.c2.sw02,h.va.sw02,h.vb.sw02,?_,h.h2,h.h1,h.h0⟩
 · have:=h.n0 j hj hr
   omega
 · rcases hj with hj | hj
   · exact .inl ⟨hj.2.2,hj.2.1,hj.1⟩
   · exact .inr hj
 · have:=h.dt
   unfold det3 at this ⊢
   grind
theorem Inv.first {P:Pb} {S:Sx} {N0 N1 N2 k:Nat} (h:Inv P S N0 N1 N2) (hk:k<P.nv+P.m) (hr:S.row k = -1):∃ M1 M2,Inv P S k M1 M2:=by
 rcases h.n0 k hk hr with rfl | rfl | rfl
 · exact ⟨_,_,h⟩
 · exact ⟨_,_,h.sw01⟩
 · exact ⟨_,_,h.sw02⟩
def rowOf (S:Sx) (v:Nat):Nat:=(S.row v).toNat
def byOf (S:Sx) (v k:Nat):Rat:=(S.a (rowOf S v) k)⁻¹
def stepOf (P:Pb) (S:Sx) (v k:Nat):Dl:=dmul (byOf S v k) (dsub (hiOf P v) (S.val v))
def nowOf (S:Sx) (v k j:Nat):Rat:=if j=v then byOf S v k else if j=k then 0 else -(byOf S v k*S.a (rowOf S v) j)
def mov (P:Pb) (S:Sx) (v k:Nat):Sx where
 a:=fun i j=>if i=rowOf S v then nowOf S v k j else if j=k then 0 else S.a i j+S.a i k*nowOf S v k j
 val:=fun j=>if j=v then hiOf P v else if j=k then dadd (S.val k) (stepOf P S v k) else if 0≤S.row j then dadd (S.val j) (dmul (S.a (rowOf S j) k) (stepOf P S v k)) else S.val j
 bas:=fun i=>if i=rowOf S v then k else S.bas i
 row:=fun j=>if j=v then -1 else if j=k then (rowOf S v:Int) else S.row j
section
variable {P:Pb} {S:Sx} {v k N1 N2 r:Nat}
theorem rowOf_eq (h:S.row v=(r:Int)):rowOf S v=r:=by unfold rowOf;omega
theorem rows_mov (h:Inv P S k N1 N2) (hr:S.row v=(r:Int)) (ha:S.a r k≠0) {z:Nat→Rat} (hz:Rows S P.m k N1 N2 z):Rows (mov P S v k) P.m v N1 N2 z:=by
 have hrow:=rowOf_eq hr;obtain ⟨hrm,hbr⟩:=h.b2 v r hr
 have hvk:v≠k:=fun e=>by have:=h.r0;rw [←e,hr] at this;omega
 have hv1:v≠N1:=fun e=>by have:=h.r1;rw [←e,hr] at this;omega
 have hv2:v≠N2:=fun e=>by have:=h.r2;rw [←e,hr] at this;omega
 have hzr:=hz r hrm;rw [hbr] at hzr;have hinv:(S.a r k)⁻¹*S.a r k=1:=Rat.inv_mul_cancel _ ha;have d1:=h.d01.symm;have d2:=h.d02.symm;intro i hi;have hzi:=hz i hi;have hav:S.a i v=0:=h.a0 i v hi (.inl ⟨hvk,hv1,hv2⟩)
 show z (if i=rowOf S v then k else S.bas i)=_
 unfold mov nowOf byOf;simp only [hrow]
 generalize (S.a r k)⁻¹=by_ at *
 by_cases hir:i=r
 · subst hir
   simp only [if_true,if_neg d1,if_neg d2,if_neg hv1.symm,if_neg hv2.symm];rw [hzr]
   grind
 · simp only [if_neg hir,if_true,if_neg d1,if_neg d2,if_neg hv1.symm,if_neg hv2.symm,if_neg hvk]
   rw [hzi,hav,hzr]
   grind
theorem val_mov (h:Inv P S k N1 N2) (hr:S.row v=(r:Int)) (ha:S.a r k≠0) :
 Rows S P.m k N1 N2 (fun j=>((mov P S v k).val j).a)∧Rows S P.m k N1 N2 (fun j=>((mov P S v k).val j).b):=by
 have hrow:=rowOf_eq hr;obtain ⟨hrm,hbr⟩:=h.b2 v r hr
 have hvk:v≠k:=fun e=>by have:=h.r0;rw [←e,hr] at this;omega
 have hv1:N1≠v:=fun e=>by have:=h.r1;rw [e,hr] at this;omega
 have hv2:N2≠v:=fun e=>by have:=h.r2;rw [e,hr] at this;omega
 have d1:=h.d01.symm;have d2:=h.d02.symm
 have n1:¬ (0:Int)≤S.row N1:=by rw [h.r1];decide
 have n2:¬ (0:Int)≤S.row N2:=by rw [h.r2];decide
 have hinv:(S.a r k)⁻¹*S.a r k=1:=Rat.inv_mul_cancel _ ha;have hza:=h.va r hrm;have hzb:=h.vb r hrm;simp only [hbr] at hza hzb
 have key:∀ i,i<P.m→((mov P S v k).val (S.bas i)).a=S.a i k*((mov P S v k).val k).a+S.a i N1*((mov P S v k).val N1).a+S.a i N2*((mov P S v k).val N2).a∧((mov P S v k).val (S.bas i)).b=S.a i k*((mov P S v k).val k).b+S.a i N1*((mov P S v k).val N1).b+S.a i N2*((mov P S v k).val N2).b:=by
  intro i hi;have hzai:=h.va i hi;have hzbi:=h.vb i hi;simp only at hzai hzbi;unfold mov stepOf byOf;simp only [hrow,if_neg hvk.symm,if_true,if_neg hv1,if_neg hv2,if_neg d1,if_neg d2,if_neg n1,if_neg n2]
  generalize (S.a r k)⁻¹=y at *
  by_cases hir:i=r
  · subst hir
    simp only [hbr,if_true,dadd,dmul,dsub]
    constructor<;>grind
  · obtain ⟨_,hb⟩:=h.b1 i hi
    have e1:S.bas i≠v:=fun e=>by rw [e,hr] at hb;omega
    have e2:S.bas i≠k:=fun e=>by have:=h.r0;rw [e] at hb;omega
    have e3:(0:Int)≤S.row (S.bas i):=by omega
    have e4:rowOf S (S.bas i)=i:=rowOf_eq hb;simp only [if_neg e1,if_neg e2,if_pos e3,e4,dadd,dmul,dsub]
    constructor<;>grind
 exact ⟨fun i hi=>(key i hi).1,fun i hi=>(key i hi).2⟩
theorem Inv.mov (h:Inv P S k N1 N2) (hvn:v<P.nv+P.m) (hk:k<P.nv+P.m) (hr:S.row v=(r:Int)) (ha:S.a r k≠0):Inv P (Go.Proofs.YtdefcbfofonabaaGreat.mov P S v k) v N1 N2:=by
 have hrow:=rowOf_eq hr;obtain ⟨hrm,hbr⟩:=h.b2 v r hr
 have hvk:v≠k:=fun e=>by have:=h.r0;rw [←e,hr] at this;omega
 have hv1:v≠N1:=fun e=>by have:=h.r1;rw [←e,hr] at this;omega
 have hv2:v≠N2:=fun e=>by have:=h.r2;rw [←e,hr] at this;omega
 have d1:=h.d01.symm;have d2:=h.d02.symm
 have n1:¬ (0:Int)≤S.row N1:=by rw [h.r1];decide
 have n2:¬ (0:Int)≤S.row N2:=by rw [h.r2];decide
 refine ⟨?_,?_,?_,?_,?_,?_,?_,hv1,hv2,h.d12,?_,rows_mov h hr ha h.c0,rows_mov h hr ha h.c1,rows_mov h hr ha h.c2,rows_mov h hr ha (val_mov h hr ha).1,rows_mov h hr ha (val_mov h hr ha).2,?_,?_,?_,?_⟩
 · intro i hi
   show (if i=rowOf S v then k else S.bas i)<_∧(if (if i=rowOf S v then k else S.bas i)=v then (-1:Int) else if (if i=rowOf S v then k else S.bas i)=k then (rowOf S v:Int) else S.row (if i=rowOf S v then k else S.bas i))=_
   rw [hrow]
   by_cases hir:i=r
   · simp only [if_pos hir,if_neg hvk.symm,if_true]
     exact ⟨hk,by omega⟩
   · obtain ⟨hb0,hb⟩:=h.b1 i hi
     have e1:S.bas i≠v:=fun e=>by rw [e,hr] at hb;omega
     have e2:S.bas i≠k:=fun e=>by have:=h.r0;rw [e] at hb;omega
     simp only [if_neg hir,if_neg e1,if_neg e2];exact ⟨hb0,hb⟩
 · intro j q hq
   have hq':(if j=v then (-1:Int) else if j=k then (rowOf S v:Int) else S.row j)=(q:Int):=hq
   show q<P.m∧(if q=rowOf S v then k else S.bas q)=j
   rw [hrow] at hq' ⊢
   by_cases e1:j=v
   · rw [if_pos e1] at hq'
     omega
   · rw [if_neg e1] at hq'
     by_cases e2:j=k
     · rw [if_pos e2] at hq'
       have:q=r:=by omega
       rw [if_pos this,this];exact ⟨hrm,e2.symm⟩
     · rw [if_neg e2] at hq'
       obtain ⟨h3,h4⟩:=h.b2 j q hq'
       have:q≠r:=fun e=>by rw [e,hbr] at h4;exact e1 h4.symm
       rw [if_neg this];exact ⟨h3,h4⟩
 · intro j hj
   have hj':(if j=v then (-1:Int) else if j=k then (rowOf S v:Int) else S.row j)<0:=hj
   show (if j=v then (-1:Int) else if j=k then (rowOf S v:Int) else S.row j) = -1
   split
   · rfl
   · rename_i e1
     rw [if_neg e1] at hj'
     split
     · rename_i e2
       rw [if_pos e2] at hj';omega
     · rename_i e2
       rw [if_neg e2] at hj';exact h.b3 j hj'
 · intro j hj hj1
   have hj':(if j=v then (-1:Int) else if j=k then (rowOf S v:Int) else S.row j) = -1:=hj1
   by_cases e1:j=v
   · exact .inl e1
   · rw [if_neg e1] at hj'
     by_cases e2:j=k
     · rw [if_pos e2] at hj'
       omega
     · rw [if_neg e2] at hj'
       have:=h.n0 j hj hj';omega
 · show (if v=v then (-1:Int) else _) = -1
   rw [if_pos rfl]
 · show (if N1=v then (-1:Int) else if N1=k then (rowOf S v:Int) else S.row N1) = -1
   rw [if_neg hv1.symm,if_neg d1];exact h.r1
 · show (if N2=v then (-1:Int) else if N2=k then (rowOf S v:Int) else S.row N2) = -1
   rw [if_neg hv2.symm,if_neg d2];exact h.r2
 · intro i j hi hj
   have hjv:j≠v:=by omega
   have hz:j=k∨∀ i,i<P.m→S.a i j=0:=by
    by_cases e:j=k
    · exact .inl e
    · right
      intro i hi;refine h.a0 i j hi ?_;rcases hj with hj | hj
      · exact .inl ⟨e,hj.2.1,hj.2.2⟩
      · exact .inr hj
   have hnow:nowOf S v k j=0:=by
    unfold nowOf;rw [if_neg hjv];rcases hz with e | e
    · rw [if_pos e]
    · split
      · rfl
      · rw [hrow,e r hrm]
        grind
   show (if i=rowOf S v then nowOf S v k j else if j=k then 0 else S.a i j+S.a i k*nowOf S v k j)=0
   rw [hnow]
   split
   · rfl
   · split
     · rfl
     · rename_i e
       rcases hz with e2 | e2
       · exact absurd e2 e
       · rw [e2 i hi]
         grind
 · have c0:=h.c0 r hrm
   have c1:=h.c1 r hrm;have c2:=h.c2 r hrm;simp only [hbr] at c0 c1 c2;have hd:=h.dt
   have e:det3 P v N1 N2=S.a r k*det3 P k N1 N2:=by
    unfold det3;rw [c0,c1,c2]
    grind
   rw [e];intro h0;rcases Rat.mul_eq_zero.1 h0 with h1 | h1
   · exact ha h1
   · exact hd h1
 · intro _
   show (if v=v then hiOf P v else _)=_
   rw [if_pos rfl]
 · intro hN
   show (if N1=v then hiOf P v else if N1=k then dadd (S.val k) (stepOf P S v k) else if 0≤S.row N1 then dadd (S.val N1) (dmul (S.a (rowOf S N1) k) (stepOf P S v k)) else S.val N1)=_
   rw [if_neg hv1.symm,if_neg d1,if_neg n1];exact h.h1 hN
 · intro hN
   show (if N2=v then hiOf P v else if N2=k then dadd (S.val k) (stepOf P S v k) else if 0≤S.row N2 then dadd (S.val N2) (dmul (S.a (rowOf S N2) k) (stepOf P S v k)) else S.val N2)=_
   rw [if_neg hv2.symm,if_neg d2,if_neg n2];exact h.h2 hN
end
end Go.Proofs.YtdefcbfofonabaaGreat

namespace Go.Proofs.YtdefcbfofonabaaGreat
set_option linter.unusedVariables false
set_option linter.unusedSimpArgs false
theorem cramer3 (p0 p1 p2 q0 q1 q2 r0 r1 r2 d0 d1 d2:Rat) (hd:p0*(q1*r2 - q2*r1) - p1*(q0*r2 - q2*r0)+p2*(q0*r1 - q1*r0)≠0) :
 ∃ x0 x1 x2,p0*x0+p1*x1+p2*x2=d0∧q0*x0+q1*x1+q2*x2=d1∧r0*x0+r1*x1+r2*x2=d2:=by
 have hD:=Rat.inv_mul_cancel _ hd;generalize (p0*(q1*r2 - q2*r1) - p1*(q0*r2 - q2*r0)+p2*(q0*r1 - q1*r0))⁻¹=D at hD;refine ⟨D*(d0*(q1*r2 - q2*r1)+d1*(r1*p2 - r2*p1)+d2*(p1*q2 - p2*q1)),D*(d0*(q2*r0 - q0*r2)+d1*(r2*p0 - r0*p2)+d2*(p2*q0 - p0*q2)),D*(d0*(q0*r1 - q1*r0)+d1*(r0*p1 - r1*p0)+d2*(p0*q1 - p1*q0)),?_,?_,?_⟩
 · have:d0=d0*(D*(p0*(q1*r2 - q2*r1) - p1*(q0*r2 - q2*r0)+p2*(q0*r1 - q1*r0))):=by rw [hD];grind
   rw [this]
   grind
 · have:d1=d1*(D*(p0*(q1*r2 - q2*r1) - p1*(q0*r2 - q2*r0)+p2*(q0*r1 - q1*r0))):=by rw [hD];grind
   rw [this]
   grind
 · have:d2=d2*(D*(p0*(q1*r2 - q2*r1) - p1*(q0*r2 - q2*r0)+p2*(q0*r1 - q1*r0))):=by rw [hD];grind
   rw [this]
   grind
def linv (P:Pb) (x0 x1 x2:Rat) (j:Nat):Rat:=vec P j 0*x0+vec P j 1*x1+vec P j 2*x2
section
variable {P:Pb} {S S':Sx} {N0 N1 N2 M0 M1 M2:Nat}
theorem rows_lin (h:Inv P S N0 N1 N2) (x0 x1 x2:Rat):Rows S P.m N0 N1 N2 (linv P x0 x1 x2):=by
 intro i hi;have c0:=h.c0 i hi;have c1:=h.c1 i hi;have c2:=h.c2 i hi;simp only at c0 c1 c2;unfold linv;rw [c0,c1,c2]
 grind
theorem lin_of_rows (h:Inv P S N0 N1 N2) {z:Nat→Rat} (hz:Rows S P.m N0 N1 N2 z):∃ x0 x1 x2,∀ j,j<P.nv+P.m→z j=linv P x0 x1 x2 j:=by
 obtain ⟨x0,x1,x2,e0,e1,e2⟩:=cramer3 _ _ _ _ _ _ _ _ _ (z N0) (z N1) (z N2) h.dt;refine ⟨x0,x1,x2,fun j hj=>?_⟩;have f0:linv P x0 x1 x2 N0=z N0:=e0;have f1:linv P x0 x1 x2 N1=z N1:=e1;have f2:linv P x0 x1 x2 N2=z N2:=e2
 by_cases hn:S.row j = -1
 · rcases h.n0 j hj hn with rfl | rfl | rfl
   · exact f0.symm
   · exact f1.symm
   · exact f2.symm
 · obtain ⟨r,hr⟩:∃ r:Nat,S.row j=(r:Int):=by
    refine ⟨(S.row j).toNat,?_⟩;have:=h.b3 j;omega
   obtain ⟨hrm,hb⟩:=h.b2 j r hr;have g:=rows_lin h x0 x1 x2 r hrm;have g2:=hz r hrm;rw [hb] at g g2;rw [g,g2,f0,f1,f2]
theorem rows_same (h:Inv P S N0 N1 N2) (h':Inv P S' M0 M1 M2) {z:Nat→Rat} (hz:Rows S P.m N0 N1 N2 z):Rows S' P.m M0 M1 M2 z:=by
 obtain ⟨x0,x1,x2,hx⟩:=lin_of_rows h hz;intro i hi;have g:=rows_lin h' x0 x1 x2 i hi
 have key:∀ M,S'.a i M*z M=S'.a i M*linv P x0 x1 x2 M:=fun M=>by
  by_cases hM:M<P.nv+P.m
  · rw [hx M hM]
  · rw [h'.a0 i M hi (.inr (by omega))]
    grind
 rw [key M0,key M1,key M2,hx _ (h'.b1 i hi).1];exact g
end
end Go.Proofs.YtdefcbfofonabaaGreat

namespace Go.Proofs.YtdefcbfofonabaaGreat
set_option linter.unusedVariables false
set_option linter.unusedSimpArgs false
def IntB (q:Rat) (B:Nat):Prop:=∃ z:Int,q=(z:Rat)∧z.natAbs≤B
theorem IntB.up {q:Rat} {A B:Nat} (h:IntB q A) (hab:A≤B):IntB q B:=by
 obtain ⟨z,e,hz⟩:=h;exact ⟨z,e,Nat.le_trans hz hab⟩
theorem IntB.add {p q:Rat} {A B:Nat} (h:IntB p A) (g:IntB q B):IntB (p+q) (A+B):=by
 obtain ⟨x,rfl,hx⟩:=h;obtain ⟨y,rfl,hy⟩:=g;exact ⟨x+y,by rw [Rat.intCast_add],by omega⟩
theorem IntB.neg {q:Rat} {B:Nat} (g:IntB q B):IntB (-q) B:=by
 obtain ⟨y,rfl,hy⟩:=g;exact ⟨-y,by rw [Rat.intCast_neg],by omega⟩
theorem IntB.sub {p q:Rat} {A B:Nat} (h:IntB p A) (g:IntB q B):IntB (p - q) (A+B):=by
 rw [Rat.sub_eq_add_neg];exact h.add g.neg
theorem IntB.mul {p q:Rat} {A B:Nat} (h:IntB p A) (g:IntB q B):IntB (p*q) (A*B):=by
 obtain ⟨x,rfl,hx⟩:=h;obtain ⟨y,rfl,hy⟩:=g;refine ⟨x*y,by rw [Rat.intCast_mul],?_⟩;rw [Int.natAbs_mul];exact Nat.mul_le_mul hx hy
theorem IntB.zero (B:Nat):IntB 0 B:=⟨0,rfl,by simp⟩
theorem quot_le {q D E:Rat} {A B:Nat} (h:q*D=E) (hD:IntB D A) (hE:IntB E B) (h0:D≠0):q.num.natAbs≤B∧q.den≤A:=by
 obtain ⟨z,rfl,hz⟩:=hD;obtain ⟨e,rfl,he⟩:=hE
 have hz0:z≠0:=fun e=>h0 (by rw [e];rfl)
 have key:∀ (e:Int) (d:Nat),0<d→q*((d:Int):Rat)=(e:Rat)→q.num.natAbs≤e.natAbs∧q.den≤d:=fun e d hd h=>by
  have hq:q=mkRat e d:=by
   rw [Rat.mkRat_eq_div,show ((d:Nat):Rat)=((d:Int):Rat) from rfl]
   have h1:((d:Int):Rat)≠0:=fun e=>by
    have:=Rat.intCast_inj.1 (e.trans Rat.intCast_zero.symm);omega
   have h2:=Rat.mul_inv_cancel _ h1;rw [Rat.div_def,←h,Rat.mul_assoc,h2]
   grind
  have hs:∃ b,e=sgn b e.natAbs:=by
   by_cases h:e<0
   · exact ⟨true,by unfold sgn;simp;omega⟩
   · exact ⟨false,by unfold sgn;simp;omega⟩
  obtain ⟨b,hb⟩:=hs;rw [hb] at hq;obtain ⟨h1,h2⟩:=mk_le b e.natAbs d hd;rw [←hq] at h1 h2;exact ⟨h1,h2⟩
 by_cases hp:0<z
 · obtain ⟨h1,h2⟩:=key e z.natAbs (by omega) (by rw [show (z.natAbs:Int)=z by omega];exact h)
   exact ⟨by omega,by omega⟩
 · obtain ⟨h1,h2⟩:=key (-e) z.natAbs (by omega) (by rw [show (z.natAbs:Int) = -z by omega,Rat.intCast_neg,Rat.intCast_neg];grind)
   exact ⟨by omega,by omega⟩
structure Small (P:Pb) (H:Nat):Prop where
 h:2520≤H
 co:∀ i c,i<P.m→IntB (2520*P.co i c) H
 ha:∀ i,i<P.m→IntB (2520*(P.hi i).a) H
 hb:∀ i,i<P.m→IntB (2520*(P.hi i).b) H
theorem int2520:IntB (2520:Rat) 2520:=⟨2520,rfl,by decide⟩
theorem vec_int {P:Pb} {H:Nat} (h:Small P H) (j c:Nat):IntB (2520*vec P j c) H:=by
 unfold vec
 split
 · split
   · rw [show (2520:Rat)*1=2520 by grind]
     exact int2520.up h.h
   · rw [show (2520:Rat)*0=0 by grind]
     exact IntB.zero _
 · split
   · exact h.co _ _ (by omega)
   · split
     · rw [show (2520:Rat)*1=2520 by grind]
       exact int2520.up h.h
     · rw [show (2520:Rat)*0=0 by grind]
       exact IntB.zero _
theorem hi_int {P:Pb} {H:Nat} (h:Small P H) (j:Nat) (hj:j<P.nv+P.m):IntB (2520*(hiOf P j).a) H∧IntB (2520*(hiOf P j).b) H:=by
 unfold hiOf
 split
 · unfold dzero
   simp only;rw [show (2520:Rat)*0=0 by grind];exact ⟨IntB.zero _,IntB.zero _⟩
 · exact ⟨h.ha _ (by omega),h.hb _ (by omega)⟩
theorem det_int {P:Pb} {H:Nat} (h:Small P H) (i j k:Nat):IntB (2520*2520*2520*det3 P i j k) (6*(H*H*H)):=by
 have e:2520*2520*2520*det3 P i j k=(2520*vec P i 0)*((2520*vec P j 1)*(2520*vec P k 2) - (2520*vec P j 2)*(2520*vec P k 1)) - (2520*vec P i 1)*((2520*vec P j 0)*(2520*vec P k 2) - (2520*vec P j 2)*(2520*vec P k 0))+(2520*vec P i 2)*((2520*vec P j 0)*(2520*vec P k 1) - (2520*vec P j 1)*(2520*vec P k 0)):=by
  unfold det3
  grind
 rw [e];have v:=vec_int h
 have t:=fun i c j d k f=>(v i c).mul (((v j d).mul (v k f)).sub ((v j f).mul (v k d)))
 refine (((t i 0 j 1 k 2).sub (t i 1 j 0 k 2)).add (t i 2 j 0 k 1)).up ?_;rw [Nat.mul_add,←Nat.mul_assoc];omega
section
variable {P:Pb} {S:Sx} {N0 N1 N2 H:Nat}
theorem one_cube {H:Nat} (h:1≤H):1≤H*H*H:=Nat.mul_pos (Nat.mul_pos h h) h
theorem scale_ne {d:Rat} (h:d≠0):2520*2520*2520*d≠0:=by grind
theorem row_int (h:Inv P S N0 N1 N2) (hP:Small P H) {i:Nat} (hi:i<P.m):IntB (S.a i N0*(2520*2520*2520*det3 P N0 N1 N2)) (6*(H*H*H)):=by
 have c0:=h.c0 i hi;have c1:=h.c1 i hi;have c2:=h.c2 i hi;simp only at c0 c1 c2
 have e:S.a i N0*(2520*2520*2520*det3 P N0 N1 N2)=2520*2520*2520*det3 P (S.bas i) N1 N2:=by
  unfold det3;rw [c0,c1,c2]
  grind
 rw [e];exact det_int hP _ _ _
theorem det_sw01:det3 P N1 N0 N2 = -det3 P N0 N1 N2:=by unfold det3;grind
theorem det_sw02:det3 P N2 N1 N0 = -det3 P N0 N1 N2:=by unfold det3;grind
theorem rows_int (h:Inv P S N0 N1 N2) (hP:Small P H) {i:Nat} (hi:i<P.m):IntB (S.a i N0*(2520*2520*2520*det3 P N0 N1 N2)) (6*(H*H*H))∧IntB (S.a i N1*(2520*2520*2520*det3 P N0 N1 N2)) (6*(H*H*H))∧IntB (S.a i N2*(2520*2520*2520*det3 P N0 N1 N2)) (6*(H*H*H)):=by
 refine ⟨row_int h hP hi,?_,?_⟩
 · have:=(row_int h.sw01 hP hi).neg
   rw [det_sw01] at this
   have e : -(S.a i N1*(2520*2520*2520 * -det3 P N0 N1 N2))=S.a i N1*(2520*2520*2520*det3 P N0 N1 N2):=by grind
   rwa [e] at this
 · have:=(row_int h.sw02 hP hi).neg
   rw [det_sw02] at this
   have e : -(S.a i N2*(2520*2520*2520 * -det3 P N0 N1 N2))=S.a i N2*(2520*2520*2520*det3 P N0 N1 N2):=by grind
   rwa [e] at this
theorem Inv.a_le (h:Inv P S N0 N1 N2) (hP:Small P H) {i j:Nat} (hi:i<P.m):(S.a i j).num.natAbs≤6*(H*H*H)∧(S.a i j).den≤6*(H*H*H):=by
 have hD:=det_int hP N0 N1 N2;have h0:=scale_ne h.dt;obtain ⟨r0,r1,r2⟩:=rows_int h hP hi
 by_cases e0:j=N0
 · rw [e0]
   exact quot_le rfl hD r0 h0
 · by_cases e1:j=N1
   · rw [e1]
     exact quot_le rfl hD r1 h0
   · by_cases e2:j=N2
     · rw [e2]
       exact quot_le rfl hD r2 h0
     · rw [h.a0 i j hi (.inl ⟨e0,e1,e2⟩)]
       have:1≤H*H*H:=by
        have:=hP.h;exact one_cube (by omega)
       refine ⟨by simp,?_⟩
       show 1≤_
       omega
theorem Inv.val_le (h:Inv P S N0 N1 N2) (hP:Small P H) {j:Nat} (hj:j<P.nv+P.m) :
 ((S.val j).a.num.natAbs≤18*(H*H*H)*H∧(S.val j).a.den≤6*(H*H*H)*H)∧((S.val j).b.num.natAbs≤18*(H*H*H)*H∧(S.val j).b.den≤6*(H*H*H)*H):=by
 have hH:=hP.h
 have h1:1≤H*H*H:=by
  exact one_cube (by omega)
 have hb1:H≤18*(H*H*H)*H:=by
  have:=Nat.mul_le_mul (show 1≤18*(H*H*H) by omega) (Nat.le_refl H);omega
 have hb2:2520≤6*(H*H*H)*H:=by
  have:=Nat.mul_le_mul (show 1≤6*(H*H*H) by omega) hH;omega
 have hne:(2520:Rat)≠0:=by decide
 by_cases hn:S.row j = -1
 · obtain ⟨M1,M2,h'⟩:=h.first hj hn
   rw [h'.h0 hj];obtain ⟨ia,ib⟩:=hi_int hP j hj;have qa:=quot_le (q:=(hiOf P j).a) (D:=2520) (by grind) int2520 ia hne;have qb:=quot_le (q:=(hiOf P j).b) (D:=2520) (by grind) int2520 ib hne;exact ⟨⟨by omega,by omega⟩,by omega,by omega⟩
 · obtain ⟨r,hr⟩:∃ r:Nat,S.row j=(r:Int):=by
    refine ⟨(S.row j).toNat,?_⟩;have:=h.b3 j;omega
   obtain ⟨hrm,hb⟩:=h.b2 j r hr;have hD:=det_int hP N0 N1 N2;have h0:=scale_ne h.dt;obtain ⟨r0,r1,r2⟩:=rows_int h hP hrm;have va:=h.va r hrm;have vb:=h.vb r hrm;simp only [hb] at va vb
   generalize 2520*2520*2520*det3 P N0 N1 N2=D at *
   have hDD:IntB (D*2520) (6*(H*H*H)*H):=(hD.mul int2520).up (Nat.mul_le_mul (Nat.le_refl _) hH)
   have hD0:D*2520≠0:=by grind
   have term:∀ N,(N<P.nv+P.m→S.val N=hiOf P N)→(P.nv+P.m≤N→S.a r N=0)→IntB (S.a r N*D) (6*(H*H*H))→IntB (S.a r N*D*(2520*(S.val N).a)) (6*(H*H*H)*H)∧IntB (S.a r N*D*(2520*(S.val N).b)) (6*(H*H*H)*H):=fun N hN1 hN2 hr=>by
    by_cases hN:N<P.nv+P.m
    · obtain ⟨ia,ib⟩:=hi_int hP N hN
      rw [hN1 hN];exact ⟨hr.mul ia,hr.mul ib⟩
    · rw [hN2 (by omega)]
      have e:∀ x:Rat,0*D*x=0:=fun x=>by grind
      rw [e,e];exact ⟨IntB.zero _,IntB.zero _⟩
   have t0:=term N0 h.h0 (fun e=>h.a0 r N0 hrm (.inr e)) r0;have t1:=term N1 h.h1 (fun e=>h.a0 r N1 hrm (.inr e)) r1;have t2:=term N2 h.h2 (fun e=>h.a0 r N2 hrm (.inr e)) r2
   have ea:(S.val j).a*(D*2520)=S.a r N0*D*(2520*(S.val N0).a)+S.a r N1*D*(2520*(S.val N1).a)+S.a r N2*D*(2520*(S.val N2).a):=by rw [va];grind
   have eb:(S.val j).b*(D*2520)=S.a r N0*D*(2520*(S.val N0).b)+S.a r N1*D*(2520*(S.val N1).b)+S.a r N2*D*(2520*(S.val N2).b):=by rw [vb];grind
   have hs:6*(H*H*H)*H+6*(H*H*H)*H+6*(H*H*H)*H=18*(H*H*H)*H:=by
    generalize H*H*H=Q;rw [←Nat.add_mul,←Nat.add_mul]
    congr 1
    omega
   have qa:=quot_le ea hDD ((t0.1.add t1.1).add t2.1) hD0;have qb:=quot_le eb hDD ((t0.2.add t1.2).add t2.2) hD0;rw [hs] at qa qb;exact ⟨qa,qb⟩
end
end Go.Proofs.YtdefcbfofonabaaGreat
