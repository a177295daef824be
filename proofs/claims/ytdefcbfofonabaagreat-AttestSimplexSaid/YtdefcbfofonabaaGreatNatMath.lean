/- Naturals as lists of limbs: products and quotients by a word. No program in sight. -/
import Derived.Test.YtdefcbfofonabaaGreatMem
import Derived.Test.YtdefcbfofonabaaGreatBools
import Derived.Deep.DeepCutAuto
namespace Go.Proofs.YtdefcbfofonabaaGreat
set_option linter.unusedVariables false
set_option linter.unusedSimpArgs false
theorem pow_succ32 (k:Nat):2 ^ (32*(k+1))=2 ^ (32*k)*4294967296:=by rw [Nat.mul_add,Nat.pow_add]
theorem getD_lt {l:List Nat} (h:small l) (k:Nat):l.getD k 0<4294967296:=by
 rw [List.getD_eq_getElem?_getD]
 cases hk:l[k]? with
 | none=>simp
 | some v=>exact h v (List.mem_of_getElem? hk)
theorem small_set {l:List Nat} (h:small l) (k v:Nat) (hv:v<4294967296):small (l.set k v):=fun x hx=>by
 rcases List.mem_or_eq_of_mem_set hx with h' | rfl
 · exact h x h'
 · exact hv
theorem lv_set (l:List Nat) (k v:Nat) (h:k<l.length):lv (l.set k v)+2 ^ (32*k)*l.getD k 0=lv l+2 ^ (32*k)*v:=by
 induction l generalizing k with
 | nil=>simp at h
 | cons a l ih =>
   cases k with
   | zero=>simp [lv];omega
   | succ k =>
     have:=ih k (by simpa using h);simp only [List.set_cons_succ,lv,List.getD_cons_succ];rw [pow_succ32]
     generalize 2 ^ (32*k)=P at *
     have e1:P*4294967296*l.getD k 0=4294967296*(P*l.getD k 0):=by rw [Nat.mul_comm P,Nat.mul_assoc]
     have e2:P*4294967296*v=4294967296*(P*v):=by rw [Nat.mul_comm P,Nat.mul_assoc]
     rw [e1,e2];omega
theorem getD_set_ne' (l:List Nat) (k j v:Nat) (h:k≠j):(l.set k v).getD j 0=l.getD j 0:=by
 rw [List.getD_eq_getElem?_getD,List.getD_eq_getElem?_getD,List.getElem?_set_ne h]
theorem lv_takeD (l:List Nat) (k:Nat) (h:k<l.length):lv (l.take (k+1))=lv (l.take k)+2 ^ (32*k)*l.getD k 0:=by
 rw [lv_take_succ l k h,List.getD_eq_getElem?_getD,List.getElem?_eq_getElem h]
 rfl
def mulSt (x i:Nat) (b o:List Nat):Nat→List Nat × Nat
 | 0=>(o,0)
 | j+1=>((mulSt x i b o j).1.set (i+j) (((mulSt x i b o j).2+(x*b.getD j 0+(mulSt x i b o j).1.getD (i+j) 0)) % 4294967296),((mulSt x i b o j).2+(x*b.getD j 0+(mulSt x i b o j).1.getD (i+j) 0)) / 4294967296)
structure MulOk (x i:Nat) (b o:List Nat) (j:Nat):Prop where
 len:(mulSt x i b o j).1.length=o.length
 sm:small (mulSt x i b o j).1
 carry:(mulSt x i b o j).2<4294967296
 far:∀ t,i+j≤t→(mulSt x i b o j).1.getD t 0=o.getD t 0
 val:lv (mulSt x i b o j).1+2 ^ (32*(i+j))*(mulSt x i b o j).2=lv o+2 ^ (32*i)*(x*lv (b.take j))
theorem word_step (x y z c:Nat) (hx:x<4294967296) (hy:y<4294967296) (hz:z<4294967296) (hc:c<4294967296):c+(x*y+z)<18446744073709551616:=by
 have h1:x*y≤4294967295*4294967295:=Nat.mul_le_mul (by omega) (by omega);omega
theorem mul_ok (x i:Nat) (b o:List Nat) (hx:x<4294967296) (hb:small b) (ho:small o) (hl:i+b.length≤o.length):∀ j,j≤b.length→MulOk x i b o j
 | 0,_=>⟨rfl,ho,by simp [mulSt],fun t _=>rfl,by simp [mulSt,lv]⟩
 | j+1,hj=>by
   have h:=mul_ok x i b o hx hb ho hl j (by omega);have hw:=word_step x (b.getD j 0) ((mulSt x i b o j).1.getD (i+j) 0) (mulSt x i b o j).2 hx (getD_lt hb j) (getD_lt h.sm _) h.carry;refine ⟨by simp only [mulSt];rw [List.length_set,h.len],small_set h.sm _ _ (Nat.mod_lt _ (by decide)),by simp only [mulSt];omega,fun t ht=>?_,?_⟩
   · simp only [mulSt]
     rw [getD_set_ne' _ _ _ _ (by omega)];exact h.far t (by omega)
   · have hv:=h.val
     have hs:=lv_set (mulSt x i b o j).1 (i+j) (((mulSt x i b o j).2+(x*b.getD j 0+(mulSt x i b o j).1.getD (i+j) 0)) % 4294967296) (by rw [h.len];omega);have ht:=lv_takeD b j (by omega);simp only [mulSt];rw [show i+(j+1)=i+j+1 by omega,pow_succ32,ht]
     have hp:2 ^ (32*(i+j))=2 ^ (32*i)*2 ^ (32*j):=by rw [←Nat.pow_add];congr 1;omega
     generalize (mulSt x i b o j).1.getD (i+j) 0=z at *
     generalize (mulSt x i b o j).2=c at *
     generalize lv (mulSt x i b o j).1=L at *
     generalize lv ((mulSt x i b o j).1.set (i+j) ((c+(x*b.getD j 0+z)) % 4294967296))=L' at *
     generalize b.getD j 0=y at *
     generalize lv (b.take j)=T at *
     have hdm:=Nat.div_add_mod (c+(x*y+z)) 4294967296
     generalize (c+(x*y+z)) % 4294967296=r at *
     generalize (c+(x*y+z)) / 4294967296=q at *
     generalize 2 ^ (32*(i+j))=Q at *
     have e1:Q*4294967296*q=Q*(4294967296*q):=Nat.mul_assoc _ _ _
     have e2:Q*(c+(x*y+z))=Q*(4294967296*q)+Q*r:=by rw [←hdm,Nat.mul_add]
     have e3:Q*(c+(x*y+z))=Q*c+(Q*(x*y)+Q*z):=by rw [Nat.mul_add,Nat.mul_add]
     have e4:2 ^ (32*i)*(x*(T+2 ^ (32*j)*y))=2 ^ (32*i)*(x*T)+Q*(x*y):=by
      rw [Nat.mul_add,Nat.mul_add,hp]
      congr 1
      rw [Nat.mul_left_comm x,Nat.mul_assoc]
     rw [e1,e4];omega
def mulRow (x i:Nat) (b o:List Nat):List Nat:=(mulSt x i b o b.length).1.set (i+b.length) (mulSt x i b o b.length).2
def mulAll (a b:List Nat):Nat→List Nat
 | 0=>List.replicate (a.length+b.length) 0
 | i+1=>mulRow (a.getD i 0) i b (mulAll a b i)
structure RowsOk (a b:List Nat) (i:Nat):Prop where
 len:(mulAll a b i).length=a.length+b.length
 sm:small (mulAll a b i)
 far:∀ t,i+b.length≤t→(mulAll a b i).getD t 0=0
 val:lv (mulAll a b i)=lv (a.take i)*lv b
theorem rep_getD0 (n t:Nat):(List.replicate n 0).getD t 0=0:=by
 rw [List.getD_eq_getElem?_getD,List.getElem?_replicate]
 split<;>rfl
theorem rows_ok (a b:List Nat) (ha:small a) (hb:small b):∀ i,i≤a.length→RowsOk a b i
 | 0,_=>⟨by simp [mulAll],by simp only [mulAll];exact small_zeros _,fun t _=>by simp only [mulAll];exact rep_getD0 _ _,by simp [mulAll,lv_zeros,lv]⟩
 | i+1,hi=>by
   have h:=rows_ok a b ha hb i (by omega);have hm:=mul_ok (a.getD i 0) i b (mulAll a b i) (getD_lt ha i) hb h.sm (by rw [h.len];omega) b.length (Nat.le_refl _);have hml:=hm.len;have hll:=h.len;refine ⟨by simp only [mulAll,mulRow];rw [List.length_set,hm.len,h.len],by simp only [mulAll,mulRow];exact small_set hm.sm _ _ hm.carry,fun t ht=>?_,?_⟩
   · simp only [mulAll,mulRow]
     rw [getD_set_ne' _ _ _ _ (by omega),hm.far t (by omega)];exact h.far t (by omega)
   · have hs:=lv_set (mulSt (a.getD i 0) i b (mulAll a b i) b.length).1 (i+b.length) (mulSt (a.getD i 0) i b (mulAll a b i) b.length).2 (by omega)
     rw [hm.far _ (Nat.le_refl _),h.far _ (Nat.le_refl _),Nat.mul_zero,Nat.add_zero] at hs;have hv:=hm.val;rw [List.take_of_length_le (Nat.le_refl _),h.val] at hv;simp only [mulAll,mulRow];rw [hs,hv,lv_takeD a i (by omega),Nat.add_mul,Nat.mul_assoc]
theorem mul_val (a b:List Nat) (ha:small a) (hb:small b):lv (mulAll a b a.length)=lv a*lv b:=by
 have:=(rows_ok a b ha hb a.length (Nat.le_refl _)).val
 rwa [List.take_of_length_le (Nat.le_refl _)] at this
def divSt (a:List Nat) (w:Nat):Nat→List Nat × Nat
 | 0=>(List.replicate a.length 0,0)
 | k+1=>((divSt a w k).1.set (a.length - (k+1)) (((divSt a w k).2*4294967296+a.getD (a.length - (k+1)) 0) / w),((divSt a w k).2*4294967296+a.getD (a.length - (k+1)) 0) % w)
structure DivOk (a:List Nat) (w k:Nat):Prop where
 len:(divSt a w k).1.length=a.length
 sm:small (divSt a w k).1
 rest:(divSt a w k).2<w
 low:∀ t,t<a.length - k→(divSt a w k).1.getD t 0=0
 val:lv (divSt a w k).1*w+2 ^ (32*(a.length - k))*(divSt a w k).2+lv (a.take (a.length - k))=lv a
theorem quot_lt (r x w:Nat) (hr:r<w) (hx:x<4294967296):(r*4294967296+x) / w<4294967296:=by
 rw [Nat.div_lt_iff_lt_mul (by omega)]
 have:r*4294967296+4294967296≤w*4294967296:=by rw [←Nat.succ_mul];exact Nat.mul_le_mul (by omega) (Nat.le_refl _)
 omega
theorem div_ok (a:List Nat) (w:Nat) (ha:small a) (hw:0<w):∀ k,k≤a.length→DivOk a w k
 | 0,_=>⟨by simp [divSt],by simp only [divSt];exact small_zeros _,by simpa [divSt] using hw,fun t _=>by simp only [divSt];exact rep_getD0 _ _,by simp [divSt,lv_zeros]⟩
 | k+1,hk=>by
   have h:=div_ok a w ha hw k (by omega);have hl:=h.len
   obtain ⟨i,hi⟩:∃ i,a.length - k=i+1:=⟨a.length - (k+1),by omega⟩
   have hi':a.length - (k+1)=i:=by omega
   have hlow:=h.low;have hval:=h.val;rw [hi] at hlow hval;refine ⟨by simp only [divSt];rw [List.length_set,h.len],by simp only [divSt];exact small_set h.sm _ _ (quot_lt _ _ _ h.rest (getD_lt ha _)),by simp only [divSt];exact Nat.mod_lt _ hw,fun t ht=>?_,?_⟩
   · simp only [divSt]
     rw [getD_set_ne' _ _ _ _ (by omega)];exact hlow t (by omega)
   · simp only [divSt,hi']
     have hs:=lv_set (divSt a w k).1 i (((divSt a w k).2*4294967296+a.getD i 0) / w) (by omega);rw [hlow i (by omega),Nat.mul_zero,Nat.add_zero] at hs;rw [hs];rw [lv_takeD a i (by omega),pow_succ32] at hval;have hdm:=Nat.div_add_mod ((divSt a w k).2*4294967296+a.getD i 0) w
     generalize ((divSt a w k).2*4294967296+a.getD i 0) / w=q at *
     generalize ((divSt a w k).2*4294967296+a.getD i 0) % w=m at *
     generalize lv (divSt a w k).1=L at *
     generalize (divSt a w k).2=r at *
     generalize a.getD i 0=x at *
     generalize 2 ^ (32*i)=P at *
     generalize lv (a.take i)=T at *
     have e1:(L+P*q)*w=L*w+P*(w*q):=by rw [Nat.add_mul,Nat.mul_assoc,Nat.mul_comm q w]
     have e2:P*(w*q)+P*m=P*(r*4294967296)+P*x:=by rw [←Nat.mul_add,hdm,Nat.mul_add]
     have e3:P*4294967296*r=P*(r*4294967296):=by rw [Nat.mul_assoc,Nat.mul_comm r]
     rw [e1];rw [e3] at hval;omega
theorem div_val (a:List Nat) (w:Nat) (ha:small a) (hw:0<w):lv (divSt a w a.length).1=lv a / w∧(divSt a w a.length).2=lv a % w:=by
 have h:=div_ok a w ha hw a.length (Nat.le_refl _);have hv:=h.val;simp only [Nat.sub_self,Nat.mul_zero,Nat.pow_zero,Nat.one_mul,List.take_zero,lv,Nat.add_zero] at hv;have hr:=h.rest
 generalize lv (divSt a w a.length).1=Q at *
 generalize (divSt a w a.length).2=r at *
 rw [←hv]
 constructor
 · rw [Nat.mul_comm,Nat.mul_add_div hw,Nat.div_eq_of_lt hr,Nat.add_zero]
 · rw [Nat.mul_comm,Nat.mul_add_mod,Nat.mod_eq_of_lt hr]
end Go.Proofs.YtdefcbfofonabaaGreat

namespace Go.Proofs.YtdefcbfofonabaaGreat
open Go.RowKit
set_option linter.unusedVariables false
set_option linter.unusedSimpArgs false
theorem lw_getD (l:List Nat) (k:Nat) (h:k<l.length):(lw l)[k]?=some (.int .u32 ((l.getD k 0:Nat):Int)):=by
 rw [lw_get l k h,List.getD_eq_getElem?_getD,List.getElem?_eq_getElem h]
 rfl
theorem lw_set (l:List Nat) (k v:Nat):(lw l).toArray.setIfInBounds k (.int .u32 (v:Int))=(lw (l.set k v)).toArray:=by
 simp [lw,List.map_set]
theorem lw_zeros (n:Nat):List.replicate n (Value.int .u32 0)=lw (List.replicate n 0):=by simp [lw]
structure LRow (g:Nat) (w wr:World) (o:List Nat):Prop where
 blk:wr.heap[g]?=some (.cells (lw o).toArray 125 (0,0))
 bel:Below g w wr
theorem LRow.set {g:Nat} {w wr:World} {o:List Nat} (h:LRow g w wr o) (hg:g≤w.heap.size) (k v:Nat):LRow g w (wr.setCell ⟨g,k,none⟩ (.int .u32 (v:Int))) (o.set k v) :=
 ⟨by rw [←lw_set];exact set_blk h.blk k _,h.bel.trans (Fr.below (S:=fun b=>b=g) ((Fr.refl _ wr).setCell ⟨g,k,none⟩ _ (.inl rfl)) (Nat.le_trans hg h.bel.size) (fun b hb=>by omega))⟩
theorem LRow.cell {g:Nat} {w wr:World} {o:List Nat} (h:LRow g w wr o) (k:Nat) (hk:k<o.length):wr.cell? ⟨g,k,none⟩=some (.int .u32 ((o.getD k 0:Nat):Int))∧wr.frozen? ⟨g,k,none⟩=false :=
 ⟨(cell_of_blk h.blk k).trans (by rw [List.getElem?_toArray];exact lw_getD o k hk),frozen_of_blk h.blk k⟩
theorem LRow.rd {g:Nat} {w wr:World} {o:List Nat} (h:LRow g w wr o):Rd wr 1 (some ⟨g,0,none⟩) o.length (lw o) :=
 ⟨by rw [lw_length,Nat.mul_one],fun _=>⟨g,0,rfl,fun j u hu=>by rw [Nat.zero_add,cell_of_blk h.blk,List.getElem?_toArray];exact hu⟩⟩
theorem Rd.limb {w:World} {A:Option Addr} {n:Nat} {xs:List Nat} (h:Rd w 1 A n (lw xs)) (k:Nat) (hk:k<n) (hl:xs.length=n):∃ b off,A=some ⟨b,off,none⟩∧w.cell? ⟨b,off+k,none⟩=some (.int .u32 ((xs.getD k 0:Nat):Int)):=by
 obtain ⟨b,off,u,e,hu,hc⟩:=h.at_ hk;rw [lw_getD xs k (by omega)] at hu;obtain rfl:=Option.some.inj hu;exact ⟨b,off,e,hc⟩
theorem prod_int (x y:Nat) (hx:x<4294967296) (hy:y<4294967296):0≤(x:Int)*(y:Int)∧(x:Int)*(y:Int)≤18446744065119617025∧((x*y:Nat):Int)=(x:Int)*(y:Int):=by
 have h1:x*y≤4294967295*4294967295:=Nat.mul_le_mul (by omega) (by omega);have e:((x*y:Nat):Int)=(x:Int)*(y:Int):=Int.natCast_mul x y;rw [←e];exact ⟨by omega,by omega,rfl⟩
set_option maxRecDepth 100000 in
set_option maxHeartbeats 4000000 in
theorem mul_any (xs ys:List Nat) (A A2:Option Addr) (n c n2 c2:Nat) (w:World) (hl:xs.length=n) (hnc:n≤c) (hn:n≤1099511627776) (hr:Rd w 1 A n (lw xs)) (hs:small xs) (hl2:ys.length=n2) (hnc2:n2≤c2) (hn2:n2≤1099511627776) (hr2:Rd w 1 A2 n2 (lw ys)) (hs2:small ys) :
 Calls Tryz.prog 50 #[.slice A n c,.slice A2 n2 c2] w fun e w'=>∃ v,e=.returned v∧w'.ownsRow w.heap.size 125 1 v (limbs (lv xs*lv ys)).length (lw (limbs (lv xs*lv ys)))∧Below w.heap.size w w':=by
 obtain ⟨i0,hi,hz0,hz1,hz2⟩:=info_parts info_u32;have hN1:=norm_any xs A n c w hl hnc (by omega) hr hs
 have hN2:=fun W hW=>norm_any ys A2 n2 c2 W hl2 hnc2 (by omega) (hr2.below hW) hs2
 have hX1:=limbs_small (lv xs);have hX2:=limbs_small (lv ys);have hXl1:(limbs (lv xs)).length≤1099511627776:=Nat.le_trans (limbs_length_le xs hs) (by omega);have hXl2:(limbs (lv ys)).length≤1099511627776:=Nat.le_trans (limbs_length_le ys hs2) (by omega);have hv1:=lv_limbs (lv xs);have hv2:=lv_limbs (lv ys)
 generalize limbs (lv xs)=X at *
 generalize limbs (lv ys)=Y at *
 rw [←hv1,←hv2];have HN2:=Lib.hid hN2;have HX:=Lib.hid hX1;have HY:=Lib.hid hX2;clear hN2 hv1 hv2 hX1 hX2 hr hs hr2 hs2
 go_enter Tryz.func50,Tryz.ntmps50
 go_upto_region 2 with (first | (go_at_call 55;refine hN1.mono ?_;clear hN1;rintro e w1 ⟨v1,rfl,ho1,hb1⟩;obtain ⟨A1,c1,rfl,_,hr1⟩:=ownsRow_form ho1;have hcall:=HN2.out w1 hb1;have HR1:=Lib.hid hr1;clear ho1 hr1) | (go_at_call 55;refine hcall.mono ?_;clear hcall;rintro e w2 ⟨v2,rfl,ho2,hb2⟩;obtain ⟨A3,c3,rfl,_,hr3⟩:=ownsRow_form ho2;have HR3:=Lib.hid hr3;have HR2:=Lib.hid (HR1.out.below hb2);have hb12:=hb1.trans (hb2.mono hb1.size);clear ho2 hr3))
 have HB2:=Lib.hid hb12;clear hb1 hb2 hb12 HR1
 go_wp2_with (at_make;refine make1 w2.heap.size w2 w2 rfl _ _ 24 rfl 125 i0 (.int .u32 0) 4 Tryz.underlying24 hi hz0 hz1 hz2 rfl (by decide) .i64 .i64 ((X.length:Int)+(Y.length:Int)) ((X.length:Int)+(Y.length:Int)) (X.length+Y.length) rfl rfl (by omega) (by omega) (by omega) _ rfl (Nat.le_refl _) (Below.refl _ _) ?_)
 intro w3 hown3 hb3 _;have hblk:=full_blk hown3;rw [lw_zeros] at hblk
 have hl0:LRow w2.heap.size w2 w3 (mulAll X Y 0):=⟨hblk,hb3⟩
 have HL0:=Lib.hid hl0;clear hown3 hb3 hblk hl0
 go_wp2_with fail
 go_loopw [23] (fun i wr=>∃ q:Nat,q≤X.length∧i=.int .i64 (q:Int)∧LRow w2.heap.size w2 wr (mulAll X Y q)) (fun i _=>X.length - (intOf i).toNat)
 case atStart=>exact ⟨0,Nat.zero_le _,rfl,HL0.out⟩
 case round =>
  obtain ⟨q,hq,rfl,hst⟩:=hrel;have hrows:=rows_ok X Y HX.out HY.out q hq;have hw:=hrows.len
  by_cases hlt:q<X.length
  · obtain ⟨b1,o1,rfl,x0⟩:=(HR2.out.below hst.bel).limb q hlt rfl
    have hxs:=getD_lt HX.out q
    have hmok:=fun p hp=>mul_ok (X.getD q 0) q Y (mulAll X Y q) hxs HY.out hrows.sm (by rw [hw];omega) p hp
    have hnext:mulAll X Y (q+1)=mulRow (X.getD q 0) q Y (mulAll X Y q):=rfl
    generalize X.getD q 0=x at *
    generalize mulAll X Y q=o at *
    have HST:=Lib.hid hst;have HMOK:=Lib.hid hmok;have HNEXT:=Lib.hid hnext;clear hst hmok hnext hrows
    go_wp2_with fail
    go_loopw [8,30] (fun cy j wr=>∃ p:Nat,p≤Y.length∧j=.int .i64 (p:Int)∧cy=.int .u64 ((mulSt x q Y o p).2:Nat)∧LRow w2.heap.size w2 wr (mulSt x q Y o p).1) (fun _ j _=>Y.length - (intOf j).toNat)
    case atStart=>exact ⟨0,Nat.zero_le _,rfl,rfl,HST.out⟩
    case round =>
     obtain ⟨p,hp,rfl,rfl,hst⟩:=hrel;have hm:=HMOK.out p hp
     by_cases hlt2:p<Y.length
     · obtain ⟨b2,o2,rfl,y0⟩:=(HR3.out.below hst.bel).limb p hlt2 rfl
       have hys:=getD_lt HY.out p
       have hml:q+p<(mulSt x q Y o p).1.length:=by rw [hm.len,hw];omega
       obtain ⟨z0,z1⟩:=hst.cell (q+p) hml;have hzs:=getD_lt hm.sm (q+p);have hcs:=hm.carry;have hnx:mulSt x q Y o (p+1)=((mulSt x q Y o p).1.set (q+p) (((mulSt x q Y o p).2+(x*Y.getD p 0+(mulSt x q Y o p).1.getD (q+p) 0)) % 4294967296),((mulSt x q Y o p).2+(x*Y.getD p 0+(mulSt x q Y o p).1.getD (q+p) 0)) / 4294967296):=rfl;obtain ⟨i1,i2,i3⟩:=prod_int x (Y.getD p 0) hxs hys;have hlen2:=hm.len
       generalize Y.getD p 0=y at *
       generalize (mulSt x q Y o p).1.getD (q+p) 0=z at *
       generalize mulSt x q Y o p=st at *
       obtain ⟨t,cc⟩:=st;simp only at hst hml z0 z1 hcs hnx hlen2;have HST2:=Lib.hid hst;have HNX:=Lib.hid hnx;clear hst hnx hm hlen2
       go_wp2_with fail
       have eN:((cc+(x*y+z):Nat):Int)=(cc:Int)+((x:Int)*(y:Int)+(z:Int)):=by rw [Int.natCast_add,Int.natCast_add,i3]
       generalize cc+(x*y+z)=N at *
       rw [←eN];go_roundw
       case rel =>
        refine ⟨p+1,by omega,by go_num,by rw [HNX.out];rfl,?_⟩;rw [HNX.out];exact HST2.out.set (Nat.le_refl _) (q+p) (N % 4294967296)
       case measure=>simp [intOf];omega
     · obtain rfl:p=Y.length:=by omega
       have hml:q+Y.length<(mulSt x q Y o Y.length).1.length:=by rw [hm.len,hw];omega
       obtain ⟨z0,z1⟩:=hst.cell (q+Y.length) hml;have hcs:=hm.carry;have hrow:mulRow x q Y o=(mulSt x q Y o Y.length).1.set (q+Y.length) (mulSt x q Y o Y.length).2:=rfl
       generalize (mulSt x q Y o Y.length).1.getD (q+Y.length) 0=z at *
       generalize mulSt x q Y o Y.length=st at *
       obtain ⟨t,cc⟩:=st;simp only at hst hml z0 z1 hcs hrow;have HST2:=Lib.hid hst;have HROW:=Lib.hid hrow;clear hst hrow hm
       go_wp2_with fail
       go_roundw
       case rel =>
        refine ⟨q+1,by omega,by go_num,?_⟩;rw [HNEXT.out,HROW.out];exact HST2.out.set (Nat.le_refl _) (q+Y.length) cc
       case measure=>simp [intOf];omega
  · obtain rfl:q=X.length:=by omega
    have hval:=mul_val X Y HX.out HY.out;have hrd:=hst.rd;have hsm:=hrows.sm
    generalize mulAll X Y X.length=o at *
    have hnm:=norm_any o (some ⟨w2.heap.size,0,none⟩) o.length (X.length+Y.length) wr rfl (by omega) (by omega) hrd hsm;rw [hval,hw] at hnm;have HB:=Lib.hid (HB2.out.trans (hst.bel.mono HB2.out.size));clear hval hrd hsm hrows hst
    go_wp2_with (go_at_call 55;refine hnm.mono ?_;clear hnm;rintro e w9 ⟨v9,rfl,ho9,hb9⟩)
    go_ret;exact ⟨_,rfl,own_more ho9 HB.out.size,HB.out.trans (hb9.mono HB.out.size)⟩
end Go.Proofs.YtdefcbfofonabaaGreat
