/- Contract of package limb: Sub. -/
import Derived.Test.YtdefcbfofonabaaGreatOpen
import Derived.Test.YtdefcbfofonabaaGreatRatB
namespace Go.Proofs.YtdefcbfofonabaaGreat
open Go.RowKit
set_option linter.unusedVariables false
set_option linter.unusedSimpArgs false
def subL (x y o:Nat):Nat:=(x+8589934592 - o - y) % 4294967296
def subO (x y o:Nat):Nat:=if x<o+y then 1 else 0
def subP (xs ys:List Nat):Nat→List Nat × Nat
 | 0=>([],0)
 | i+1=>((subP xs ys i).1 ++ [subL (xs.getD i 0) (ys.getD i 0) (subP xs ys i).2],subO (xs.getD i 0) (ys.getD i 0) (subP xs ys i).2)
structure SubOk (xs ys:List Nat) (i:Nat):Prop where
 len:(subP xs ys i).1.length=i
 sm:small (subP xs ys i).1
 owed:(subP xs ys i).2≤1
 val:lv (subP xs ys i).1+lv (ys.take i)=lv (xs.take i)+2 ^ (32*i)*(subP xs ys i).2
theorem lv_takeE (l:List Nat) (k:Nat):lv (l.take (k+1))=lv (l.take k)+2 ^ (32*k)*l.getD k 0:=by
 rcases Nat.lt_or_ge k l.length with h | h
 · exact lv_takeD l k h
 · rw [List.take_of_length_le (by omega),List.take_of_length_le h,List.getD_eq_getElem?_getD,List.getElem?_eq_none h]
   simp
theorem sub_limb (x y o:Nat) (hx:x<4294967296) (hy:y<4294967296) (ho:o≤1):subL x y o+(o+y)=x+4294967296*subO x y o:=by
 unfold subL subO
 split<;>omega
theorem subL_lt (x y o:Nat):subL x y o<4294967296:=Nat.mod_lt _ (by decide)
theorem subO_le (x y o:Nat):subO x y o≤1:=by unfold subO;split<;>omega
theorem subP_succ (xs ys:List Nat) (i:Nat):subP xs ys (i+1)=((subP xs ys i).1 ++ [subL (xs.getD i 0) (ys.getD i 0) (subP xs ys i).2],subO (xs.getD i 0) (ys.getD i 0) (subP xs ys i).2):=rfl
theorem sub_aux (P R o y x o' S X Y:Nat) (hv:S+Y=X+P*o) (hl:R+(o+y)=x+4294967296*o'):S+P*R+(Y+P*y)=X+P*x+P*4294967296*o':=by
 have e:P*(R+(o+y))=P*(x+4294967296*o'):=by rw [hl]
 rw [Nat.mul_add,Nat.mul_add,Nat.mul_add,←Nat.mul_assoc] at e;omega
theorem lv_one (a:Nat):lv [a]=a:=by simp [lv]
theorem sub_ok (xs ys:List Nat) (hx:small xs) (hy:small ys) (i:Nat):SubOk xs ys i:=by
 induction i with
 | zero=>exact ⟨rfl,small_nil,Nat.zero_le _,by simp [subP,lv]⟩
 | succ i h =>
   have hl:=sub_limb (xs.getD i 0) (ys.getD i 0) (subP xs ys i).2 (getD_lt hx i) (getD_lt hy i) h.owed;have ha:=sub_aux (2 ^ (32*i)) _ _ _ _ _ _ _ _ h.val hl;refine ⟨by rw [subP_succ,List.length_append,h.len];rfl,?_,by rw [subP_succ];exact subO_le _ _ _,?_⟩
   · rw [subP_succ]
     exact small_append.2 ⟨h.sm,by intro x hx;rw [List.mem_singleton] at hx;rw [hx];exact subL_lt _ _ _⟩
   · rw [subP_succ,lv_append,h.len,lv_takeE ys i,lv_takeE xs i,pow_succ32,lv_one]
     exact ha
theorem sub_end (xs ys:List Nat) (hx:small xs) (hy:small ys) (h:lv ys≤lv xs):lv (subP xs ys xs.length).1=lv xs - lv ys:=by
 have ho:=sub_ok xs ys hx hy xs.length;have hv:=ho.val;have hl:=lv_lt _ ho.sm;have hxl:=lv_lt xs hx;rw [ho.len] at hl;rw [List.take_of_length_le (Nat.le_refl xs.length)] at hv
 have e:lv ys=lv (ys.take xs.length):=by
  have h1:=congrArg lv (List.take_append_drop xs.length ys);rw [lv_append] at h1;rcases Nat.lt_or_ge xs.length ys.length with hlt | hge
  · rw [List.length_take,Nat.min_eq_left (by omega)] at h1
    rcases Nat.eq_zero_or_pos (lv (ys.drop xs.length)) with h0 | h0
    · rw [h0,Nat.mul_zero,Nat.add_zero] at h1;exact h1.symm
    · have:2 ^ (32*xs.length)*1≤2 ^ (32*xs.length)*lv (ys.drop xs.length):=Nat.mul_le_mul_left _ h0
      omega
  · rw [List.take_of_length_le hge]
 rw [←e] at hv;have hw:=ho.owed;rcases (show (subP xs ys xs.length).2=0∨(subP xs ys xs.length).2=1 by omega) with h0 | h0
 · rw [h0] at hv;omega
 · rw [h0] at hv;omega
theorem sub_row (P:List Nat) (m i y:Nat) (hP:P.length=i) (hi:i<m):(P ++ List.replicate (m - i) 0).set i y=(P ++ [y]) ++ List.replicate (m - (i+1)) 0:=by
 obtain ⟨k,hk⟩:∃ k,m - i=k+1:=⟨m - (i+1),by omega⟩
 rw [hk,show m - (i+1)=k by omega,List.set_append_right _ _ (by omega),hP,Nat.sub_self,List.replicate_succ,List.set_cons_zero,List.append_assoc]
 rfl
theorem cmp_nonneg {a b:Nat} (h:b≤a):¬ (cmpN a b<0):=by
 rcases Nat.eq_or_lt_of_le h with rfl | hlt
 · rw [cmp_eq];decide
 · rw [cmp_gt hlt];decide
set_option maxRecDepth 100000 in
theorem sub_no {w:World} {A A2:Option Addr} {n c n2 c2:Nat} {l m:List Nat} (h:Num w A n c l) (h2:Num w A2 n2 c2 m) (hb:l.length≤100000000) (hb2:m.length≤100000000) (hlt:lv l<lv m) :
 Calls Tryz.prog 89 #[.slice A n c,.slice A2 n2 c2] w fun e w'=>e=.returned (.tuple #[.slice none 0 0,.bool false])∧∃ q,w'=w.drewN q:=by
 have hc:=cmp_num h h2 hb hb2;rw [cmp_lt hlt] at hc;clear h h2 hlt
 go_enter Tryz.func89,Tryz.ntmps89
 go_wp2_with (go_at_call 75;refine hc.mono ?_;clear hc;rintro e w1 ⟨rfl,q,rfl⟩)
 go_ret2
 exact ⟨rfl,_,rfl⟩
set_option maxRecDepth 100000 in
set_option maxHeartbeats 4000000 in
theorem sub_yes {w:World} {A A2:Option Addr} {n c n2 c2:Nat} {l m:List Nat} (h:Num w A n c l) (h2:Num w A2 n2 c2 m) (hb:l.length≤100000000) (hb2:m.length≤100000000) (hle:lv m≤lv l) :
 Calls Tryz.prog 89 #[.slice A n c,.slice A2 n2 c2] w fun e w'=>∃ A' n' c',e=.returned (.tuple #[.slice A' n' c',.bool true])∧Num w' A' n' c' (limbs (lv l - lv m))∧Below w.heap.size w w':=by
 obtain ⟨i0,hi,hz0,hz1,hz2⟩:=info_parts info_u32;have hc:=cmp_num h h2 hb hb2;have hcv:=cmp_nonneg hle
 obtain ⟨cv,hce⟩:∃ cv,cmpN (lv l) (lv m)=cv:=⟨_,rfl⟩
 rw [hce] at hc hcv;have hend:=sub_end l m h.sm h2.sm hle;have hok:=sub_ok l m h.sm h2.sm;have hln:=h.len;have hmn:=h2.len;rw [hln] at hend
 have hnb:n≤100000000:=by omega
 have hmb:n2≤100000000:=by omega
 have HEND:=Lib.hid hend;have HOK:=Lib.hid hok;have HLN:=Lib.hid hln;have HMN:=Lib.hid hmn;have H1:=Lib.hid h;have H2:=Lib.hid h2;clear hce hend hok hle h h2 hln hmn hb hb2
 go_enter Tryz.func89,Tryz.ntmps89
 go_upto_region 3 with (go_at_call 75;refine hc.mono ?_;clear hc;rintro e w1 ⟨rfl,q,rfl⟩)
 obtain ⟨w1,hw1⟩:∃ x,x=w.drewN q:=⟨_,rfl⟩
 rw [←hw1];have H1:=Lib.hid (show Num w1 A n c l by rw [hw1];exact H1.out.drewN q);have H2:=Lib.hid (show Num w1 A2 n2 c2 m by rw [hw1];exact H2.out.drewN q);have HB1:=Lib.hid (show Below w.heap.size w w1 by rw [hw1];exact below_drewN (Below.refl _ _) q);clear hw1
 go_wp2_with (at_make;refine make1 w1.heap.size w1 w1 rfl _ _ 24 rfl 125 i0 (.int .u32 0) 4 Tryz.underlying24 hi hz0 hz1 hz2 rfl (by decide) .i64 .i64 (n:Int) (n:Int) n rfl rfl (by omega) (by omega) (by omega) _ rfl (Nat.le_refl _) (Below.refl _ _) ?_)
 intro w3 hown3 hb3 _;have hblk:=full_blk hown3;rw [lw_zeros] at hblk
 have hl0:LRow w1.heap.size w1 w3 ((subP l m 0).1 ++ List.replicate (n - 0) 0):=⟨hblk,hb3⟩
 have HL0:=Lib.hid hl0;clear hown3 hb3 hblk hl0
 go_wp2_with fail
 go_loopw [7,20] (fun o i wr=>∃ q:Nat,q≤n∧i=.int .i64 (q:Int)∧o=.int .i64 ((subP l m q).2:Nat)∧LRow w1.heap.size w1 wr ((subP l m q).1 ++ List.replicate (n - q) 0)) (fun _ i _=>n - (intOf i).toNat)
 case atStart=>exact ⟨0,Nat.zero_le _,rfl,rfl,HL0.out⟩
 case round =>
  obtain ⟨q,hq,rfl,rfl,hst⟩:=hrel;have hgo:=HOK.out q;have hgl:=hgo.len;have hsm:=hgo.sm
  by_cases hlt:q<n
  · obtain ⟨b1,o1,rfl,x0⟩:=(H1.out.rd.below hst.bel).limb q hlt HLN.out
    have hx32:=getD_lt H1.out.sm q;have hy32:=getD_lt H2.out.sm q;have ho1:=hgo.owed
    have hrl:((subP l m q).1 ++ List.replicate (n - q) 0).length=n:=by rw [List.length_append,List.length_replicate,hgl];omega
    obtain ⟨z0,z1⟩:=hst.cell q (by rw [hrl];exact hlt);have hnx:subP l m (q+1)=((subP l m q).1 ++ [subL (l.getD q 0) (m.getD q 0) (subP l m q).2],subO (l.getD q 0) (m.getD q 0) (subP l m q).2):=rfl
    have hyc:q<n2→∃ b off,A2=some ⟨b,off,none⟩∧wr.cell? ⟨b,off+q,none⟩=some (.int .u32 ((m.getD q 0:Nat):Int)):=fun hq2=>(H2.out.rd.below hst.bel).limb q hq2 HMN.out
    have hy0:n2≤q→m.getD q 0=0:=fun hq2=>by rw [List.getD_eq_getElem?_getD,List.getElem?_eq_none (by rw [HMN.out];exact hq2)];rfl
    obtain ⟨z,hz⟩:∃ z,((subP l m q).1 ++ List.replicate (n - q) 0).getD q 0=z:=⟨_,rfl⟩
    rw [hz] at z0
    generalize l.getD q 0=x at *
    generalize m.getD q 0=y at *
    generalize subP l m q=st at *
    obtain ⟨t,o⟩:=st;simp only at hst hgl ho1 hnx;have HST:=Lib.hid hst;clear hst hgo hrl hsm hz
    by_cases hq2:q<n2
    · obtain ⟨b2,o2,rfl,y0⟩:=hyc hq2
      have HNX:=Lib.hid hnx;clear hyc hy0 hnx;have hst:=HST.out.set (Nat.le_refl _) q (subL x y o);rw [sub_row _ n q _ hgl hlt] at hst
      by_cases hneg:x<o+y
      · have hdn:(x:Int) - (o:Int) - (y:Int)<0:=by omega
        rw [show ((subL x y o:Nat):Int)=((x:Int) - (o:Int) - (y:Int)) % 4294967296 by unfold subL;omega] at hst;have HST2:=Lib.hid hst;clear hst
        go_wp2_with fail
        go_roundw
        case rel=>exact ⟨q+1,by omega,by go_num,by rw [HNX.out];simp only [subO,if_pos hneg];rfl,by rw [HNX.out];exact HST2.out⟩
        case measure=>simp [intOf];omega
      · have hdn:¬ ((x:Int) - (o:Int) - (y:Int)<0):=by omega
        rw [show ((subL x y o:Nat):Int)=(x:Int) - (o:Int) - (y:Int) by unfold subL;omega] at hst;have HST2:=Lib.hid hst;clear hst
        go_wp2_with fail
        go_roundw
        case rel=>exact ⟨q+1,by omega,by go_num,by rw [HNX.out];simp only [subO,if_neg hneg];rfl,by rw [HNX.out];exact HST2.out⟩
        case measure=>simp [intOf];omega
    · obtain rfl:=hy0 (by omega)
      have HNX:=Lib.hid hnx;clear hyc hy0 hnx
      have zlt:0<4294967296:=by decide
      have hst:=HST.out.set (Nat.le_refl _) q (subL x 0 o);rw [sub_row _ n q _ hgl hlt] at hst
      by_cases hneg:x<o+0
      · have hdn:(x:Int) - (o:Int)<0:=by omega
        rw [show ((subL x 0 o:Nat):Int)=((x:Int) - (o:Int)) % 4294967296 by unfold subL;omega] at hst;have HST2:=Lib.hid hst;clear hst
        go_wp2_with fail
        go_roundw
        case rel=>exact ⟨q+1,by omega,by go_num,by rw [HNX.out];simp only [subO,if_pos hneg];rfl,by rw [HNX.out];exact HST2.out⟩
        case measure=>simp [intOf];omega
      · have hdn:¬ ((x:Int) - (o:Int)<0):=by omega
        rw [show ((subL x 0 o:Nat):Int)=(x:Int) - (o:Int) by unfold subL;omega] at hst;have HST2:=Lib.hid hst;clear hst
        go_wp2_with fail
        go_roundw
        case rel=>exact ⟨q+1,by omega,by go_num,by rw [HNX.out];simp only [subO,if_neg hneg];rfl,by rw [HNX.out];exact HST2.out⟩
        case measure=>simp [intOf];omega
  · obtain rfl:q=n:=by omega
    rw [Nat.sub_self,List.replicate_zero,List.append_nil] at hst;have hrd:=hst.rd;rw [hgl] at hrd;have hnm:=norm_any _ (some ⟨w1.heap.size,0,none⟩) q q wr hgl (Nat.le_refl _) (by omega) hrd hsm;rw [HEND.out] at hnm;have HNM:=Lib.hid hnm;have HBW:=Lib.hid (HB1.out.trans (hst.bel.mono HB1.out.size));clear hrd hnm hst hgo hsm hgl
    go_wp2_with (go_at_call 55;refine HNM.out.mono ?_;rintro e w9 ⟨v9,rfl,ho9,hb9⟩;obtain ⟨A9,c9,rfl,h9⟩:=Num.of (N:=0) ho9 (limbs_small _))
    go_ret2
    exact ⟨_,_,_,rfl,h9,HBW.out.trans (hb9.mono HBW.out.size)⟩
end Go.Proofs.YtdefcbfofonabaaGreat

namespace Go.Proofs.YtdefcbfofonabaaGreat
open Go.RowKit
set_option linter.unusedVariables false
set_option linter.unusedSimpArgs false
structure RatLe (q:Rat) (k:Nat):Prop where
 num:(limbs q.num.natAbs).length≤k
 den:(limbs q.den).length≤k
theorem limbs_lt (N:Nat):N<2 ^ (32*(limbs N).length):=by
 have:=lv_lt (limbs N) (limbs_small N)
 rwa [lv_limbs] at this
theorem len_mul (x y a b:Nat) (hx:(limbs x).length≤a) (hy:(limbs y).length≤b):(limbs (x*y)).length≤a+b:=by
 refine limbs_len_le ?_;have h1:x<2 ^ (32*a):=Nat.lt_of_lt_of_le (limbs_lt x) (Nat.pow_le_pow_right (by decide) (by omega));have h2:y<2 ^ (32*b):=Nat.lt_of_lt_of_le (limbs_lt y) (Nat.pow_le_pow_right (by decide) (by omega));rw [Nat.mul_add,Nat.pow_add];exact Nat.mul_lt_mul_of_lt_of_le h1 (Nat.le_of_lt h2) (Nat.pow_pos (by decide))
theorem len_add (x y k:Nat) (hx:(limbs x).length≤k) (hy:(limbs y).length≤k) (M:Nat) (h:M≤x+y):(limbs M).length≤k+1:=by
 refine limbs_len_le ?_;have h1:x<2 ^ (32*k):=Nat.lt_of_lt_of_le (limbs_lt x) (Nat.pow_le_pow_right (by decide) (by omega));have h2:y<2 ^ (32*k):=Nat.lt_of_lt_of_le (limbs_lt y) (Nat.pow_le_pow_right (by decide) (by omega));rw [show 2 ^ (32*(k+1))=2 ^ (32*k)*4294967296 from pow_succ32 _]
 generalize 2 ^ (32*k)=P at *
 omega
theorem add_le {p q:Rat} {a b:Nat} (hp:RatLe p a) (hq:RatLe q b):RatLe (p+q) (a+b+1):=by
 have hd:0<p.den*q.den:=Nat.mul_pos (Nat.pos_of_ne_zero p.den_nz) (Nat.pos_of_ne_zero q.den_nz)
 obtain ⟨h1,h2⟩:=mk_bounds (sumF (ratNeg p) (p.num.natAbs*q.den) (ratNeg q) (q.num.natAbs*p.den)).1 (sumF (ratNeg p) (p.num.natAbs*q.den) (ratNeg q) (q.num.natAbs*p.den)).2 (p.den*q.den) hd (a+b+1)
  (len_add _ _ (a+b) (len_mul _ _ _ _ hp.num hq.den) (by have:=len_mul _ _ _ _ hq.num hp.den;omega) _ (sumF_le _ _ _ _)) (by have:=len_mul _ _ _ _ hp.den hq.den;omega)
 rw [add_rat] at h1 h2;exact ⟨h1,h2⟩
theorem mul_le {p q:Rat} {a b:Nat} (hp:RatLe p a) (hq:RatLe q b):RatLe (p*q) (a+b):=by
 have hd:0<p.den*q.den:=Nat.mul_pos (Nat.pos_of_ne_zero p.den_nz) (Nat.pos_of_ne_zero q.den_nz);obtain ⟨h1,h2⟩:=mk_bounds (ratNeg p != ratNeg q) (p.num.natAbs*q.num.natAbs) (p.den*q.den) hd (a+b) (len_mul _ _ _ _ hp.num hq.num) (len_mul _ _ _ _ hp.den hq.den);rw [mul_rat] at h1 h2;exact ⟨h1,h2⟩
theorem neg_le {q:Rat} {a:Nat} (h:RatLe q a):RatLe (-q) a:=by
 obtain ⟨_,h2,h3⟩:=neg_rat q;exact ⟨by rw [h2];exact h.num,by rw [h3];exact h.den⟩
theorem inv_le {q:Rat} {a:Nat} (h:RatLe q a) (h0:q≠0):RatLe q⁻¹ a:=by
 have hp:0<q.num.natAbs:=Nat.pos_of_ne_zero fun e=>h0 ((num_zero q).1 e)
 obtain ⟨h1,h2⟩:=mk_bounds (ratNeg q) q.den q.num.natAbs hp a h.den h.num;rw [inv_rat q h0] at h1 h2;exact ⟨h1,h2⟩
set_option maxRecDepth 100000 in
theorem sum_any {w:World} {A A2:Option Addr} {n c n2 c2:Nat} {l m:List Nat} (an bn:Bool) (h:Num w A n c l) (h2:Num w A2 n2 c2 m) (hb:l.length≤100000000) (hb2:m.length≤100000000) :
 Calls Tryz.prog 73 #[.bool an,.slice A n c,.bool bn,.slice A2 n2 c2] w fun e w'=>∃ A' n' c',e=.returned (.tuple #[.bool (sumF an (lv l) bn (lv m)).1,.slice A' n' c'])∧Num w' A' n' c' (limbs (sumF an (lv l) bn (lv m)).2)∧Below w.heap.size w w':=by
 unfold sumF
 by_cases he:an=bn
 · subst he
   rw [if_pos rfl];have ha:=add_num h h2 hb hb2;clear h h2
   cases an
   · go_enter Tryz.func73,Tryz.ntmps73
     go_wp2_with (go_at_call 88;refine ha.mono ?_;clear ha;rintro e w1 ⟨A1,n1,c1,rfl,h1,b1⟩)
     go_ret2
     exact ⟨_,_,_,rfl,h1,b1⟩
   · go_enter Tryz.func73,Tryz.ntmps73
     go_wp2_with (go_at_call 88;refine ha.mono ?_;clear ha;rintro e w1 ⟨A1,n1,c1,rfl,h1,b1⟩)
     go_ret2
     exact ⟨_,_,_,rfl,h1,b1⟩
 · rw [if_neg he]
   have hbe:(an == bn)=false:=by rw [beq_eq_false_iff_ne];exact he
   by_cases hle:lv m≤lv l
   · rw [if_pos hle]
     have hs:=sub_yes h h2 hb hb2 hle;clear h h2
     go_enter Tryz.func73,Tryz.ntmps73
     go_wp2_with (go_at_call 89;refine hs.mono ?_;clear hs;rintro e w1 ⟨A1,n1,c1,rfl,h1,b1⟩)
     go_ret2
     exact ⟨_,_,_,rfl,h1,b1⟩
   · rw [if_neg hle]
     have hs:=sub_no h h2 hb hb2 (by omega)
     have hs2:=fun k=>sub_yes (h2.drewN k) (h.drewN k) hb2 hb (by omega)
     have HS2:=Lib.hid hs2;clear h h2 hs2
     go_enter Tryz.func73,Tryz.ntmps73
     go_upto_region 6 with (go_at_call 89;refine hs.mono ?_;clear hs;rintro e w1 ⟨rfl,k,rfl⟩)
     have hcall:=HS2.out k
     go_wp2_with (go_at_call 89;refine hcall.mono ?_;clear hcall;rintro e w2 ⟨A1,n1,c1,rfl,h1,b1⟩)
     go_ret2
     exact ⟨_,_,_,rfl,h1,⟨b1.os,b1.tape,b1.output,b1.size,b1.block⟩⟩
end Go.Proofs.YtdefcbfofonabaaGreat

namespace Go.Proofs.YtdefcbfofonabaaGreat
open Go.RowKit
set_option linter.unusedVariables false
set_option linter.unusedSimpArgs false
def Box (w:World) (g:Nat) (s:Bool) (b:RB):Prop:=w.cell? ⟨g,0,none⟩=some (.bool s)∧w.cell? ⟨g,1,none⟩=some (.slice b.A b.n b.c)∧w.cell? ⟨g,2,none⟩=some (.slice b.A2 b.n2 b.c2)
theorem Box.of {w:World} {g:Nat} {s:Bool} {A:Option Addr} {n c:Nat} {A2:Option Addr} {n2 c2:Nat} {t:TypeId} (h:w.heap[g]?=some (.cells #[.bool s,.slice A n c,.slice A2 n2 c2] t (0,0))):w.cell? ⟨g,0,none⟩=some (.bool s)∧w.cell? ⟨g,1,none⟩=some (.slice A n c)∧w.cell? ⟨g,2,none⟩=some (.slice A2 n2 c2) :=
 ⟨cell_of_blk h 0,cell_of_blk h 1,cell_of_blk h 2⟩
theorem RatAt.fr {S:Nat→Prop} {w w':World} {b:RB} {q:Rat} (h:RatAt w b q) (hf:Fr S w w') (hn:∀ b i k,S b→w.cell? ⟨b,i,none⟩≠some (.int .u32 k)):RatAt w' b q:=⟨h.num.fr hf hn,h.den.fr hf hn⟩
theorem box_keep {w w':World} {g:Nat} {o:Obj} (h:w.heap[g]?=some o) (hb:Below w.heap.size w w'):w'.heap[g]?=some o:=(hb.block g (lt_of_blk h)).trans h
set_option maxRecDepth 100000 in
set_option maxHeartbeats 4000000 in
theorem add_any (b1 b2:RB) (p q:Rat) (w:World) (h1:RatAt w b1 p) (h2:RatAt w b2 q) (z:Nat) (hz:z≤1000000) (l1:RatLe p z) (l2:RatLe q z) :
 Calls Tryz.prog 48 #[b1.val (ratNeg p),b2.val (ratNeg q)] w fun e w'=>∃ b:RB,e=.returned (b.val (ratNeg (p+q)))∧RatAt w' b (p+q)∧Below w.heap.size w w':=by
 obtain ⟨A,n,c,A2,n2,c2⟩:=b1;obtain ⟨B,k,d,B2,k2,d2⟩:=b2
 have hba:=fun W h=>below_any (ratNeg p) ⟨A,n,c,A2,n2,c2⟩ p W h
 have hbb:=fun W h=>below_any (ratNeg q) ⟨B,k,d,B2,k2,d2⟩ q W h
 have hpn:=l1.num;have hpd:=l1.den;have hqn:=l2.num;have hqd:=l2.den;have hm1:=len_mul _ _ _ _ hpn hqd;have hm2:=len_mul _ _ _ _ hqn hpd;have hm3:=len_mul _ _ _ _ hpd hqd;have hm4:=len_add _ _ (z+z) hm1 hm2 _ (sumF_le (ratNeg p) (p.num.natAbs*q.den) (ratNeg q) (q.num.natAbs*p.den))
 have hdp:0<lv (limbs (p.den*q.den)):=by rw [lv_limbs];exact Nat.mul_pos (Nat.pos_of_ne_zero p.den_nz) (Nat.pos_of_ne_zero q.den_nz)
 have hsum:=add_rat p q;unfold RB.val;unfold RB.val at hba hbb;simp only at hba hbb ⊢;have HSUM:=Lib.hid hsum;clear hsum l1 l2
 generalize ratNeg p=s1 at *
 generalize ratNeg q=s2 at *
 have hn1:=h1.num;have hn2:=h2.num;simp only at hn1 hn2
 generalize p.num.natAbs=pa at *
 generalize q.num.natAbs=qa at *
 generalize p.den=pd at *
 generalize q.den=qd at *
 have HN1:=Lib.hid hn1;have HN2:=Lib.hid hn2;have HBA:=Lib.hid hba;have HBB:=Lib.hid hbb;clear hn1 hn2 hba hbb
 obtain ⟨SF,hSF⟩:∃ SF,sumF s1 (pa*qd) s2 (qa*pd)=SF:=⟨_,rfl⟩
 rw [hSF] at hm4 HSUM;have HSF:=Lib.hid hSF;clear hSF
 go_enter Tryz.func48,Tryz.ntmps48
 go_upto_region 1 with fail
 have hw1:(w.alloc (.cells #[.bool s1,.slice A n c,.slice A2 n2 c2] 26)).heap.size=w.heap.size+1:=by simp
 have hw2:((w.alloc (.cells #[.bool s1,.slice A n c,.slice A2 n2 c2] 26)).alloc (.cells #[.bool s2,.slice B k d,.slice B2 k2 d2] 26)).heap.size=w.heap.size+1+1:=by simp
 have hx1:=box_keep (heap_alloc_new w (.cells #[.bool s1,.slice A n c,.slice A2 n2 c2] 26)) ((Below.refl _ _).alloc (Nat.le_refl _) (.cells #[.bool s2,.slice B k d,.slice B2 k2 d2] 26));have hx2:=heap_alloc_new (w.alloc (.cells #[.bool s1,.slice A n c,.slice A2 n2 c2] 26)) (.cells #[.bool s2,.slice B k d,.slice B2 k2 d2] 26);have hbw:=((Below.refl w.heap.size w).alloc (Nat.le_refl _) (.cells #[.bool s1,.slice A n c,.slice A2 n2 c2] 26)).alloc (by simp) (.cells #[.bool s2,.slice B k d,.slice B2 k2 d2] 26)
 obtain ⟨wk,hwk⟩:∃ x,x=(w.alloc (.cells #[.bool s1,.slice A n c,.slice A2 n2 c2] 26)).alloc (.cells #[.bool s2,.slice B k d,.slice B2 k2 d2] 26):=⟨_,rfl⟩
 rw [hw1] at hx2;rw [←hwk] at hx1 hx2 hbw hw2 ⊢;have h1k:=h1.below hbw;have h2k:=h2.below hbw;clear hwk hw1 h1 h2;have hr3:=heap_alloc_new wk (.cells #[.bool false,.slice none 0 0,.slice none 0 0] 26);have hx1':=box_keep hx1 ((Below.refl _ _).alloc (Nat.le_refl _) (.cells #[.bool false,.slice none 0 0,.slice none 0 0] 26));have hx2':=box_keep hx2 ((Below.refl _ _).alloc (Nat.le_refl _) (.cells #[.bool false,.slice none 0 0,.slice none 0 0] 26));have hbk:=hbw.alloc hbw.size (.cells #[.bool false,.slice none 0 0,.slice none 0 0] 26);have h1z:=h1k.alloc (.cells #[.bool false,.slice none 0 0,.slice none 0 0] 26);have h2z:=h2k.alloc (.cells #[.bool false,.slice none 0 0,.slice none 0 0] 26)
 obtain ⟨wz,hwz⟩:∃ x,x=wk.alloc (.cells #[.bool false,.slice none 0 0,.slice none 0 0] 26):=⟨_,rfl⟩
 rw [hw2] at hr3;rw [←hwz] at hr3 hx1' hx2' hbk h1z h2z ⊢;have HX1:=Lib.hid hx1';have HX2:=Lib.hid hx2';have HR3:=Lib.hid hr3;have HBZ:=Lib.hid hbk;have H1:=Lib.hid h1z;have H2:=Lib.hid h2z;clear hwz hx1 hx2 hx1' hx2' hr3 hbk h1k h2k h1z h2z hbw hw2
 have hcs:∀ W',Fr (fun b=>b=w.heap.size+1+1) wz W'→W'.cell? ⟨w.heap.size,0,none⟩=some (.bool s1)∧W'.cell? ⟨w.heap.size,1,none⟩=some (.slice A n c)∧W'.cell? ⟨w.heap.size,2,none⟩=some (.slice A2 n2 c2)∧W'.cell? ⟨w.heap.size+1,0,none⟩=some (.bool s2)∧W'.cell? ⟨w.heap.size+1,1,none⟩=some (.slice B k d)∧W'.cell? ⟨w.heap.size+1,2,none⟩=some (.slice B2 k2 d2):=fun W' h=>by
  obtain ⟨a0,a1,a2⟩:=Box.of ((h.block _ (lt_of_blk HX1.out) (by omega)).trans HX1.out);obtain ⟨b0,b1,b2⟩:=Box.of ((h.block _ (lt_of_blk HX2.out) (by omega)).trans HX2.out);exact ⟨a0,a1,a2,b0,b1,b2⟩
 have hnz:∀ W',Below wz.heap.size wz W'→∀ b i k,b=w.heap.size+1+1→W'.cell? ⟨b,i,none⟩≠some (.int .u32 k):=fun W' h b i k hb e=>by
  subst hb;rw [cell_of_blk (box_keep HR3.out h) i] at e;exact no_int3 _ _ _ (by simp) (by simp) (by simp) i k e
 have HCS:=Lib.hid hcs;have HNZ:=Lib.hid hnz;clear hcs hnz;have tok:True:=trivial
 go_cut [5,6] (fun x y wx=>∃ (A':Option Addr) (n' c':Nat),x=.bool SF.1∧y=.slice A' n' c'∧Num wx A' n' c' (limbs SF.2)∧Below wz.heap.size wz wx)
 case first =>
  go_region_held3 (fun W'=>W'.cell? ⟨w.heap.size,0,none⟩=some (.bool s1)∧W'.cell? ⟨w.heap.size,1,none⟩=some (.slice A n c)∧W'.cell? ⟨w.heap.size,2,none⟩=some (.slice A2 n2 c2)∧W'.cell? ⟨w.heap.size+1,0,none⟩=some (.bool s2)∧W'.cell? ⟨w.heap.size+1,1,none⟩=some (.slice B k d)∧W'.cell? ⟨w.heap.size+1,2,none⟩=some (.slice B2 k2 d2)) (first | exact HCS.out _ (Fr.of_below b24) | exact HCS.out _ (Fr.of_below b23) | exact HCS.out _ (Fr.of_below b22) | exact HCS.out _ (Fr.of_below b21) | exact HCS.out _ (Fr.of_below b20) | exact HCS.out _ (Fr.refl _ _).drew | exact HCS.out _ (Fr.refl _ _)) (first | (go_at_call 51;have _t:=tok;refine (HBB.out _ (H2.out.below (below_drew2 (Below.refl _ _)))).mono ?_;rintro e w20 ⟨A20,n20,c20,rfl,h20,b20'⟩;have b20:=(below_drew2 (Below.refl wz.heap.size wz)).trans b20';have tok1:True:=trivial;clear tok _t) | (go_at_call 50;have _t:=tok1;refine (mul_num (HN1.out.below (HBZ.out.trans (b20.mono HBZ.out.size))) h20 (by omega) (by omega)).mono ?_;rintro e w21 ⟨A21,n21,c21,rfl,h21,b21'⟩;have b21:=b20.trans (b21'.mono b20.size);rw [lv_limbs,lv_limbs] at h21;have tok2:True:=trivial;clear tok1 _t) | (go_at_call 51;have _t:=tok2;refine (HBA.out _ (H1.out.below b21)).mono ?_;rintro e w22 ⟨A22,n22,c22,rfl,h22,b22'⟩;have b22:=b21.trans (b22'.mono b21.size);have tok3:True:=trivial;clear tok2 _t) | (go_at_call 50;have _t:=tok3;refine (mul_num (HN2.out.below (HBZ.out.trans (b22.mono HBZ.out.size))) h22 (by omega) (by omega)).mono ?_;rintro e w23 ⟨A23,n23,c23,rfl,h23,b23'⟩;have b23:=b22.trans (b23'.mono b22.size);rw [lv_limbs,lv_limbs] at h23;have tok4:True:=trivial;clear tok3 _t) | (go_at_call 73;have _t:=tok4;refine (sum_any s1 s2 ((h21.below b22').below b23') h23 (by omega) (by omega)).mono ?_;rintro e w24 ⟨A24,n24,c24,rfl,h24,b24'⟩;have b24:=b23.trans (b24'.mono b23.size);rw [lv_limbs,lv_limbs] at h24))
  all_goals
   go_wp2_with fail
   go_meet;rw [HSF.out] at h24;exact ⟨_,_,_,congrArg Value.bool (by rw [lv_limbs,lv_limbs,HSF.out]),rfl,h24,b24⟩
 case rest =>
 obtain ⟨A11,n11,c11,rfl,rfl,h11,hb11⟩:=hcut
 obtain ⟨w11,rfl⟩:∃ x,x=wc:=⟨_,rfl⟩
 have H11:=Lib.hid h11;have HB11:=Lib.hid hb11;have tok:True:=trivial;clear h11 hb11
 go_upto_region 2 with fail
 go_region_held3 (fun W'=>W'.cell? ⟨w.heap.size,0,none⟩=some (.bool s1)∧W'.cell? ⟨w.heap.size,1,none⟩=some (.slice A n c)∧W'.cell? ⟨w.heap.size,2,none⟩=some (.slice A2 n2 c2)∧W'.cell? ⟨w.heap.size+1,0,none⟩=some (.bool s2)∧W'.cell? ⟨w.heap.size+1,1,none⟩=some (.slice B k d)∧W'.cell? ⟨w.heap.size+1,2,none⟩=some (.slice B2 k2 d2)) ((refine HCS.out _ ?_;first | with_reducible exact Fr.of_below b28 | with_reducible exact fr_set (fr_set (fr_set (Fr.of_below b28) (.inl rfl)) (.inl rfl)) (.inl rfl) | with_reducible exact Fr.of_below b27 | with_reducible exact Fr.of_below b26 | with_reducible exact Fr.of_below b25 | with_reducible exact (Fr.of_below HB11.out).drew | with_reducible exact Fr.of_below HB11.out)) (first | (go_at_call 51;have _t:=tok;refine (HBA.out _ (H1.out.below (below_drew2 HB11.out))).mono ?_;rintro e w25 ⟨A25,n25,c25,rfl,h25,b25'⟩;have b25:=(below_drew2 HB11.out).trans (b25'.mono HB11.out.size);have tok1:True:=trivial;clear tok _t) | (go_at_call 51;have _t:=tok1;refine (HBB.out _ (H2.out.below b25)).mono ?_;rintro e w26 ⟨A26,n26,c26,rfl,h26,b26'⟩;have b26:=b25.trans (b26'.mono b25.size);have tok2:True:=trivial;clear tok1 _t) | (go_at_call 50;have _t:=tok2;refine (mul_num (h25.below b26') h26 (by omega) (by omega)).mono ?_;rintro e w27 ⟨A27,n27,c27,rfl,h27,b27'⟩;have b27:=b26.trans (b27'.mono b26.size);rw [lv_limbs,lv_limbs] at h27;have hmade:=made_any SF.1 (H11.out.below ((below_drew2 (Below.refl w11.heap.size w11)).trans ((b25'.trans (b26'.mono b25'.size)).trans (b27'.mono (Nat.le_trans b25'.size b26'.size))))) h27 (by omega) (by omega) hdp;rw [lv_limbs,lv_limbs,HSUM.out] at hmade;unfold RB.val at hmade;clear tok2 _t) | (go_at_call 49;refine hmade.mono ?_;clear hmade;rintro e w28 ⟨rb,rfl,hrat,b28'⟩;have b28:=b27.trans (b28'.mono b27.size);obtain ⟨r0,r1,r2⟩:=Box.of (box_keep HR3.out b28);have s0:=frozen_of_blk (box_keep HR3.out b28) 0;have s1':=frozen_of_blk (box_keep HR3.out b28) 1;have s2':=frozen_of_blk (box_keep HR3.out b28) 2;have HRAT:=Lib.hid hrat;have HB28:=Lib.hid (HBZ.out.trans (b28.mono HBZ.out.size));have HNI:=Lib.hid (HNZ.out w28 b28);clear hrat))
 all_goals
  go_wp2_with fail
  refine bodyPost_ret (v:=.agg #[.bool (ratNeg (p+q)),.slice rb.A rb.n rb.c,.slice rb.A2 rb.n2 rb.c2]) (by simp [results,Tryz.results48,go_sem,r0,r1,r2]) rfl ?_;refine ⟨rb,rfl,HRAT.out.fr (S:=fun b=>b=w.heap.size+1+1) (fr_set (fr_set (fr_set (Fr.refl _ _) (.inl rfl)) (.inl rfl)) (.inl rfl)) HNI.out,bl_set (bl_set (bl_set HB28.out ?_) ?_) ?_⟩
  all_goals
   simp
   try omega
end Go.Proofs.YtdefcbfofonabaaGreat
