/- Contracts of package limb: Shl, Shr. -/
import Derived.Test.YtdefcbfofonabaaGreatMem
import Derived.Test.YtdefcbfofonabaaGreatLongMath3
import Derived.Test.YtdefcbfofonabaaGreatLongMath
import Derived.Deep.CutBlock
namespace Go.Proofs.YtdefcbfofonabaaGreat
set_option linter.unusedVariables false
set_option linter.unusedSimpArgs false
open Go.RowKit
theorem or_shift (C X s:Nat) (hC:C<2 ^ s) (hX:X<4294967296) (hs:s<32) :
 bits .or .u64 (C:Int) (IntKind.u64.wrap ((X:Int)*2 ^ s))=((C+X*2 ^ s:Nat):Int)∧C+X*2 ^ s<4294967296*2 ^ s∧C+X*2 ^ s≤18446744073709551615:=by
 have h1:X*2 ^ s+2 ^ s≤4294967296*2 ^ s:=by
  have:=Nat.mul_le_mul_right (2 ^ s) (show X+1≤4294967296 by omega);rw [Nat.add_mul] at this;omega
 have h2:2 ^ s≤2147483648:=Nat.le_trans (Nat.pow_le_pow_right (by omega) (show s≤31 by omega)) (by decide);have h3:4294967296*2 ^ s≤4294967296*2147483648:=Nat.mul_le_mul_left _ h2;refine ⟨?_,by omega,by omega⟩
 have e:(X:Int)*2 ^ s=((X*2 ^ s:Nat):Int):=by rw [Int.natCast_mul];simp
 rw [e,IntKind.wrap_u64]
 have e2:((X*2 ^ s:Nat):Int) % 18446744073709551616=((X*2 ^ s:Nat):Int):=by generalize X*2 ^ s=z at *;omega
 rw [e2,u64_or_nat _ _ (by omega) (by omega)]
 congr 1
 have h4:=Nat.two_pow_add_eq_or_of_lt hC X;rw [Nat.or_comm,Nat.mul_comm,←h4,Nat.add_comm]
set_option maxRecDepth 100000 in
theorem shl_no (xs:Value) (K:Int) (w:World) (h:¬ (0≤K∧K≤100000)) :
 Calls Tryz.prog 102 #[xs,.int .i64 K] w fun e w'=>e=.returned (.tuple #[.slice none 0 0,.bool false])∧w=w':=by
 have hs:=shiftOK_any K w
 have hd:decide (0≤K∧K≤100000)=false:=by simpa using h
 rw [hd] at hs;have HS:=Lib.hid hs;clear hs hd h
 go_enter Tryz.func102,Tryz.ntmps102
 go_wp2_with fail
 refine HS.out.mono ?_;rintro e w' ⟨rfl,rfl⟩
 go_wp2_with fail
 go_ret2
 exact ⟨rfl,rfl⟩
set_option maxHeartbeats 800000 in
set_option maxRecDepth 100000 in
theorem shl_yes (xs:List Nat) (A:Option Addr) (n c K:Nat) (w:World) (hl:xs.length=n) (hn:n≤17592186044416) (hr:Rd w 1 A n (lw xs)) (hs:small xs) (hK:K≤100000) :
 Calls Tryz.prog 102 #[.slice A n c,.int .i64 K] w fun e w'=>∃ v,e=.returned (.tuple #[v,.bool true]) ∧
  w'.ownsRow w.heap.size 125 1 v (limbs (lv xs*2 ^ K)).length (lw (limbs (lv xs*2 ^ K)))∧Below w.heap.size w w':=by
 obtain ⟨i0,hi,hz0,hz1,hz2⟩:=info_parts info_u32;have hok:=shiftOK_any K w
 have hd:decide ((0:Int)≤K∧(K:Int)≤100000)=true:=by simp;omega
 rw [hd] at hok;have HOK:=Lib.hid hok;clear hok hd;have HR:=Lib.hid hr;have HS:=Lib.hid hs;clear hr hs;have hq:K=32*(K / 32)+K % 32:=(Nat.div_add_mod K 32).symm;have hs32:K % 32<32:=Nat.mod_lt _ (by decide)
 have hpow:2 ^ K=2 ^ (32*(K / 32))*2 ^ (K % 32):=by rw [←Nat.pow_add,←hq]
 rw [hpow]
 have hqb:K / 32≤3125:=by omega
 have hdq:(K:Int) / 32=((K / 32:Nat):Int):=by omega
 have hmq:(K:Int) % 32=((K % 32:Nat):Int):=by omega
 clear hq hpow
 generalize K / 32=q at *
 generalize K % 32=s at *
 go_enter Tryz.func102,Tryz.ntmps102
 go_wp2_with fail
 refine HOK.out.mono ?_;rintro e w' ⟨rfl,rfl⟩
 go_wp2_with (at_make;refine make2 w.heap.size w w rfl _ _ 24 rfl 125 i0 (.int .u32 0) 4 Tryz.underlying24 hi hz0 hz1 hz2 rfl (by decide) .i64 .i64 _ _ q (q+n+1) rfl rfl (by first | rfl | omega) (by omega) (by omega) (by omega) (lw (List.replicate q 0)) (by simp [lw]) (Nat.le_refl _) (Below.refl _ _) ?_)
 intro w1 hown1 hb1 hg1
 go_wp2_with fail
 go_loopw [6,7,24] (fun o cy i wr=>∃ (k C:Nat) (ys:List Nat),k≤n∧i=.int .i64 k∧cy=.int .u64 C∧C<2 ^ s∧ys.length=q+k∧small ys∧lv ys+2 ^ (32*(q+k))*C=lv (xs.take k)*(2 ^ (32*q)*2 ^ s)∧wr.ownsRow w.heap.size 125 1 o (q+k) (lw ys)∧Below w.heap.size w wr) (fun _ _ i _=>n - (intOf i).toNat)
 case atStart=>exact ⟨0,0,List.replicate q 0,Nat.zero_le _,rfl,rfl,Nat.pow_pos (by omega),by simp,small_zeros q,by simp [lv,lv_zeros],hown1,hb1⟩
 case round =>
  clear hown1 hb1 hg1;obtain ⟨k,C,ys,hk,rfl,rfl,hC,hyl,hys,heq,hown,hb⟩:=hrel
  by_cases hlt:k<n
  · obtain ⟨b1,o1,u1,rfl,hu1,hc1⟩:=(HR.out.below hb).at_ hlt
    have hjl:k<xs.length:=by omega
    rw [lw_get xs k hjl] at hu1
    injection hu1 with hu1
    have hx:=HS.out xs[k] (List.getElem_mem _);have HT:=Lib.hid (lv_take_succ xs k hjl)
    generalize xs[k]=X at *
    subst hu1;clear hjl;obtain ⟨ho1,ho2,ho3⟩:=or_shift C X s hC hx hs32;have HEQ:=Lib.hid heq;have HC:=Lib.hid hC;have HYL:=Lib.hid hyl;have HY:=Lib.hid hys;have HO2:=Lib.hid ho2
    generalize hD:C+X*2 ^ s=D at *
    have HD:=Lib.hid hD;clear heq hC hyl hys ho2 hD
    go_wp2_with (at_builtin;refine app1 w.heap.size w wr _ 125 rfl _ _ 24 rfl i0 (.int .u32 0) 4 Tryz.underlying24 hi hz0 hz1 hz2 rfl (by decide) _ (q+k) _ rfl (Nat.le_refl _) hown hb rfl rfl (by omega) ?_)
    intro v1 w2 hown2 hb2 _;clear hown hb
    go_wp2_with fail
    go_roundw
    case rel =>
     refine ⟨k+1,D / 4294967296,ys ++ [D % 4294967296],by omega,by go_num,by go_num,?_,by rw [List.length_append,HYL.out];rfl,small_append.2 ⟨HY.out,by intro x hx;simp at hx;omega⟩,?_,?_,hb2⟩
     · rw [Nat.div_lt_iff_lt_mul (by decide),Nat.mul_comm];exact HO2.out
     · rw [lv_append,HYL.out,HT.out,Nat.add_mul,←HEQ.out]
       simp only [lv,Nat.mul_zero,Nat.add_zero]
       have e1:2 ^ (32*(q+(k+1)))=2 ^ (32*(q+k))*4294967296:=by
        rw [show 32*(q+(k+1))=32*(q+k)+32 by omega,Nat.pow_add]
       have e2:2 ^ (32*k)*X*(2 ^ (32*q)*2 ^ s)=2 ^ (32*(q+k))*(X*2 ^ s):=by
        rw [Nat.mul_add 32,Nat.pow_add];simp only [Nat.mul_assoc,Nat.mul_comm,Nat.mul_left_comm]
       rw [e1,e2,Nat.add_assoc,Nat.add_assoc,←Nat.mul_add,HD.out,Nat.mul_assoc,←Nat.mul_add,Nat.mod_add_div]
     · rw [lw_append]
       exact hown2
    case measure=>simp [intOf];omega
  · obtain rfl:k=n:=by omega
    have hC32:C<4294967296:=Nat.lt_of_lt_of_le hC (Nat.le_trans (Nat.pow_le_pow_right (by omega) (show s≤32 by omega)) (by decide));rw [List.take_of_length_le (by omega)] at heq
    have hval:lv (ys ++ [C])=lv xs*(2 ^ (32*q)*2 ^ s):=by
     rw [lv_append,hyl,←heq];simp [lv]
    have hsm:small (ys ++ [C]):=small_append.2 ⟨hys,by intro x hx;simp at hx;omega⟩
    have hlen2:(ys ++ [C]).length=q+k+1:=by simp [hyl]
    have HV:=Lib.hid hval;have HSM:=Lib.hid hsm;have HL:=Lib.hid hlen2;clear hval hsm hlen2 heq hC hyl hys
    go_wp2_with (at_builtin;refine app1 w.heap.size w wr _ 125 rfl _ _ 24 rfl i0 (.int .u32 0) 4 Tryz.underlying24 hi hz0 hz1 hz2 rfl (by decide) _ (q+k) _ rfl (Nat.le_refl _) hown hb rfl rfl (by omega) ?_)
    intro v1 w2 hown2 hb2 _;obtain ⟨A2,c2,rfl,hc2,hr2⟩:=ownsRow_form hown2
    have hr3:Rd w2 1 A2 (q+k+1) (lw (ys ++ [C])):=by rw [lw_append];exact hr2
    have hn:=norm_any (ys ++ [C]) A2 (q+k+1) c2 w2 HL.out hc2 (by omega) hr3 HSM.out;rw [HV.out] at hn;have HN:=Lib.hid hn;clear hn hr2 hr3 hown hown2 hb HV HSM HL
    go_wp2_with fail
    refine HN.out.mono ?_;rintro e w3 ⟨v3,rfl,hown3,hb3⟩
    go_wp2_with fail
    go_ret2
    exact ⟨_,rfl,own_more hown3 hb2.size,hb2.trans (hb3.mono hb2.size)⟩
set_option maxHeartbeats 1000000 in
set_option maxRecDepth 100000 in
theorem shr_yes (xs:List Nat) (A:Option Addr) (n c K:Nat) (w:World) (hl:xs.length=n) (hnc:n≤c) (hn:n≤17592186044416) (hr:Rd w 1 A n (lw xs)) (hs:small xs) (hK:K≤100000) :
 Calls Tryz.prog 105 #[.slice A n c,.int .i64 K] w fun e w'=>∃ v,e=.returned (.tuple #[v,.bool true]) ∧
  w'.ownsRow w.heap.size 125 1 v (limbs (lv xs / 2 ^ K)).length (lw (limbs (lv xs / 2 ^ K)))∧Below w.heap.size w w':=by
 obtain ⟨i0,hi,hz0,hz1,hz2⟩:=info_parts info_u32;have hok:=shiftOK_any K w
 have hd:decide ((0:Int)≤K∧(K:Int)≤100000)=true:=by simp;omega
 rw [hd] at hok;have HOK:=Lib.hid hok;clear hok hd;have hq:K=32*(K / 32)+K % 32:=(Nat.div_add_mod K 32).symm;have hs32:K % 32<32:=Nat.mod_lt _ (by decide)
 have hpow:2 ^ K=2 ^ (32*(K / 32))*2 ^ (K % 32):=by rw [←Nat.pow_add,←hq]
 have hqb:K / 32≤3125:=by omega
 have hdq:(K:Int) / 32=((K / 32:Nat):Int):=by omega
 have hmq:(K:Int) % 32=((K % 32:Nat):Int):=by omega
 clear hq
 generalize K / 32=q at *
 generalize K % 32=s at *
 by_cases hqn:n≤q
 · have hz:lv xs / 2 ^ K=0:=by
    refine Nat.div_eq_of_lt (Nat.lt_of_lt_of_le (lv_lt xs hs) ?_);rw [hpow];exact Nat.le_trans (Nat.pow_le_pow_right (by omega) (by omega)) (Nat.le_mul_of_pos_right _ (Nat.pow_pos (by omega)))
   rw [hz,limbs_zero];clear hz hpow hr hs
   go_enter Tryz.func105,Tryz.ntmps105
   go_wp2_with fail
   refine HOK.out.mono ?_;rintro e w' ⟨rfl,rfl⟩
   go_wp2_with fail
   go_ret2
   exact ⟨_,rfl,World.ownsRow_nil _ _ _ _,Below.refl _ _⟩
 · have hcq:¬ c=q:=by omega
   have hcut:=hr.cut (k:=q) (cap:=c) (by omega) (by omega);rw [if_neg hcq,lw_drop] at hcut
   have hval:lv xs / 2 ^ K=lv (xs.drop q) / 2 ^ s:=by rw [hpow,lv_drop xs q hs (by omega),Nat.div_div_eq_div_mul]
   have hsm:=small_drop hs q
   have hml:(xs.drop q).length=n - q:=by rw [List.length_drop,hl]
   rw [hval];clear hval hpow hr hs
   generalize xs.drop q=ys at *
   obtain ⟨m,hm⟩:∃ m,n=q+m:=⟨n - q,by omega⟩
   subst hm
   have hml':ys.length=m:=by omega
   clear hml;have hVlt:=lv_lt ys hsm;rw [hml'] at hVlt;have HC:=Lib.hid hcut;have HSM:=Lib.hid hsm;have HML:=Lib.hid hml';have HV:=Lib.hid hVlt;clear hcut hsm hml' hVlt
   have hsub:(((q+m:Nat):Int) - (q:Int))=(m:Int):=by omega
   go_enter Tryz.func105,Tryz.ntmps105
   go_wp2_with fail
   refine HOK.out.mono ?_;rintro e w' ⟨rfl,rfl⟩
   go_wp2_with (at_make;refine make1 w.heap.size w w rfl _ _ 24 rfl 125 i0 (.int .u32 0) 4 Tryz.underlying24 hi hz0 hz1 hz2 rfl (by decide) .i64 .i64 _ _ m rfl rfl (by omega) (by omega) (by omega) (lw (rowN m (shrRow (lv ys) s 0))) (by rw [←rowN_zeros m _ (fun i _=>by unfold shrRow;rw [if_neg (by omega)])];simp [lw]) (Nat.le_refl _) (Below.refl _ _) ?_)
   intro w1 hown1 hb1 _
   go_wp2_with fail
   go_loopw [7,8,26] (fun _ _ i wr=>∃ k:Nat,k≤m∧i=.int .i64 k∧wr.ownsRow w.heap.size 125 1 (.slice (some ⟨w.heap.size,0,none⟩) m m) m (lw (rowN m (shrRow (lv ys) s k)))∧Below w.heap.size w wr) (fun _ _ i _=>m - (intOf i).toNat)
   case atStart=>exact ⟨0,Nat.zero_le _,rfl,hown1,hb1⟩
   case round =>
    clear hown1 hb1;obtain ⟨k,hk,rfl,hown,hb⟩:=hrel
    by_cases hlt:k<m
    · obtain ⟨b1,o1,u1,hA,hu1,hc1⟩:=(HC.out.below hb).at_ (k:=k) (by omega)
      have hjl:k<ys.length:=by rw [HML.out];exact hlt
      rw [lw_get ys k hjl] at hu1
      injection hu1 with hu1
      have hx:=HSM.out ys[k] (List.getElem_mem _);have c2:=(hown.cellAt k (by omega)).trans (show _=some (Value.int .u32 (shrRow (lv ys) s k k:Nat)) by rw [lw_get _ k (by rw [rowN_length];exact hlt),rowN_get]);have f2:=hown.frozenAt k
      by_cases h1:k+1<m
      · obtain ⟨b2,o2,u2,hA2,hu2,hc2⟩:=(HC.out.below hb).at_ (k:=k+1) (by omega)
        have hjl2:k+1<ys.length:=by rw [HML.out];exact h1
        rw [lw_get ys (k+1) hjl2] at hu2
        injection hu2 with hu2
        have hy:=HSM.out ys[k+1] (List.getElem_mem _);have htwo:=two_limbs ys k HSM.out hjl ys[k+1] (fun _=>rfl) (fun h=>by omega) s hs32
        generalize ys[k]=X at *
        generalize ys[k+1]=Y at *
        subst hu1;subst hu2;rw [hA] at hA2
        injection hA2 with hA2
        injection hA2 with hb2 ho2
        subst hb2;subst ho2;have ho:=low_or X Y hx hy;have hst:=(hown.stored k (.int .u32 (((X+4294967296*Y) / 2 ^ s % 4294967296:Nat):Int))).1;rw [htwo,lw,←List.map_set,shrRow_step _ _ _ _ hlt,←htwo] at hst
        have hcast:(((X+4294967296*Y) / 2 ^ s % 4294967296:Nat):Int)=((X:Int)+4294967296*Y) / 2 ^ s % 4294967296:=by simp
        rw [hcast] at hst;have hb2:=hb.setCell (p:=⟨w.heap.size,k,none⟩) (Nat.le_refl _) (.int .u32 (((X:Int)+4294967296*Y) / 2 ^ s % 4294967296));clear hcast htwo hown hb
        go_wp2_with fail
        go_roundw
        case rel=>exact ⟨k+1,by omega,by go_num,hst,hb2⟩
        case measure=>simp [intOf];omega
      · have htwo:=two_limbs ys k HSM.out hjl 0 (fun h=>by have:=HML.out;omega) (fun _=>rfl) s hs32
        generalize ys[k]=X at *
        subst hu1;rw [Nat.mul_zero,Nat.add_zero] at htwo;have hst:=(hown.stored k (.int .u32 ((X / 2 ^ s % 4294967296:Nat):Int))).1;rw [htwo,lw,←List.map_set,shrRow_step _ _ _ _ hlt,←htwo] at hst
        have hcast:((X / 2 ^ s % 4294967296:Nat):Int)=(X:Int) / 2 ^ s % 4294967296:=by simp
        rw [hcast] at hst;have hb2:=hb.setCell (p:=⟨w.heap.size,k,none⟩) (Nat.le_refl _) (.int .u32 ((X:Int) / 2 ^ s % 4294967296));clear hcast htwo hown hb
        go_wp2_with fail
        go_roundw
        case rel=>exact ⟨k+1,by omega,by go_num,hst,hb2⟩
        case measure=>simp [intOf];omega
    · obtain rfl:k=m:=by omega
      obtain ⟨A',c',hv,_,hrd⟩:=ownsRow_form hown
      injection hv with hA _ hc'
      subst hA;subst hc';have hn:=norm_any (rowN k (shrRow (lv ys) s k)) _ k k wr (rowN_length _ _) (by omega) (by omega) hrd (small_rowN _ _ (shrRow_lt _ _ _));rw [shrRow_end _ _ _ HV.out] at hn;have HN:=Lib.hid hn;clear hn hrd hown
      go_wp2_with fail
      refine HN.out.mono ?_;rintro e w3 ⟨v3,rfl,hown3,hb3⟩
      go_wp2_with fail
      go_ret2
      exact ⟨_,rfl,own_more hown3 hb.size,hb.trans (hb3.mono hb.size)⟩
end Go.Proofs.YtdefcbfofonabaaGreat

namespace Go.Proofs.YtdefcbfofonabaaGreat
open Go.RowKit
set_option linter.unusedVariables false
set_option linter.unusedSimpArgs false
structure LgSt (g gq:Nat) (tl:List Value) (w wr:World) (U Q:List Nat):Prop where
 urow:wr.heap[g]?=some (.cells (lw U ++ tl).toArray 125 (0,0))
 qrow:wr.heap[gq]?=some (.cells (lw Q).toArray 125 (0,0))
 fr:Fr (fun b=>b=g∨b=gq) w wr
theorem LgSt.ucell {g gq:Nat} {tl:List Value} {w wr:World} {U Q:List Nat} (h:LgSt g gq tl w wr U Q) (i:Nat) (hi:i<U.length):wr.cell? ⟨g,i,none⟩=some (.int .u32 ((U.getD i 0:Nat):Int)) :=
 (WRow.cell (w:=wr) ⟨h.urow,Fr.refl _ _⟩ i hi).1
theorem LgSt.qcell {g gq:Nat} {tl:List Value} {w wr:World} {U Q:List Nat} (h:LgSt g gq tl w wr U Q) (i:Nat) (hi:i<Q.length):wr.cell? ⟨gq,i,none⟩=some (.int .u32 ((Q.getD i 0:Nat):Int))∧wr.frozen? ⟨gq,i,none⟩=false :=
 ⟨(cell_of_blk h.qrow i).trans (by rw [List.getElem?_toArray];exact lw_getD Q i hi),frozen_of_blk h.qrow i⟩
theorem LgSt.drewN {g gq:Nat} {tl:List Value} {w wr:World} {U Q:List Nat} (h:LgSt g gq tl w wr U Q) (q:Nat):LgSt g gq tl w (wr.drewN q) U Q:=⟨h.urow,h.qrow,h.fr.drewN q⟩
theorem LgSt.wrow {g gq:Nat} {tl:List Value} {w wr:World} {U Q:List Nat} (h:LgSt g gq tl w wr U Q):WRow g tl wr wr U:=⟨h.urow,Fr.refl _ _⟩
theorem LgSt.turned {g gq:Nat} {tl:List Value} {w wr w':World} {U Q U':List Nat} (h:LgSt g gq tl w wr U Q) (hne:gq≠g) (k:WRow g tl wr w' U'):LgSt g gq tl w w' U' Q :=
 ⟨k.blk,(k.fr.block gq (lt_of_blk h.qrow) hne).trans h.qrow,h.fr.trans k.fr (fun b hb=>.inl (.inl hb))⟩
theorem LgSt.qset {g gq:Nat} {tl:List Value} {w wr:World} {U Q:List Nat} (h:LgSt g gq tl w wr U Q) (hne:gq≠g) (i v:Nat):LgSt g gq tl w (wr.setCell ⟨gq,i,none⟩ (.int .u32 (v:Int))) U (Q.set i v):=by
 refine ⟨(set_far (Ne.symm hne) _).trans h.urow,?_,h.fr.setCell ⟨gq,i,none⟩ _ (.inl (.inr rfl))⟩;rw [set_blk h.qrow i]
 congr 2
 simp [lw,List.map_set]
theorem LgSt.rd {g gq:Nat} {tl:List Value} {w wr:World} {U Q:List Nat} (h:LgSt g gq tl w wr U Q) (n:Nat) (hn:n≤U.length):Rd wr 1 (some ⟨g,0,none⟩) n (lw (U.take n)):=by
 refine ⟨by rw [lw_length,List.length_take];omega,fun _=>⟨g,0,rfl,fun j u hu=>?_⟩⟩
 have hj:j<n:=by
  have:=(List.getElem?_eq_some_iff.1 hu).1;rw [lw_length,List.length_take] at this;omega
 rw [Nat.zero_add,h.ucell j (by omega)];rw [←lw_take,List.getElem?_take,if_pos hj] at hu;rw [←hu,lw_getD U j (by omega)]
theorem LgSt.qrd {g gq:Nat} {tl:List Value} {w wr:World} {U Q:List Nat} (h:LgSt g gq tl w wr U Q):Rd wr 1 (some ⟨gq,0,none⟩) Q.length (lw Q):=by
 refine ⟨by rw [lw_length];omega,fun _=>⟨gq,0,rfl,fun j u hu=>?_⟩⟩
 have hj:j<Q.length:=by
  have:=(List.getElem?_eq_some_iff.1 hu).1
  rwa [lw_length] at this
 rw [Nat.zero_add,(h.qcell j hj).1,←hu,lw_getD Q j hj]
set_option maxRecDepth 100000 in
set_option maxHeartbeats 8000000 in
theorem long_any (A B k na c c2:Nat) (A1 A2:Option Addr) (w:World) (hAB:B≤A) (hlA:(limbs A).length=na) (hnc:na≤c) (hn:na≤1000000000000) (hr:Rd w 1 A1 na (lw (limbs A))) (hlB:(limbs B).length=k+2) (hnc2:k+2≤c2) (hr2:Rd w 1 A2 (k+2:Nat) (lw (limbs B))) :
 Calls Tryz.prog 91 #[.slice A1 na c,.slice A2 (k+2:Nat) c2] w fun e w'=>∃ q r,e=.returned (.tuple #[q,r,.bool true])∧w'.ownsRow w.heap.size 125 1 q (limbs (A / B)).length (lw (limbs (A / B)))∧w'.ownsRow w.heap.size 125 1 r (limbs (A % B)).length (lw (limbs (A % B)))∧Below w.heap.size w w':=by
 obtain ⟨i0,hi,hz0,hz1,hz2⟩:=info_parts info_u32
 have hkA:k+2≤na:=by rw [←hlA,←hlB];exact limbs_len_mono B A hAB
 obtain ⟨b,hb⟩:∃ b,Lib.bitLen ((limbs B).getD (k+1) 0)=b:=⟨_,rfl⟩
 obtain ⟨hb1,hb2,_⟩:=long_v B (k+1) b hlB hb
 have hlz:=fun W (x:Nat) (hx:x<4294967296)=>Tryz.bits_LeadingZeros32 (x:Int) W (by omega) (by omega)
 have hz:=hlz w _ (getD_lt (limbs_small B) (k+1));rw [Int.toNat_natCast,hb,show (32:Int) - (b:Int)=((32 - b:Nat):Int) by omega] at hz;have hsa:=shl_yes (limbs A) A1 na c (32 - b) w hlA (by omega) hr (limbs_small A) (by omega)
 have hsb:=fun W hW=>shl_yes (limbs B) A2 (k+2) c2 (32 - b) W hlB (by omega) (hr2.below hW) (limbs_small B) (by omega)
 rw [lv_limbs] at hsa hsb;have hmA:=limbs_len_mono A (A*2 ^ (32 - b)) (Nat.le_mul_of_pos_right _ (Nat.pow_pos (by decide)));have hmB:=limbs_len_shl A (32 - b) (by omega);rw [hlA] at hmA hmB
 obtain ⟨m,hm⟩:∃ m,(limbs (A*2 ^ (32 - b))).length+1=m+(k+1+1):=⟨(limbs (A*2 ^ (32 - b))).length - (k+1),by omega⟩
 have hin:=long_in A B (k+1) b m hlB hb hAB hm;have hvl:=hin.vl
 have hs32:32 - b≤32:=by omega
 generalize 32 - b=s at *
 obtain ⟨b1,o1,rfl,x0⟩:=hr2.limb (k+1) (by omega) hlB;have hx0:=getD_lt (limbs_small B) (k+1)
 generalize (limbs B).getD (k+1) 0=T at *
 have HSB:=Lib.hid hsb;have HIN:=Lib.hid hin;have HVL:=Lib.hid hvl;have HMA:=Lib.hid hmA;have HMB:=Lib.hid hmB;have HM:=Lib.hid hm;clear hb hb1 hb2 hlz hsb hin hvl hmA hmB hm hr hr2 hlA hlB hAB
 go_enter Tryz.func91,Tryz.ntmps91
 go_upto_region 4 with (first | (go_at_call 101;refine hz.mono ?_;clear hz;rintro e w' ⟨rfl,hw⟩;obtain rfl:=hw.symm;clear hw) | (go_at_call 102;refine hsa.mono ?_;clear hsa;rintro e w1 ⟨vu,rfl,ho1,hb1⟩;have hcall:=HSB.out w1 hb1) | (go_at_call 102;refine hcall.mono ?_;clear hcall;rintro e w2 ⟨vv,rfl,ho2,hb2⟩))
 have hb12:=hb1.trans (hb2.mono hb1.size);have ho1':=own_more (own_below ho1 hb2) (Nat.zero_le _)
 obtain ⟨N1,hN1⟩:∃ N1,(limbs (A*2 ^ s)).length=N1:=⟨_,rfl⟩
 have hMA:=HMA.out;have hMB:=HMB.out;have hMM:=HM.out;rw [hN1] at ho1 ho1' hMA hMB hMM;rw [HVL.out] at ho2
 generalize limbs (A*2 ^ s)=L1 at *
 generalize limbs (B*2 ^ s)=V at *
 obtain ⟨gv,c3,rfl,hgv1,hgv2,hc3⟩:=owned_form ho2 (by omega);obtain ⟨g1,c1,rfl,hg1,hg2,_⟩:=owned_form ho1 (by omega);obtain ⟨A3,c3',hv3,_,hrd3⟩:=ownsRow_form ho2
 injection hv3 with hA3 _ hc3'
 subst hA3;subst hc3';have HR3:=Lib.hid hrd3;have HO1:=Lib.hid ho1';have HB12:=Lib.hid hb12;have HN1:=Lib.hid hN1;have HMM:=Lib.hid hMM;clear ho1 ho1' ho2 hrd3 hb1 hb2 hb12 HSB HMA HMB HM hN1 hMM
 go_wp2_with (at_builtin;refine appS w2 1 #[.int .u32 0] 125 rfl _ _ 24 rfl i0 (.int .u32 0) 4 Tryz.underlying24 hi hz0 hz1 hz2 rfl (by decide) (by decide) rfl (.slice (some ⟨g1,0,none⟩) N1 c1) N1 (lw L1) rfl HO1.out rfl (by intro u hu;simp at hu;subst hu;rfl) (by omega) ?_)
 intro v4 w4 hown4 hfr4 hbk4
 have hown4':w4.ownsRow 0 125 1 v4 (N1+1) (lw (L1 ++ [0])):=by rw [lw_append];exact hown4
 obtain ⟨g,tl,c4,rfl,hc4,_,hg4,htl,hcm,hw4⟩:=WRow.of hown4' (by omega)
 have hge:w.heap.size≤g∧g≠gv:=by
  simp only [Value.ownBlock] at hbk4;have hsz:=HB12.out.size;rcases hbk4 with h | h
  · have e1:=Option.some.inj h
    constructor
    · omega
    · omega
  · have e1:=Option.some.inj h
    constructor
    · omega
    · omega
 have hfr4b:Below w.heap.size w w4:=HB12.out.trans (hfr4.below HB12.out.size (fun b hb=>by simp only [ownS,Value.ownBlock] at hb;have e1:=Option.some.inj hb;omega));have hrd4:Rd w4 1 (some ⟨gv,0,none⟩) (k+1+1) (lw V):=hfr4.rd HR3.out (fun b o e hb=>by simp only [ownS,Value.ownBlock] at hb;have e1:=Option.some.inj hb;have e2:=congrArg Addr.block (Option.some.inj e);simp only at e2;omega);have HR4:=Lib.hid hrd4;have HB4:=Lib.hid hfr4b;have HW4:=Lib.hid hw4;have HGE:=Lib.hid hge;clear hown4 hown4' hfr4 hbk4 hrd4 hfr4b hw4 hge HO1 HR3 HB12;have hMM:=HMM.out;clear HMM
 have hne:((N1:Int)+1 == (na:Int))=false:=by rw [beq_eq_false_iff_ne];omega
 have hsub:(N1:Int)+1 - ((k:Int)+1+1)=(m:Int):=by omega
 have hmb:m≤1000000000001:=by omega
 have HMM:=Lib.hid hMM;clear hMM
 go_wp2_with (at_make;refine make1 w4.heap.size w4 w4 rfl _ _ 24 rfl 125 i0 (.int .u32 0) 4 Tryz.underlying24 hi hz0 hz1 hz2 rfl (by decide) .i64 .i64 _ _ m rfl rfl (by first | rfl | omega) (by first | rfl | omega) (by omega) (lw (List.replicate m 0)) (by simp [lw]) (Nat.le_refl _) (Below.refl _ _) ?_)
 intro w5 hown5 hb5 _;have hblk5:=full_blk hown5;have hgb:=lt_of_blk HW4.out.blk
 have hst0:LgSt g w4.heap.size tl w5 w5 (longSt (L1 ++ [0]) V m 0).1 (longSt (L1 ++ [0]) V m 0).2:=⟨(hb5.block g hgb).trans HW4.out.blk,hblk5,Fr.refl _ _⟩
 have hrd5:=HR4.out.below hb5;have hb05:=HB4.out.trans (hb5.mono HB4.out.size)
 have hgq:w4.heap.size≠g:=by omega
 have hgq2:gv<w4.heap.size:=HR4.out.blk (by omega) (by decide) rfl
 obtain ⟨gq,hgqe⟩:∃ gq,w4.heap.size=gq:=⟨_,rfl⟩
 have hgq0:=HB4.out.size;rw [hgqe] at hst0 hgq hgq2 hgq0;have HST0:=Lib.hid hst0;have HR5:=Lib.hid hrd5;have HB5:=Lib.hid hb05;clear hown5 hb5 hblk5 hst0 hrd5 hb05 HR4 HB4 HW4 hsub hne hgb
 go_upto_region 9 with fail
 rw [hgqe];clear hgqe
 go_wp2_with fail
 go_loopw [14] (fun x wr=>∃ i:Nat,i≤m∧x=.int .i64 (((m - i:Nat):Int) - 1)∧LgSt g gq tl w5 wr (longSt (L1 ++ [0]) V m i).1 (longSt (L1 ++ [0]) V m i).2) (fun x _=>(intOf x+1).toNat)
 case atStart=>exact ⟨0,Nat.zero_le _,by simp,HST0.out⟩
 case round =>
  obtain ⟨i,him,rfl,hst⟩:=hrel
  by_cases hlt:i<m
  · obtain ⟨hok,hrin⟩:=round_in A B s k m _ V HIN.out i hlt
    obtain ⟨j,hj⟩:∃ j,m - i=j+1:=⟨m - (i+1),by omega⟩
    have hj2:m - (i+1)=j:=by omega
    have em:((m - i:Nat):Int) - 1=(j:Int):=by omega
    rw [em];rw [hj2] at hrin
    have hnx:longSt (L1 ++ [0]) V m (i+1)=(putWin (longSt (L1 ++ [0]) V m i).1 j (digs (k+1+1+1) (lv (win (longSt (L1 ++ [0]) V m i).1 j (k+1+1)) % lv V)),(longSt (L1 ++ [0]) V m i).2.set j (lv (win (longSt (L1 ++ [0]) V m i).1 j (k+1+1)) / lv V)):=by rw [longSt,HVL.out,hj2]
    have hSl:=hok.len;have hQl:=hok.qlen;have hSs:=hok.sm;have hQs:=hok.qsm;rw [List.length_append,HN1.out,List.length_singleton,HMM.out] at hSl
    generalize longSt (L1 ++ [0]) V m i=st at *
    obtain ⟨S,Q⟩:=st;simp only at hst hrin hnx hSl hQl hSs hQs
    have hjm:j+1≤m:=by omega
    have hw2:=win_get S j (k+2) (k+2) (by omega);have hw1:=win_get S j (k+2) (k+1) (by omega);have hw0:=win_get S j (k+2) k (by omega);have c2':=hst.ucell (j+(k+2)) (by omega);have c1':=hst.ucell (j+(k+1)) (by omega);have c0':=hst.ucell (j+k) (by omega);rw [←hw2] at c2';rw [←hw1] at c1';rw [←hw0] at c0';have u2:=getD_lt hrin.us (k+2);have u1:=getD_lt hrin.us (k+1);have u0:=getD_lt hrin.us k;have v1:=getD_lt hrin.vs (k+1);have v0:=getD_lt hrin.vs k;have hdv:=hrin.top;have hrv:=hst.fr.rd HR5.out (fun b o e hb=>by have e2:=congrArg Addr.block (Option.some.inj e);simp only at e2;have e3:=HGE.out.2;rcases hb with hb | hb<;>omega);obtain ⟨b6,o6,e6,d1⟩:=hrv.limb (k+1) (by omega) HVL.out;obtain ⟨b7,o7,e7,d0⟩:=hrv.limb k (by omega) HVL.out
    injection e6 with e6
    injection e6 with e6 e6'
    injection e7 with e7
    injection e7 with e7 e7'
    subst e6;subst e6';subst e7;subst e7';rw [Nat.zero_add] at d1 d0;have hfirst:=hrin.first
    have hdown:=fun g' r'=>@RoundIn.down _ _ _ g' r' hrin
    have hstands:=fun g' r'=>@RoundIn.stands _ _ _ g' r' hrin
    have hbroke:=fun g' r'=>@RoundIn.broke _ _ _ g' r' hrin
    have hstep:=fun g'=>step_ok (win S j (k+2)) V g' hrin.us hrin.vs (by rw [hrin.ul,hrin.vl]) hrin.pos
    have HST:=Lib.hid hst;have HNX:=Lib.hid hnx;have HRI:=Lib.hid hrin;have HFIRST:=Lib.hid hfirst;have HDOWN:=Lib.hid hdown;have HSTANDS:=Lib.hid hstands;have HBROKE:=Lib.hid hbroke;have HSTEP:=Lib.hid hstep;have HVR:=Lib.hid hrv;clear hst hnx hrin hok hfirst hdown hstands hbroke hstep hw2 hw1 hw0 hrv em hj
    generalize (win S j (k+2)).getD (k+2) 0=U2 at *
    generalize (win S j (k+2)).getD (k+1) 0=U1 at *
    generalize (win S j (k+2)).getD k 0=U0 at *
    generalize V.getD (k+1) 0=V1 at *
    generalize V.getD k 0=V0 at *
    have hub:j+(k+1+1)<N1+1:=by have:=HMM.out;omega
    have hor:=high_or U2 U1 u2 u1
    have hTP:U2*4294967296+U1<18446744073709551616:=by omega
    generalize hTe:U2*4294967296+U1=TP at *
    have hq1:TP / V1≤TP:=Nat.div_le_self _ _;have hq2:TP % V1<V1:=Nat.mod_lt _ (by omega)
    go_upto_region 12 with fail
    go_quiet (fail)
    have hwk1:IntKind.i64.wrap ((k:Int)+1)=(k:Int)+1:=by rw [IntKind.wrap_i64];omega
    have hk0:(0:Int)≤(k:Int)+1:=by omega
    have hk1:(k:Int)<(k:Int)+1:=by omega
    have hwV:IntKind.u64.wrap (V1:Int)=(V1:Int):=by rw [IntKind.wrap_u64];omega
    have hVne:¬ (V1=0):=by omega
    obtain ⟨G,hG⟩:∃ G,TP / V1=G:=⟨_,rfl⟩
    obtain ⟨R,hR⟩:∃ R,TP % V1=R:=⟨_,rfl⟩
    rw [hG] at hq1 HFIRST;rw [hR] at hq2 HFIRST
    have hwq:IntKind.u64.wrap ((TP:Int) / (V1:Int))=(G:Int):=by
     rw [show (TP:Int) / (V1:Int)=(G:Int) by rw [←hG];rfl,IntKind.wrap_u64];omega
    have hwr:IntKind.u64.wrap ((TP:Int) % (V1:Int))=(R:Int):=by
     rw [show (TP:Int) % (V1:Int)=(R:Int) by rw [←hR];rfl,IntKind.wrap_u64];omega
    have hR2:R<4294967296:=by omega
    have HRE:=Lib.hid (show (TP:Int) % (V1:Int)=(R:Int) by rw [←hR];rfl);clear hG hR
    go_upto_region 13 with fail
    go_quiet (fail)
    clear hwq hwr hwV hor hVne
    go_upto_block 2 with fail
    simp only [World.drewN_drewN]
    go_cut [16,17] (fun x y wx=>∃ G':Nat,x=.int .u64 (G':Int)∧(G'<4294967296∧lv (win S j (k+2)) / lv V≤G'∧G'≤lv (win S j (k+2)) / lv V+1)∧∃ q,wx=wr.drewN q)
    case first =>
     go_wp2_with fail
     go_loopw [16,17] (fun x y wx=>∃ g' r':Nat,x=.int .u64 (g':Int)∧y=.int .u64 (r':Int)∧GInv (win S j (k+2)) V k g' r'∧r'<4294967296∧∃ q,wx=wr.drewN q) (fun x _ _=>(intOf x).toNat)
     case atStart=>exact ⟨G,R,rfl,congrArg (Value.int IntKind.u64) HRE.out,HFIRST.out,hR2,_,rfl⟩
     case round =>
      obtain ⟨g',r',rfl,rfl,hgi,hr',q',rfl⟩:=hrel;have hgs:=hgi.small;have HGI:=Lib.hid hgi;clear hgi
      have hwk:IntKind.i64.wrap (k:Int)=(k:Int):=by rw [IntKind.wrap_i64];omega
      by_cases hbig:4294967296≤g'
      · have hs1:(g':Int) / 4294967296=1:=by omega
        go_upto_region 14 with fail
        go_quiet (fail)
        simp only [World.drewN_drewN];obtain ⟨hg0,hgi2⟩:=HDOWN.out g' r' HGI.out (.inl hbig);have HG2:=Lib.hid hgi2;clear hgi2
        have hgm:(g':Int) - 1=((g' - 1:Nat):Int):=by omega
        by_cases hbr:4294967296≤r'+V1
        · have hs2:((r':Int)+(V1:Int)) / 4294967296=1:=by omega
          go_wp2_with fail
          go_meet;exact ⟨g' - 1,by first | rfl | go_num | exact congrArg (Value.int IntKind.u64) hgm,HBROKE.out _ _ HG2.out hbr,_,rfl⟩
        · have hs2:((r':Int)+(V1:Int)) / 4294967296=0:=by omega
          go_wp2_with fail
          go_roundw
          case rel=>exact ⟨g' - 1,r'+V1,by first | rfl | go_num | exact congrArg (Value.int IntKind.u64) hgm,by first | rfl | go_num,HG2.out,by omega,_,rfl⟩
          case measure=>simp [intOf];omega
      · have hs1:(g':Int) / 4294967296=0:=by omega
        have hg32:g'<4294967296:=by omega
        obtain ⟨i1,i2,i3⟩:=prod_int g' V0 hg32 v0;have hor2:=high_or r' U0 hr' u0
        have hEb:r'*4294967296+U0<18446744073709551616:=by omega
        obtain ⟨E,hE⟩:∃ E,r'*4294967296+U0=E:=⟨_,rfl⟩
        rw [hE] at hor2 hEb
        obtain ⟨PP,hPP⟩:∃ PP,g'*V0=PP:=⟨_,rfl⟩
        have hwk2:IntKind.i64.wrap ((k:Int)+1+1 - 2)=(k:Int):=by rw [IntKind.wrap_i64];omega
        have hk2:(k:Int)<(k:Int)+1+1:=by omega
        have hwj:IntKind.i64.wrap ((j:Int)+((k:Int)+1+1) - 2)=((j+k:Nat):Int):=by rw [IntKind.wrap_i64];omega
        have hwj2:IntKind.i64.wrap ((j:Int)+((k:Int)+1+1))=(j:Int)+((k:Int)+1+1):=by rw [IntKind.wrap_i64];omega
        have htn:((j:Int)+(k:Int)).toNat=j+k:=by omega
        have hjk0:(0:Int)≤(j:Int)+(k:Int):=by omega
        have hjk:(j:Int)+(k:Int)<(N1:Int)+1:=by omega
        have hwV0:IntKind.u64.wrap (V0:Int)=(V0:Int):=by rw [IntKind.wrap_u64];omega
        have hwm:IntKind.u64.wrap ((g':Int)*(V0:Int))=(g':Int)*(V0:Int):=by rw [IntKind.wrap_u64];generalize (g':Int)*(V0:Int)=x at *;omega
        by_cases hgt:E<PP
        · have hcmp:(g':Int)*(V0:Int)>(E:Int):=by rw [←i3,hPP];omega
          have HE:=Lib.hid hE;have HPP:=Lib.hid hPP;clear hE hPP
          go_upto_region 14 with fail
          go_quiet (fail)
          simp only [World.drewN_drewN];obtain ⟨hg0,hgi2⟩:=HDOWN.out g' r' HGI.out (.inr (by rw [HE.out,HPP.out];exact hgt));have HG2:=Lib.hid hgi2;clear hgi2 hcmp
          have hgm:(g':Int) - 1=((g' - 1:Nat):Int):=by omega
          by_cases hbr:4294967296≤r'+V1
          · have hs2:((r':Int)+(V1:Int)) / 4294967296=1:=by omega
            go_wp2_with fail
            go_meet;exact ⟨g' - 1,by first | rfl | go_num | exact congrArg (Value.int IntKind.u64) hgm,HBROKE.out _ _ HG2.out hbr,_,rfl⟩
          · have hs2:((r':Int)+(V1:Int)) / 4294967296=0:=by omega
            go_wp2_with fail
            go_roundw
            case rel=>exact ⟨g' - 1,r'+V1,by first | rfl | go_num | exact congrArg (Value.int IntKind.u64) hgm,by first | rfl | go_num,HG2.out,by omega,_,rfl⟩
            case measure=>simp [intOf];omega
        · have hcmp:¬ ((g':Int)*(V0:Int)>(E:Int)):=by rw [←i3,hPP];omega
          have HE:=Lib.hid hE;have HPP:=Lib.hid hPP;clear hE hPP
          go_upto_region 14 with fail
          go_quiet (fail)
          simp only [World.drewN_drewN]
          go_wp2_with fail
          go_meet;exact ⟨g',rfl,HSTANDS.out g' r' HGI.out hg32 (by rw [HE.out,HPP.out];omega),_,rfl⟩
    case rest =>
     obtain ⟨G',rfl,⟨hG1,hG2,hG3⟩,q1,hwc⟩:=hcut
     obtain ⟨w6,hw6⟩:∃ x,x=wc:=⟨_,rfl⟩
     rw [←hw6] at hwc ⊢;clear hw6;have hst6:=HST.out.drewN q1
     have hvr6:∀ W,Fr (fun b=>b=g) w6 W→Rd W 1 (some ⟨gv,0,none⟩) (k+2) (lw V):=fun W hW=>hW.rd (by rw [hwc];exact HVR.out) (fun b o e hb=>by have e2:=congrArg Addr.block (Option.some.inj e);simp only at e2;have e3:=HGE.out.2;omega)
     rw [←hwc] at hst6;obtain ⟨hsf,hst'⟩:=HSTEP.out G' hG1 hG2 hG3;have htake:=take_any S V g j (k+2) (c4 - j) G' tl (some ⟨gv,0,none⟩) c3 w6 hSs HIN.out.vs HVL.out hG1 (by omega) (by have:=HMM.out;omega) (by omega) (by omega) hst6.wrow hvr6
     have els:j+(k+1+1)+1 - j=k+2+1:=by omega
     rw [←els] at htake;have hpw:=putWin_len S j (takeRow G' V (win S j (k+2))) (by rw [takeRow_len G' V _ hG1 HIN.out.vs HRI.out.us (by rw [HRI.out.ul,HVL.out];omega),HRI.out.ul];omega);have htl:=takeRow_len G' V _ hG1 HIN.out.vs HRI.out.us (by rw [HRI.out.ul,HVL.out];omega);have hts:=takeRow_small G' V _ hG1 HIN.out.vs HRI.out.us (by rw [HRI.out.ul,HVL.out];omega);rw [HRI.out.ul] at htl;have HST6:=Lib.hid hst6;have HVR6:=Lib.hid hvr6;have HTL:=Lib.hid htl;have HTS:=Lib.hid hts;have HPW:=Lib.hid hpw;have HELS:=Lib.hid els;clear hst6 hvr6 hwc c2' c1' c0' d0 d1 els htl hts hpw
     cases htb:takeBelow G' V (win S j (k+2)) with
     | false =>
       obtain ⟨hgq',hrow⟩:=hsf htb;rw [htb] at htake;have HTAKE:=Lib.hid htake;have HGQ:=Lib.hid hgq';have HROW:=Lib.hid hrow;clear htake hgq' hrow htb hsf hst'
       go_upto_region 21 with (go_at_call 103;refine HTAKE.out.mono ?_;rintro e w7 ⟨rfl,hw7⟩)
       have hst7:=HST6.out.turned hgq hw7;rw [HROW.out] at hst7;obtain ⟨z0,z1⟩:=hst7.qcell j (by omega);have hst8:=hst7.qset hgq j G';rw [HVL.out] at hst8;have HST8:=Lib.hid hst8;clear hw7 hst7 hst8 HST6
       go_wp2_with fail
       go_roundw
       case rel =>
        refine ⟨i+1,by omega,by rw [hj2],?_⟩;rw [HNX.out,←HGQ.out];exact HST8.out
       case measure=>first | (simp [intOf];done) | (simp [intOf];omega)
     | true =>
       obtain ⟨hgq',hrow⟩:=hst' htb;rw [htb] at htake;have HTAKE:=Lib.hid htake;have HGQ:=Lib.hid hgq';have HROW:=Lib.hid hrow;clear htake hgq' hrow htb hsf hst'
       have hg0:0<G':=by rw [HGQ.out];exact Nat.succ_pos _
       have hgm:(G':Int) - 1=((G' - 1:Nat):Int):=by omega
       go_upto_region 20 with (go_at_call 103;refine HTAKE.out.mono ?_;rintro e w7 ⟨rfl,hw7⟩)
       have hst7:=HST6.out.turned hgq hw7
       have hvr7:∀ W,Fr (fun b=>b=g) w7 W→Rd W 1 (some ⟨gv,0,none⟩) (k+2) (lw V):=fun W hW=>HVR6.out W (hw7.fr.trans hW (fun b hb=>.inl hb))
       have hgive:=give_any _ V g j (k+2) (c4 - j) tl (some ⟨gv,0,none⟩) c3 w7 (putWin_small hSs HTS.out j) HIN.out.vs HVL.out (by rw [HPW.out];omega) (by rw [HPW.out];have:=HMM.out;omega) (by omega) (by omega) hst7.wrow hvr7;rw [←HELS.out,win_put S _ j (k+2) (by rw [HTL.out];omega) HTL.out,putWin_put S _ _ j (by rw [HTL.out];omega) (by rw [giveRow_len V _ HIN.out.vs HTS.out (by rw [HTL.out,HVL.out];omega)]),HROW.out] at hgive;have HGIVE:=Lib.hid hgive;have HST7:=Lib.hid hst7;clear hgive hst7 hvr7 hw7 HST6 HVR6
       go_upto_region 21 with (go_at_call 104;refine HGIVE.out.mono ?_;rintro e w8 ⟨⟨v8,rfl⟩,hw8⟩)
       have hst9:=HST7.out.turned hgq hw8;obtain ⟨z0,z1⟩:=hst9.qcell j (by omega);have hst8:=hst9.qset hgq j (G' - 1);rw [HVL.out] at hst8;have HST8:=Lib.hid hst8;clear hw8 hst9 hst8 HST7
       have hgl:G' - 1<4294967296:=by omega
       have HGQ2:=Lib.hid (show G' - 1=lv (win S j (k+2)) / lv V by rw [HGQ.out,Nat.add_sub_cancel]);clear hgm hg0 HGQ
       generalize G' - 1=G2 at *
       go_wp2_with fail
       go_roundw
       case rel =>
        refine ⟨i+1,by omega,by rw [hj2],?_⟩;rw [HNX.out,←HGQ2.out];exact HST8.out
       case measure=>first | (simp [intOf];done) | (simp [intOf];omega)
  · have hieq:i=m:=by omega
    rw [hieq] at hst
    have e0:((m - i:Nat):Int) - 1 = -1:=by omega
    rw [e0];obtain ⟨o1,o2⟩:=long_out A B s (k+2) m _ V HIN.out;have hok:=long_ok (L1 ++ [0]) V HIN.out.us HIN.out.vs HIN.out.pos m (by rw [HIN.out.ul,HVL.out]) HIN.out.low m (Nat.le_refl _);have hSl:=hok.len;have hQl:=hok.qlen;have hSs:=hok.sm;have hQs:=hok.qsm;rw [List.length_append,HN1.out,List.length_singleton,HMM.out] at hSl
    generalize longSt (L1 ++ [0]) V m m=st at *
    obtain ⟨S,Q⟩:=st;simp only at hst o1 o2 hSl hQl hSs hQs;have hrd:=hst.rd (k+1+1) (by omega);have hqrd:=hst.qrd;rw [hQl] at hqrd;have hbel:Below w.heap.size w wr:=HB5.out.trans (hst.fr.below HB5.out.size (fun b hb=>by rcases hb with hb | hb<;>have:=HGE.out.1<;>omega));have hshr:=shr_yes (S.take (k+1+1)) (some ⟨g,0,none⟩) (k+1+1) c4 s wr (by rw [List.length_take];omega) (by omega) (by omega) hrd (small_take hSs _) (by omega)
    have hnm:=fun W hW=>norm_any Q (some ⟨gq,0,none⟩) m m W hQl (Nat.le_refl _) (by omega) (hqrd.below hW) hQs
    rw [o2] at hshr;rw [o1] at hnm;have HSHR:=Lib.hid hshr;have HNM:=Lib.hid hnm;have HBEL:=Lib.hid hbel;clear hst o1 o2 hok hSl hQl hSs hQs hrd hqrd hbel hshr hnm hieq e0
    go_upto_region 23 with (go_at_call 105;refine HSHR.out.mono ?_;rintro e w6 ⟨v6,rfl,ho6,hb6⟩)
    have hcall:=HNM.out w6 hb6;have hb6w:=HBEL.out.trans (hb6.mono HBEL.out.size);have HO6:=Lib.hid ho6;have HB6:=Lib.hid hb6w;clear ho6 hb6 hb6w HSHR HNM
    go_wp2_with (go_at_call 55;refine hcall.mono ?_;clear hcall;rintro e w7 ⟨v7,rfl,ho7,hb7⟩)
    refine ⟨rfl,.tuple #[v7,v6,.bool true],by simp [results,Tryz.results91,go_sem],v7,v6,rfl,own_more ho7 HB6.out.size,own_below (own_more HO6.out HBEL.out.size) hb7,HB6.out.trans (hb7.mono HB6.out.size)⟩
end Go.Proofs.YtdefcbfofonabaaGreat
