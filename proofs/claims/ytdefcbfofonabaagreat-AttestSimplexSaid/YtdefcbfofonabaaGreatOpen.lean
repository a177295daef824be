/- How the arguments of a law are opened: slices of integers and of bools, as lists. -/
import Derived.Test.YtdefcbfofonabaaGreatRows
import Derived.Test.YtdefcbfofonabaaGreatMem
import Derived.ProofKit
import Derived.SizedLaws
import Derived.OpenShut
import Derived.Deep.Slices
import Derived.Carry
import Derived.Test.YtdefcbfofonabaaGreatNatMath
import Derived.Test.YtdefcbfofonabaaGreatLimbD
import Derived.Deep.Strs
import Derived.Lib.SmallJoins
import Derived.Handed
import Derived.HandedShaped
import Derived.Shelf.Vars
import Derived.Deep.LoopGhost
namespace Go.Proofs.YtdefcbfofonabaaGreat
set_option linter.unusedVariables false
set_option linter.unusedSimpArgs false
open Go.ChangeShapes Go.WideShapes Go.ChangeAt Go.RowKit
theorem own:ownKnob Tryz.prog.godebug=none:=by kernel_rfl
theorem laidOut:laidOutB Tryz.prog=true:=by kernel_rfl
theorem add_none (b o j:Nat):(⟨b,o,none⟩:Addr).add j=⟨b,o+j,none⟩:=by
 unfold Addr.add
 split
 · subst_vars;rfl
 · rfl
section
variable {H:Type} {enc:TypeId × Value→H} {P:Program} {W:World}
theorem rd_cells {t e:TypeId} {a:Option Addr} {n c:Nat} {d:DataW H} {p:List MemPlace} (ht:P.underlying t=some (.slice e)) (hc:P.cellsOf e=1)
 (h:DataW.Trod enc P W 0 (fun _=>true) true t (.slice a n c) d p) :
 ∃ vs:List Value,vs.length=n∧n≤c∧c≤maxLen∧Rd W 1 a n vs∧(∀ v ∈ vs,∃ m x q,DataW.trod enc P W 0 (fun _=>true) true m e [v]=some (x,q)) ∧
   ((a=none∧n=0∧c=0)∨∃ el sp,d=.slice el sp∧el.length+sp.length=c):=by
 obtain ⟨fuel,hf⟩:=h;rcases Go.Deep.open_slice1 ht hc hf with ⟨hcs,_⟩ | ⟨a',n',c',m,f,V,D,Pl,hcs,_,hl,hm,hmm,hx,hcell⟩
 · simp [Value.cells] at hcs
   obtain ⟨rfl,rfl,rfl⟩:=hcs;exact ⟨[],rfl,Nat.le_refl _,by unfold maxLen;omega,Rd.none_,by simp,.inl ⟨rfl,rfl,rfl⟩⟩
 · simp [Value.cells] at hcs
   obtain ⟨rfl,rfl,rfl⟩:=hcs;simp only [if_true] at hmm;subst hmm
   have hvl:((List.range n).map V).length=n:=by simp
   refine ⟨(List.range n).map V,hvl,hl,hm,⟨by rw [hvl,Nat.mul_one],fun hn=>?_⟩,?_,.inr ⟨_,_,(by simp only [Prod.mk.injEq] at hx;exact hx.1),by simp;omega⟩⟩
   · obtain ⟨b,off,spot⟩:=a'
     have hspot:spot=none:=by simpa [Addr.add] using World.cell?_spot (hcell 0 (by omega)).1
     subst hspot;refine ⟨b,off,rfl,fun j u hu=>?_⟩
     have hj:j<n:=by
      have:=(List.getElem?_eq_some_iff.1 hu).1
      simpa using this
     rw [List.getElem?_map,List.getElem?_range hj] at hu;simp at hu;subst hu;have:=(hcell j (by omega)).1
     rwa [add_none] at this
   · intro v hv
     obtain ⟨i,hi,rfl⟩:=List.mem_map.1 hv
     have hi':i<n:=by simpa using hi
     exact ⟨f,_,_,(hcell i (by omega)).2⟩
theorem list_of {α β:Type} (f:α→β) (l:List β) (h:∀ v ∈ l,∃ x,v=f x):∃ xs:List α,l=xs.map f:=by
 induction l with
 | nil=>exact ⟨[],rfl⟩
 | cons v l ih =>
   obtain ⟨x,rfl⟩:=h v (by simp)
   obtain ⟨xs,rfl⟩:=ih fun u hu=>h u (by simp [hu])
   exact ⟨x :: xs,rfl⟩
theorem rd_ints {t e:TypeId} {k:IntKind} {a:Option Addr} {n c:Nat} {d:DataW H} {p:List MemPlace} (ht:P.underlying t=some (.slice e)) (he:P.underlying e=some (.int k)) (hc:P.cellsOf e=1)
 (h:DataW.Trod enc P W 0 (fun _=>true) true t (.slice a n c) d p) :
 ∃ xs:List Int,xs.length=n∧n≤c∧c≤maxLen∧Rd W 1 a n (xs.map (Value.int k))∧(∀ x ∈ xs,(Lit.int k x).wf=true) ∧
   ((a=none∧n=0∧c=0)∨∃ el sp,d=.slice el sp∧el.length+sp.length=c):=by
 obtain ⟨vs,h1,h2,h3,h4,h5,h6⟩:=rd_cells ht hc h
 have hx:∀ v ∈ vs,∃ x:{ x:Int // (Lit.int k x).wf=true },v=Value.int k x.1:=by
  intro v hv;obtain ⟨m,x,q,hm⟩:=h5 v hv;obtain ⟨y,hy,hy2,hy3⟩:=DataW.trod_int he hm;simp at hy;exact ⟨⟨y,hy3⟩,hy⟩
 obtain ⟨xs,rfl⟩:=list_of (fun x:{ x:Int // (Lit.int k x).wf=true }=>Value.int k x.1) vs hx;refine ⟨xs.map (·.1),by simpa using h1,h2,h3,by rw [List.map_map];exact h4,?_,h6⟩;intro x hx';obtain ⟨y,_,rfl⟩:=List.mem_map.1 hx';exact y.2
end
section
variable {x:Int}
theorem b_i64 (h:(Lit.int .i64 x).wf=true) : -9223372036854775808≤x∧x≤9223372036854775807:=by simpa [Lit.wf,IntKind.min,IntKind.max,IntKind.signed,IntKind.bits] using h
theorem b_u32 (h:(Lit.int .u32 x).wf=true):0≤x∧x≤4294967295:=by simpa [Lit.wf,IntKind.min,IntKind.max,IntKind.signed,IntKind.bits] using h
end
end Go.Proofs.YtdefcbfofonabaaGreat

namespace Go.Proofs.YtdefcbfofonabaaGreat
open Go.RowKit
set_option linter.unusedVariables false
set_option linter.unusedSimpArgs false
theorem add_step (os:List Nat) (k C t D S:Nat) (hl:os.length=k) (h:lv os+2 ^ (32*k)*C=S) (ht:t=C+D):lv (os ++ [t % 4294967296])+2 ^ (32*(k+1))*(t / 4294967296)=S+2 ^ (32*k)*D:=by
 rw [lv_append,hl,pow_succ32];simp only [lv,Nat.mul_zero,Nat.add_zero];rw [Nat.mul_assoc,Nat.add_assoc,←Nat.mul_add,Nat.mod_add_div,ht,Nat.mul_add,←Nat.add_assoc,h]
theorem take_over (l:List Nat) (k:Nat) (h:l.length≤k):l.take (k+1)=l.take k:=by
 rw [List.take_of_length_le (by omega),List.take_of_length_le h]
set_option maxRecDepth 100000 in
set_option maxHeartbeats 4000000 in
theorem ladd_any (xs ys:List Nat) (A A2:Option Addr) (n c n2 c2:Nat) (w:World) (hl:xs.length=n) (hnc:n≤c) (hn:n≤1099511627776) (hr:Rd w 1 A n (lw xs)) (hs:small xs) (hl2:ys.length=n2) (hnc2:n2≤c2) (hn2:n2≤1099511627776) (hr2:Rd w 1 A2 n2 (lw ys)) (hs2:small ys) :
 Calls Tryz.prog 88 #[.slice A n c,.slice A2 n2 c2] w fun e w'=>∃ v,e=.returned v∧w'.ownsRow w.heap.size 125 1 v (limbs (lv xs+lv ys)).length (lw (limbs (lv xs+lv ys)))∧Below w.heap.size w w':=by
 obtain ⟨i0,hi,hz0,hz1,hz2⟩:=info_parts info_u32;have HR:=Lib.hid hr;have HS:=Lib.hid hs;have HR2:=Lib.hid hr2;have HS2:=Lib.hid hs2;clear hr hs hr2 hs2
 by_cases hsw:n<n2
 · have hsw':(n:Int)<(n2:Int):=by omega
   go_enter Tryz.func88,Tryz.ntmps88
   go_wp2_with (at_make;refine make2 w.heap.size w w rfl _ _ 24 rfl 125 i0 (.int .u32 0) 4 Tryz.underlying24 hi hz0 hz1 hz2 rfl (by decide) .i64 .i64 0 _ 0 (n2+1) rfl rfl rfl (by first | rfl | omega) (by omega) (by omega) [] rfl (Nat.le_refl _) (Below.refl _ _) ?_)
   intro w1 hown1 hb1 _
   go_wp2_with fail
   go_loopw [5,6,22] (fun o cy i wr=>∃ (k C:Nat) (os:List Nat),k≤n2∧i=.int .i64 (k:Int)∧cy=.int .u64 (C:Int)∧C≤1∧os.length=k∧small os∧lv os+2 ^ (32*k)*C=lv (ys.take k)+lv (xs.take k)∧wr.ownsRow w.heap.size 125 1 o k (lw os)∧Below w.heap.size w wr) (fun _ _ i _=>n2 - (intOf i).toNat)
   case atStart=>exact ⟨0,0,[],Nat.zero_le _,rfl,rfl,by omega,rfl,small_nil,by simp [lv],hown1,hb1⟩
   case round =>
    clear hown1 hb1;obtain ⟨k,C,os,hk,rfl,rfl,hC,hol,hos,heq,hown,hbk⟩:=hrel
    by_cases hlt:k<n2
    · obtain ⟨b1,o1,rfl,x0⟩:=(HR2.out.below hbk).limb k hlt hl2
      have hx:=getD_lt HS2.out k;have ht1:=lv_takeD ys k (by omega)
      have hstp:=fun t D ht=>add_step os k C t D _ hol heq ht
      have HOW:=Lib.hid hown;have HBK:=Lib.hid hbk;have HOL:=Lib.hid hol;have HOS:=Lib.hid hos
      by_cases hlt2:k<n
      · obtain ⟨b2,o2,rfl,y0⟩:=(HR.out.below hbk).limb k hlt2 hl
        have hy:=getD_lt HS.out k;have ht2:=lv_takeD xs k (by omega);have hs:=hstp (C+ys.getD k 0+xs.getD k 0) (ys.getD k 0+xs.getD k 0) (by omega)
        have hst:lv (os ++ [(C+ys.getD k 0+xs.getD k 0) % 4294967296])+2 ^ (32*(k+1))*((C+ys.getD k 0+xs.getD k 0) / 4294967296)=lv (ys.take (k+1))+lv (xs.take (k+1)):=by
         rw [hs,ht1,ht2,Nat.mul_add];omega
        have hlt':(k:Int)<(n:Int):=by omega
        generalize ys.getD k 0=x at *
        generalize xs.getD k 0=y at *
        obtain ⟨N,hN⟩:∃ N,N=C+x+y:=⟨_,rfl⟩
        rw [←hN] at hst;have HST:=Lib.hid hst;clear hst hs hstp ht1 ht2 heq hown hbk hol hos
        go_wp2_with (at_builtin;refine app1 w.heap.size w wr _ 125 rfl _ _ 24 rfl i0 (.int .u32 0) 4 Tryz.underlying24 hi hz0 hz1 hz2 rfl (by decide) _ k _ rfl (Nat.le_refl _) HOW.out HBK.out rfl rfl (by omega) ?_)
        intro v1 w2 hown2 hb2 _
        have eN:((N:Nat):Int)=(C:Int)+(x:Int)+(y:Int):=by omega
        rw [←eN] at hown2;have e1:(N:Int) % 4294967296=((N % 4294967296:Nat):Int):=rfl;have e2:(N:Int) / 4294967296=((N / 4294967296:Nat):Int):=rfl
        go_wp2_with fail
        rw [←eN];go_roundw
        case rel =>
         refine ⟨k+1,N / 4294967296,os ++ [N % 4294967296],by omega,by go_num,rfl,by omega,by rw [List.length_append,HOL.out];rfl,small_append.2 ⟨HOS.out,fun x hx=>by simp at hx;omega⟩,HST.out,?_,hb2⟩;rw [lw_append];exact hown2
        case measure=>simp [intOf];omega
      · have hs:=hstp (C+ys.getD k 0) (ys.getD k 0) rfl
        have hst:lv (os ++ [(C+ys.getD k 0) % 4294967296])+2 ^ (32*(k+1))*((C+ys.getD k 0) / 4294967296)=lv (ys.take (k+1))+lv (xs.take (k+1)):=by
         rw [hs,ht1,take_over xs k (by omega)];omega
        have hlt':¬ (k:Int)<(n:Int):=by omega
        generalize ys.getD k 0=x at *
        obtain ⟨N,hN⟩:∃ N,N=C+x:=⟨_,rfl⟩
        rw [←hN] at hst;have HST:=Lib.hid hst;clear hst hs hstp ht1 heq hown hbk hol hos
        go_wp2_with (at_builtin;refine app1 w.heap.size w wr _ 125 rfl _ _ 24 rfl i0 (.int .u32 0) 4 Tryz.underlying24 hi hz0 hz1 hz2 rfl (by decide) _ k _ rfl (Nat.le_refl _) HOW.out HBK.out rfl rfl (by omega) ?_)
        intro v1 w2 hown2 hb2 _
        have eN:((N:Nat):Int)=(C:Int)+(x:Int):=by omega
        rw [←eN] at hown2;have e1:(N:Int) % 4294967296=((N % 4294967296:Nat):Int):=rfl;have e2:(N:Int) / 4294967296=((N / 4294967296:Nat):Int):=rfl
        go_wp2_with fail
        rw [←eN];go_roundw
        case rel =>
         refine ⟨k+1,N / 4294967296,os ++ [N % 4294967296],by omega,by go_num,rfl,by omega,by rw [List.length_append,HOL.out];rfl,small_append.2 ⟨HOS.out,fun x hx=>by simp at hx;omega⟩,HST.out,?_,hb2⟩;rw [lw_append];exact hown2
        case measure=>simp [intOf];omega
    · obtain rfl:k=n2:=by omega
      rw [List.take_of_length_le (by omega),List.take_of_length_le (by omega)] at heq
      have hval:lv (os ++ [C])=lv xs+lv ys:=by
       rw [lv_append,hol];simp only [lv,Nat.mul_zero,Nat.add_zero];omega
      have hsm:small (os ++ [C]):=small_append.2 ⟨hos,fun x hx=>by simp at hx;omega⟩
      have hln:(os ++ [C]).length=k+1:=by rw [List.length_append,hol];rfl
      have HV:=Lib.hid hval;have HSM:=Lib.hid hsm;have HLN:=Lib.hid hln;clear hval hsm hln heq hos hol
      go_wp2_with (at_builtin;refine app1 w.heap.size w wr _ 125 rfl _ _ 24 rfl i0 (.int .u32 0) 4 Tryz.underlying24 hi hz0 hz1 hz2 rfl (by decide) _ k _ rfl (Nat.le_refl _) hown hbk rfl rfl (by omega) ?_)
      intro v1 w2 hown2 hb2 _;obtain ⟨A2',c2',rfl,hc2',hr2'⟩:=ownsRow_form hown2
      have hr3:Rd w2 1 A2' (k+1) (lw (os ++ [C])):=by rw [lw_append];exact hr2'
      have hnm:=norm_any (os ++ [C]) A2' (k+1) c2' w2 HLN.out hc2' (by omega) hr3 HSM.out;rw [HV.out] at hnm;clear hr2' hr3 hown hbk hown2
      go_wp2_with (go_at_call 55;refine hnm.mono ?_;clear hnm;rintro e w9 ⟨v9,rfl,ho9,hb9⟩)
      go_ret;exact ⟨_,rfl,own_more ho9 hb2.size,hb2.trans (hb9.mono hb2.size)⟩
 · have hsw':¬ (n:Int)<(n2:Int):=by omega
   go_enter Tryz.func88,Tryz.ntmps88
   go_wp2_with (at_make;refine make2 w.heap.size w w rfl _ _ 24 rfl 125 i0 (.int .u32 0) 4 Tryz.underlying24 hi hz0 hz1 hz2 rfl (by decide) .i64 .i64 0 _ 0 (n+1) rfl rfl rfl (by first | rfl | omega) (by omega) (by omega) [] rfl (Nat.le_refl _) (Below.refl _ _) ?_)
   intro w1 hown1 hb1 _
   go_wp2_with fail
   go_loopw [5,6,22] (fun o cy i wr=>∃ (k C:Nat) (os:List Nat),k≤n∧i=.int .i64 (k:Int)∧cy=.int .u64 (C:Int)∧C≤1∧os.length=k∧small os∧lv os+2 ^ (32*k)*C=lv (xs.take k)+lv (ys.take k)∧wr.ownsRow w.heap.size 125 1 o k (lw os)∧Below w.heap.size w wr) (fun _ _ i _=>n - (intOf i).toNat)
   case atStart=>exact ⟨0,0,[],Nat.zero_le _,rfl,rfl,by omega,rfl,small_nil,by simp [lv],hown1,hb1⟩
   case round =>
    clear hown1 hb1;obtain ⟨k,C,os,hk,rfl,rfl,hC,hol,hos,heq,hown,hbk⟩:=hrel
    by_cases hlt:k<n
    · obtain ⟨b1,o1,rfl,x0⟩:=(HR.out.below hbk).limb k hlt hl
      have hx:=getD_lt HS.out k;have ht1:=lv_takeD xs k (by omega)
      have hstp:=fun t D ht=>add_step os k C t D _ hol heq ht
      have HOW:=Lib.hid hown;have HBK:=Lib.hid hbk;have HOL:=Lib.hid hol;have HOS:=Lib.hid hos
      by_cases hlt2:k<n2
      · obtain ⟨b2,o2,rfl,y0⟩:=(HR2.out.below hbk).limb k hlt2 hl2
        have hy:=getD_lt HS2.out k;have ht2:=lv_takeD ys k (by omega);have hs:=hstp (C+xs.getD k 0+ys.getD k 0) (xs.getD k 0+ys.getD k 0) (by omega)
        have hst:lv (os ++ [(C+xs.getD k 0+ys.getD k 0) % 4294967296])+2 ^ (32*(k+1))*((C+xs.getD k 0+ys.getD k 0) / 4294967296)=lv (xs.take (k+1))+lv (ys.take (k+1)):=by
         rw [hs,ht1,ht2,Nat.mul_add];omega
        have hlt':(k:Int)<(n2:Int):=by omega
        generalize xs.getD k 0=x at *
        generalize ys.getD k 0=y at *
        obtain ⟨N,hN⟩:∃ N,N=C+x+y:=⟨_,rfl⟩
        rw [←hN] at hst;have HST:=Lib.hid hst;clear hst hs hstp ht1 ht2 heq hown hbk hol hos
        go_wp2_with (at_builtin;refine app1 w.heap.size w wr _ 125 rfl _ _ 24 rfl i0 (.int .u32 0) 4 Tryz.underlying24 hi hz0 hz1 hz2 rfl (by decide) _ k _ rfl (Nat.le_refl _) HOW.out HBK.out rfl rfl (by omega) ?_)
        intro v1 w2 hown2 hb2 _
        have eN:((N:Nat):Int)=(C:Int)+(x:Int)+(y:Int):=by omega
        rw [←eN] at hown2;have e1:(N:Int) % 4294967296=((N % 4294967296:Nat):Int):=rfl;have e2:(N:Int) / 4294967296=((N / 4294967296:Nat):Int):=rfl
        go_wp2_with fail
        rw [←eN];go_roundw
        case rel =>
         refine ⟨k+1,N / 4294967296,os ++ [N % 4294967296],by omega,by go_num,rfl,by omega,by rw [List.length_append,HOL.out];rfl,small_append.2 ⟨HOS.out,fun x hx=>by simp at hx;omega⟩,HST.out,?_,hb2⟩;rw [lw_append];exact hown2
        case measure=>simp [intOf];omega
      · have hs:=hstp (C+xs.getD k 0) (xs.getD k 0) rfl
        have hst:lv (os ++ [(C+xs.getD k 0) % 4294967296])+2 ^ (32*(k+1))*((C+xs.getD k 0) / 4294967296)=lv (xs.take (k+1))+lv (ys.take (k+1)):=by
         rw [hs,ht1,take_over ys k (by omega)];omega
        have hlt':¬ (k:Int)<(n2:Int):=by omega
        generalize xs.getD k 0=x at *
        obtain ⟨N,hN⟩:∃ N,N=C+x:=⟨_,rfl⟩
        rw [←hN] at hst;have HST:=Lib.hid hst;clear hst hs hstp ht1 heq hown hbk hol hos
        go_wp2_with (at_builtin;refine app1 w.heap.size w wr _ 125 rfl _ _ 24 rfl i0 (.int .u32 0) 4 Tryz.underlying24 hi hz0 hz1 hz2 rfl (by decide) _ k _ rfl (Nat.le_refl _) HOW.out HBK.out rfl rfl (by omega) ?_)
        intro v1 w2 hown2 hb2 _
        have eN:((N:Nat):Int)=(C:Int)+(x:Int):=by omega
        rw [←eN] at hown2;have e1:(N:Int) % 4294967296=((N % 4294967296:Nat):Int):=rfl;have e2:(N:Int) / 4294967296=((N / 4294967296:Nat):Int):=rfl
        go_wp2_with fail
        rw [←eN];go_roundw
        case rel =>
         refine ⟨k+1,N / 4294967296,os ++ [N % 4294967296],by omega,by go_num,rfl,by omega,by rw [List.length_append,HOL.out];rfl,small_append.2 ⟨HOS.out,fun x hx=>by simp at hx;omega⟩,HST.out,?_,hb2⟩;rw [lw_append];exact hown2
        case measure=>simp [intOf];omega
    · obtain rfl:k=n:=by omega
      rw [List.take_of_length_le (by omega),List.take_of_length_le (by omega)] at heq
      have hval:lv (os ++ [C])=lv xs+lv ys:=by
       rw [lv_append,hol];simp only [lv,Nat.mul_zero,Nat.add_zero];omega
      have hsm:small (os ++ [C]):=small_append.2 ⟨hos,fun x hx=>by simp at hx;omega⟩
      have hln:(os ++ [C]).length=k+1:=by rw [List.length_append,hol];rfl
      have HV:=Lib.hid hval;have HSM:=Lib.hid hsm;have HLN:=Lib.hid hln;clear hval hsm hln heq hos hol
      go_wp2_with (at_builtin;refine app1 w.heap.size w wr _ 125 rfl _ _ 24 rfl i0 (.int .u32 0) 4 Tryz.underlying24 hi hz0 hz1 hz2 rfl (by decide) _ k _ rfl (Nat.le_refl _) hown hbk rfl rfl (by omega) ?_)
      intro v1 w2 hown2 hb2 _;obtain ⟨A2',c2',rfl,hc2',hr2'⟩:=ownsRow_form hown2
      have hr3:Rd w2 1 A2' (k+1) (lw (os ++ [C])):=by rw [lw_append];exact hr2'
      have hnm:=norm_any (os ++ [C]) A2' (k+1) c2' w2 HLN.out hc2' (by omega) hr3 HSM.out;rw [HV.out] at hnm;clear hr2' hr3 hown hbk hown2
      go_wp2_with (go_at_call 55;refine hnm.mono ?_;clear hnm;rintro e w9 ⟨v9,rfl,ho9,hb9⟩)
      go_ret;exact ⟨_,rfl,own_more ho9 hb2.size,hb2.trans (hb9.mono hb2.size)⟩
end Go.Proofs.YtdefcbfofonabaaGreat

namespace Go.Proofs.YtdefcbfofonabaaGreat
open Go.RowKit
set_option linter.unusedVariables false
set_option linter.unusedSimpArgs false
structure NumU (w:World) (A:Option Addr) (n c:Nat) (l:List Nat):Prop where
 rd:Rd w 1 A n (lw l)
 len:l.length=n
 cap:n≤c
 sm:small l
theorem NumU.below {w w':World} {A:Option Addr} {n c:Nat} {l:List Nat} (h:NumU w A n c l) (hb:Below w.heap.size w w'):NumU w' A n c l:=⟨h.rd.below hb,h.len,h.cap,h.sm⟩
def Typ (w:World) (A:Option Addr) (n:Nat):Prop:=0<n→∃ b off cs m,A=some ⟨b,off,none⟩∧w.heap[b]?=some (.cells cs 125 m)
theorem Typ.keep {w w':World} {A:Option Addr} {n:Nat} (h:Typ w A n) (hb:Below w.heap.size w w'):Typ w' A n:=fun h0=>by
 obtain ⟨b,off,cs,m,e,hx⟩:=h h0;exact ⟨b,off,cs,m,e,(hb.block b (Array.getElem?_eq_some_iff.1 hx).1).trans hx⟩
structure Num (w:World) (A:Option Addr) (n c:Nat) (l:List Nat):Prop where
 rd:Rd w 1 A n (lw l)
 len:l.length=n
 cap:n≤c
 sm:small l
 typ:Typ w A n
theorem Num.u {w:World} {A:Option Addr} {n c:Nat} {l:List Nat} (h:Num w A n c l):NumU w A n c l:=⟨h.rd,h.len,h.cap,h.sm⟩
theorem Num.below {w w':World} {A:Option Addr} {n c:Nat} {l:List Nat} (h:Num w A n c l) (hb:Below w.heap.size w w'):Num w' A n c l:=⟨h.rd.below hb,h.len,h.cap,h.sm,h.typ.keep hb⟩
theorem Num.drewN {w:World} {A:Option Addr} {n c:Nat} {l:List Nat} (h:Num w A n c l) (q:Nat):Num (w.drewN q) A n c l:=⟨h.rd,h.len,h.cap,h.sm,h.typ⟩
theorem Num.alloc {w:World} {A:Option Addr} {n c:Nat} {l:List Nat} (h:Num w A n c l) (o:Obj):Num (w.alloc o) A n c l:=⟨h.rd.alloc o,h.len,h.cap,h.sm,h.typ.keep ((Below.refl _ _).alloc (Nat.le_refl _) o)⟩
theorem Num.of {w:World} {B N n:Nat} {v:Value} {l:List Nat} (h:w.ownsRow B 125 1 v n (lw l)) (hs:small l):∃ A c,v=.slice A n c∧Num w A n c l:=by
 obtain ⟨A,c,rfl,hc,hr⟩:=ownsRow_form h
 have hlen:l.length=n:=by
  have:=h.1;rw [lw_length] at this;omega
 refine ⟨A,c,rfl,hr,hlen,hc,hs,fun h0=>?_⟩;rcases h.2 with ⟨hv,hx⟩ | ⟨g,cap,cur,hv,_,hx,_⟩
 · omega
 · injection hv with h1 h2 h3
   exact ⟨g,0,cur,(0,0),h1,hx⟩
theorem Num.nil_ (w:World):Num w none 0 0 []:=⟨Rd.none_,rfl,Nat.le_refl _,small_nil,fun h=>absurd h (by decide)⟩
section
variable {w:World} {A A2:Option Addr} {n c n2 c2:Nat} {l m:List Nat}
theorem norm_num (h:Num w A n c l) (hb:l.length≤100000000) :
 Calls Tryz.prog 55 #[.slice A n c] w fun e w'=>∃ A' n' c',e=.returned (.slice A' n' c')∧Num w' A' n' c' (limbs (lv l))∧Below w.heap.size w w' :=
 (norm_any l A n c w h.len h.cap (by have:=h.len;omega) h.rd h.sm).mono fun e w' ⟨v,e1,o,b⟩=>by
   obtain ⟨A',c',rfl,hn⟩:=Num.of (N:=0) o (limbs_small _);exact ⟨_,_,_,e1,hn,b⟩
theorem cmp_num (h:Num w A n c l) (h2:Num w A2 n2 c2 m) (hb:l.length≤100000000) (hb2:m.length≤100000000) :
 Calls Tryz.prog 75 #[.slice A n c,.slice A2 n2 c2] w fun e w'=>e=.returned (.int .i64 (cmpN (lv l) (lv m)))∧∃ q,w'=w.drewN q :=
 lcmp_any l m A A2 n c n2 c2 w h.len h.cap (by have:=h.len;omega) h.rd h.sm h2.len h2.cap (by have:=h2.len;omega) h2.rd h2.sm
theorem bits_num (h:Num w A n c l) (hb:l.length≤100000000) :
 Calls Tryz.prog 118 #[.slice A n c] w fun e w'=>e=.returned (.int .i64 ((bl (lv l):Nat):Int))∧w'=w :=
 lbits_any l A n c w h.len h.cap (by have:=h.len;omega) h.rd h.sm
theorem add_num (h:Num w A n c l) (h2:Num w A2 n2 c2 m) (hb:l.length≤100000000) (hb2:m.length≤100000000) :
 Calls Tryz.prog 88 #[.slice A n c,.slice A2 n2 c2] w fun e w'=>∃ A' n' c',e=.returned (.slice A' n' c')∧Num w' A' n' c' (limbs (lv l+lv m))∧Below w.heap.size w w' :=
 (ladd_any l m A A2 n c n2 c2 w h.len h.cap (by have:=h.len;omega) h.rd h.sm h2.len h2.cap (by have:=h2.len;omega) h2.rd h2.sm).mono fun e w' ⟨v,e1,o,b⟩=>by
   obtain ⟨A',c',rfl,hn⟩:=Num.of (N:=0) o (limbs_small _);exact ⟨_,_,_,e1,hn,b⟩
theorem mul_num (h:Num w A n c l) (h2:Num w A2 n2 c2 m) (hb:l.length≤100000000) (hb2:m.length≤100000000) :
 Calls Tryz.prog 50 #[.slice A n c,.slice A2 n2 c2] w fun e w'=>∃ A' n' c',e=.returned (.slice A' n' c')∧Num w' A' n' c' (limbs (lv l*lv m))∧Below w.heap.size w w' :=
 (mul_any l m A A2 n c n2 c2 w h.len h.cap (by have:=h.len;omega) h.rd h.sm h2.len h2.cap (by have:=h2.len;omega) h2.rd h2.sm).mono fun e w' ⟨v,e1,o,b⟩=>by
   obtain ⟨A',c',rfl,hn⟩:=Num.of (N:=0) o (limbs_small _);exact ⟨_,_,_,e1,hn,b⟩
theorem divmod_num (h:Num w A n c l) (h2:Num w A2 n2 c2 m) (hb:l.length≤100000000) (hb2:m.length≤100000000) (hp:0<lv m) :
 Calls Tryz.prog 77 #[.slice A n c,.slice A2 n2 c2] w fun e w'=>∃ A' n' c' A3 n3 c3,e=.returned (.tuple #[.slice A' n' c',.slice A3 n3 c3,.bool true])∧Num w' A' n' c' (limbs (lv l / lv m))∧Num w' A3 n3 c3 (limbs (lv l % lv m))∧Below w.heap.size w w' :=
 (divmod_any l m A A2 n c n2 c2 w h.len h.cap (by have:=h.len;omega) h.rd h.sm h2.len h2.cap (by have:=h2.len;omega) h2.rd h2.sm hp).mono fun e w' ⟨q,r,e1,o,o2,b⟩=>by
   obtain ⟨A',c',rfl,hn⟩:=Num.of (N:=0) o (limbs_small _);obtain ⟨A3,c3,rfl,hn3⟩:=Num.of (N:=0) o2 (limbs_small _);exact ⟨_,_,_,_,_,_,e1,hn,hn3,b⟩
end
end Go.Proofs.YtdefcbfofonabaaGreat

namespace Go.Proofs.YtdefcbfofonabaaGreat
open Go.ChangeShapes Go.WideShapes Go.ChangeAt Go.RowKit
set_option linter.unusedVariables false
set_option linter.unusedSimpArgs false
theorem num_of {w:World} {A:Option Addr} {n c:Nat} {xs:List Int} (hl:xs.length=n) (hnc:n≤c) (hrd:Rd w 1 A n (xs.map (Value.int .u32))) (hwf:∀ x ∈ xs,(Lit.int .u32 x).wf=true):∃ us:List Nat,NumU w A n c us:=by
 have:∃ us:List Nat,xs=us.map (fun (u:Nat)=>(u:Int))∧small us:=by
  clear hl hrd
  induction xs with
  | nil=>exact ⟨[],rfl,small_nil⟩
  | cons x xs ih =>
    obtain ⟨us,e,hs⟩:=ih fun y hy=>hwf y (by simp [hy])
    obtain ⟨hx1,hx2⟩:=b_u32 (hwf x (by simp));refine ⟨x.toNat :: us,?_,small_cons.2 ⟨?_,hs⟩⟩
    · rw [List.map_cons,←e]
      congr 1
      omega
    · omega
 obtain ⟨us,rfl,hs⟩:=this
 have hl':us.length=n:=by simpa using hl
 refine ⟨us,?_,hl',hnc,hs⟩;rw [List.map_map] at hrd;exact hrd
theorem num_trod {H:Type} {enc:TypeId × Value→H} {W:World} {v:Value} {k:Nat} {y:DataW H × List MemPlace} (t:DataW.trod enc Tryz.prog W 0 (fun _=>true) true k 24 [v]=some y):∃ (A:Option Addr) (n c:Nat) (us:List Nat),v=.slice A n c∧NumU W A n c us:=by
 have key:∀ A n c,v=.slice A n c→∃ us,NumU W A n c us:=by
  intro A n c e;subst e;obtain ⟨xs,hl,hnc,_,hrd,hwf,_⟩:=rd_ints (d:=y.1) (p:=y.2) Tryz.underlying24 Tryz.underlying125 (by kernel_rfl) ⟨k,t⟩;exact num_of hl hnc hrd hwf
 rcases DataW.trod_slice Tryz.underlying24 t with ⟨hcs,_⟩ | ⟨a',n,c,elems,rest,m,hfu,hcs,_⟩
 · simp at hcs
   obtain ⟨us,hn⟩:=key _ _ _ hcs;exact ⟨_,_,_,us,hcs,hn⟩
 · simp at hcs
   obtain ⟨us,hn⟩:=key _ _ _ hcs;exact ⟨_,_,_,us,hcs,hn⟩
end Go.Proofs.YtdefcbfofonabaaGreat

namespace Go.Proofs.YtdefcbfofonabaaGreat
open Go.RowKit
set_option linter.unusedVariables false
set_option linter.unusedSimpArgs false
theorem sum_len (X Y a b:Nat) (hX:X<2 ^ (32*a)) (hY:Y<2 ^ (32*b)) (M:Nat) (h:M≤X+Y):(limbs M).length≤a+b+1:=by
 have h1:2 ^ (32*a)≤2 ^ (32*(a+b)):=Nat.pow_le_pow_right (by decide) (by omega);have h2:2 ^ (32*b)≤2 ^ (32*(a+b)):=Nat.pow_le_pow_right (by decide) (by omega);have h3:2 ^ (32*(a+b+1))=2 ^ (32*(a+b))*4294967296:=pow_succ32 _;refine limbs_len_le ?_;rw [h3]
 generalize 2 ^ (32*(a+b))=P at *
 omega
theorem gcd_step (M K:Nat):Nat.gcd K (M % K)=Nat.gcd M K:=by
 rw [Nat.gcd_comm K,←Nat.gcd_rec,Nat.gcd_comm]
set_option maxRecDepth 100000 in
set_option maxHeartbeats 4000000 in
theorem gcd_num {w:World} {A A2:Option Addr} {n c n2 c2:Nat} {l m:List Nat} (h:Num w A n c l) (h2:Num w A2 n2 c2 m) (hb:l.length≤10000000) (hb2:m.length≤10000000) :
 Calls Tryz.prog 74 #[.slice A n c,.slice A2 n2 c2] w fun e w'=>∃ A' n' c',e=.returned (.slice A' n' c')∧Num w' A' n' c' (limbs (Nat.gcd (lv l) (lv m)))∧Below w.heap.size w w':=by
 have hN1:=norm_num h (by omega)
 have hN2:=fun W hW=>norm_num (w:=W) (h2.below hW) (by omega)
 have hX:=lv_lt l h.sm;have hY:=lv_lt m h2.sm
 have hsl:=fun M hM=>sum_len (lv l) (lv m) _ _ hX hY M hM
 generalize lv l=X at *
 generalize lv m=Y at *
 have hsl2:∀ M,M≤X+Y→(limbs M).length≤100000000:=fun M hM=>by have:=hsl M hM;omega
 have HN2:=Lib.hid hN2;have HSL:=Lib.hid hsl2;clear hN2 hX hY hsl hsl2 h h2
 go_enter Tryz.func74,Tryz.ntmps74
 go_upto_region 2 with (first | (go_at_call 55;refine hN1.mono ?_;clear hN1;rintro e w1 ⟨A1,n1,c1,rfl,h1,b1⟩;have hcall:=HN2.out w1 b1) | (go_at_call 55;refine hcall.mono ?_;clear hcall;rintro e w2 ⟨A3,n3,c3,rfl,h3,b3⟩))
 have H1:=Lib.hid (h1.below b3);have H3:=Lib.hid h3;have HB:=Lib.hid (b1.trans (b3.mono b1.size));clear h1 h3 b1 b3 HN2
 go_loopg [0,1] Y (fun γ a b wr=>∃ (M K:Nat) (A4:Option Addr) (n4 c4:Nat) (A5:Option Addr) (n5 c5:Nat),γ=K∧a=.slice A4 n4 c4∧b=.slice A5 n5 c5∧Nat.gcd M K=Nat.gcd X Y∧M≤X+Y∧K≤X+Y∧Num wr A4 n4 c4 (limbs M)∧Num wr A5 n5 c5 (limbs K)∧Below w.heap.size w wr)
 case atStart=>exact ⟨X,Y,_,_,_,_,_,_,rfl,rfl,rfl,rfl,by omega,by omega,H1.out,H3.out,HB.out⟩
 case round =>
  obtain ⟨M,K,A4,n4,c4,A5,n5,c5,hMe,rfl,rfl,hg,hM,hK,h4,h5,hbw⟩:=hrel;have hMe':=hMe.symm;subst hMe';clear hMe;have HG:=Lib.hid hg;have HBW:=Lib.hid hbw
  by_cases h0:K=0
  · subst h0
    have hn5:=h5.len;rw [limbs_zero] at hn5;have hn50:n5=0:=hn5.symm;subst hn50;have H4:=Lib.hid h4;clear h4 h5 hg hbw hn5
    go_wp2_with fail
    go_ret;refine ⟨_,_,_,rfl,?_,HBW.out⟩;rw [←HG.out,Nat.gcd_zero_right];exact H4.out
  · have hpos:0<lv (limbs K):=by rw [lv_limbs];omega
    have hdm:=divmod_num h4 h5 (HSL.out M hM) (HSL.out K hK) hpos;rw [lv_limbs,lv_limbs] at hdm
    have hn5:0<n5:=by have:=h5.len;have:=(limbs_top K h0).1;omega
    have hlt:M % K<K:=Nat.mod_lt _ (by omega)
    have hle:M % K≤X+Y:=by omega
    have hgs:=gcd_step M K;have HDM:=Lib.hid hdm;have HGS:=Lib.hid hgs;have H5:=Lib.hid h5
    obtain ⟨R,hR⟩:∃ R,M % K=R:=⟨_,rfl⟩
    rw [hR] at hlt hle HDM HGS;clear hdm hgs h4 h5 hg hbw hpos hR
    go_wp2_with (go_at_call 77;refine HDM.out.mono ?_;rintro e w6 ⟨A6,n6,c6,A7,n7,c7,rfl,h6,h7,b6⟩)
    go_roundg R
    case measure=>exact hlt
    case rel=>exact ⟨K,R,_,_,_,_,_,_,rfl,rfl,rfl,HGS.out.trans HG.out,hK,hle,H5.out.below b6,h7,HBW.out.trans (b6.mono HBW.out.size)⟩
end Go.Proofs.YtdefcbfofonabaaGreat
