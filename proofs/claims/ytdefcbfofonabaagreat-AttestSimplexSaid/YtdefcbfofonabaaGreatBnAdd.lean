/- Contract of attestref02.Add on lists of bits. -/
import Derived.Test.YtdefcbfofonabaaGreatBools
import Derived.Test.YtdefcbfofonabaaGreatBtA
namespace Go.Proofs.YtdefcbfofonabaaGreat
open Go.RowKit
set_option linter.unusedVariables false
set_option linter.unusedSimpArgs false
theorem getD_in (L:List Bool) {i:Nat} (h:i<L.length):L.getD i false=L[i]:=by rw [List.getD_eq_getElem?_getD,List.getElem?_eq_getElem h];rfl
theorem getD_out (L:List Bool) {i:Nat} (h:¬ i<L.length):L.getD i false=false:=by rw [List.getD_eq_getElem?_getD,List.getElem?_eq_none (by omega)];rfl
set_option maxRecDepth 100000 in
set_option maxHeartbeats 4000000 in
theorem badd_any {w:World} {A A2:Option Addr} {n c n2 c2:Nat} {L M:List Bool} (h:Bts w A n c L) (h2:Bts w A2 n2 c2 M) (hn:n≤400000) (hn2:n2≤400000) :
 Calls Tryz.prog 60 #[.slice A n c,.slice A2 n2 c2] w fun e w'=>∃ A' n' c',e=.returned (.slice A' n' c')∧Bts w' A' n' c' (bitl (bvl L+bvl M))∧Below w.heap.size w w':=by
 obtain ⟨i0,hi,hz0,hz1,hz2⟩:=info_parts info_bool;have hl:=h.len;have hl2:=h2.len;have HR:=Lib.hid h;have HR2:=Lib.hid h2;clear h h2
 go_enter Tryz.func60,Tryz.ntmps60
 go_wp2_with fail
 go_loopw [5,6,7] (fun v g x wr=>∃ (i:Nat) (o:List Bool) (ob:Bool),x=.int .i64 i∧((ob=false∧g=.int .i64 0)∨(ob=true∧g=.int .i64 1))∧o.length=i∧wr.ownsRow w.heap.size 4 1 v i (boolL o)∧Below w.heap.size w wr∧AddI L M o i ob.toNat∧((i≤n∨i≤n2)∨(i≤n+n2+1∧ob=false))) (fun _ _ x _=>n+n2+2 - (intOf x).toNat)
 case atStart=>exact ⟨0,[],false,rfl,.inl ⟨rfl,rfl⟩,rfl,own_empty _ _ _ (Nat.le_refl _),(Below.refl _ _).alloc (Nat.le_refl _) _,by simp [AddI,bvl],.inl (.inl (Nat.zero_le _))⟩
 case round =>
  obtain ⟨i,o,ob,rfl,how,hol,hown,hb,hinv,hib⟩:=hrel
  by_cases hgo:i<n∨i<n2∨ob=true
  · have hi3:i≤800001:=by
     rcases hib with hib | ⟨hib,_⟩<;>omega
    have h1:=HR.out.below hb;have h2:=HR2.out.below hb
    have hst:=fun d c'=>addI_step hinv hol d c'
    have hiL:=getD_in L (i:=i);have hoL:=getD_out L (i:=i);have hiM:=getD_in M (i:=i);have hoM:=getD_out M (i:=i)
    generalize L.getD i false=x at *
    generalize M.getD i false=y at *
    have HB:=Lib.hid hb;have HO:=Lib.hid hown;have H1:=Lib.hid h1;have H2:=Lib.hid h2;clear hb hown h2 h1 hinv
    by_cases e1:i<n
    · have e1':(i:Int)<(n:Int):=by omega
      obtain ⟨b1,o1,rfl,x0⟩:=H1.out.at_ i (by omega);rw [←hiL (by omega)] at x0;clear hiL hoL
      by_cases e2:i<n2
      · have e2':(i:Int)<(n2:Int):=by omega
        obtain ⟨b2,o2,rfl,y0⟩:=H2.out.at_ i (by omega);rw [←hiM (by omega)] at y0;clear hiM hoM hgo
        rcases how with ⟨rfl,rfl⟩ | ⟨rfl,rfl⟩<;>cases x<;>cases y
        ·
         have HSB:=Lib.hid (hst false 0 (by decide));clear hst
         go_wp2_with (at_builtin;refine app1 w.heap.size w wr _ 4 rfl _ _ 81 rfl i0 (.bool false) 1 Tryz.underlying81 hi hz0 hz1 hz2 rfl (by decide) _ i _ rfl (Nat.le_refl _) HO.out HB.out rfl rfl (by omega) ?_)
         intro v1 w1 hown1 hb1 _;have HO1:=Lib.hid hown1;have HB1:=Lib.hid hb1;clear hown1 hb1
         go_wp2_with fail
         go_roundw
         case rel=>exact ⟨i+1,o ++ [false],false,by first | rfl | go_num,by first | exact .inl ⟨rfl,rfl⟩ | exact .inr ⟨rfl,rfl⟩,by simp;omega,by rw [boolL_append];exact HO1.out,HB1.out,HSB.out,by first | exact .inl (by omega) | exact .inr ⟨by omega,rfl⟩⟩
         case measure=>simp [intOf];omega
        ·
         have HSB:=Lib.hid (hst true 0 (by decide));clear hst
         go_wp2_with (at_builtin;refine app1 w.heap.size w wr _ 4 rfl _ _ 81 rfl i0 (.bool false) 1 Tryz.underlying81 hi hz0 hz1 hz2 rfl (by decide) _ i _ rfl (Nat.le_refl _) HO.out HB.out rfl rfl (by omega) ?_)
         intro v1 w1 hown1 hb1 _;have HO1:=Lib.hid hown1;have HB1:=Lib.hid hb1;clear hown1 hb1
         go_wp2_with fail
         go_roundw
         case rel=>exact ⟨i+1,o ++ [true],false,by first | rfl | go_num,by first | exact .inl ⟨rfl,rfl⟩ | exact .inr ⟨rfl,rfl⟩,by simp;omega,by rw [boolL_append];exact HO1.out,HB1.out,HSB.out,by first | exact .inl (by omega) | exact .inr ⟨by omega,rfl⟩⟩
         case measure=>simp [intOf];omega
        ·
         have HSB:=Lib.hid (hst true 0 (by decide));clear hst
         go_wp2_with (at_builtin;refine app1 w.heap.size w wr _ 4 rfl _ _ 81 rfl i0 (.bool false) 1 Tryz.underlying81 hi hz0 hz1 hz2 rfl (by decide) _ i _ rfl (Nat.le_refl _) HO.out HB.out rfl rfl (by omega) ?_)
         intro v1 w1 hown1 hb1 _;have HO1:=Lib.hid hown1;have HB1:=Lib.hid hb1;clear hown1 hb1
         go_wp2_with fail
         go_roundw
         case rel=>exact ⟨i+1,o ++ [true],false,by first | rfl | go_num,by first | exact .inl ⟨rfl,rfl⟩ | exact .inr ⟨rfl,rfl⟩,by simp;omega,by rw [boolL_append];exact HO1.out,HB1.out,HSB.out,by first | exact .inl (by omega) | exact .inr ⟨by omega,rfl⟩⟩
         case measure=>simp [intOf];omega
        ·
         have HSB:=Lib.hid (hst false 1 (by decide));clear hst
         go_wp2_with (at_builtin;refine app1 w.heap.size w wr _ 4 rfl _ _ 81 rfl i0 (.bool false) 1 Tryz.underlying81 hi hz0 hz1 hz2 rfl (by decide) _ i _ rfl (Nat.le_refl _) HO.out HB.out rfl rfl (by omega) ?_)
         intro v1 w1 hown1 hb1 _;have HO1:=Lib.hid hown1;have HB1:=Lib.hid hb1;clear hown1 hb1
         go_wp2_with fail
         go_roundw
         case rel=>exact ⟨i+1,o ++ [false],true,by first | rfl | go_num,by first | exact .inl ⟨rfl,rfl⟩ | exact .inr ⟨rfl,rfl⟩,by simp;omega,by rw [boolL_append];exact HO1.out,HB1.out,HSB.out,by first | exact .inl (by omega) | exact .inr ⟨by omega,rfl⟩⟩
         case measure=>simp [intOf];omega
        ·
         have HSB:=Lib.hid (hst true 0 (by decide));clear hst
         go_wp2_with (at_builtin;refine app1 w.heap.size w wr _ 4 rfl _ _ 81 rfl i0 (.bool false) 1 Tryz.underlying81 hi hz0 hz1 hz2 rfl (by decide) _ i _ rfl (Nat.le_refl _) HO.out HB.out rfl rfl (by omega) ?_)
         intro v1 w1 hown1 hb1 _;have HO1:=Lib.hid hown1;have HB1:=Lib.hid hb1;clear hown1 hb1
         go_wp2_with fail
         go_roundw
         case rel=>exact ⟨i+1,o ++ [true],false,by first | rfl | go_num,by first | exact .inl ⟨rfl,rfl⟩ | exact .inr ⟨rfl,rfl⟩,by simp;omega,by rw [boolL_append];exact HO1.out,HB1.out,HSB.out,by first | exact .inl (by omega) | exact .inr ⟨by omega,rfl⟩⟩
         case measure=>simp [intOf];omega
        ·
         have HSB:=Lib.hid (hst false 1 (by decide));clear hst
         go_wp2_with (at_builtin;refine app1 w.heap.size w wr _ 4 rfl _ _ 81 rfl i0 (.bool false) 1 Tryz.underlying81 hi hz0 hz1 hz2 rfl (by decide) _ i _ rfl (Nat.le_refl _) HO.out HB.out rfl rfl (by omega) ?_)
         intro v1 w1 hown1 hb1 _;have HO1:=Lib.hid hown1;have HB1:=Lib.hid hb1;clear hown1 hb1
         go_wp2_with fail
         go_roundw
         case rel=>exact ⟨i+1,o ++ [false],true,by first | rfl | go_num,by first | exact .inl ⟨rfl,rfl⟩ | exact .inr ⟨rfl,rfl⟩,by simp;omega,by rw [boolL_append];exact HO1.out,HB1.out,HSB.out,by first | exact .inl (by omega) | exact .inr ⟨by omega,rfl⟩⟩
         case measure=>simp [intOf];omega
        ·
         have HSB:=Lib.hid (hst false 1 (by decide));clear hst
         go_wp2_with (at_builtin;refine app1 w.heap.size w wr _ 4 rfl _ _ 81 rfl i0 (.bool false) 1 Tryz.underlying81 hi hz0 hz1 hz2 rfl (by decide) _ i _ rfl (Nat.le_refl _) HO.out HB.out rfl rfl (by omega) ?_)
         intro v1 w1 hown1 hb1 _;have HO1:=Lib.hid hown1;have HB1:=Lib.hid hb1;clear hown1 hb1
         go_wp2_with fail
         go_roundw
         case rel=>exact ⟨i+1,o ++ [false],true,by first | rfl | go_num,by first | exact .inl ⟨rfl,rfl⟩ | exact .inr ⟨rfl,rfl⟩,by simp;omega,by rw [boolL_append];exact HO1.out,HB1.out,HSB.out,by first | exact .inl (by omega) | exact .inr ⟨by omega,rfl⟩⟩
         case measure=>simp [intOf];omega
        ·
         have HSB:=Lib.hid (hst true 1 (by decide));clear hst
         go_wp2_with (at_builtin;refine app1 w.heap.size w wr _ 4 rfl _ _ 81 rfl i0 (.bool false) 1 Tryz.underlying81 hi hz0 hz1 hz2 rfl (by decide) _ i _ rfl (Nat.le_refl _) HO.out HB.out rfl rfl (by omega) ?_)
         intro v1 w1 hown1 hb1 _;have HO1:=Lib.hid hown1;have HB1:=Lib.hid hb1;clear hown1 hb1
         go_wp2_with fail
         go_roundw
         case rel=>exact ⟨i+1,o ++ [true],true,by first | rfl | go_num,by first | exact .inl ⟨rfl,rfl⟩ | exact .inr ⟨rfl,rfl⟩,by simp;omega,by rw [boolL_append];exact HO1.out,HB1.out,HSB.out,by first | exact .inl (by omega) | exact .inr ⟨by omega,rfl⟩⟩
         case measure=>simp [intOf];omega
      · have e2':¬ (i:Int)<(n2:Int):=by omega
        obtain rfl:=hoM (by omega);clear hiM hoM hgo
        rcases how with ⟨rfl,rfl⟩ | ⟨rfl,rfl⟩<;>cases x
        ·
         have HSB:=Lib.hid (hst false 0 (by decide));clear hst
         go_wp2_with (at_builtin;refine app1 w.heap.size w wr _ 4 rfl _ _ 81 rfl i0 (.bool false) 1 Tryz.underlying81 hi hz0 hz1 hz2 rfl (by decide) _ i _ rfl (Nat.le_refl _) HO.out HB.out rfl rfl (by omega) ?_)
         intro v1 w1 hown1 hb1 _;have HO1:=Lib.hid hown1;have HB1:=Lib.hid hb1;clear hown1 hb1
         go_wp2_with fail
         go_roundw
         case rel=>exact ⟨i+1,o ++ [false],false,by first | rfl | go_num,by first | exact .inl ⟨rfl,rfl⟩ | exact .inr ⟨rfl,rfl⟩,by simp;omega,by rw [boolL_append];exact HO1.out,HB1.out,HSB.out,by first | exact .inl (by omega) | exact .inr ⟨by omega,rfl⟩⟩
         case measure=>simp [intOf];omega
        ·
         have HSB:=Lib.hid (hst true 0 (by decide));clear hst
         go_wp2_with (at_builtin;refine app1 w.heap.size w wr _ 4 rfl _ _ 81 rfl i0 (.bool false) 1 Tryz.underlying81 hi hz0 hz1 hz2 rfl (by decide) _ i _ rfl (Nat.le_refl _) HO.out HB.out rfl rfl (by omega) ?_)
         intro v1 w1 hown1 hb1 _;have HO1:=Lib.hid hown1;have HB1:=Lib.hid hb1;clear hown1 hb1
         go_wp2_with fail
         go_roundw
         case rel=>exact ⟨i+1,o ++ [true],false,by first | rfl | go_num,by first | exact .inl ⟨rfl,rfl⟩ | exact .inr ⟨rfl,rfl⟩,by simp;omega,by rw [boolL_append];exact HO1.out,HB1.out,HSB.out,by first | exact .inl (by omega) | exact .inr ⟨by omega,rfl⟩⟩
         case measure=>simp [intOf];omega
        ·
         have HSB:=Lib.hid (hst true 0 (by decide));clear hst
         go_wp2_with (at_builtin;refine app1 w.heap.size w wr _ 4 rfl _ _ 81 rfl i0 (.bool false) 1 Tryz.underlying81 hi hz0 hz1 hz2 rfl (by decide) _ i _ rfl (Nat.le_refl _) HO.out HB.out rfl rfl (by omega) ?_)
         intro v1 w1 hown1 hb1 _;have HO1:=Lib.hid hown1;have HB1:=Lib.hid hb1;clear hown1 hb1
         go_wp2_with fail
         go_roundw
         case rel=>exact ⟨i+1,o ++ [true],false,by first | rfl | go_num,by first | exact .inl ⟨rfl,rfl⟩ | exact .inr ⟨rfl,rfl⟩,by simp;omega,by rw [boolL_append];exact HO1.out,HB1.out,HSB.out,by first | exact .inl (by omega) | exact .inr ⟨by omega,rfl⟩⟩
         case measure=>simp [intOf];omega
        ·
         have HSB:=Lib.hid (hst false 1 (by decide));clear hst
         go_wp2_with (at_builtin;refine app1 w.heap.size w wr _ 4 rfl _ _ 81 rfl i0 (.bool false) 1 Tryz.underlying81 hi hz0 hz1 hz2 rfl (by decide) _ i _ rfl (Nat.le_refl _) HO.out HB.out rfl rfl (by omega) ?_)
         intro v1 w1 hown1 hb1 _;have HO1:=Lib.hid hown1;have HB1:=Lib.hid hb1;clear hown1 hb1
         go_wp2_with fail
         go_roundw
         case rel=>exact ⟨i+1,o ++ [false],true,by first | rfl | go_num,by first | exact .inl ⟨rfl,rfl⟩ | exact .inr ⟨rfl,rfl⟩,by simp;omega,by rw [boolL_append];exact HO1.out,HB1.out,HSB.out,by first | exact .inl (by omega) | exact .inr ⟨by omega,rfl⟩⟩
         case measure=>simp [intOf];omega
    · have e1':¬ (i:Int)<(n:Int):=by omega
      obtain rfl:=hoL (by omega);clear hiL hoL
      by_cases e2:i<n2
      · have e2':(i:Int)<(n2:Int):=by omega
        obtain ⟨b2,o2,rfl,y0⟩:=H2.out.at_ i (by omega);rw [←hiM (by omega)] at y0;clear hiM hoM hgo
        rcases how with ⟨rfl,rfl⟩ | ⟨rfl,rfl⟩<;>cases y
        ·
         have HSB:=Lib.hid (hst false 0 (by decide));clear hst
         go_wp2_with (at_builtin;refine app1 w.heap.size w wr _ 4 rfl _ _ 81 rfl i0 (.bool false) 1 Tryz.underlying81 hi hz0 hz1 hz2 rfl (by decide) _ i _ rfl (Nat.le_refl _) HO.out HB.out rfl rfl (by omega) ?_)
         intro v1 w1 hown1 hb1 _;have HO1:=Lib.hid hown1;have HB1:=Lib.hid hb1;clear hown1 hb1
         go_wp2_with fail
         go_roundw
         case rel=>exact ⟨i+1,o ++ [false],false,by first | rfl | go_num,by first | exact .inl ⟨rfl,rfl⟩ | exact .inr ⟨rfl,rfl⟩,by simp;omega,by rw [boolL_append];exact HO1.out,HB1.out,HSB.out,by first | exact .inl (by omega) | exact .inr ⟨by omega,rfl⟩⟩
         case measure=>simp [intOf];omega
        ·
         have HSB:=Lib.hid (hst true 0 (by decide));clear hst
         go_wp2_with (at_builtin;refine app1 w.heap.size w wr _ 4 rfl _ _ 81 rfl i0 (.bool false) 1 Tryz.underlying81 hi hz0 hz1 hz2 rfl (by decide) _ i _ rfl (Nat.le_refl _) HO.out HB.out rfl rfl (by omega) ?_)
         intro v1 w1 hown1 hb1 _;have HO1:=Lib.hid hown1;have HB1:=Lib.hid hb1;clear hown1 hb1
         go_wp2_with fail
         go_roundw
         case rel=>exact ⟨i+1,o ++ [true],false,by first | rfl | go_num,by first | exact .inl ⟨rfl,rfl⟩ | exact .inr ⟨rfl,rfl⟩,by simp;omega,by rw [boolL_append];exact HO1.out,HB1.out,HSB.out,by first | exact .inl (by omega) | exact .inr ⟨by omega,rfl⟩⟩
         case measure=>simp [intOf];omega
        ·
         have HSB:=Lib.hid (hst true 0 (by decide));clear hst
         go_wp2_with (at_builtin;refine app1 w.heap.size w wr _ 4 rfl _ _ 81 rfl i0 (.bool false) 1 Tryz.underlying81 hi hz0 hz1 hz2 rfl (by decide) _ i _ rfl (Nat.le_refl _) HO.out HB.out rfl rfl (by omega) ?_)
         intro v1 w1 hown1 hb1 _;have HO1:=Lib.hid hown1;have HB1:=Lib.hid hb1;clear hown1 hb1
         go_wp2_with fail
         go_roundw
         case rel=>exact ⟨i+1,o ++ [true],false,by first | rfl | go_num,by first | exact .inl ⟨rfl,rfl⟩ | exact .inr ⟨rfl,rfl⟩,by simp;omega,by rw [boolL_append];exact HO1.out,HB1.out,HSB.out,by first | exact .inl (by omega) | exact .inr ⟨by omega,rfl⟩⟩
         case measure=>simp [intOf];omega
        ·
         have HSB:=Lib.hid (hst false 1 (by decide));clear hst
         go_wp2_with (at_builtin;refine app1 w.heap.size w wr _ 4 rfl _ _ 81 rfl i0 (.bool false) 1 Tryz.underlying81 hi hz0 hz1 hz2 rfl (by decide) _ i _ rfl (Nat.le_refl _) HO.out HB.out rfl rfl (by omega) ?_)
         intro v1 w1 hown1 hb1 _;have HO1:=Lib.hid hown1;have HB1:=Lib.hid hb1;clear hown1 hb1
         go_wp2_with fail
         go_roundw
         case rel=>exact ⟨i+1,o ++ [false],true,by first | rfl | go_num,by first | exact .inl ⟨rfl,rfl⟩ | exact .inr ⟨rfl,rfl⟩,by simp;omega,by rw [boolL_append];exact HO1.out,HB1.out,HSB.out,by first | exact .inl (by omega) | exact .inr ⟨by omega,rfl⟩⟩
         case measure=>simp [intOf];omega
      · have e2':¬ (i:Int)<(n2:Int):=by omega
        obtain rfl:=hoM (by omega);clear hiM hoM
        have hob:ob=true:=by
         rcases hgo with h | h | h
         · omega
         · omega
         · exact h
        have hb1:i≤n∨i≤n2:=by
         rcases hib with hib | ⟨_,hib⟩
         · exact hib
         · rw [hob] at hib;cases hib
        clear hgo;rcases how with ⟨rfl,rfl⟩ | ⟨rfl,rfl⟩
        · cases hob
        · clear hob
          have HSB:=Lib.hid (hst true 0 (by decide));clear hst
          go_wp2_with (at_builtin;refine app1 w.heap.size w wr _ 4 rfl _ _ 81 rfl i0 (.bool false) 1 Tryz.underlying81 hi hz0 hz1 hz2 rfl (by decide) _ i _ rfl (Nat.le_refl _) HO.out HB.out rfl rfl (by omega) ?_)
          intro v1 w1 hown1 hb1 _;have HO1:=Lib.hid hown1;have HB1:=Lib.hid hb1;clear hown1 hb1
          go_wp2_with fail
          go_roundw
          case rel=>exact ⟨i+1,o ++ [true],false,by first | rfl | go_num,by first | exact .inl ⟨rfl,rfl⟩ | exact .inr ⟨rfl,rfl⟩,by simp;omega,by rw [boolL_append];exact HO1.out,HB1.out,HSB.out,by first | exact .inl (by omega) | exact .inr ⟨by omega,rfl⟩⟩
          case measure=>simp [intOf];omega
  · have hob:ob=false:=by
     cases ob
     · rfl
     · exact absurd (.inr (.inr rfl)) hgo
    subst hob
    have e1:¬ (i<n):=fun h=>hgo (.inl h)
    have e2:¬ (i<n2):=fun h=>hgo (.inr (.inl h))
    have e1':¬ (i:Int)<(n:Int):=by omega
    have e2':¬ (i:Int)<(n2:Int):=by omega
    have hi3:i≤800001:=by
     rcases hib with hib | ⟨hib,_⟩<;>omega
    obtain ⟨hx,rfl⟩ | ⟨h,_⟩:=how
    rotate_left
    · cases h
    clear hx;obtain ⟨A',c',rfl,ho,hfr⟩:=Bts.of hown;have hval:=addI_end hinv (by omega) (by omega);have hct:=rcut_any ho (by omega);have hcut:=tight_eq (tight_cut o) ((bvl_cut o).trans hval);have HCT:=Lib.hid hct;have HC:=Lib.hid hcut;have HB:=Lib.hid hb;clear hct ho hb hval hfr hown hinv hcut hgo hib
    go_wp2_with (go_at_call 84;refine HCT.out.mono ?_;rintro e w9 ⟨k,rfl,hk,hkn,hw⟩;obtain rfl:=hw.symm)
    go_ret;rw [HC.out] at hk;exact ⟨_,_,_,rfl,hk,HB.out⟩
end Go.Proofs.YtdefcbfofonabaaGreat
