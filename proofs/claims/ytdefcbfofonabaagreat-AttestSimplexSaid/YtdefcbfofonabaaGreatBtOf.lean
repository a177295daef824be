/- Contracts of attestref02.Of and Copy, attestlaw05.few. -/
import Derived.Test.YtdefcbfofonabaaGreatBtDiv
import Derived.Test.YtdefcbfofonabaaGreatRatE
import Derived.Test.YtdefcbfofonabaaGreatRatMath
import Derived.Test.YtdefcbfofonabaaGreatTmRow
namespace Go.Proofs.YtdefcbfofonabaaGreat
open Go.RowKit
set_option linter.unusedVariables false
set_option linter.unusedSimpArgs false
def OfI (l:List Nat) (o:List Bool) (i k Y:Nat):Prop:=o.length=32*i+k∧Y*2 ^ k<2 ^ 32∧bvl o+2 ^ (32*i+k)*Y=lv (l.take (i+1))
theorem ofI_start {l:List Nat} {o:List Bool} {i X:Nat} (hl:o.length=32*i) (hv:bvl o=lv (l.take i)) (hx:X<4294967296) (hs:lv (l.take (i+1))=lv (l.take i)+2 ^ (32*i)*X):OfI l o i 0 X :=
 ⟨hl,by simpa using hx,by rw [hv,hs];rfl⟩
theorem ofI_step {l:List Nat} {o:List Bool} {i k Y:Nat} (h:OfI l o i k Y) (b:Bool) (hb:b.toNat=Y % 2):OfI l (o ++ [b]) i (k+1) (Y / 2):=by
 obtain ⟨h1,h2,h3⟩:=h;refine ⟨by simp;omega,?_,?_⟩
 · have e:Y / 2*2 ^ (k+1)=2*(Y / 2)*2 ^ k:=by rw [Nat.pow_succ,Nat.mul_comm (2 ^ k) 2,←Nat.mul_assoc,Nat.mul_comm (Y / 2) 2]
   rw [e];exact Nat.lt_of_le_of_lt (Nat.mul_le_mul_right _ (by omega)) h2
 · rw [←h3,bvl_snoc,h1,hb,show 32*i+(k+1)=32*i+k+1 by omega,Nat.pow_succ]
   generalize 2 ^ (32*i+k)=p
   have e:p*Y=p*(Y % 2)+p*2*(Y / 2):=by
    rw [Nat.mul_assoc,←Nat.mul_add]
    congr 1
    omega
   omega
theorem ofI_end {l:List Nat} {o:List Bool} {i Y:Nat} (h:OfI l o i 32 Y):o.length=32*(i+1)∧bvl o=lv (l.take (i+1)):=by
 obtain ⟨h1,h2,h3⟩:=h
 obtain rfl:Y=0:=by
  rcases Nat.eq_zero_or_pos Y with e | e
  · exact e
  · have:1*2 ^ 32≤Y*2 ^ 32:=Nat.mul_le_mul_right _ e
    omega
 exact ⟨by omega,by rw [←h3];simp⟩
theorem odd_bool (Y:Nat):((((Y:Int) % 2 == 1):Bool)).toNat=Y % 2:=by
 rcases Nat.mod_two_eq_zero_or_one Y with h | h
 · rw [show ((Y:Int) % 2 == 1)=false by rw [beq_eq_false_iff_ne];omega,h];rfl
 · rw [show ((Y:Int) % 2 == 1)=true by rw [beq_iff_eq];omega,h];rfl
set_option maxRecDepth 100000 in
theorem rof2_any {w:World} {A:Option Addr} {n c:Nat} {l:List Nat} (h:Num w A n c l) (hn:n≤3000) :
 Calls Tryz.prog 100 #[.slice A n c] w fun e w'=>∃ A' n' c',e=.returned (.slice A' n' c')∧∃ b,Bts w' A' n' c' b∧tight b∧bvl b=lv l∧n'≤100000∧Below w.heap.size w w':=by
 obtain ⟨i0,hi,hz0,hz1,hz2⟩:=info_parts info_bool;have hl:=h.len;have hsm:=h.sm;have HR:=Lib.hid h;have HSM:=Lib.hid hsm;clear h hsm
 go_enter Tryz.func100,Tryz.ntmps100
 go_wp2_with fail
 go_loopw [3,10] (fun v x wr=>∃ (i:Nat) (o:List Bool),i≤n∧x=.int .i64 i∧wr.ownsRow w.heap.size 4 1 v (32*i) (boolL o)∧o.length=32*i∧bvl o=lv (l.take i)∧Below w.heap.size w wr) (fun _ x _=>n - (intOf x).toNat)
 case atStart=>exact ⟨0,[],by omega,rfl,own_empty _ _ _ (Nat.le_refl _),rfl,rfl,(Below.refl _ _).alloc (Nat.le_refl _) _⟩
 case round =>
  obtain ⟨i,o,hin,rfl,hown,hol,hov,hb⟩:=hrel
  by_cases hlt:i<n
  · have hlt':(i:Int)<(n:Int):=by omega
    obtain ⟨b1,o1,rfl,x0⟩:=(HR.out.rd.below hb).limb i (by omega) hl;have hst:=lv_take_succ l i (by omega);have hxs:=HSM.out (l[i]'(by omega)) (List.getElem_mem _);rw [show l[i]'(by omega)=l.getD i 0 by rw [List.getD_eq_getElem?_getD,List.getElem?_eq_getElem (by omega)];rfl] at hst hxs
    generalize l.getD i 0=X at *
    have hin0:=ofI_start hol hov hxs hst;have HI0:=Lib.hid hin0;have HO0:=Lib.hid hown;have HB0:=Lib.hid hb;clear hin0 hown hb hol hov hst hxs
    go_wp2_with fail
    obtain ⟨w5,hw5⟩:∃ x,x=wr:=⟨_,rfl⟩
    rw [←hw5] at HO0 HB0 ⊢;clear hw5
    go_loopw [3,5,6] (fun v y j wr=>∃ (k Y:Nat) (o:List Bool),k≤32∧j=.int .i64 k∧y=.int .u32 Y∧Y<4294967296∧wr.ownsRow w.heap.size 4 1 v (32*i+k) (boolL o)∧OfI l o i k Y∧Below w.heap.size w wr) (fun _ _ j _=>32 - (intOf j).toNat)
    case atStart=>exact ⟨0,X,o,by omega,rfl,rfl,by have:=HI0.out.2.1;omega,HO0.out,HI0.out,HB0.out⟩
    case round =>
     obtain ⟨k,Y,o3,hk,rfl,rfl,hY,hown,hi3,hb⟩:=hrel
     by_cases hk32:k<32
     · have hsp:=ofI_step hi3 ((Y:Int) % 2 == 1) (odd_bool Y)
       have HSP:=Lib.hid hsp;have HOW:=Lib.hid hown;have HB:=Lib.hid hb;clear hsp hown hb hi3
       go_wp2_with (at_builtin;refine app1 w.heap.size w wr _ 4 rfl _ _ 81 rfl i0 (.bool false) 1 Tryz.underlying81 hi hz0 hz1 hz2 rfl (by decide) _ (32*i+k) _ rfl (Nat.le_refl _) HOW.out HB.out rfl rfl (by omega) ?_)
       intro v1 w1 hown1 hb1 _;have HO1:=Lib.hid hown1;have HB1:=Lib.hid hb1;clear hown1 hb1
       go_wp2_with fail
       go_roundw
       case rel=>exact ⟨k+1,Y / 2,o3 ++ [((Y:Int) % 2 == 1)],by omega,by first | rfl | go_num,by first | rfl | go_num,by omega,by rw [boolL_append];exact HO1.out,HSP.out,HB1.out⟩
       case measure=>simp [intOf];omega
     · obtain rfl:k=32:=by omega
       have he:=ofI_end hi3;have HE:=Lib.hid he;have HOW:=Lib.hid hown;have HB:=Lib.hid hb;clear he hown hb hi3
       go_wp2_with fail
       go_roundw
       case rel=>exact ⟨i+1,o3,by omega,by first | rfl | go_num,HOW.out,HE.out.1,HE.out.2,HB.out⟩
       case measure=>simp [intOf];omega
  · obtain rfl:i=n:=by omega
    have hlt':¬ (i:Int)<(i:Int):=by omega
    rw [List.take_of_length_le (by omega)] at hov;obtain ⟨A',c',rfl,ho,hfr⟩:=Bts.of hown;have HCT:=Lib.hid (rcut_any ho (by omega));have HB:=Lib.hid hb;have HV:=Lib.hid hov;clear ho hb hov hfr hown hol
    go_wp2_with (go_at_call 84;refine HCT.out.mono ?_;rintro e w9 ⟨k,rfl,hk,hkn,hw⟩;obtain rfl:=hw.symm)
    go_ret;exact ⟨_,_,_,rfl,cutB o,hk,tight_cut _,by rw [bvl_cut,HV.out],by omega,HB.out⟩
set_option maxRecDepth 100000 in
theorem copy_num {w:World} {A:Option Addr} {n c:Nat} {l:List Nat} (h:NumU w A n c l) (hn:n≤3000) :
 Calls Tryz.prog 109 #[.slice A n c] w fun e w'=>∃ A' n' c',e=.returned (.slice A' n' c')∧Num w' A' n' c' l∧Below w.heap.size w w':=by
 obtain ⟨i0,hi,hz0,hz1,hz2⟩:=info_parts info_u32;have hl:=h.len;have HR:=Lib.hid h;clear h
 go_enter Tryz.func109,Tryz.ntmps109
 go_wp2_with (at_builtin;refine appR w.heap.size w (w.alloc (.cells #[] 125)) 125 rfl _ _ 24 rfl i0 (.int .u32 0) 4 Tryz.underlying24 hi hz0 hz1 hz2 rfl (by decide) _ 0 [] rfl (Nat.le_refl _) (own_empty _ _ _ (Nat.le_refl _)) ((Below.refl _ _).alloc (Nat.le_refl _) _) A n c (lw l) rfl (HR.out.rd.alloc _) (one32 _) (by omega) ?_)
 intro v8 w8 ho8 hx _;obtain ⟨A9,c9,rfl,hn9⟩:=Num.of (N:=0) (l:=[] ++ l) ho8 (by simpa using HR.out.sm);have HN:=Lib.hid hn9;have HX:=Lib.hid hx;clear ho8 hx hn9
 go_wp2_with fail
 go_ret;exact ⟨_,_,_,rfl,HN.out,HX.out⟩
set_option maxRecDepth 100000 in
theorem few5_num {w:World} {A:Option Addr} {n c:Nat} {l:List Nat} (h:NumU w A n c l) :
 Calls Tryz.prog 107 #[.slice A n c] w fun e w'=>∃ A' n' c',e=.returned (.slice A' n' c')∧Num w' A' n' c' (l.take 8)∧Below w.heap.size w w':=by
 have hl:=h.len;have hcp:=h.cap
 by_cases h8:8<n
 · have h1:(8:Int)<(n:Int):=by omega
   have ht:NumU w A 8 c (l.take 8):=⟨by have:=h.rd.take (show 8≤n by omega);rw [lw_take] at this;exact this,by rw [List.length_take];omega,by omega,small_take h.sm _⟩
   have hc:=copy_num ht (by omega);have HC:=Lib.hid hc
   have h2:8≤c:=by omega
   clear h ht hc
   go_enter Tryz.func107,Tryz.ntmps107
   go_wp2_with (go_at_call 109;refine HC.out.mono ?_;rintro e w1 ⟨A1,n1,c1,rfl,hn1,hb1⟩)
   go_ret;exact ⟨_,_,_,rfl,hn1,hb1⟩
 · have h1:¬ (8:Int)<(n:Int):=by omega
   have hc:=copy_num h (by omega);rw [List.take_of_length_le (by omega)];have HC:=Lib.hid hc;clear h hc
   go_enter Tryz.func107,Tryz.ntmps107
   go_wp2_with (go_at_call 109;refine HC.out.mono ?_;rintro e w1 ⟨A1,n1,c1,rfl,hn1,hb1⟩)
   go_ret;exact ⟨_,_,_,rfl,hn1,hb1⟩
end Go.Proofs.YtdefcbfofonabaaGreat

namespace Go.Proofs.YtdefcbfofonabaaGreat
open Go.RowKit
set_option linter.unusedVariables false
set_option linter.unusedSimpArgs false
theorem put3L {w w9:World} {g:Nat} {b:RB} {q:Rat} (hz:w.heap[g]?=some (.cells #[.bool false,.slice none 0 0,.slice none 0 0] 26 (0,0))) (hr:RatAt w b q) (hb:Below w9.heap.size w9 w) (hg:w9.heap.size≤g) :
 RatAt (((w.setCell ⟨g,0,none⟩ (.bool (ratNeg q))).setCell ⟨g,1,none⟩ (.slice b.A b.n b.c)).setCell ⟨g,2,none⟩ (.slice b.A2 b.n2 b.c2)) b q∧(((w.setCell ⟨g,0,none⟩ (.bool (ratNeg q))).setCell ⟨g,1,none⟩ (.slice b.A b.n b.c)).setCell ⟨g,2,none⟩ (.slice b.A2 b.n2 b.c2)).heap[g]?=some (.cells #[.bool (ratNeg q),.slice b.A b.n b.c,.slice b.A2 b.n2 b.c2] 26 (0,0))∧Below w9.heap.size w9 (((w.setCell ⟨g,0,none⟩ (.bool (ratNeg q))).setCell ⟨g,1,none⟩ (.slice b.A b.n b.c)).setCell ⟨g,2,none⟩ (.slice b.A2 b.n2 b.c2)):=by
 refine ⟨hr.fr (S:=fun b=>b=g) (fr_set (fr_set (fr_set (Fr.refl _ _) (.inl rfl)) (.inl rfl)) (.inl rfl)) ?_,?_,bl_set (bl_set (bl_set hb hg) hg) hg⟩
 · intro b i k hb e
   subst hb;rw [cell_of_blk hz i] at e;exact no_int3 _ _ _ (by simp) (by simp) (by simp) i k e
 · exact set_blk (set_blk (set_blk hz 0 _) 1 _) 2 _
theorem fewLe (l:List Nat):(l.take 8).length≤8:=by rw [List.length_take];omega
theorem one_len8:(limbs 1).length≤8:=by
 rw [limbs_pos 1 (by decide),show 1 / 4294967296=0 by decide,limbs_zero]
 decide
theorem one_pos8:0<lv (limbs 1):=by rw [lv_limbs];decide
theorem lv_lim {l:List Nat} {z:Nat} (hs:small l) (hl:l.length≤z) (N:Nat) (h:N≤lv l):(limbs N).length≤z:=by
 have h1:=limbs_length_le l hs;have h2:=limbs_len_mono N (lv l) h;omega
end Go.Proofs.YtdefcbfofonabaaGreat

namespace Go.Proofs.YtdefcbfofonabaaGreat
open Go.RowKit
set_option linter.unusedVariables false
set_option linter.unusedSimpArgs false
def Box3 (w:World) (g:Nat) (b:RB) (q:Rat):Prop:=w.heap[g]?=some (.cells #[.bool (ratNeg q),.slice b.A b.n b.c,.slice b.A2 b.n2 b.c2] 26 (0,0))
def Blk3 (w:World) (g:Nat):Prop:=∃ (s:Bool) (A:Option Addr) (n c:Nat) (A2:Option Addr) (n2 c2:Nat),w.heap[g]?=some (.cells #[.bool s,.slice A n c,.slice A2 n2 c2] 26 (0,0))
theorem Box3.blk {w:World} {g:Nat} {b:RB} {q:Rat} (h:Box3 w g b q):Blk3 w g:=⟨_,_,_,_,_,_,_,h⟩
theorem Box3.below {w w':World} {g:Nat} {b:RB} {q:Rat} (h:Box3 w g b q) (hb:Below w.heap.size w w'):Box3 w' g b q:=box_keep h hb
def store3 (w:World) (g:Nat) (s:Bool) (b:RB):World:=((w.setCell ⟨g,0,none⟩ (.bool s)).setCell ⟨g,1,none⟩ (.slice b.A b.n b.c)).setCell ⟨g,2,none⟩ (.slice b.A2 b.n2 b.c2)
theorem store3_fr (w:World) (g:Nat) (s:Bool) (b:RB):Fr (fun k=>k=g) w (store3 w g s b):=fr_set (fr_set (fr_set (Fr.refl _ _) (.inl rfl)) (.inl rfl)) (.inl rfl)
theorem store3_bel {w0 w:World} {g B:Nat} (h:Below B w0 w) (hg:B≤g) (s:Bool) (b:RB):Below B w0 (store3 w g s b):=bl_set (bl_set (bl_set h hg) hg) hg
theorem store3_box {w:World} {g:Nat} (h:Blk3 w g) (b:RB) (q:Rat):Box3 (store3 w g (ratNeg q) b) g b q:=by
 obtain ⟨s,A,n,c,A2,n2,c2,h⟩:=h;exact set_blk (set_blk (set_blk h 0 _) 1 _) 2 _
theorem Blk3.no {w:World} {g:Nat} (h:Blk3 w g):∀ b i k,b=g→w.cell? ⟨b,i,none⟩≠some (.int .u32 k):=by
 obtain ⟨s,A,n,c,A2,n2,c2,h⟩:=h;intro b i k hb e;subst hb;rw [cell_of_blk h i] at e;exact no_int3 _ _ _ (by simp) (by simp) (by simp) i k e
theorem store3_rat {w:World} {g:Nat} (h:Blk3 w g) {b:RB} {q:Rat} (hr:RatAt w b q) (s':Bool) (b':RB):RatAt (store3 w g s' b') b q:=hr.fr (store3_fr w g s' b') h.no
theorem store3_far {w:World} {g g':Nat} (hne:g'≠g) (s:Bool) (b:RB):(store3 w g s b).heap[g']?=w.heap[g']?:=by
 unfold store3;rw [set_far (by exact hne),set_far (by exact hne),set_far (by exact hne)]
section
variable {w0 w w':World} {va vb:Value} {s0 s1 s2 s3 p q k:Nat} {D:Nat→Bool} {f:Nat→Value}
theorem dn {D:Nat→Bool} {i j:Nat} (h:i≠j):((fun m=>m == j || D m) i=true)→D i=true:=by
 intro e;simp only [Bool.or_eq_true,beq_iff_eq] at e;exact e.resolve_left h
end
end Go.Proofs.YtdefcbfofonabaaGreat

namespace Go.Proofs.YtdefcbfofonabaaGreat
open Go.RowKit
set_option linter.unusedVariables false
set_option linter.unusedSimpArgs false
theorem boxk {w:World} {g:Nat} {a b c:Value} {t:TypeId} (h:w.heap[g]?=some (.cells #[a,b,c] t (0,0))):w.cell? ⟨g,0,none⟩=some a∧w.cell? ⟨g,1,none⟩=some b∧w.cell? ⟨g,2,none⟩=some c :=
 ⟨cell_of_blk h 0,cell_of_blk h 1,cell_of_blk h 2⟩
end Go.Proofs.YtdefcbfofonabaaGreat

namespace Go.Proofs.YtdefcbfofonabaaGreat
open Go.RowKit
set_option linter.unusedVariables false
set_option linter.unusedSimpArgs false
set_option maxRecDepth 100000 in
set_option maxHeartbeats 4000000 in
theorem parts_any (b1:RB) (q:Rat) (w:World) (h1:RatAt w b1 q) (z:Nat) (hz:z≤1000000) (l1:RatLe q z) :
 Calls Tryz.prog 99 #[b1.val (ratNeg q)] w fun e w'=>∃ A' n' c' A3 n3 c3,e=.returned (.tuple #[.bool (ratNeg q),.slice A' n' c',.slice A3 n3 c3])∧Num w' A' n' c' (limbs q.num.natAbs)∧Num w' A3 n3 c3 (limbs q.den)∧Below w.heap.size w w':=by
 obtain ⟨A,n,c,A2,n2,c2⟩:=b1
 have hba:=fun W h=>below_any (ratNeg q) ⟨A,n,c,A2,n2,c2⟩ q W h
 have hpn:=l1.num;have hpd:=l1.den;have hn1:=h1.num;simp only at hn1;unfold RB.val;unfold RB.val at hba;simp only at hba ⊢
 generalize ratNeg q=s1 at *
 generalize q.num.natAbs=pa at *
 generalize q.den=pd at *
 have e1:(limbs pa).length≤100000000:=by omega
 have e3:(limbs pd).length≤100000000:=by omega
 have HN1:=Lib.hid hn1;have HBA:=Lib.hid hba;have E1:=Lib.hid e1;have E3:=Lib.hid e3;clear hn1 hba e1 e3 hpn hpd l1
 go_enter Tryz.func99,Tryz.ntmps99
 go_upto_region 1 with fail
 have hx1:=heap_alloc_new w (.cells #[.bool s1,.slice A n c,.slice A2 n2 c2] 26)
 have hw1:(w.alloc (.cells #[.bool s1,.slice A n c,.slice A2 n2 c2] 26)).heap.size=w.heap.size+1:=by simp
 have hbw:=(Below.refl w.heap.size w).alloc (Nat.le_refl _) (.cells #[.bool s1,.slice A n c,.slice A2 n2 c2] 26)
 obtain ⟨wk,hwk⟩:∃ x,x=w.alloc (.cells #[.bool s1,.slice A n c,.slice A2 n2 c2] 26):=⟨_,rfl⟩
 rw [←hwk] at hx1 hbw hw1 ⊢;have h1k:=h1.below hbw;clear hwk h1;have HX1:=Lib.hid hx1;have HBZ:=Lib.hid hbw;have H1:=Lib.hid h1k
 have hcs:∀ W',Below wk.heap.size wk W'→W'.cell? ⟨w.heap.size,0,none⟩=some (.bool s1)∧W'.cell? ⟨w.heap.size,1,none⟩=some (.slice A n c)∧W'.cell? ⟨w.heap.size,2,none⟩=some (.slice A2 n2 c2):=fun W' h=>Box.of (box_keep HX1.out h)
 have HCS:=Lib.hid hcs;clear hcs hx1 hbw h1k hw1;have tok:True:=trivial
 go_region_held3 (fun W'=>W'.cell? ⟨w.heap.size,0,none⟩=some (.bool s1)∧W'.cell? ⟨w.heap.size,1,none⟩=some (.slice A n c)∧W'.cell? ⟨w.heap.size,2,none⟩=some (.slice A2 n2 c2)) ((refine HCS.out _ ?_;first | with_reducible exact b27 | with_reducible exact b26 | with_reducible exact b25 | with_reducible exact below_drew2 (Below.refl _ _) | with_reducible exact Below.refl _ _)) (first | (go_at_call 55;have _t:=tok;refine (norm_num (HN1.out.below (below_drew2 HBZ.out)) E1.out).mono ?_;rintro e w25 ⟨A25,n25,c25,rfl,h25,b25'⟩;have b25:=(below_drew2 (Below.refl wk.heap.size wk)).trans b25';have H25:=Lib.hid h25;have tok1:True:=trivial;clear tok _t h25) | (go_at_call 51;have _t:=tok1;refine (HBA.out _ (H1.out.below b25)).mono ?_;rintro e w26 ⟨A26,n26,c26,rfl,h26,b26'⟩;have b26:=b25.trans (b26'.mono b25.size);have H26:=Lib.hid h26;have tok2:True:=trivial;clear tok1 _t h26) | (go_at_call 55;have _t:=tok2;refine (norm_num H26.out E3.out).mono ?_;rintro e w27 ⟨A27,n27,c27,rfl,h27,b27'⟩;have b27:=b26.trans (b27'.mono b26.size);have H27:=Lib.hid h27;clear tok2 _t h27))
 all_goals
  go_wp2_with fail
  go_ret3
  have h5:=(H25.out.below b26').below b27';have h7:=H27.out;rw [lv_limbs] at h5 h7;exact ⟨_,_,_,_,_,_,rfl,h5,h7,HBZ.out.trans (b27.mono HBZ.out.size)⟩
end Go.Proofs.YtdefcbfofonabaaGreat

namespace Go.Proofs.YtdefcbfofonabaaGreat
open Go.RowKit
set_option linter.unusedVariables false
set_option linter.unusedSimpArgs false
theorem sgn_self (q:Rat):mkRat (sgn (ratNeg q) q.num.natAbs) q.den=q:=by
 have:sgn (ratNeg q) q.num.natAbs=q.num:=by
  unfold sgn ratNeg
  by_cases h:q.num<0
  · rw [decide_eq_true h]
    simp only [if_true];omega
  · rw [decide_eq_false h]
    simp only [Bool.false_eq_true,if_false];omega
 rw [this,Rat.mkRat_self]
set_option maxRecDepth 100000 in
set_option maxHeartbeats 4000000 in
theorem told_any (b:RB) (q:Rat) (w:World) (h:RatAt w b q) (z:Nat) (hz:z≤2000) (l1:RatLe q z) :
 Calls Tryz.prog 87 #[b.val (ratNeg q)] w fun e w'=>∃ b':RB,e=.returned (b'.val (ratNeg q))∧QAt w' b' q∧Below w.heap.size w w':=by
 have hpa:=fun W (hW:Below w.heap.size w W)=>parts_any b q W (h.below hW) z (by omega) l1
 have hof:=fun W A n c (l:List Nat) (hn:Num W A n c l) (hl:l.length≤z)=>rof2_any (w:=W) hn (by have:=hn.len;omega)
 have hq5:=fun W A n c A2 n2 c2 (h1:Bts W A n c (bitl q.num.natAbs)) (h2:Bts W A2 n2 c2 (bitl q.den)) (hn:n≤100000) (hn2:n2≤100000)=>of5_any (w:=W) (ratNeg q) q.num.natAbs q.den h1 h2 hn hn2 q.den_pos
 simp only [sgn_self] at hq5
 have hden:0<(bitl q.den).length:=by
  have h0:bitl q.den≠[]:=fun e=>by
   have h1:=bvl_bitl q.den;rw [e] at h1;have h2:=q.den_pos;simp [bvl] at h1;omega
  exact List.length_pos_iff.2 h0
 unfold RB.val at hpa hq5 ⊢
 obtain ⟨s,hs⟩:∃ s,s=ratNeg q:=⟨_,rfl⟩
 rw [←hs] at hpa hq5 ⊢;have HPA:=Lib.hid hpa;have HOF:=Lib.hid hof;have HQ5:=Lib.hid hq5;have HL:=Lib.hid l1;have HD:=Lib.hid hden;clear hpa hof hq5 hs h l1 hden
 go_enter Tryz.func87,Tryz.ntmps87
 go_upto_region 1 with fail
 have hx1:=heap_alloc_new w (.cells #[.bool s,.slice b.A b.n b.c,.slice b.A2 b.n2 b.c2] 26)
 have zw1:(w.alloc (.cells #[.bool s,.slice b.A b.n b.c,.slice b.A2 b.n2 b.c2] 26)).heap.size=w.heap.size+1:=by simp
 have aw1:=(Below.refl w.heap.size w).alloc (Nat.le_refl _) (.cells #[.bool s,.slice b.A b.n b.c,.slice b.A2 b.n2 b.c2] 26)
 obtain ⟨w1,ew1⟩:∃ x0,x0=w.alloc (.cells #[.bool s,.slice b.A b.n b.c,.slice b.A2 b.n2 b.c2] 26):=⟨_,rfl⟩
 rw [←ew1] at hx1 zw1 aw1 ⊢;clear ew1;have hx2:=heap_alloc_new w1 (.cells #[.bool false,.slice none 0 0,.slice none 0 0] 83)
 have zw2:(w1.alloc (.cells #[.bool false,.slice none 0 0,.slice none 0 0] 83)).heap.size=w1.heap.size+1:=by simp
 have aw2:=(Below.refl w1.heap.size w1).alloc (Nat.le_refl _) (.cells #[.bool false,.slice none 0 0,.slice none 0 0] 83)
 obtain ⟨w2,ew2⟩:∃ x0,x0=w1.alloc (.cells #[.bool false,.slice none 0 0,.slice none 0 0] 83):=⟨_,rfl⟩
 rw [←ew2] at hx2 zw2 aw2 ⊢;clear ew2;rw [zw1] at hx2;have kz:=aw1.trans (aw2.mono aw1.size);obtain ⟨p0,p1,p2⟩:=boxk (box_keep hx1 aw2);have HX2:=Lib.hid hx2;have KZ:=Lib.hid kz;have hcall:=HPA.out w2 kz;clear hx1 hx2 aw1 aw2 zw1 zw2 kz HPA
 go_upto_region 2 with (go_at_call 99;refine hcall.mono ?_;clear hcall;rintro e w3 ⟨A3,n3,c3,A4,n4,c4,rfl,hn3,hn4,hb3⟩)
 have HN3:=Lib.hid hn3;have HN4:=Lib.hid hn4;have HB3:=Lib.hid hb3;clear hn3 hn4 hb3 p0 p1 p2
 go_upto_region 4 with (go_at_call 100;refine (HOF.out _ _ _ _ _ HN4.out HL.out.den).mono ?_;rintro e w4 ⟨A5,n5,c5,rfl,bb,hbb,htb,hvb,hn5,hb4⟩;have hbe:=tight_eq htb (hvb.trans (lv_limbs _));have hnz:¬ ((n5:Int)=0):=by { have h1:=hbb.len;have h2:=HD.out;rw [←hbe] at h2;omega };have HB4:=Lib.hid hb4;clear hbb htb hvb hn5 hb4 hbe)
 go_wp2_with (first | (go_at_call 100;refine (HOF.out _ _ _ _ _ (HN3.out.below HB4.out) HL.out.num).mono ?_;rintro e w5 ⟨A6,n6,c6,rfl,b6,hb6,ht6,hv6,hn6,hb5⟩;have h6:=Lib.hid (And.intro (show Bts w5 A6 n6 c6 (bitl q.num.natAbs) from by rw [←tight_eq ht6 (hv6.trans (lv_limbs _))];exact hb6) hn6);have HB5:=Lib.hid hb5;clear hb6 ht6 hv6 hn6 hb5 HN3) | (go_at_call 100;refine (HOF.out _ _ _ _ _ ((HN4.out.below HB4.out).below HB5.out) HL.out.den).mono ?_;rintro e w6 ⟨A7,n7,c7,rfl,b7,hb7,ht7,hv7,hn7,hb6⟩;have h7:=Lib.hid (And.intro (show Bts w6 A7 n7 c7 (bitl q.den) from by rw [←tight_eq ht7 (hv7.trans (lv_limbs _))];exact hb7) hn7);have HB6:=Lib.hid hb6;clear hb7 ht7 hv7 hn7 hb6) | (go_at_call 98;refine (HQ5.out _ _ _ _ _ _ _ (h6.out.1.below HB6.out) h7.out.1 h6.out.2 h7.out.2).mono ?_;rintro e w7 ⟨b8,rfl,hr8,hb7⟩;have hk7:Below w2.heap.size w2 w7:=(HB3.out.trans (HB4.out.mono HB3.out.size)).trans ((HB5.out.trans (HB6.out.mono HB5.out.size)).mono (HB3.out.trans (HB4.out.mono HB3.out.size)).size) |>.trans (hb7.mono ((HB3.out.trans (HB4.out.mono HB3.out.size)).trans ((HB5.out.trans (HB6.out.mono HB5.out.size)).mono (HB3.out.trans (HB4.out.mono HB3.out.size)).size)).size);have HX7:=Lib.hid (box_keep HX2.out hk7);have HK7:=Lib.hid hk7;have HR8:=Lib.hid hr8;obtain ⟨y0,y1,y2⟩:=boxk HX7.out;have z0:=frozen_of_blk HX7.out 0;have z1:=frozen_of_blk HX7.out 1;have z2:=frozen_of_blk HX7.out 2;clear hr8 hb7 hk7))
 refine bodyPost_ret (v:=.agg #[.bool s,.slice b8.A b8.n b8.c,.slice b8.A2 b8.n2 b8.c2]) (by simp [results,Tryz.results87,go_sem,y0,y1,y2]) rfl ?_;refine ⟨b8,rfl,HR8.out.fr (S:=fun b=>b=w.heap.size+1) (by repeat' (first | with_reducible exact Fr.refl _ _ | with_reducible refine fr_set ?_ ?_ | exact .inl rfl)) (typB_of HX7.out (by decide)),?_⟩;have hbel:=KZ.out.trans (HK7.out.mono KZ.out.size)
 repeat' (first | with_reducible exact hbel | with_reducible refine bl_set ?_ ?_ | (show w.heap.size≤w.heap.size+1;omega))
end Go.Proofs.YtdefcbfofonabaaGreat
