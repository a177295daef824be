/- Contracts: the comparison of two terms, the exchange of two terms, insertion: what comes out is sorted; the stable sort of few terms. -/
import Derived.Test.YtdefcbfofonabaaGreatTmRow
import Derived.Deep.DeepCutAuto
import Derived.Deep.RegionHeld3
import Derived.Deep.CutBlock
import Derived.RegionTactic
import Derived.BigRegion
import Derived.BigQuiet
import Derived.IntWalk
import Derived.Deep.QuietTactic
import Derived.Outline
import Derived.Test.YtdefcbfofonabaaGreatLimbSub
import Derived.Test.YtdefcbfofonabaaGreatRatE
namespace Go.Proofs.YtdefcbfofonabaaGreat
open Go.RowKit
set_option linter.unusedVariables false
set_option linter.unusedSimpArgs false
def tmsOf' (l:List TB):List Tm:=l.map (·.2)
def cmpT (a b:TB):Int:=if a.2.1<b.2.1 then -1 else if b.2.1<a.2.1 then 1 else 0
def vAt (l:List TB) (p:Nat):Int:=((l[p]?).map (·.2.1)).getD 0
def SrtN (l:List TB) (i:Nat):Prop:=∀ p q,p<q→q<i→vAt l p≤vAt l q
def InsN (l:List TB) (i j:Nat):Prop:=∀ p q,p<q→q≤i→q≠j→vAt l p≤vAt l q
theorem SrtN.ins {l:List TB} {i:Nat} (h:SrtN l i):InsN l i i:=fun p q h1 h2 h3=>h p q h1 (by omega)
theorem InsN.end0 {l:List TB} {i a:Nat} (h:InsN l i a) (ha:a=0):SrtN l (i+1):=fun p q h1 h2=>h p q h1 (by omega) (by omega)
theorem InsN.end1 {l:List TB} {i k:Nat} (h:InsN l i (k+1)) (hc:¬ vAt l (k+1)<vAt l k) (hk:k<i):SrtN l (i+1):=fun p q h1 h2=>by
 by_cases hq:q=k+1
 · subst hq
   by_cases hp:p=k
   · subst hp
     omega
   · have:=h p k (by omega) (by omega) (by omega)
     omega
 · exact h p q h1 (by omega) hq
theorem vAt_exch {l:List TB} {k:Nat} {x y:TB} (hx:l[k]?=some x) (hy:l[k+1]?=some y) (p:Nat):vAt (exch l (k+1) k) p=if p=k then vAt l (k+1) else if p=k+1 then vAt l k else vAt l p:=by
 unfold exch;rw [hx,hy];simp only;unfold vAt;have hk:=(List.getElem?_eq_some_iff.1 hx).1;have hk1:=(List.getElem?_eq_some_iff.1 hy).1
 by_cases h1:p=k
 · subst h1
   rw [if_pos rfl,hy,List.getElem?_set_self (by simpa using hk)]
 · rw [if_neg h1,List.getElem?_set_ne (by omega)]
   by_cases h2:p=k+1
   · subst h2
     rw [if_pos rfl,hx,List.getElem?_set_self (by simpa using hk1)]
   · rw [if_neg h2,List.getElem?_set_ne (by omega)]
theorem InsN.exch {l:List TB} {i k:Nat} {x y:TB} (hx:l[k]?=some x) (hy:l[k+1]?=some y) (h:InsN l i (k+1)) (hc:vAt l (k+1)<vAt l k) (hk:k<i):InsN (exch l (k+1) k) i k:=fun p q h1 h2 h3=>by
 rw [vAt_exch hx hy,vAt_exch hx hy,if_neg h3]
 by_cases hq:q=k+1
 · subst hq
   rw [if_pos rfl]
   by_cases hp:p=k
   · rw [if_pos hp]
     omega
   · rw [if_neg hp,if_neg (by omega)]
     exact h p k (by omega) (by omega) (by omega)
 · rw [if_neg hq]
   by_cases hp:p=k
   · rw [if_pos hp]
     exact h (k+1) q (by omega) h2 hq
   · rw [if_neg hp]
     by_cases hp2:p=k+1
     · rw [if_pos hp2]
       exact h k q (by omega) h2 hq
     · rw [if_neg hp2]
       exact h p q h1 h2 hq
theorem SrtN.srt {l:List TB} (h:SrtN l l.length):SrtV (tmsOf' l):=by
 refine List.pairwise_iff_getElem.2 fun p q hp hq hpq=>?_
 have hp':p<l.length:=by simpa [tmsOf'] using hp
 have hq':q<l.length:=by simpa [tmsOf'] using hq
 have:=h p q hpq hq';unfold vAt at this;rw [List.getElem?_eq_getElem hp',List.getElem?_eq_getElem hq'] at this
 simpa [tmsOf'] using this
theorem cmpT_lt {x y:TB} {l:List TB} {k:Nat} (hx:l[k]?=some x) (hy:l[k+1]?=some y):cmpT y x<0↔vAt l (k+1)<vAt l k:=by
 unfold cmpT vAt;rw [hx,hy];simp only [Option.map_some,Option.getD_some]
 split
 · simp;assumption
 · split
   · simp;omega
   · simp;omega
set_option maxRecDepth 100000 in
theorem cmp_term (a b:TB) (w:World) :
 Calls Tryz.prog 54 #[tmV a,tmV b] w fun e w'=>e=.returned (.int .i64 (cmpT a b))∧Below w.heap.size w w':=by
 obtain ⟨ba,va,qa⟩:=a;obtain ⟨bb,vb,qb⟩:=b;unfold tmV cmpT;simp only;have hb:Below w.heap.size w ((w.alloc (.cells #[.int .i64 va,.bool (ratNeg qa),.slice ba.A ba.n ba.c,.slice ba.A2 ba.n2 ba.c2] 44)).alloc (.cells #[.int .i64 vb,.bool (ratNeg qb),.slice bb.A bb.n bb.c,.slice bb.A2 bb.n2 bb.c2] 44)):=((Below.refl _ _).alloc (Nat.le_refl _) _).alloc (by simp) _;have HB:=Lib.hid hb;clear hb
 by_cases h1:va<vb
 · rw [if_pos h1]
   have h2:¬ (vb<va):=by omega
   go_enter Tryz.func54,Tryz.ntmps54
   go_wp2_with fail
   go_ret;exact ⟨rfl,HB.out⟩
 · rw [if_neg h1]
   by_cases h2:vb<va
   · rw [if_pos h2]
     go_enter Tryz.func54,Tryz.ntmps54
     go_wp2_with fail
     go_ret;exact ⟨rfl,HB.out⟩
   · rw [if_neg h2]
     go_enter Tryz.func54,Tryz.ntmps54
     go_wp2_with fail
     go_ret;exact ⟨rfl,HB.out⟩
set_option maxRecDepth 100000 in
set_option maxHeartbeats 4000000 in
theorem ins_any (l:List TB) (g c a b:Nat) (w:World) (h:TRow w g c l) (ha0:a=0) (hab:a≤b) (hb:b≤l.length) (hbnd:l.length≤1000) :
 Calls Tryz.prog 92 #[.slice (some ⟨g,0,none⟩) l.length c,.int .i64 (a:Int),.int .i64 (b:Int),.func (.func 54) #[] #[]] w fun e w'=>e=.returned (.tuple #[])∧∃ l',l'.Perm l∧SrtN l' b∧TRow w' g c l'∧Fr (fun k=>k=g) w w':=by
 have H:=Lib.hid h;have HA0:=Lib.hid ha0;clear h ha0
 go_enter Tryz.func92,Tryz.ntmps92
 go_wp2_with fail
 go_loopw [8] (fun x wr=>∃ (i:Nat) (l1:List TB),a≤i∧(i≤b∨i≤a+1)∧x=.int .i64 i∧l1.Perm l∧SrtN l1 i∧TRow wr g c l1∧Fr (fun k=>k=g) w wr) (fun x _=>b - (intOf x).toNat)
 case atStart=>exact ⟨a+1,l,by omega,by omega,by go_num,List.Perm.refl _,(fun p q h1 h2=>absurd h2 (by have:=HA0.out;omega)),H.out,Fr.refl _ _⟩
 case round =>
  obtain ⟨i,l1,hai,hib,rfl,hp,hso,ht,hf⟩:=hrel
  obtain ⟨w1,rfl⟩:∃ x,x=wr:=⟨_,rfl⟩
  have HP:=Lib.hid hp;have HSO:=Lib.hid hso;have HT:=Lib.hid ht;have HF:=Lib.hid hf;have hlen:=hp.length_eq;have HLEN:=Lib.hid hlen;clear hp hso ht hf hlen
  by_cases hlt:i<b
  · go_wp2_with fail
    go_loopw [9] (fun y wr=>∃ (j:Nat) (l2:List TB),a≤j∧j≤i∧y=.int .i64 j∧l2.Perm l∧InsN l2 i j∧TRow wr g c l2∧Fr (fun k=>k=g) w wr) (fun y _=>(intOf y).toNat)
    case atStart=>exact ⟨i,l1,by omega,by omega,rfl,HP.out,HSO.out.ins,HT.out,HF.out⟩
    case round =>
     obtain ⟨j,l2,haj,hji,rfl,hp,hso,ht,hf⟩:=hrel
     obtain ⟨w2,rfl⟩:∃ x,x=wr:=⟨_,rfl⟩
     have HP2:=Lib.hid hp;have HSO2:=Lib.hid hso;have HT2:=Lib.hid ht;have HF2:=Lib.hid hf;have hlen:=hp.length_eq;have HLEN2:=Lib.hid hlen;have hle:l.length=l.length:=rfl;clear hp hso ht hf hle
     by_cases hja:j=a
     · subst hja
       have h4:decide ((j:Int)>(j:Int))=false:=by simp
       go_upto_region 4 with fail
       go_quiet (fail)
       go_wp2_with fail
       go_roundw
       case rel=>exact ⟨i+1,l2,by omega,by omega,by go_num,HP2.out,HSO2.out.end0 HA0.out,HT2.out.drewN _,HF2.out.drewN _⟩
       case measure=>simp [intOf];omega
     · obtain ⟨k,rfl⟩:∃ k,j=k+1:=⟨j - 1,by omega⟩
       have hk1:k+1<l2.length:=by rw [HLEN2.out];omega
       obtain ⟨x,hx⟩:∃ x,l2[k]?=some x:=⟨_,List.getElem?_eq_getElem (by omega)⟩
       obtain ⟨y,hy⟩:∃ y,l2[k+1]?=some y:=⟨_,List.getElem?_eq_getElem hk1⟩
       have hcs:∀ W',Below w2.heap.size w2 W'→_:=fun W' h=>And.intro ((HT2.out.below h).cell hx) ((HT2.out.below h).cell hy)
       have h4:decide ((a:Int)<(k:Int)+1)=true:=by simp;omega
       have h5:(a:Int)<(k:Int)+1:=by omega
       have b5:(0:Int)≤(k:Int)+1:=by omega
       have b0:(0:Int)≤(k:Int):=by omega
       have b1:(k:Int)<(l.length:Int):=by rw [←HLEN2.out];omega
       have b2:((k:Int)+1)<(l.length:Int):=by rw [←HLEN2.out];omega
       have b3:(l.length:Int)≤1000:=by omega
       have b6:k<l.length:=by omega
       have b7:k+1<l.length:=by omega
       have b8:IntKind.i64.wrap (k:Int)=(k:Int):=IntWalk.i64_in _ (by omega)
       have hcm:=fun W=>cmp_term y x W
       have hzv:=cmpT_lt hx hy
       obtain ⟨z,hz⟩:∃ z,z=cmpT y x:=⟨_,rfl⟩
       rw [←hz] at hcm hzv;have HZV:=Lib.hid hzv;unfold tmV at hcm;have HCS:=Lib.hid hcs;have HCM:=Lib.hid hcm;have HX:=Lib.hid hx;have HY:=Lib.hid hy;clear hcs hcm hz hx hy hzv
       go_upto_region 4 with fail
       go_cut [34] (fun v wx=>v=.bool (decide (z<0))∧Below w2.heap.size w2 wx)
       case first =>
        go_region_held3 (fun W'=>(W'.cell? ⟨g,k*4,none⟩=some (.int .i64 x.2.1)∧W'.cell? ⟨g,k*4+1,none⟩=some (.bool (ratNeg x.2.2))∧W'.cell? ⟨g,k*4+2,none⟩=some (.slice x.1.A x.1.n x.1.c)∧W'.cell? ⟨g,k*4+3,none⟩=some (.slice x.1.A2 x.1.n2 x.1.c2))∧W'.cell? ⟨g,(k+1)*4,none⟩=some (.int .i64 y.2.1)∧W'.cell? ⟨g,(k+1)*4+1,none⟩=some (.bool (ratNeg y.2.2))∧W'.cell? ⟨g,(k+1)*4+2,none⟩=some (.slice y.1.A y.1.n y.1.c)∧W'.cell? ⟨g,(k+1)*4+3,none⟩=some (.slice y.1.A2 y.1.n2 y.1.c2)) ((refine HCS.out _ ?_;first | with_reducible exact c1 | with_reducible exact below_drew2 (Below.refl _ _))) ((go_at_call 54;refine (HCM.out _).mono ?_;rintro e w5 ⟨rfl,hb5⟩;have c1:Below w2.heap.size w2 w5:=(below_drew2 (Below.refl _ _)).trans (hb5.mono (Nat.le_refl _));clear hb5))
        all_goals
         go_wp2_with fail
         go_meet;exact ⟨rfl,c1⟩
       case rest =>
       obtain ⟨rfl,hb3⟩:=hcut
       obtain ⟨w3,rfl⟩:∃ x,x=wc:=⟨_,rfl⟩
       have HT3:=Lib.hid (HT2.out.below hb3);have HF3:=Lib.hid (HF2.out.trans (Fr.of_below (S:=fun k=>k=g) hb3) (fun b hb=>.inl hb));clear hb3
       by_cases hz:z<0
       · rw [decide_eq_true hz]
         have HSO3:=Lib.hid (HSO2.out.exch HX.out HY.out (HZV.out.1 hz) (by omega));clear hz;obtain ⟨q0,q1,q2,q3⟩:=HT3.out.cell HX.out;obtain ⟨p0,p1,p2,p3⟩:=HT3.out.cell HY.out
         have z0:=fun i=>HT3.out.fz i
         have e0:¬ ((k+1)*4=k*4):=by omega
         go_upto_region 6 with fail
         go_region
         clear q0 q1 q2 q3 p0 p1 p2 p3 z0 e0 b8
         all_goals
          go_wp2_with fail
          go_roundw
          case rel=>exact ⟨k,exch l2 (k+1) k,by omega,by omega,by go_num,(exch_perm _ _ _).trans HP2.out,HSO3.out,(HT3.out.exch HY.out HX.out).drew,((HF3.out.trans (put4_fr _ _ _ _) (fun b hb=>.inl hb)).trans (put4_fr _ _ _ _) (fun b hb=>.inl hb)).drew⟩
          case measure=>simp [intOf]
       · rw [decide_eq_false hz]
         have HSO3:=Lib.hid (HSO2.out.end1 (fun h=>hz (HZV.out.2 h)) (by omega))
         go_wp2_with fail
         go_roundw
         case rel=>exact ⟨i+1,l2,by omega,by omega,by go_num,HP2.out,HSO3.out,HT3.out,HF3.out⟩
         case measure=>simp [intOf];omega
  · have hlt2:¬ ((i:Int)<(b:Int)):=by omega
    go_wp2_with fail
    go_end0
    exact ⟨rfl,l1,HP.out,fun p q h1 h2=>HSO.out p q h1 (by omega),HT.out,HF.out⟩
set_option maxRecDepth 100000 in
set_option maxHeartbeats 4000000 in
theorem stab_few (l:List TB) (g c:Nat) (w:World) (h:TRow w g c l) (hbnd:l.length≤19) :
 Calls Tryz.prog 78 #[.slice (some ⟨g,0,none⟩) l.length c,.int .i64 (l.length:Int),.func (.func 54) #[] #[]] w fun e w'=>e=.returned (.tuple #[])∧∃ l',l'.Perm l∧SrtN l' l.length∧TRow w' g c l'∧Fr (fun k=>k=g) w w':=by
 have hs:=ins_any l g c 0 l.length w h rfl (Nat.zero_le _) (Nat.le_refl _) (by omega)
 obtain ⟨n,hn⟩:∃ n,n=l.length:=⟨_,rfl⟩
 rw [←hn] at hs hbnd ⊢;have HS:=Lib.hid hs
 have hle:(n:Int)≤19:=by omega
 have hlt:¬ ((20:Int)≤(n:Int)):=by omega
 have hlt2:¬ ((20:Int)<(n:Int)):=by omega
 clear h hs hn
 go_enter Tryz.func78,Tryz.ntmps78
 go_wp2_with fail
 refine wp_loop_rounds 1 ?_;rw [rounds_succ]
 go_wp2_with (go_at_call 92;refine HS.out.mono ?_;rintro e w2 ⟨rfl,l2,hp2,hs2,ht2,hf2⟩)
 have H2:=Lib.hid (And.intro hp2 (And.intro hs2 (And.intro ht2 hf2)));clear hp2 hs2 ht2 hf2;refine wp_loop_rounds 1 ?_;rw [rounds_succ]
 go_wp2_with fail
 go_end0
 exact ⟨rfl,l2,H2.out⟩
set_option maxRecDepth 100000 in
theorem sort_few (l:List TB) (g c:Nat) (w:World) (h:TRow w g c l) (hbnd:l.length≤19) :
 Calls Tryz.prog 53 #[.slice (some ⟨g,0,none⟩) l.length c,.func (.func 54) #[] #[]] w fun e w'=>e=.returned (.tuple #[])∧∃ l',l'.Perm l∧SrtV (tmsOf' l')∧TRow w' g c l'∧Fr (fun k=>k=g) w w':=by
 have hs:=stab_few l g c w h hbnd;have HS:=Lib.hid hs;clear h hs
 go_enter Tryz.func53,Tryz.ntmps53
 go_wp2_with (go_at_call 78;refine HS.out.mono ?_;rintro e w2 ⟨rfl,l2,hp2,hs2,ht2,hf2⟩)
 go_end0
 refine ⟨rfl,l2,hp2,SrtN.srt ?_,ht2,hf2⟩;rw [hp2.length_eq];exact hs2
set_option maxRecDepth 100000 in
theorem ins_zero (A:Option Addr) (c:Nat) (w:World) :
 Calls Tryz.prog 92 #[.slice A 0 c,.int .i64 0,.int .i64 0,.func (.func 54) #[] #[]] w fun e w'=>e=.returned (.tuple #[])∧w'=w:=by
 go_enter Tryz.func92,Tryz.ntmps92
 go_wp2_with fail
 refine wp_loop_rounds 1 ?_;rw [rounds_succ]
 go_wp2_with fail
 go_end0
 exact ⟨rfl,rfl⟩
set_option maxRecDepth 100000 in
theorem sort_zero (A:Option Addr) (c:Nat) (w:World) :
 Calls Tryz.prog 53 #[.slice A 0 c,.func (.func 54) #[] #[]] w fun e w'=>e=.returned (.tuple #[])∧w'=w:=by
 have hs:Calls Tryz.prog 78 #[.slice A 0 c,.int .i64 0,.func (.func 54) #[] #[]] w fun e w'=>e=.returned (.tuple #[])∧w'=w:=by
  have hi:=ins_zero A c w;have HI:=Lib.hid hi;clear hi
  go_enter Tryz.func78,Tryz.ntmps78
  go_wp2_with fail
  refine wp_loop_rounds 1 ?_;rw [rounds_succ]
  go_wp2_with (go_at_call 92;refine HI.out.mono ?_;rintro e w2 ⟨rfl,hw⟩;obtain rfl:=hw.symm)
  refine wp_loop_rounds 1 ?_;rw [rounds_succ]
  go_wp2_with fail
  go_end0
  exact ⟨rfl,rfl⟩
 have HS:=Lib.hid hs;clear hs
 go_enter Tryz.func53,Tryz.ntmps53
 go_wp2_with (go_at_call 78;refine HS.out.mono ?_;rintro e w2 ⟨rfl,hw⟩;obtain rfl:=hw.symm)
 go_end0
 exact ⟨rfl,rfl⟩
end Go.Proofs.YtdefcbfofonabaaGreat

namespace Go.Proofs.YtdefcbfofonabaaGreat
open Go.RowKit
set_option linter.unusedVariables false
set_option linter.unusedSimpArgs false
set_option maxRecDepth 100000 in
theorem int_p1 (w:World) :
 Calls Tryz.prog 7 #[.int .i64 1] w fun e w'=>∃ b:RB,e=.returned (b.val (ratNeg 1))∧RatAt w' b 1∧Below w.heap.size w w':=by
 skip
 have hr3:=heap_alloc_new w (.cells #[.bool false,.slice none 0 0,.slice none 0 0] 26);have hbw:=(Below.refl w.heap.size w).alloc (Nat.le_refl _) (.cells #[.bool false,.slice none 0 0,.slice none 0 0] 26)
 go_enter Tryz.func7,Tryz.ntmps7
 go_upto_region 1 with fail
 obtain ⟨wk,hwk⟩:∃ x,x=w.alloc (.cells #[.bool false,.slice none 0 0,.slice none 0 0] 26):=⟨_,rfl⟩
 rw [←hwk] at hr3 hbw ⊢;have hwd:=word_any 1 wk (by decide);rw [show ((1:Nat):Int)=1 from rfl] at hwd;have HR3:=Lib.hid hr3;have HBW:=Lib.hid hbw;clear hwk hr3 hbw
 go_wp2_with (go_at_call 24;refine hwd.mono ?_;clear hwd;rintro e w5 ⟨v5,rfl,ho5,b5⟩;obtain ⟨A5,c5,rfl,h5⟩:=Num.of (N:=0) ho5 (limbs_small _);obtain ⟨r0,r1,r2⟩:=Box.of (box_keep HR3.out b5);have s0:=frozen_of_blk (box_keep HR3.out b5) 0;have s1':=frozen_of_blk (box_keep HR3.out b5) 1;have s2':=frozen_of_blk (box_keep HR3.out b5) 2;have HB5:=Lib.hid (HBW.out.trans (b5.mono HBW.out.size));have HK:=Lib.hid (box_keep HR3.out b5))
 refine bodyPost_ret (v:=.agg #[.bool false,.slice A5 (limbs 1).length c5,.slice none 0 0]) (by simp [results,Tryz.results7,go_sem,r0,r1,r2]) rfl ?_;refine ⟨⟨A5,(limbs 1).length,c5,none,0,0⟩,rfl,⟨?_,?_⟩,bl_set (bl_set (bl_set HB5.out ?_) ?_) ?_⟩
 · refine h5.fr (S:=fun b=>b=w.heap.size) (fr_set (fr_set (fr_set (Fr.refl _ _) (.inl rfl)) (.inl rfl)) (.inl rfl)) ?_
   intro b i k hb e;subst hb;rw [cell_of_blk HK.out i] at e;exact no_int3 _ _ _ (by simp) (by simp) (by simp) i k e
 · exact Num.nil_ _
 all_goals
  simp
set_option maxRecDepth 100000 in
theorem int_m1 (w:World) :
 Calls Tryz.prog 7 #[.int .i64 (-1)] w fun e w'=>∃ b:RB,e=.returned (b.val (ratNeg (-1)))∧RatAt w' b (-1)∧Below w.heap.size w w':=by
 skip
 have hr3:=heap_alloc_new w (.cells #[.bool false,.slice none 0 0,.slice none 0 0] 26);have hbw:=(Below.refl w.heap.size w).alloc (Nat.le_refl _) (.cells #[.bool false,.slice none 0 0,.slice none 0 0] 26)
 go_enter Tryz.func7,Tryz.ntmps7
 go_upto_region 1 with fail
 obtain ⟨wk,hwk⟩:∃ x,x=w.alloc (.cells #[.bool false,.slice none 0 0,.slice none 0 0] 26):=⟨_,rfl⟩
 rw [←hwk] at hr3 hbw ⊢;have hwd:=word_any 1 wk (by decide);rw [show ((1:Nat):Int)=1 from rfl] at hwd;have HR3:=Lib.hid hr3;have HBW:=Lib.hid hbw;clear hwk hr3 hbw
 go_wp2_with (go_at_call 24;refine hwd.mono ?_;clear hwd;rintro e w5 ⟨v5,rfl,ho5,b5⟩;obtain ⟨A5,c5,rfl,h5⟩:=Num.of (N:=0) ho5 (limbs_small _);obtain ⟨r0,r1,r2⟩:=Box.of (box_keep HR3.out b5);have s0:=frozen_of_blk (box_keep HR3.out b5) 0;have s1':=frozen_of_blk (box_keep HR3.out b5) 1;have s2':=frozen_of_blk (box_keep HR3.out b5) 2;have HB5:=Lib.hid (HBW.out.trans (b5.mono HBW.out.size));have HK:=Lib.hid (box_keep HR3.out b5))
 refine bodyPost_ret (v:=.agg #[.bool true,.slice A5 (limbs 1).length c5,.slice none 0 0]) (by simp [results,Tryz.results7,go_sem,r0,r1,r2]) rfl ?_;refine ⟨⟨A5,(limbs 1).length,c5,none,0,0⟩,rfl,⟨?_,?_⟩,bl_set (bl_set (bl_set HB5.out ?_) ?_) ?_⟩
 · refine h5.fr (S:=fun b=>b=w.heap.size) (fr_set (fr_set (fr_set (Fr.refl _ _) (.inl rfl)) (.inl rfl)) (.inl rfl)) ?_
   intro b i k hb e;subst hb;rw [cell_of_blk HK.out i] at e;exact no_int3 _ _ _ (by simp) (by simp) (by simp) i k e
 · exact Num.nil_ _
 all_goals
  simp
theorem p1_le (k:Nat) (h:1≤k):RatLe 1 k:=by
 have e:(limbs 1).length=1:=by rw [limbs_pos 1 (by decide),show 1 / 4294967296=0 by decide,limbs_zero];rfl
 exact ⟨by rw [show (1:Rat).num.natAbs=1 by decide,e];exact h,by rw [show (1:Rat).den=1 by decide,e];exact h⟩
theorem m1_le (k:Nat) (h:1≤k):RatLe (-1) k:=neg_le (p1_le k h)
end Go.Proofs.YtdefcbfofonabaaGreat

namespace Go.Proofs.YtdefcbfofonabaaGreat
open Go.RowKit
set_option linter.unusedVariables false
set_option linter.unusedSimpArgs false
theorem RatLe.up {q:Rat} {a b:Nat} (h:RatLe q a) (hab:a≤b):RatLe q b:=⟨Nat.le_trans h.num hab,Nat.le_trans h.den hab⟩
theorem RatAt.frT {S:Nat→Prop} {w w':World} {b:RB} {q:Rat} (h:RatAt w b q) (hf:Fr S w w') (hS:∀ b,S b→∃ cs t m,w.heap[b]?=some (.cells cs t m)∧t≠125):RatAt w' b q:=⟨h.num.frT hf hS,h.den.frT hf hS⟩
def TOk (w:World) (k:Nat) (t:TB):Prop:=RatAt w t.1 t.2.2∧RatLe t.2.2 k ∧ -9223372036854775808≤t.2.1∧t.2.1≤9223372036854775807
theorem TOk.below {w w':World} {k:Nat} {t:TB} (h:TOk w k t) (hb:Below w.heap.size w w'):TOk w' k t:=⟨h.1.below hb,h.2⟩
theorem TOk.up {w:World} {k k':Nat} {t:TB} (h:TOk w k t) (hk:k≤k'):TOk w k' t:=⟨h.1,h.2.1.up hk,h.2.2⟩
def TypT (w:World) (A:Option Addr) (n:Nat):Prop:=0<n→∃ b off cs m,A=some ⟨b,off,none⟩∧w.heap[b]?=some (.cells cs 44 m)
theorem TypT.keep {w w':World} {A:Option Addr} {n:Nat} (h:TypT w A n) (hb:Below w.heap.size w w'):TypT w' A n:=fun h0=>by
 obtain ⟨b,off,cs,m,e,hx⟩:=h h0;exact ⟨b,off,cs,m,e,(hb.block b (Array.getElem?_eq_some_iff.1 hx).1).trans hx⟩
structure TmsAt (w:World) (A:Option Addr) (n c:Nat) (l:List TB) (k:Nat):Prop where
 rd:Rd w 4 A n (tmsL l)
 len:l.length=n
 cap:n≤c
 each:∀ t ∈ l,TOk w k t
 typ:TypT w A n
theorem TmsAt.below {w w':World} {A:Option Addr} {n c k:Nat} {l:List TB} (h:TmsAt w A n c l k) (hb:Below w.heap.size w w'):TmsAt w' A n c l k:=⟨h.rd.below hb,h.len,h.cap,fun t ht=>(h.each t ht).below hb,h.typ.keep hb⟩
theorem TmsAt.up {w:World} {A:Option Addr} {n c k k':Nat} {l:List TB} (h:TmsAt w A n c l k) (hk:k≤k'):TmsAt w A n c l k':=⟨h.rd,h.len,h.cap,fun t ht=>(h.each t ht).up hk,h.typ⟩
theorem TmsAt.nil_ (w:World) (k:Nat):TmsAt w none 0 0 [] k:=⟨Rd.none_,rfl,Nat.le_refl _,by simp,fun h=>absurd h (by decide)⟩
theorem TmsAt.of_own {w:World} {B n k:Nat} {v:Value} {l:List TB} (h:w.ownsRow B 44 4 v n (tmsL l)) (he:∀ t ∈ l,TOk w k t):∃ A c,v=.slice A n c∧TmsAt w A n c l k:=by
 obtain ⟨A,c,rfl,hc,hr⟩:=ownsRow_form h
 have hl:l.length=n:=by
  have:=h.1;rw [tmsL_len] at this;omega
 refine ⟨A,c,rfl,hr,hl,hc,he,fun h0=>?_⟩;rcases h.2 with ⟨_,hx⟩ | ⟨g,cap,cur,hv,_,hx,_⟩
 · omega
 · injection hv with h1 h2 h3
   exact ⟨g,0,cur,(0,0),h1,hx⟩
structure EB where
 A:Option Addr
 n:Nat
 c:Nat
 b:RB
def EB.val (e:EB) (s:Bool):Value:=.agg #[.slice e.A e.n e.c,.bool s,.slice e.b.A e.b.n e.b.c,.slice e.b.A2 e.b.n2 e.b.c2]
def tmsOf (l:List TB):List Tm:=l.map (·.2)
theorem tmsOf_app (l m:List TB):tmsOf (l ++ m)=tmsOf l ++ tmsOf m:=List.map_append
theorem tmsOf_len (l:List TB):(tmsOf l).length=l.length:=List.length_map _
theorem zero_at (w:World):RatAt w ⟨none,0,0,none,0,0⟩ 0:=by
 refine ⟨?_,?_⟩
 · rw [show (0:Rat).num.natAbs=0 by decide,limbs_zero];exact Num.nil_ w
 · unfold ratDen;rw [if_pos (by decide)];exact Num.nil_ w
theorem zero_neg:ratNeg 0=false:=by decide
theorem zero_le (k:Nat) (h:1≤k):RatLe 0 k:=by
 refine ⟨?_,?_⟩
 · rw [show (0:Rat).num.natAbs=0 by decide,limbs_zero];exact Nat.zero_le _
 · rw [show (0:Rat).den=1 by decide,limbs_pos 1 (by decide),show 1 / 4294967296=0 by decide,limbs_zero];exact h
theorem own_typ {w:World} {B n:Nat} {v:Value} {xs:List Value} (h:w.ownsRow B 44 4 v n xs):∀ b,ownS v b→∃ cs t m,w.heap[b]?=some (.cells cs t m)∧t≠125:=by
 intro b hb;rcases h.2 with ⟨rfl,_⟩ | ⟨g,cap,cur,rfl,_,hx,_⟩
 · simp [ownS,Value.ownBlock] at hb
 · have:g=b:=by simpa [ownS,Value.ownBlock] using hb
   subst this;exact ⟨cur,_,_,hx,by decide⟩
theorem TOk.fr {w w':World} {B n k:Nat} {v:Value} {xs:List Value} {t:TB} (h:TOk w k t) (hown:w.ownsRow B 44 4 v n xs) (hf:Fr (ownS v) w w'):TOk w' k t:=⟨h.1.frT hf (own_typ hown),h.2⟩
theorem Rd.at4 {w:World} {A:Option Addr} {n:Nat} {l:List TB} (h:Rd w 4 A n (tmsL l)) (hl:l.length=n) {i:Nat} (hi:i<n):∃ (g off:Nat) (t:TB),A=some ⟨g,off,none⟩∧l[i]?=some t∧w.cell? ⟨g,off+i*4,none⟩=some (.int .i64 t.2.1)∧w.cell? ⟨g,off+i*4+1,none⟩=some (.bool (ratNeg t.2.2))∧w.cell? ⟨g,off+i*4+2,none⟩=some (.slice t.1.A t.1.n t.1.c)∧w.cell? ⟨g,off+i*4+3,none⟩=some (.slice t.1.A2 t.1.n2 t.1.c2):=by
 obtain ⟨g,off,e,hc⟩:=h.2 (by omega)
 have hl':i<l.length:=by omega
 have key:=tmsL_at l i l[i] (List.getElem?_eq_getElem hl');refine ⟨g,off,l[i],e,List.getElem?_eq_getElem hl',?_,?_,?_,?_⟩
 · have:=hc (i*4) _ ((key 0 (by decide)).trans rfl)
   exact this
 · have:=hc (i*4+1) _ ((key 1 (by decide)).trans rfl)
   rwa [←Nat.add_assoc] at this
 · have:=hc (i*4+2) _ ((key 2 (by decide)).trans rfl)
   rwa [←Nat.add_assoc] at this
 · have:=hc (i*4+3) _ ((key 3 (by decide)).trans rfl)
   rwa [←Nat.add_assoc] at this
theorem sort_own (l:List TB) (B:Nat) (A:Option Addr) (n c:Nat) (w:World) (h:w.ownsRow B 44 4 (.slice A n c) n (tmsL l)) (hbnd:n≤19) :
 Calls Tryz.prog 53 #[.slice A n c,.func (.func 54) #[] #[]] w fun e w'=>e=.returned (.tuple #[])∧∃ l',l'.Perm l∧SrtV (tmsOf l')∧w'.ownsRow B 44 4 (.slice A n c) n (tmsL l')∧Fr (ownS (.slice A n c)) w w':=by
 have hlen:l.length=n:=by
  have:=h.1;rw [tmsL_len] at this;omega
 rcases Nat.eq_zero_or_pos n with h0 | h0
 · subst h0
   refine (sort_zero A c w).mono ?_;rintro e w' ⟨rfl,hw⟩;obtain rfl:=hw.symm;obtain rfl:l=[]:=List.eq_nil_of_length_eq_zero hlen;exact ⟨rfl,[],List.Perm.refl _,List.Pairwise.nil,h,Fr.refl _ _⟩
 · obtain ⟨g,c',e,hBg,_,_⟩:=owned_form h h0
   injection e with e1 e2 e3
   subst e1;subst e3;subst hlen
   have ht:TRow w g c l:=⟨own_more h (Nat.zero_le _)⟩
   refine (sort_few l g c w ht hbnd).mono ?_;rintro e w' ⟨rfl,l',hp,hsr,ht',hf⟩;have hl':=hp.length_eq;refine ⟨rfl,l',hp,hsr,?_,hf.mono fun b _ hb=>by simp [ownS,Value.ownBlock,hb]⟩;have ho:=ht'.own;rw [hl'] at ho;refine ⟨ho.1,?_⟩;rcases ho.2 with h' | ⟨g',cap,cur,hv,_,r⟩
   · exact .inl h'
   · have hv2:=hv
     injection hv with e1 _ _
     injection e1 with e1
     injection e1 with e1
     exact .inr ⟨g',cap,cur,hv2,by omega,r⟩
theorem RatAt.frB {S:Nat→Prop} {w w':World} {b:RB} {q:Rat} (h:RatAt w b q) (hf:Fr S w w') (hS:∀ b,S b→∃ cs t m,w.heap[b]?=some (.cells cs t m)∧t≠125∧t≠44):RatAt w' b q:=h.frT hf fun b hb=>by
 obtain ⟨cs,t,m,h1,h2,_⟩:=hS b hb;exact ⟨cs,t,m,h1,h2⟩
theorem TmsAt.fr {S:Nat→Prop} {w w':World} {A:Option Addr} {n c k:Nat} {l:List TB} (h:TmsAt w A n c l k) (hf:Fr S w w') (hS:∀ b,S b→∃ cs t m,w.heap[b]?=some (.cells cs t m)∧t≠125∧t≠44):TmsAt w' A n c l k:=by
 have hno:∀ b off,A=some ⟨b,off,none⟩→0<n→¬ S b:=by
  intro b off e h0 hs;obtain ⟨b',o',cs,m,e',hx⟩:=h.typ h0;rw [e] at e'
  injection e' with e'
  injection e' with e1 e2
  subst e1;obtain ⟨cs',t,m',hx',_,hne⟩:=hS b hs;rw [hx] at hx'
  injection hx' with hx'
  injection hx' with _ ht _
  exact hne ht.symm
 refine ⟨⟨h.rd.1,fun h0=>?_⟩,h.len,h.cap,fun t ht=>⟨(h.each t ht).1.frB hf hS,(h.each t ht).2⟩,fun h0=>?_⟩
 · obtain ⟨b,o,e,hc⟩:=h.rd.2 h0
   refine ⟨b,o,e,fun j u hu=>?_⟩;rw [hf.cell (p:=⟨b,o+j,none⟩) (World.block_lt_of_cell? w _ (hc j u hu)) (hno b o e h0)];exact hc j u hu
 · obtain ⟨b,o,cs,m,e,hx⟩:=h.typ h0
   exact ⟨b,o,cs,m,e,(hf.block b (Array.getElem?_eq_some_iff.1 hx).1 (hno b o e h0)).trans hx⟩
def store4 (w:World) (g:Nat) (A:Option Addr) (n c:Nat) (s:Bool) (b:RB):World:=(((w.setCell ⟨g,0,none⟩ (.slice A n c)).setCell ⟨g,1,none⟩ (.bool s)).setCell ⟨g,2,none⟩ (.slice b.A b.n b.c)).setCell ⟨g,3,none⟩ (.slice b.A2 b.n2 b.c2)
theorem store4_fr (w:World) (g:Nat) (A:Option Addr) (n c:Nat) (s:Bool) (b:RB):Fr (fun k=>k=g) w (store4 w g A n c s b):=fr_set (fr_set (fr_set (fr_set (Fr.refl _ _) (.inl rfl)) (.inl rfl)) (.inl rfl)) (.inl rfl)
theorem store4_bel {w0 w:World} {g B:Nat} (h:Below B w0 w) (hg:B≤g) (A:Option Addr) (n c:Nat) (s:Bool) (b:RB):Below B w0 (store4 w g A n c s b):=bl_set (bl_set (bl_set (bl_set h hg) hg) hg) hg
theorem box4 {w:World} {g:Nat} {a b c d:Value} {t:TypeId} (h:w.heap[g]?=some (.cells #[a,b,c,d] t (0,0))):w.cell? ⟨g,0,none⟩=some a∧w.cell? ⟨g,1,none⟩=some b∧w.cell? ⟨g,2,none⟩=some c∧w.cell? ⟨g,3,none⟩=some d :=
 ⟨cell_of_blk h 0,cell_of_blk h 1,cell_of_blk h 2,cell_of_blk h 3⟩
theorem typ_of {w:World} {g:Nat} {cs:Array Value} {t:TypeId} (h:w.heap[g]?=some (.cells cs t (0,0))) (ht:t≠125∧t≠44):∀ b,b=g→∃ cs t m,w.heap[b]?=some (.cells cs t m)∧t≠125∧t≠44:=fun b hb=>⟨cs,t,(0,0),by rw [hb];exact h,ht⟩
end Go.Proofs.YtdefcbfofonabaaGreat
