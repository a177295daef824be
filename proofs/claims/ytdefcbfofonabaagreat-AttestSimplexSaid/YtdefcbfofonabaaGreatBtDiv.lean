/- Contract of attestref03.DivMod on lists of bits. -/
import Derived.Test.YtdefcbfofonabaaGreatBtA
import Derived.Test.YtdefcbfofonabaaGreatLimbSub
import Derived.Test.YtdefcbfofonabaaGreatBnAdd
import Derived.Test.YtdefcbfofonabaaGreatRatE
namespace Go.Proofs.YtdefcbfofonabaaGreat
open Go.RowKit
set_option linter.unusedVariables false
set_option linter.unusedSimpArgs false
theorem Bts.set {w:World} {A:Option Addr} {n c g k:Nat} {l:List Bool} (h:Bts w A n c l) (hf:Fresh (g+1) A) (u:Value):Bts (w.setCell ⟨g,k,none⟩ u) A n c l :=
 ⟨Fr.rd (S:=fun b=>b=g) (fr_set (Fr.refl _ w) (.inl rfl)) h.rd (fun b o e hb=>by have:=hf _ e;simp at this;omega),h.len,h.cap,fun h0=>by
   obtain ⟨b,off,cs,m,e,hx⟩:=h.typ h0;have:=hf _ e;simp at this
   exact ⟨b,off,cs,m,e,(set_far (by simp;omega) _).trans hx⟩⟩
theorem Bts.blk {w:World} {g n:Nat} {l:List Bool} (h:w.heap[g]?=some (.cells (boolL l).toArray 4 (0,0))) (hl:l.length=n):Bts w (some ⟨g,0,none⟩) n n l:=by
 refine ⟨⟨by rw [boolL_length];omega,fun _=>⟨g,0,rfl,fun j x hx=>?_⟩⟩,hl,Nat.le_refl _,fun _=>⟨g,0,_,_,rfl,h⟩⟩;rw [Nat.zero_add,cell_of_blk h]
 simpa using hx
theorem boolA_get (vals:List Bool) (k:Nat) (hk:k<vals.length):(boolL vals).toArray[k]?=some (.bool vals[k]):=by simp [boolL,hk]
theorem boolA_set (vals:List Bool) (k:Nat) (b:Bool):(boolL vals).toArray.setIfInBounds k (.bool b)=(boolL (vals.set k b)).toArray:=by simp [boolL,List.map_set]
theorem boolL_rep (n:Nat):List.replicate n (Value.bool false)=boolL (List.replicate n false):=by simp [boolL]
theorem bts_empty (w:World) (g:Nat):Bts w (some ⟨g,0,none⟩) 0 0 []:=⟨⟨rfl,fun h=>absurd h (by omega)⟩,rfl,Nat.le_refl _,TypB.zero⟩
def DivI (L M rl qs:List Bool) (k:Nat):Prop:=bvl (L.drop k)=bvl (qs.drop k)*bvl M+bvl rl∧∀ j,j<k→qs[j]?=some false
theorem divI_start (L M:List Bool) (n:Nat) (hl:L.length=n):DivI L M [] (List.replicate n false) n:=by
 refine ⟨?_,fun j hj=>by rw [List.getElem?_replicate,if_pos hj]⟩;rw [List.drop_of_length_le (by omega),List.drop_of_length_le (by simp)];simp [bvl]
theorem divI_no {L M rl qs r1:List Bool} {i:Nat} (h:DivI L M rl qs (i+1)) (hi:i<L.length) (hq:i<qs.length) (hv:bvl r1=L[i].toNat+2*bvl rl):DivI L M r1 qs i:=by
 obtain ⟨h1,h2⟩:=h;refine ⟨?_,fun j hj=>h2 j (by omega)⟩;have h3:=h2 i (by omega);rw [List.getElem?_eq_getElem hq] at h3
 injection h3 with h3
 rw [List.drop_eq_getElem_cons hi,List.drop_eq_getElem_cons hq,h3,bvl,bvl,h1,hv];simp;rw [Nat.mul_assoc];omega
theorem divI_yes {L M rl qs r1 o:List Bool} {i:Nat} (h:DivI L M rl qs (i+1)) (hi:i<L.length) (hq:i<qs.length) (hv:bvl r1=L[i].toNat+2*bvl rl) (hle:bvl M≤bvl r1) (ho:bvl o=bvl r1 - bvl M):DivI L M o (qs.set i true) i:=by
 obtain ⟨h1,h2⟩:=h;refine ⟨?_,fun j hj=>by rw [List.getElem?_set_ne (by omega)];exact h2 j (by omega)⟩
 have e:(qs.set i true).drop i=true :: qs.drop (i+1):=by
  rw [List.drop_eq_getElem_cons (by rw [List.length_set];exact hq),List.getElem_set_self,List.drop_set_of_lt (by omega)]
 rw [List.drop_eq_getElem_cons hi,e,bvl,bvl,h1,ho];rw [Nat.add_mul,Nat.mul_assoc];simp;omega
theorem divI_end {L M rl qs:List Bool} (h:DivI L M rl qs 0):bvl L=bvl qs*bvl M+bvl rl:=h.1
set_option maxRecDepth 100000 in
set_option maxHeartbeats 4000000 in
theorem rdiv_any {w:World} {A A2:Option Addr} {n c n2 c2:Nat} {L M:List Bool} (h:Bts w A n c L) (h2:Bts w A2 n2 c2 M) (hn:n≤100000) (hn2:n2≤100000) (t2:tight M) (hp:0<bvl M) :
 Calls Tryz.prog 114 #[.slice A n c,.slice A2 n2 c2] w fun e w'=>∃ A1 n1 c1 A3 n3 c3,e=.returned (.tuple #[.slice A1 n1 c1,.slice A3 n3 c3])∧∃ q r,Bts w' A1 n1 c1 q∧tight q∧n1≤n∧Bts w' A3 n3 c3 r∧tight r∧bvl r<bvl M∧n3≤n2∧bvl L=bvl q*bvl M+bvl r∧Below w.heap.size w w':=by
 obtain ⟨i0,hi,hz0,hz1,hz2⟩:=info_parts info_bool;have hl:=h.len;have hl2:=h2.len;have HR:=Lib.hid h;have HR2:=Lib.hid h2;have HP:=Lib.hid hp;have HT:=Lib.hid t2;clear h h2 t2 hp
 go_enter Tryz.func114,Tryz.ntmps114
 go_wp2_with (at_make;refine make1 w.heap.size w w rfl _ _ 81 rfl 4 i0 (.bool false) 1 Tryz.underlying81 hi hz0 hz1 hz2 rfl (by decide) _ _ _ _ n rfl rfl rfl rfl (by omega) _ (boolL_rep n) (Nat.le_refl _) (Below.refl _ _) ?_)
 intro w1 hown hb1 hg1;have hblk:=full_blk hown;have hlt:=lt_of_blk hblk;have HBL:=Lib.hid hblk;have HB1:=Lib.hid hb1;clear hown hb1 hg1 hblk
 go_wp2_with fail
 go_loopw [7,8] (fun v x wr=>∃ (k:Nat) (A5:Option Addr) (m cc:Nat) (rl qs:List Bool),k≤n∧x=.int .i64 ((k:Int) - 1)∧v=.slice A5 m cc∧Bts wr A5 m cc rl∧Fresh (w.heap.size+1) A5∧tight rl∧bvl rl<bvl M∧qs.length=n∧wr.heap[w.heap.size]?=some (.cells (boolL qs).toArray 4 (0,0))∧DivI L M rl qs k∧Below w.heap.size w wr) (fun _ x _=>(intOf x+1).toNat)
 case atStart=>exact ⟨n,_,0,0,[],List.replicate n false,Nat.le_refl _,rfl,rfl,bts_empty _ _,(fun p hp=>by cases hp;exact hlt),tight_nil,HP.out,by simp,(alloc_old _ hlt).trans HBL.out,divI_start L M n hl,HB1.out.alloc HB1.out.size _⟩
 case round =>
  obtain ⟨k,A5,m,cc,rl,qs,hk,rfl,rfl,hbt,hfr,htr,hlr,hql,hqb,hdi,hb⟩:=hrel
  have hml:m≤n2:=by
   have:=tight_len M rl htr (by omega);have:=hbt.len;omega
  by_cases hk0:0<k
  · obtain ⟨i,rfl⟩:∃ i,k=i+1:=⟨k - 1,by omega⟩
    have em:((i+1:Nat):Int) - 1=i:=by omega
    rw [em];obtain ⟨b1,o1,rfl,x0⟩:=(HR.out.below hb).at_ i (by omega)
    have hin:(i:Int)<(n:Int):=by omega
    have hdn:=fun r1=>divI_no (r1:=r1) hdi (by omega) (by omega)
    have hdy:=fun r1 o=>divI_yes (r1:=r1) (o:=o) hdi (by omega) (by omega)
    generalize L[i]=x at *
    have HDN:=Lib.hid hdn;have HDY:=Lib.hid hdy;clear hdn hdy hdi;have HBT:=Lib.hid hbt;have HB:=Lib.hid hb;have HQB:=Lib.hid hqb;have HLR:=Lib.hid hlr;have hbs:Below wr.heap.size wr (wr.alloc (.cells #[.bool x] 4)):=(Below.refl _ _).alloc (Nat.le_refl _) _;have hol:(wr.alloc (.cells #[.bool x] 4)).ownsRow wr.heap.size 4 1 (.slice (some ⟨wr.heap.size,0,none⟩) 1 1) 1 (boolL [x]):=World.ownsRow_lit (base:=wr.heap.size) (e:=4) (size:=1) wr #[.bool x] 1 (Nat.le_refl _) (by unfold maxLen;omega) rfl;have HOL:=Lib.hid hol;have HBS:=Lib.hid hbs;clear hbt hb hqb hlr em hk0 hol hbs htr
    go_upto_region 7 with (first | (at_builtin;refine appR wr.heap.size wr (wr.alloc (.cells #[.bool x] 4)) 4 rfl _ _ 81 rfl i0 (.bool false) 1 Tryz.underlying81 hi hz0 hz1 hz2 rfl (by decide) _ 1 _ rfl (Nat.le_refl _) HOL.out HBS.out A5 m cc (boolL rl) rfl (HBT.out.rd.alloc _) (boolL_one _) (by omega) ?_;intro v6 w6 hown6 hb6 hg6;obtain ⟨A6,c6,rfl,hb6',hfr6⟩:=Bts.of (l:=[x] ++ rl) hown6;have HB6:=Lib.hid hb6;have HFR6:=Lib.hid hfr6;have HCT:=Lib.hid (rcut_any hb6' (by omega));clear hown6 hb6 hg6 hb6' hfr6) | (go_at_call 84;refine HCT.out.mono ?_;clear HCT;rintro e w7 ⟨k7,rfl,hbt7,hk7,hw⟩;obtain rfl:=hw.symm))
    have hb7:=HB.out.trans (HB6.out.mono HB.out.size);have hm7:=HR2.out.below hb7;have hq7:=box_keep HQB.out HB6.out;have hcmp:=rcmp_any hbt7 hm7 (by omega) (by omega) (tight_cut _) HT.out
    have hv7:bvl (cutB ([x] ++ rl))=x.toNat+2*bvl rl:=by rw [bvl_cut];rfl
    have htt:=tight_cut ([x] ++ rl)
    generalize cutB ([x] ++ rl)=r1 at *
    have hx1:x.toNat≤1:=by cases x<;>simp
    have hlr:=HLR.out;have HCM:=Lib.hid hcmp;have HB7:=Lib.hid hb7;have HM7:=Lib.hid hm7;have HQ7:=Lib.hid hq7;have HBT7:=Lib.hid hbt7
    have hf7:Fresh (w.heap.size+1) A6:=fun p hp=>by have:=HFR6.out p hp;have:=lt_of_blk HQB.out;omega
    have HF7:=Lib.hid hf7;have HTT:=Lib.hid htt;clear hcmp hb7 hm7 hq7 hbt7 hf7 htt
    go_upto_if 31 with (go_at_call 110;refine HCM.out.mono ?_;clear HCM;rintro e w8 ⟨r,rfl,hcr,q8,rfl⟩)
    by_cases hle:bvl M≤bvl r1
    · have hr0:0≤r:=hcr.2 hle
      have hsub:=rsub_any (HBT7.out.drewN q8) (HM7.out.drewN q8) (by omega) HT.out hle;have HSUB:=Lib.hid hsub;have HV:=Lib.hid hv7;clear hsub hcr
      go_upto_region 9 with (go_at_call 111;refine HSUB.out.mono ?_;clear HSUB;rintro e w9 ⟨A9,n9,c9,rfl,o9,hb9,hfr9,ht9,hv9,hl9,hbe9⟩)
      have hq9:=box_keep (show (w6.drewN q8).heap[w.heap.size]?=_ from HQ7.out) hbe9;have hs9:=set_blk hq9 i (.bool true);have c9':=cell_of_blk hq9 i;rw [boolA_get qs i (by omega)] at c9';have z9:=frozen_of_blk hq9 i
      have hf9:Fresh (w.heap.size+1) A9:=fun p hp=>by have h1:w6.heap.size≤p.block:=hfr9 p hp;have:=lt_of_blk HQ7.out;omega
      have hbn:=hb9.set (g:=w.heap.size) (k:=i) hf9 (.bool true);rw [boolA_set] at hs9;have hbe:Below w.heap.size w (w9.setCell ⟨w.heap.size,i,none⟩ (.bool true)):=bl_set ((below_drewN HB7.out q8).trans (hbe9.mono (below_drewN HB7.out q8).size)) (Nat.le_refl _);have HS9:=Lib.hid hs9;have HBN:=Lib.hid hbn;have HF9:=Lib.hid hf9;have HT9:=Lib.hid ht9;have HV9:=Lib.hid hv9;have HBE:=Lib.hid hbe
      generalize qs[i]'(by omega)=z at *
      clear hs9 hbn hf9 ht9 hv9 hbe hbe9 hfr9 hb9 hq9 hv7
      go_wp2_with fail
      go_roundw
      case rel=>exact ⟨i,_,_,_,o9,qs.set i true,by omega,by first | rfl | go_num,rfl,HBN.out,HF9.out,HT9.out,by rw [HV9.out,HV.out];omega,by rw [List.length_set];exact hql,HS9.out,HDY.out r1 o9 HV.out hle HV9.out,HBE.out⟩
      case measure=>simp [intOf]
    · have hr0:¬ 0≤r:=fun e=>hle (hcr.1 e)
      clear hcr
      go_wp2_with fail
      go_roundw
      case rel=>exact ⟨i,_,_,_,r1,qs,by omega,by first | rfl | go_num,rfl,HBT7.out.drewN q8,HF7.out,HTT.out,by omega,hql,HQ7.out,HDN.out r1 hv7,below_drewN HB7.out q8⟩
      case measure=>simp [intOf]
  · obtain rfl:k=0:=by omega
    have e0:((0:Nat):Int) - 1 = -1:=rfl;rw [e0];have hcq:=rcut_any (Bts.blk hqb hql) (by omega);have HCQ:=Lib.hid hcq;have HBT:=Lib.hid hbt;have HB:=Lib.hid hb;have HTR:=Lib.hid htr;have HLR:=Lib.hid hlr;clear e0 hcq hbt hb htr hlr hqb hfr
    go_wp2_with (go_at_call 84;refine HCQ.out.mono ?_;clear HCQ;rintro e w7 ⟨k7,rfl,hbt7,hk7,hw⟩;obtain rfl:=hw.symm)
    go_ret2
    exact ⟨_,_,_,_,_,_,rfl,cutB qs,rl,hbt7,tight_cut _,hk7,HBT.out,HTR.out,HLR.out,hml,by rw [bvl_cut];exact divI_end hdi,HB.out⟩
end Go.Proofs.YtdefcbfofonabaaGreat

namespace Go.Proofs.YtdefcbfofonabaaGreat
open Go.RowKit
set_option linter.unusedVariables false
set_option linter.unusedSimpArgs false
theorem gcd_next {a b q r:Nat} (h:a=q*b+r) (hr:r<b):Nat.gcd b r=Nat.gcd a b:=by
 have hm:a % b=r:=by rw [h,Nat.mul_comm,Nat.mul_add_mod,Nat.mod_eq_of_lt hr]
 rw [Nat.gcd_comm a b,Nat.gcd_rec b a,hm,Nat.gcd_comm]
set_option maxRecDepth 100000 in
theorem rgcd_any {w:World} {A A2:Option Addr} {n c n2 c2:Nat} {L M:List Bool} (h:Bts w A n c L) (h2:Bts w A2 n2 c2 M) (hn:n≤100000) (hn2:n2≤100000) (t1:tight L) (t2:tight M) (hp:0<bvl M) :
 Calls Tryz.prog 113 #[.slice A n c,.slice A2 n2 c2] w fun e w'=>∃ A1 n1 c1,e=.returned (.slice A1 n1 c1)∧∃ g,Bts w' A1 n1 c1 g∧tight g∧0<bvl g∧n1≤100000∧bvl g=Nat.gcd (bvl L) (bvl M)∧Below w.heap.size w w':=by
 have H1:=Lib.hid h;have H3:=Lib.hid h2;have HP:=Lib.hid hp;have HT1:=Lib.hid t1;have HT2:=Lib.hid t2;clear h h2 hp t1 t2
 go_enter Tryz.func113,Tryz.ntmps113
 go_wp2_with fail
 go_loopg [0,1] (bvl M) (fun γ a b wr=>∃ (K:Nat) (A4:Option Addr) (n4 c4:Nat) (A5:Option Addr) (n5 c5:Nat) (l4 l5:List Bool),γ=K∧a=.slice A4 n4 c4∧b=.slice A5 n5 c5∧K=bvl l5∧n4≤100000∧n5≤100000∧tight l4∧tight l5∧(0<bvl l4∨0<bvl l5)∧Bts wr A4 n4 c4 l4∧Bts wr A5 n5 c5 l5∧Nat.gcd (bvl l4) (bvl l5)=Nat.gcd (bvl L) (bvl M)∧Below w.heap.size w wr)
 case atStart=>exact ⟨_,_,_,_,_,_,_,L,M,rfl,rfl,rfl,rfl,hn,hn2,HT1.out,HT2.out,.inr HP.out,H1.out,H3.out,rfl,Below.refl _ _⟩
 case round =>
  obtain ⟨K,A4,n4,c4,A5,n5,c5,l4,l5,hMe,rfl,rfl,hK,hn4,hn5,t4,t5,hpo,h4,h5,hgc,hbw⟩:=hrel;have HGC:=Lib.hid hgc;clear hgc;have hMe':=hMe.symm;subst hMe';clear hMe;have HBW:=Lib.hid hbw;have hl5:=h5.len;have HK:=Lib.hid hK
  by_cases h0:n5=0
  · subst h0
    have h40:0<bvl l4:=by
     have:=(tight_zero l5 t5).1 hl5;omega
    have hg4:bvl l4=Nat.gcd (bvl L) (bvl M):=by rw [←HGC.out,(tight_zero l5 t5).1 hl5,Nat.gcd_zero_right]
    have HG4:=Lib.hid hg4;clear hg4;have H4:=Lib.hid h4;have HT4:=Lib.hid t4;have H40:=Lib.hid h40;clear h4 h5 hbw hK hl5 t4 h40 hpo
    go_wp2_with fail
    go_ret;exact ⟨_,_,_,rfl,l4,H4.out,HT4.out,H40.out,hn4,HG4.out,HBW.out⟩
  · have hpos:0<bvl l5:=by
     rcases Nat.eq_zero_or_pos (bvl l5) with e | e
     · have:=(tight_zero l5 t5).2 e
       omega
     · exact e
    have hdm:=rdiv_any h4 h5 hn4 hn5 t5 hpos
    have hn50:0<n5:=by omega
    have HDM:=Lib.hid hdm;have H5:=Lib.hid h5;have HT5:=Lib.hid t5;have HPOS:=Lib.hid hpos;clear hdm h4 h5 hbw hpos hK hpo hl5 t5
    go_wp2_with (go_at_call 114;refine HDM.out.mono ?_;rintro e w6 ⟨A6,n6,c6,A7,n7,c7,rfl,q,r,hq,tq,nq,hr,tr,hlr,nr,hqr,b6⟩)
    go_roundg (bvl r)
    case measure=>rw [HK.out];exact hlr
    case rel=>exact ⟨_,_,_,_,_,_,_,l5,r,rfl,rfl,rfl,rfl,hn5,by omega,HT5.out,tr,.inl HPOS.out,H5.out.below b6,hr,by rw [←HGC.out];exact gcd_next hqr hlr,HBW.out.trans (b6.mono HBW.out.size)⟩
def Agg3 (e:Ending):Prop:=∃ z A1 n1 c1 A3 n3 c3,e=.returned (.agg #[.bool z,.slice A1 n1 c1,.slice A3 n3 c3])
set_option maxRecDepth 100000 in
theorem rof5_any {w:World} {A A2:Option Addr} {n c n2 c2:Nat} {L M:List Bool} (s:Bool) (h:Bts w A n c L) (h2:Bts w A2 n2 c2 M) (hn:n≤100000) (hn2:n2≤100000) (t1:tight L) (t2:tight M) (hp:0<bvl M) :
 Calls Tryz.prog 98 #[.bool s,.slice A n c,.slice A2 n2 c2] w fun e w'=>Agg3 e∧Below w.heap.size w w':=by
 have hgd:=fun W hW=>rgcd_any (w:=W) (h.below hW) (h2.below hW) hn hn2 t1 t2 hp
 have H1:=Lib.hid h;have H2:=Lib.hid h2;have HGD:=Lib.hid hgd;clear h h2 hgd hp t1 t2
 go_enter Tryz.func98,Tryz.ntmps98
 go_upto_region 1 with fail
 have hr3:=heap_alloc_new w (.cells #[.bool false,.slice none 0 0,.slice none 0 0] 83);have hbw:=(Below.refl w.heap.size w).alloc (Nat.le_refl _) (.cells #[.bool false,.slice none 0 0,.slice none 0 0] 83)
 obtain ⟨wz,hwz⟩:∃ x,x=w.alloc (.cells #[.bool false,.slice none 0 0,.slice none 0 0] 83):=⟨_,rfl⟩
 rw [←hwz] at hr3 hbw ⊢;have HR3:=Lib.hid hr3;have HBW:=Lib.hid hbw;clear hwz hr3 hbw
 by_cases h1:n2=1
 · have h1':((n2:Int) == 1)=true:=by simp [h1]
   have HR:=HR3;have HB:=HBW;clear h1;obtain ⟨r0,r1,r2⟩:=Box.of HR.out;have s0:=frozen_of_blk HR.out 0;have s1':=frozen_of_blk HR.out 1;have s2':=frozen_of_blk HR.out 2
   cases s
   · go_wp2_with fail
     refine bodyPost_ret (v:=.agg #[.bool false,.slice A n c,.slice A2 n2 c2]) (by simp [results,Tryz.results98,go_sem,r0,r1,r2]) rfl ?_;exact ⟨⟨_,_,_,_,_,_,_,rfl⟩,bl_set (bl_set (bl_set HB.out (Nat.le_refl _)) (Nat.le_refl _)) (Nat.le_refl _)⟩
   · by_cases h0:0<n
     · have h0':(0:Int)<(n:Int):=by omega
       go_wp2_with fail
       refine bodyPost_ret (v:=.agg #[.bool true,.slice A n c,.slice A2 n2 c2]) (by simp [results,Tryz.results98,go_sem,r0,r1,r2]) rfl ?_;exact ⟨⟨_,_,_,_,_,_,_,rfl⟩,bl_set (bl_set (bl_set HB.out (Nat.le_refl _)) (Nat.le_refl _)) (Nat.le_refl _)⟩
     · have h0':¬ (0:Int)<(n:Int):=by omega
       go_wp2_with fail
       refine bodyPost_ret (v:=.agg #[.bool false,.slice A n c,.slice A2 n2 c2]) (by simp [results,Tryz.results98,go_sem,r0,r1,r2]) rfl ?_;exact ⟨⟨_,_,_,_,_,_,_,rfl⟩,bl_set (bl_set (bl_set HB.out (Nat.le_refl _)) (Nat.le_refl _)) (Nat.le_refl _)⟩
 · have h1':((n2:Int) == 1)=false:=by rw [beq_eq_false_iff_ne];omega
   have hgd:=HGD.out wz HBW.out;clear h1
   go_upto_region 4 with (go_at_call 113;refine hgd.mono ?_;clear hgd;rintro e w4 ⟨A4,n4,c4,rfl,g,hg,tg,hg0,hn4,hgcd,b4⟩)
   have hb4:=HBW.out.trans (b4.mono HBW.out.size);have hr4:=box_keep HR3.out b4;have hd1:=rdiv_any (H1.out.below hb4) hg hn hn4 tg hg0;have HG:=Lib.hid hg;have HTG:=Lib.hid tg;have HG0:=Lib.hid hg0;have HB4:=Lib.hid hb4;have HR4:=Lib.hid hr4;clear hg tg hg0 b4 hb4 hr4 hgcd
   go_upto_region 5 with (go_at_call 114;refine hd1.mono ?_;clear hd1;rintro e w5 ⟨A5,n5,c5,A6,n6,c6,rfl,q5,r5,hq5,tq5,nq5,hr5,tr5,hlr5,nr5,hqr5,b5⟩)
   have hb5:=HB4.out.trans (b5.mono HB4.out.size);have hr5':=box_keep HR4.out b5;have hd2:=rdiv_any (H2.out.below hb5) (HG.out.below b5) hn2 hn4 HTG.out HG0.out;have HB5:=Lib.hid hb5;have HR5:=Lib.hid hr5';clear hq5 tq5 hr5 tr5 hlr5 b5 hb5 hr5' hqr5
   go_upto_region 6 with (go_at_call 114;refine hd2.mono ?_;clear hd2;rintro e w7 ⟨A7,n7,c7,A8,n8,c8,rfl,q7,r7,hq7,tq7,nq7,hr7,tr7,hlr7,nr7,hqr7,b7⟩)
   have HB:=Lib.hid (HB5.out.trans (b7.mono HB5.out.size));have HR:=Lib.hid (box_keep HR5.out b7);clear hq7 tq7 hr7 tr7 hlr7 b7 hqr7;obtain ⟨r0,r1,r2⟩:=Box.of HR.out;have s0:=frozen_of_blk HR.out 0;have s1':=frozen_of_blk HR.out 1;have s2':=frozen_of_blk HR.out 2
   cases s
   · go_wp2_with fail
     refine bodyPost_ret (v:=.agg #[.bool false,.slice A5 n5 c5,.slice A7 n7 c7]) (by simp [results,Tryz.results98,go_sem,r0,r1,r2]) rfl ?_;exact ⟨⟨_,_,_,_,_,_,_,rfl⟩,bl_set (bl_set (bl_set HB.out (Nat.le_refl _)) (Nat.le_refl _)) (Nat.le_refl _)⟩
   · by_cases h0:0<n5
     · have h0':(0:Int)<(n5:Int):=by omega
       go_wp2_with fail
       refine bodyPost_ret (v:=.agg #[.bool true,.slice A5 n5 c5,.slice A7 n7 c7]) (by simp [results,Tryz.results98,go_sem,r0,r1,r2]) rfl ?_;exact ⟨⟨_,_,_,_,_,_,_,rfl⟩,bl_set (bl_set (bl_set HB.out (Nat.le_refl _)) (Nat.le_refl _)) (Nat.le_refl _)⟩
     · have h0':¬ (0:Int)<(n5:Int):=by omega
       go_wp2_with fail
       refine bodyPost_ret (v:=.agg #[.bool false,.slice A5 n5 c5,.slice A7 n7 c7]) (by simp [results,Tryz.results98,go_sem,r0,r1,r2]) rfl ?_;exact ⟨⟨_,_,_,_,_,_,_,rfl⟩,bl_set (bl_set (bl_set HB.out (Nat.le_refl _)) (Nat.le_refl _)) (Nat.le_refl _)⟩
end Go.Proofs.YtdefcbfofonabaaGreat

namespace Go.Proofs.YtdefcbfofonabaaGreat
open Go.RowKit
set_option linter.unusedVariables false
set_option linter.unusedSimpArgs false
theorem odd_dec (U:Nat):decide (U % 2=1)=((U:Int) % 2 == 1):=by
 rcases Nat.mod_two_eq_zero_or_one U with h | h
 · rw [show ((U:Int) % 2 == 1)=false by rw [beq_eq_false_iff_ne];omega,h];rfl
 · rw [show ((U:Int) % 2 == 1)=true by rw [beq_iff_eq];omega,h];rfl
set_option maxRecDepth 100000 in
theorem bword_any (u:Nat) (w:World) (hu:u<18446744073709551616) :
 Calls Tryz.prog 61 #[.int .u64 (u:Int)] w fun e w'=>∃ A' n' c',e=.returned (.slice A' n' c')∧Bts w' A' n' c' (bitl u)∧Below w.heap.size w w':=by
 obtain ⟨i0,hi,hz0,hz1,hz2⟩:=info_parts info_bool;have hlen:(bitl u).length≤64:=bitl_len hu;have HLEN:=Lib.hid hlen;clear hlen
 go_enter Tryz.func61,Tryz.ntmps61
 go_wp2_with fail
 go_loopw [0,3] (fun x v wr=>∃ (U:Nat) (o:List Bool),x=.int .u64 (U:Int)∧U<18446744073709551616∧wr.ownsRow w.heap.size 4 1 v o.length (boolL o)∧bitl u=o ++ bitl U∧Below w.heap.size w wr) (fun x _ _=>(intOf x).toNat)
 case atStart=>exact ⟨u,[],rfl,hu,own_empty _ _ _ (Nat.le_refl _),rfl,(Below.refl _ _).alloc (Nat.le_refl _) _⟩
 case round =>
  obtain ⟨U,o,rfl,hU,hown,hsp,hb⟩:=hrel
  have hol:o.length≤64:=by
   have:=congrArg List.length hsp;rw [List.length_append] at this;have:=HLEN.out;omega
  have HOW:=Lib.hid hown;have HSP:=Lib.hid hsp;have HB:=Lib.hid hb;clear hown hsp hb
  by_cases h0:0<U
  · have h0':(U:Int)>0:=by omega
    have hst:bitl u=(o ++ [((U:Int) % 2 == 1)]) ++ bitl (U / 2):=by
     rw [HSP.out,bitl_pos (N:=U) (by omega),odd_dec];simp
    have HST:=Lib.hid hst;clear hst
    go_wp2_with (at_builtin;refine app1 w.heap.size w wr _ 4 rfl _ _ 81 rfl i0 (.bool false) 1 Tryz.underlying81 hi hz0 hz1 hz2 rfl (by decide) _ o.length _ rfl (Nat.le_refl _) HOW.out HB.out rfl rfl (by omega) ?_)
    intro v1 w1 hown1 hb1 _;have HO1:=Lib.hid hown1;have HB1:=Lib.hid hb1;clear hown1 hb1
    go_wp2_with fail
    go_roundw
    case rel=>exact ⟨U / 2,o ++ [((U:Int) % 2 == 1)],by first | rfl | go_num,by omega,by rw [boolL_append,List.length_append,List.length_singleton];exact HO1.out,HST.out,HB1.out⟩
    case measure=>simp [intOf];omega
  · obtain rfl:U=0:=by omega
    have hown2:=HOW.out;have hsp2:=HSP.out;rw [bitl_zero,List.append_nil] at hsp2;obtain ⟨A',c',rfl,ho,hfr⟩:=Bts.of hown2
    have ho':Bts wr A' o.length c' (bitl u):=by rw [hsp2];exact ho
    have HO:=Lib.hid ho';clear hown2 hsp2 ho ho' hfr HOW HSP
    go_wp2_with fail
    go_ret;exact ⟨_,_,_,rfl,HO.out,HB.out⟩
theorem bvl_rep (k:Nat):bvl (List.replicate k false)=0:=by
 induction k with
 | zero=>rfl
 | succ k ih=>rw [List.replicate_succ,bvl,ih];rfl
set_option maxRecDepth 100000 in
theorem bshl_any {w:World} {A:Option Addr} {n c:Nat} (a k:Nat) (h:Bts w A n c (bitl a)) (hn:n≤400000) (hk:k≤400000) :
 Calls Tryz.prog 112 #[.slice A n c,.int .i64 (k:Int)] w fun e w'=>∃ A' n' c',e=.returned (.slice A' n' c')∧Bts w' A' n' c' (bitl (a*2 ^ k))∧Below w.heap.size w w':=by
 obtain ⟨i0,hi,hz0,hz1,hz2⟩:=info_parts info_bool;have H:=Lib.hid h;clear h;have hv:cutB (List.replicate k false ++ bitl a)=bitl (a*2 ^ k):=tight_eq (tight_cut _) (by rw [bvl_cut,bvl_append,bvl_rep,bvl_bitl,List.length_replicate,Nat.zero_add,Nat.mul_comm]);have HV:=Lib.hid hv;clear hv
 go_enter Tryz.func112,Tryz.ntmps112
 go_wp2_with (first | (at_make;refine make1 w.heap.size w w rfl _ _ 81 rfl 4 i0 (.bool false) 1 Tryz.underlying81 hi hz0 hz1 hz2 rfl (by decide) _ _ _ _ k rfl rfl rfl rfl (by omega) _ (boolL_rep k) (Nat.le_refl _) (Below.refl _ _) ?_;intro w1 hown1 hb1 hg1) | (at_builtin;refine appR w.heap.size w _ 4 rfl _ _ 81 rfl i0 (.bool false) 1 Tryz.underlying81 hi hz0 hz1 hz2 rfl (by decide) _ k _ rfl (Nat.le_refl _) hown1 hb1 A n c (boolL (bitl a)) rfl (H.out.below hb1).rd (boolL_one _) (by omega) ?_;intro v2 w2 hown2 hb2 hg2;rw [←boolL_append] at hown2;obtain ⟨A2,c2,rfl,ho2,_⟩:=Bts.of hown2;have hct:=rcut_any ho2 (by omega);clear hown2 ho2) | (go_at_call 84;refine hct.mono ?_;clear hct;rintro e w9 ⟨k9,rfl,hk9,hkn,hw⟩;obtain rfl:=hw.symm))
 go_ret;rw [HV.out] at hk9;exact ⟨_,_,_,rfl,hk9,hb2⟩
set_option maxRecDepth 100000 in
theorem bmul_any {w:World} {A A2:Option Addr} {n c n2 c2:Nat} (a b:Nat) (h:Bts w A n c (bitl a)) (h2:Bts w A2 n2 c2 (bitl b)) (hn:n≤100000) (hn2:n2≤100000) :
 Calls Tryz.prog 96 #[.slice A n c,.slice A2 n2 c2] w fun e w'=>∃ A' n' c',e=.returned (.slice A' n' c')∧Bts w' A' n' c' (bitl (a*b))∧Below w.heap.size w w':=by
 have H:=Lib.hid h;have H2:=Lib.hid h2;have hl:=h.len;have hl2:=h2.len;have hvb:=bvl_bitl b
 have hlen:∀ i,(bitl (a*bvl ((bitl b).take i))).length≤400000:=fun i=>by
  have h1:bvl ((bitl b).take i)≤b:=by
   have:=bvl_append ((bitl b).take i) ((bitl b).drop i);rw [List.take_append_drop,hvb] at this;omega
  have h3:=bitl_mono (Nat.mul_le_mul (Nat.le_refl a) h1);have h4:=bitl_mul (x:=a) (y:=b) (by rw [hl];exact hn) (by rw [hl2];exact hn2);omega
 have hnx:=fun i=>bit_next (bitl b) i
 generalize hM:bitl b=M at *
 have HL:=Lib.hid hlen;have HN:=Lib.hid hnx;have HVB:=Lib.hid hvb;have HHM:=Lib.hid hM;clear h h2 hlen hnx hvb hM
 go_enter Tryz.func96,Tryz.ntmps96
 go_wp2_with fail
 go_loopw [5,10] (fun v x wr=>∃ (i:Nat) (A5:Option Addr) (m5 c5:Nat),i≤n2∧x=.int .i64 i∧v=.slice A5 m5 c5∧Bts wr A5 m5 c5 (bitl (a*bvl (M.take i)))∧Below w.heap.size w wr) (fun _ x _=>n2 - (intOf x).toNat)
 case atStart =>
  refine ⟨0,_,0,0,Nat.zero_le _,rfl,rfl,?_,(Below.refl _ _).alloc (Nat.le_refl _) _⟩;rw [List.take_zero,show bvl []=0 from rfl,Nat.mul_zero,bitl_zero];exact ⟨⟨rfl,fun h=>absurd h (by omega)⟩,rfl,Nat.le_refl _,TypB.zero⟩
 case round =>
  obtain ⟨i,A5,m5,c5,hin,rfl,rfl,hbt,hb⟩:=hrel;have hml:=hbt.len;have hm5:=HL.out i
  by_cases hlt:i<n2
  · have hlt':(i:Int)<(n2:Int):=by omega
    obtain ⟨b2,o2,rfl,y0⟩:=(H2.out.below hb).at_ i (by omega);have hnx:=HN.out i;rw [getD_in M (by omega)] at hnx
    generalize M[i]'(by omega)=y at *
    have HBT:=Lib.hid hbt;have HB:=Lib.hid hb
    cases y
    · have hv:a*bvl (M.take (i+1))=a*bvl (M.take i):=by rw [hnx];simp
      have HV:=Lib.hid hv;clear hbt hb hnx hv
      go_wp2_with fail
      go_roundw
      case rel=>exact ⟨i+1,_,_,_,by omega,by go_num,rfl,by rw [HV.out];exact HBT.out,HB.out⟩
      case measure=>simp [intOf];omega
    · have hv:a*bvl (M.take i)+a*2 ^ i=a*bvl (M.take (i+1)):=by rw [hnx];simp [Nat.mul_add]
      have hsh:=bshl_any a i (H.out.below hb) (by omega) (by omega)
      have hls:(bitl (a*2 ^ i)).length≤400000:=by
       have h3:(bitl (2 ^ i)).length≤i+1:=bitl_len (Nat.pow_lt_pow_right (by decide) (by omega));have:=bitl_mul (x:=a) (y:=2 ^ i) (a:=n) (b:=i+1) (by omega) h3;omega
      have HV:=Lib.hid hv;have HLS:=Lib.hid hls;clear hbt hb hnx hv hls
      go_upto_region 7 with (first | (go_at_call 112;refine hsh.mono ?_;clear hsh;rintro e w6 ⟨A6,n6,c6,rfl,h6,b6⟩;have hl6:=h6.len;have had:=badd_any (HBT.out.below b6) h6 (by omega) (by have:=HLS.out;omega);rw [bvl_bitl,bvl_bitl,HV.out] at had;clear h6) | (go_at_call 60;refine had.mono ?_;clear had;rintro e w7 ⟨A7,n7,c7,rfl,h7,b7⟩))
      go_wp2_with fail
      go_roundw
      case rel=>exact ⟨i+1,_,_,_,by omega,by go_num,rfl,h7,HB.out.trans ((b6.trans (b7.mono b6.size)).mono HB.out.size)⟩
      case measure=>simp [intOf];omega
  · have hi2:i=n2:=by omega
    have hv:a*bvl (M.take i)=a*b:=by rw [List.take_of_length_le (by omega),HVB.out]
    rw [hv] at hbt;have HBT:=Lib.hid hbt;have HB:=Lib.hid hb;clear hbt hb hv hm5 hml
    go_wp2_with fail
    go_ret;exact ⟨_,_,_,rfl,HBT.out,HB.out⟩
end Go.Proofs.YtdefcbfofonabaaGreat

namespace Go.Proofs.YtdefcbfofonabaaGreat
open Go.RowKit
set_option linter.unusedVariables false
set_option linter.unusedSimpArgs false
structure QAt (w:World) (b:RB) (q:Rat):Prop where
 num:Bts w b.A b.n b.c (bitl q.num.natAbs)
 den:Bts w b.A2 b.n2 b.c2 (bitl q.den)
theorem QAt.below {w w':World} {b:RB} {q:Rat} (h:QAt w b q) (hb:Below w.heap.size w w'):QAt w' b q:=⟨h.num.below hb,h.den.below hb⟩
theorem QAt.alloc {w:World} {b:RB} {q:Rat} (h:QAt w b q) (o:Obj):QAt (w.alloc o) b q:=⟨h.num.alloc o,h.den.alloc o⟩
theorem QAt.fr {S:Nat→Prop} {w w':World} {b:RB} {q:Rat} (h:QAt w b q) (hf:Fr S w w') (hS:∀ b,S b→∃ cs t m,w.heap[b]?=some (.cells cs t m)∧t≠4):QAt w' b q:=⟨h.num.frT hf hS,h.den.frT hf hS⟩
theorem typB_of {w:World} {g:Nat} {cs:Array Value} {t:TypeId} {m:Nat × Nat} (h:w.heap[g]?=some (.cells cs t m)) (ht:t≠4):∀ b,b=g→∃ cs t m,w.heap[b]?=some (.cells cs t m)∧t≠4:=fun b e=>⟨cs,t,m,by rw [e];exact h,ht⟩
theorem bits_pos {N:Nat}:0<(bitl N).length↔0<N:=by
 have:=@bitl_nil N;omega
set_option maxRecDepth 100000 in
theorem of5_any {w:World} {A A2:Option Addr} {n c n2 c2:Nat} (s:Bool) (a d:Nat) (h:Bts w A n c (bitl a)) (h2:Bts w A2 n2 c2 (bitl d)) (hn:n≤100000) (hn2:n2≤100000) (hp:0<d) :
 Calls Tryz.prog 98 #[.bool s,.slice A n c,.slice A2 n2 c2] w fun e w'=>∃ b:RB,e=.returned (b.val (ratNeg (mkRat (sgn s a) d)))∧QAt w' b (mkRat (sgn s a) d)∧Below w.heap.size w w':=by
 have hgd:=fun W hW=>rgcd_any (w:=W) (h.below hW) (h2.below hW) hn hn2 (tight_bitl a) (tight_bitl d) (by rw [bvl_bitl];exact hp)
 have hqn:=mk_abs s a d hp;have hqd:=mk_den s a d hp;have hqs:=mk_neg s a d hp;have hl:=h.len;have hl2:=h2.len
 generalize mkRat (sgn s a) d=q at *
 have H1:=Lib.hid h;have H2:=Lib.hid h2;have HGD:=Lib.hid hgd;have HQN:=Lib.hid hqn;have HQD:=Lib.hid hqd;have HQS:=Lib.hid hqs;unfold RB.val;clear h h2 hgd hqn hqd hqs
 go_enter Tryz.func98,Tryz.ntmps98
 go_upto_region 1 with fail
 have hr3:=heap_alloc_new w (.cells #[.bool false,.slice none 0 0,.slice none 0 0] 83);have hbw:=(Below.refl w.heap.size w).alloc (Nat.le_refl _) (.cells #[.bool false,.slice none 0 0,.slice none 0 0] 83)
 obtain ⟨wz,hwz⟩:∃ x,x=w.alloc (.cells #[.bool false,.slice none 0 0,.slice none 0 0] 83):=⟨_,rfl⟩
 rw [←hwz] at hr3 hbw ⊢;have HR3:=Lib.hid hr3;have HBW:=Lib.hid hbw;clear hwz hr3 hbw
 by_cases h1:n2=1
 · have hd1:d=1:=by
    have:=lt_bitl d;rw [hl2,h1] at this;simp at this;omega
   have hg1:Nat.gcd a d=1:=by rw [hd1];exact Nat.gcd_one_right a
   have h1':((n2:Int) == 1)=true:=by simp [h1]
   have HR:=HR3;have HB:=HBW
   have hvx:QAt wz ⟨A,n,c,A2,n2,c2⟩ q:=⟨by rw [HQN.out,hg1,Nat.div_one];exact H1.out.below HBW.out,by rw [HQD.out,hg1,Nat.div_one];exact H2.out.below HBW.out⟩
   have HVAL:=Lib.hid hvx;clear hvx
   have hqs':ratNeg q=(s && decide (0<n)):=by
    rw [HQS.out,hg1,Nat.div_one]
    congr 1
    apply decide_eq_decide.2
    rw [←hl];exact bits_pos.symm
   clear h1 hd1 hg1;obtain ⟨r0,r1,r2⟩:=Box.of HR.out;have s0:=frozen_of_blk HR.out 0;have s1':=frozen_of_blk HR.out 1;have s2':=frozen_of_blk HR.out 2
   cases s
   · have HQ0:=Lib.hid hqs'
     clear hqs'
     go_wp2_with fail
     have hqs:=HQ0.out;rw [Bool.false_and] at hqs;refine bodyPost_ret (v:=.agg #[.bool false,.slice A n c,.slice A2 n2 c2]) (by simp [results,Tryz.results98,go_sem,r0,r1,r2]) rfl ?_;have hval:=HVAL.out;refine ⟨⟨A,n,c,A2,n2,c2⟩,by rw [hqs]<;>rfl,hval.fr (S:=fun b=>b=w.heap.size) (fr_set (fr_set (fr_set (Fr.refl _ _) (.inl rfl)) (.inl rfl)) (.inl rfl)) (typB_of HR.out (by decide)),bl_set (bl_set (bl_set HB.out (Nat.le_refl _)) (Nat.le_refl _)) (Nat.le_refl _)⟩
   · by_cases h0:0<n
     · have h0':(0:Int)<(n:Int):=by omega
       rw [decide_eq_true h0] at hqs';have HQ0:=Lib.hid hqs';clear hqs'
       go_wp2_with fail
       have hqs:=HQ0.out;rw [Bool.true_and] at hqs;refine bodyPost_ret (v:=.agg #[.bool true,.slice A n c,.slice A2 n2 c2]) (by simp [results,Tryz.results98,go_sem,r0,r1,r2]) rfl ?_;have hval:=HVAL.out;refine ⟨⟨A,n,c,A2,n2,c2⟩,by rw [hqs]<;>rfl,hval.fr (S:=fun b=>b=w.heap.size) (fr_set (fr_set (fr_set (Fr.refl _ _) (.inl rfl)) (.inl rfl)) (.inl rfl)) (typB_of HR.out (by decide)),bl_set (bl_set (bl_set HB.out (Nat.le_refl _)) (Nat.le_refl _)) (Nat.le_refl _)⟩
     · have h0':¬ (0:Int)<(n:Int):=by omega
       rw [decide_eq_false h0] at hqs';have HQ0:=Lib.hid hqs';clear hqs'
       go_wp2_with fail
       have hqs:=HQ0.out;rw [Bool.true_and] at hqs;refine bodyPost_ret (v:=.agg #[.bool false,.slice A n c,.slice A2 n2 c2]) (by simp [results,Tryz.results98,go_sem,r0,r1,r2]) rfl ?_;have hval:=HVAL.out;refine ⟨⟨A,n,c,A2,n2,c2⟩,by rw [hqs]<;>rfl,hval.fr (S:=fun b=>b=w.heap.size) (fr_set (fr_set (fr_set (Fr.refl _ _) (.inl rfl)) (.inl rfl)) (.inl rfl)) (typB_of HR.out (by decide)),bl_set (bl_set (bl_set HB.out (Nat.le_refl _)) (Nat.le_refl _)) (Nat.le_refl _)⟩
 · have h1':((n2:Int) == 1)=false:=by rw [beq_eq_false_iff_ne];omega
   have hgd:=HGD.out wz HBW.out;clear h1
   go_upto_region 4 with (go_at_call 113;refine hgd.mono ?_;clear hgd;rintro e w4 ⟨A4,n4,c4,rfl,g,hg,tg,hg0,hn4,hgcd,b4⟩)
   rw [bvl_bitl,bvl_bitl] at hgcd;have hb4:=HBW.out.trans (b4.mono HBW.out.size);have hr4:=box_keep HR3.out b4;have hd1:=rdiv_any (H1.out.below hb4) hg hn hn4 tg hg0;have HG:=Lib.hid hg;have HTG:=Lib.hid tg;have HG0:=Lib.hid hg0;have HGC:=Lib.hid hgcd;have HB4:=Lib.hid hb4;have HR4:=Lib.hid hr4;clear hg tg hg0 b4 hb4 hr4 hgcd
   go_upto_region 5 with (go_at_call 114;refine hd1.mono ?_;clear hd1;rintro e w5 ⟨A5,n5,c5,A6,n6,c6,rfl,q5,r5,hq5,tq5,nq5,hr5,tr5,hlr5,nr5,hqr5,b5⟩)
   rw [bvl_bitl] at hqr5
   have hv5:bvl q5=a / Nat.gcd a d:=by
    rw [←HGC.out,hqr5,Nat.mul_comm,Nat.mul_add_div HG0.out,Nat.div_eq_of_lt hlr5,Nat.add_zero]
   have e5:=tight_eq tq5 hv5;rw [e5] at hq5;have hb5:=HB4.out.trans (b5.mono HB4.out.size);have hr5':=box_keep HR4.out b5;have hd2:=rdiv_any (H2.out.below hb5) (HG.out.below b5) hn2 hn4 HTG.out HG0.out;have HB5:=Lib.hid hb5;have HR5:=Lib.hid hr5';have HQ5:=Lib.hid hq5;clear hq5 tq5 hr5 tr5 hlr5 b5 hb5 hr5' hqr5 hv5 e5
   go_upto_region 6 with (go_at_call 114;refine hd2.mono ?_;clear hd2;rintro e w7 ⟨A7,n7,c7,A8,n8,c8,rfl,q7,r7,hq7,tq7,nq7,hr7,tr7,hlr7,nr7,hqr7,b7⟩)
   rw [bvl_bitl] at hqr7
   have hv7:bvl q7=d / Nat.gcd a d:=by
    rw [←HGC.out,hqr7,Nat.mul_comm,Nat.mul_add_div HG0.out,Nat.div_eq_of_lt hlr7,Nat.add_zero]
   have e7:=tight_eq tq7 hv7;rw [e7] at hq7;have HB:=Lib.hid (HB5.out.trans (b7.mono HB5.out.size));have HR:=Lib.hid (box_keep HR5.out b7)
   have hvx:QAt w7 ⟨A5,n5,c5,A7,n7,c7⟩ q:=⟨by rw [HQN.out];exact HQ5.out.below b7,by rw [HQD.out];exact hq7⟩
   have HVAL:=Lib.hid hvx;clear hvx
   have hqs':ratNeg q=(s && decide (0<n5)):=by
    rw [HQS.out]
    congr 1
    apply decide_eq_decide.2
    rw [←HQ5.out.len];exact bits_pos.symm
   clear hq7 tq7 hr7 tr7 hlr7 b7 hqr7 hv7 e7;obtain ⟨r0,r1,r2⟩:=Box.of HR.out;have s0:=frozen_of_blk HR.out 0;have s1':=frozen_of_blk HR.out 1;have s2':=frozen_of_blk HR.out 2
   cases s
   · have HQ0:=Lib.hid hqs'
     clear hqs'
     go_wp2_with fail
     have hqs:=HQ0.out;rw [Bool.false_and] at hqs;refine bodyPost_ret (v:=.agg #[.bool false,.slice A5 n5 c5,.slice A7 n7 c7]) (by simp [results,Tryz.results98,go_sem,r0,r1,r2]) rfl ?_;have hval:=HVAL.out;refine ⟨⟨A5,n5,c5,A7,n7,c7⟩,by rw [hqs]<;>rfl,hval.fr (S:=fun b=>b=w.heap.size) (fr_set (fr_set (fr_set (Fr.refl _ _) (.inl rfl)) (.inl rfl)) (.inl rfl)) (typB_of HR.out (by decide)),bl_set (bl_set (bl_set HB.out (Nat.le_refl _)) (Nat.le_refl _)) (Nat.le_refl _)⟩
   · by_cases h0:0<n5
     · have h0':(0:Int)<(n5:Int):=by omega
       rw [decide_eq_true h0] at hqs';have HQ0:=Lib.hid hqs';clear hqs'
       go_wp2_with fail
       have hqs:=HQ0.out;rw [Bool.true_and] at hqs;refine bodyPost_ret (v:=.agg #[.bool true,.slice A5 n5 c5,.slice A7 n7 c7]) (by simp [results,Tryz.results98,go_sem,r0,r1,r2]) rfl ?_;have hval:=HVAL.out;refine ⟨⟨A5,n5,c5,A7,n7,c7⟩,by rw [hqs]<;>rfl,hval.fr (S:=fun b=>b=w.heap.size) (fr_set (fr_set (fr_set (Fr.refl _ _) (.inl rfl)) (.inl rfl)) (.inl rfl)) (typB_of HR.out (by decide)),bl_set (bl_set (bl_set HB.out (Nat.le_refl _)) (Nat.le_refl _)) (Nat.le_refl _)⟩
     · have h0':¬ (0:Int)<(n5:Int):=by omega
       rw [decide_eq_false h0] at hqs';have HQ0:=Lib.hid hqs';clear hqs'
       go_wp2_with fail
       have hqs:=HQ0.out;rw [Bool.true_and] at hqs;refine bodyPost_ret (v:=.agg #[.bool false,.slice A5 n5 c5,.slice A7 n7 c7]) (by simp [results,Tryz.results98,go_sem,r0,r1,r2]) rfl ?_;have hval:=HVAL.out;refine ⟨⟨A5,n5,c5,A7,n7,c7⟩,by rw [hqs]<;>rfl,hval.fr (S:=fun b=>b=w.heap.size) (fr_set (fr_set (fr_set (Fr.refl _ _) (.inl rfl)) (.inl rfl)) (.inl rfl)) (typB_of HR.out (by decide)),bl_set (bl_set (bl_set HB.out (Nat.le_refl _)) (Nat.le_refl _)) (Nat.le_refl _)⟩
end Go.Proofs.YtdefcbfofonabaaGreat
