/- Rows of rational numbers as lists of cells. -/
import Derived.Test.YtdefcbfofonabaaGreatSmCheck
import Derived.Test.YtdefcbfofonabaaGreatRegE
import Derived.Test.YtdefcbfofonabaaGreatRatE
namespace Go.Proofs.YtdefcbfofonabaaGreat
open Go.RowKit
set_option linter.unusedVariables false
set_option linter.unusedSimpArgs false
def ratCells (r:RB) (q:Rat):List Value:=[.bool (ratNeg q),.slice r.A r.n r.c,.slice r.A2 r.n2 r.c2]
def rtL (rf:Nat→RB) (f:Nat→Rat) (n:Nat):List Value:=(List.range n).flatMap fun j=>ratCells (rf j) (f j)
theorem rtL_snoc (rf:Nat→RB) (f:Nat→Rat) (n:Nat):rtL rf f (n+1)=rtL rf f n ++ ratCells (rf n) (f n):=by
 unfold rtL;rw [List.range_succ,List.flatMap_append,List.flatMap_singleton]
theorem rtL_len (rf:Nat→RB) (f:Nat→Rat):∀ n,(rtL rf f n).length=n*3
 | 0=>rfl
 | n+1=>by
   rw [rtL_snoc,List.length_append,rtL_len rf f n];simp [ratCells];omega
theorem rtL_at (rf:Nat→RB) (f:Nat→Rat):∀ {n j i:Nat},j<n→i<3→(rtL rf f n)[j*3+i]?=(ratCells (rf j) (f j))[i]?
 | 0,j,i,h,_=>by omega
 | n+1,j,i,h,hi=>by
   have hl:=rtL_len rf f n;rw [rtL_snoc]
   by_cases h2:j<n
   · rw [List.getElem?_append_left (by omega)]
     exact rtL_at rf f h2 hi
   · have h3:j=n:=by omega
     subst h3;rw [List.getElem?_append_right (by omega),hl,show j*3+i - j*3=i by omega]
theorem rtL_one (rf:Nat→RB) (f:Nat→Rat) (n:Nat):∀ u ∈ rtL rf f n,u.oneCell'=true:=fun u hu=>by
 unfold rtL at hu;obtain ⟨j,_,hu⟩:=List.mem_flatMap.1 hu;simp [ratCells] at hu
 rcases hu with rfl | rfl | rfl<;>rfl
def RowF (w:World) (g n:Nat) (f:Nat→Rat) (k:Nat) (rf:Nat→RB):Prop:=∀ j,j<n→(w.cell? ⟨g,j*3,none⟩=some (.bool (ratNeg (f j)))∧w.cell? ⟨g,j*3+1,none⟩=some (.slice (rf j).A (rf j).n (rf j).c)∧w.cell? ⟨g,j*3+2,none⟩=some (.slice (rf j).A2 (rf j).n2 (rf j).c2))∧RatAt w (rf j) (f j)∧RatLe (f j) k
theorem RRow.list {w:World} {g n k:Nat} {f:Nat→Rat} (h:RRow w g n f k):∃ rf,RowF w g n f k rf:=by
 have h1:∀ j,∃ r:RB,j<n→(w.cell? ⟨g,j*3,none⟩=some (.bool (ratNeg (f j)))∧w.cell? ⟨g,j*3+1,none⟩=some (.slice r.A r.n r.c)∧w.cell? ⟨g,j*3+2,none⟩=some (.slice r.A2 r.n2 r.c2))∧RatAt w r (f j)∧RatLe (f j) k:=fun j=>by
  by_cases hj:j<n
  · obtain ⟨r,h0,h1,h2,h3,h4⟩:=h.at_ j hj
    exact ⟨r,fun _=>⟨⟨h0,h1,h2⟩,h3,h4⟩⟩
  · exact ⟨⟨none,0,0,none,0,0⟩,fun hj'=>absurd hj' hj⟩
 exact ⟨fun j=>Classical.choose (h1 j),fun j hj=>Classical.choose_spec (h1 j) hj⟩
theorem RowF.rd {w:World} {g n k:Nat} {f:Nat→Rat} {rf:Nat→RB} (h:RowF w g n f k rf):Rd w 3 (some ⟨g,0,none⟩) n (rtL rf f n):=by
 refine ⟨rtL_len _ _ _,fun _=>⟨g,0,rfl,fun j u hu=>?_⟩⟩;rw [Nat.zero_add];have hl:=(List.getElem?_eq_some_iff.1 hu).1;rw [rtL_len] at hl
 obtain ⟨q,i,e,hi⟩:∃ q i,j=q*3+i∧i<3:=⟨j / 3,j % 3,by omega,by omega⟩
 subst e
 have hq:q<n:=by omega
 rw [rtL_at rf f hq hi] at hu;obtain ⟨⟨h0,h1,h2⟩,_⟩:=h q hq
 have:i=0∨i=1∨i=2:=by omega
 rcases this with rfl | rfl | rfl
 · rw [Nat.add_zero,h0]
   simpa [ratCells] using hu
 · rw [h1]
   simpa [ratCells] using hu
 · rw [h2]
   simpa [ratCells] using hu
theorem RRow.of_own {w:World} {B n k:Nat} {v:Value} {f:Nat→Rat} {rf:Nat→RB} (h:w.ownsRow B 26 3 v n (rtL rf f n)) (hn:0<n) (hr:∀ j,j<n→RatAt w (rf j) (f j)∧RatLe (f j) k):∃ g c,v=.slice (some ⟨g,0,none⟩) n c∧n≤c∧B≤g∧RRow w g n f k:=by
 obtain ⟨A,c,g,e,hc,h1,h2⟩:=own_open h;obtain ⟨eA,hB,hw,_⟩:=h1 hn;subst eA;refine ⟨g,c,e,hc,hB,fun _=>hw,fun j hj=>⟨rf j,?_,?_,?_,(hr j hj).1,(hr j hj).2⟩⟩
 · have:=h2 _ _ ((rtL_at rf f hj (by decide:0<3)).trans rfl)
   exact this
 · exact h2 _ _ ((rtL_at rf f hj (by decide:1<3)).trans rfl)
 · exact h2 _ _ ((rtL_at rf f hj (by decide:2<3)).trans rfl)
def absZ (q:Rat):Rat:=if q.num<0 then -q else q
theorem absZ_num (q:Rat):(absZ q).num.natAbs=q.num.natAbs:=by
 unfold absZ
 split
 · rw [Rat.neg_num,Int.natAbs_neg]
 · rfl
theorem absZ_den (q:Rat):(absZ q).den=q.den:=by
 unfold absZ
 split
 · rw [Rat.neg_den]
 · rfl
theorem absZ_neg (q:Rat):ratNeg (absZ q)=false:=by
 unfold absZ ratNeg
 split
 · rename_i h
   rw [Rat.neg_num];simp;omega
 · rename_i h
   simpa using h
theorem absZ_at {w:World} {b:RB} {q:Rat} (h:RatAt w b q):RatAt w b (absZ q):=by
 refine ⟨by rw [absZ_num];exact h.num,?_⟩
 have:ratDen (absZ q)=ratDen q:=by
  unfold ratDen;rw [absZ_den]
 rw [this];exact h.den
theorem absZ_le {q:Rat} {k:Nat} (h:RatLe q k):RatLe (absZ q) k:=⟨by rw [absZ_num];exact h.num,by rw [absZ_den];exact h.den⟩
theorem absZ_pos {q:Rat} (h:q≠0):0<absZ q:=by
 unfold absZ
 split
 · rename_i h1
   have:=num_ltz.1 h1
   grind
 · rename_i h1
   have:=fun h'=>h1 (num_ltz.2 h')
   grind
end Go.Proofs.YtdefcbfofonabaaGreat

namespace Go.Proofs.YtdefcbfofonabaaGreat
open Go.RowKit
set_option linter.unusedVariables false
set_option linter.unusedSimpArgs false
theorem info_intU:(Tryz.prog.info? 3).map (fun i=>(i.zero,i.size,i.bytes))=some (some (.int .i64 0),1,8):=by kernel_rfl
def usedL (t:Nat→Rat) (n:Nat):List Nat:=(List.range n).filter fun i=>decide (t i≠0)
def natsL (l:List Nat):List Value:=l.map fun i=>.int .i64 ((i:Nat):Int)
theorem usedL_len (t:Nat→Rat) (n:Nat):(usedL t n).length≤n:=by
 have:=List.length_filter_le (fun i=>decide (t i≠0)) (List.range n)
 rwa [List.length_range] at this
theorem usedL_yes {t:Nat→Rat} {n:Nat} (h:t n≠0):usedL t (n+1)=usedL t n ++ [n]:=by
 unfold usedL;rw [List.range_succ,List.filter_append]
 congr 1
 simp [h]
theorem usedL_no {t:Nat→Rat} {n:Nat} (h:t n=0):usedL t (n+1)=usedL t n:=by
 unfold usedL;rw [List.range_succ,List.filter_append];simp [h]
def UsedP (w:World) (t:Nat→Rat) (n:Nat) (e:Ending) (w':World):Prop:=∃ A c,e=.returned (.slice A (usedL t n).length c)∧Rd w' 1 A (usedL t n).length (natsL (usedL t n))∧Below w.heap.size w w'
set_option maxRecDepth 100000 in
set_option maxHeartbeats 4000000 in
theorem used_any (g n cc k:Nat) (t:Nat→Rat) (w:World) (h:RRow w g n t k) (hn:n≤1000) :
 Calls Tryz.prog 14 #[.slice (some ⟨g,0,none⟩) n cc] w fun e w'=>UsedP w t n e w':=by
 have H:=Lib.hid h;obtain ⟨i0,hi,hz0,hz1,hz2⟩:=info_parts info_intU;clear h
 go_enter Tryz.func14,Tryz.ntmps14
 go_wp2_with fail
 go_loopw [3,8] (fun v x wr=>∃ i:Nat,i≤n∧x=.int .i64 i∧wr.ownsRow w.heap.size 3 1 v (usedL t i).length (natsL (usedL t i))∧Below w.heap.size w wr) (fun _ x _=>n - (intOf x).toNat)
 case atStart=>exact ⟨0,Nat.zero_le _,by first | rfl | go_num,World.ownsRow_nil _ _ _ _,Below.refl _ _⟩
 case round =>
  obtain ⟨i,hin,rfl,hown,hb⟩:=hrel
  obtain ⟨w5,rfl⟩:∃ x,x=wr:=⟨_,rfl⟩
  by_cases hlt:i<n
  · obtain ⟨r,y0,y1,y2,hr,hl⟩:=(H.out.below hb).at_ i hlt
    obtain ⟨q,hq⟩:∃ q,q=t i:=⟨_,rfl⟩
    rw [←hq] at y0 hr
    have b0:(0:Int)≤(i:Int):=by omega
    have b1:(i:Int)<(n:Int):=by omega
    have HR:=Lib.hid hr;have HO:=Lib.hid (And.intro hown hb);have HQ:=Lib.hid hq;clear hr hl hown hb hq
    go_upto_region 5 with fail
    have hx5:=heap_alloc_new w5 (.cells #[.bool (ratNeg q),.slice r.A r.n r.c,.slice r.A2 r.n2 r.c2] 26)
    have zw6:(w5.alloc (.cells #[.bool (ratNeg q),.slice r.A r.n r.c,.slice r.A2 r.n2 r.c2] 26)).heap.size=w5.heap.size+1:=by simp
    have aw6:=(Below.refl w5.heap.size w5).alloc (Nat.le_refl _) (.cells #[.bool (ratNeg q),.slice r.A r.n r.c,.slice r.A2 r.n2 r.c2] 26)
    obtain ⟨w6,ew6⟩:∃ x0,x0=w5.alloc (.cells #[.bool (ratNeg q),.slice r.A r.n r.c,.slice r.A2 r.n2 r.c2] 26):=⟨_,rfl⟩
    rw [←ew6] at hx5 zw6 aw6 ⊢;clear ew6;obtain ⟨p0,p1,p2⟩:=box3 hx5;have hsg:=sign_any r q w6 (HR.out.below aw6);unfold RB.val at hsg;have hsz:=@signZ_nul q
    obtain ⟨z,hz⟩:∃ z,z=signZ q:=⟨_,rfl⟩
    rw [←hz] at hsg hsz;have HSG:=Lib.hid hsg;have HSZ:=Lib.hid hsz;have HA6:=Lib.hid aw6;clear hsg hsz hx5 zw6 aw6 y0 y1 y2 hz
    by_cases hz0':z=0
    · subst hz0'
      go_wp2_with (go_at_call 33;refine HSG.out.mono ?_;clear HSG;rintro e w7 ⟨rfl,hb7⟩;have HB7:=Lib.hid (HA6.out.trans (hb7.mono HA6.out.size));clear hb7)
      go_roundw
      case rel =>
       have e:=HQ.out;rw [HSZ.out.1 (by simp)] at e;refine ⟨i+1,by omega,by go_num,?_,HO.out.2.trans (HB7.out.mono HO.out.2.size)⟩;rw [usedL_no e.symm];exact own_below HO.out.1 HB7.out
      case measure=>simp [intOf];omega
    · have hz1':(z != 0)=true:=by simpa using hz0'
      have hti:t i≠0:=fun e=>hz0' (HSZ.out.2 (by rw [HQ.out,e]))
      have HTI:=Lib.hid hti;have HLN:=Lib.hid (show ((usedL t i).length+1)*8≤140737488355328 by have:=usedL_len t i;omega);clear hz0' hti
      go_wp2_with (first | (go_at_call 33;refine HSG.out.mono ?_;clear HSG;rintro e w7 ⟨rfl,hb7⟩;have hb57:=HA6.out.trans (hb7.mono HA6.out.size);have hal:=(Below.refl w7.heap.size w7).alloc (Nat.le_refl _) (.cells #[.int .i64 (i:Int)] 3);have hb58:=hb57.trans (hal.mono hb57.size);have HO8:=Lib.hid (And.intro (own_below HO.out.1 hb58) (HO.out.2.trans (hb58.mono HO.out.2.size)));have HRD:=Lib.hid (rd_of_blk (heap_alloc_new w7 (.cells #[.int .i64 (i:Int)] 3)) (by rfl:(#[Value.int .i64 (i:Int)]:Array Value).size=1));clear hb7 hb57 hal hb58) | (at_builtin;refine appRk w.heap.size _ 1 3 rfl _ _ 51 rfl i0 _ 8 Tryz.underlying51 hi hz0 hz1 hz2 rfl (by decide) (by decide) _ (usedL t i).length (natsL (usedL t i)) rfl HO8.out.2.size HO8.out.1 _ 1 1 [.int .i64 (i:Int)] rfl HRD.out (by intro u hu;simp at hu;rw [hu];rfl) HLN.out ?_;intro v9 w9 ho9 hf9 hk9;have HO9:=Lib.hid (And.intro ho9 (HO8.out.2.trans (hf9.below HO8.out.2.size (fun b hb=>(own_lt HO8.out.1 hb).1))));clear ho9 hf9 hk9))
      go_roundw
      case rel =>
       refine ⟨i+1,by omega,by go_num,?_,HO9.out.2⟩;have:=HO9.out.1;rw [usedL_yes HTI.out,List.length_append];unfold natsL at this ⊢;rw [List.map_append];exact this
      case measure=>simp [intOf];omega
  · obtain rfl:n=i:=by omega
    have hlt2:¬ (n<n):=by omega
    obtain ⟨Ax,cx,rfl,hc,hr⟩:=ownsRow_form hown;have HP:=Lib.hid (And.intro hr hb);clear hown hb hr hc
    go_wp2_with fail
    go_ret;exact ⟨Ax,cx,rfl,HP.out.1,HP.out.2⟩
end Go.Proofs.YtdefcbfofonabaaGreat

namespace Go.Proofs.YtdefcbfofonabaaGreat
open Go.RowKit
set_option linter.unusedVariables false
set_option linter.unusedSimpArgs false
def LeastP (w:World) (t:Nat→Rat) (n k:Nat) (e:Ending) (w':World):Prop:=∃ (go c:Nat) (s:Rat),e=.returned (.slice (some ⟨go,0,none⟩) n c)∧RRow w' go n (fun i=>t i*s) (k+k)∧0<s∧Below w.heap.size w w'
theorem abs_zr (rA:Option Addr) (rc:Nat) (rA2:Option Addr) (rn2 rc2:Nat) (s:Bool) (w:World):Calls Tryz.prog 35 #[.agg #[.bool s,.slice rA 0 rc,.slice rA2 rn2 rc2]] w fun e w'=>e=.returned (.agg #[.bool false,.slice rA 0 rc,.slice rA2 rn2 rc2])∧Below w.heap.size w w':=abs_any s ⟨rA,0,rc,rA2,rn2,rc2⟩ w
set_option maxRecDepth 100000 in
set_option maxHeartbeats 4000000 in
theorem least_any (g n cc k:Nat) (t:Nat→Rat) (w:World) (h:RRow w g n t k) (hn:n≤1000) (hn0:0<n) (hk:k≤1000) :
 Calls Tryz.prog 13 #[.slice (some ⟨g,0,none⟩) n cc] w fun e w'=>LeastP w t n k e w':=by
 have H:=Lib.hid h;obtain ⟨i0,hi,hz0,hz1,hz2⟩:=info_parts info_rat3;obtain ⟨rf,hrf⟩:=h.list;have HRF:=Lib.hid hrf;have HBY:=Lib.hid (show (0+n)*56≤140737488355328 by omega);clear h hrf
 go_enter Tryz.func13,Tryz.ntmps13
 go_upto_region 2 with (at_builtin;refine appRn w.heap.size w _ 3 26 rfl _ _ 30 rfl i0 _ 56 Tryz.underlying30 hi hz0 hz1 hz2 rfl (by decide) (by decide) (.slice none 0 0) 0 [] rfl (Nat.le_refl _) (World.ownsRow_nil _ _ _ _) (Below.refl _ _) (some ⟨g,0,none⟩) n cc (rtL rf t n) rfl HRF.out.rd (rtL_one rf t n) HBY.out ?_;intro v1 w1 ho1 hb1 hg1;rw [Nat.zero_add,List.nil_append] at ho1;obtain ⟨go,c1,rfl,hc1,hgo,hrr1⟩:=RRow.of_own ho1 hn0 (fun j hj=>⟨(HRF.out j hj).2.1.below hb1,(HRF.out j hj).2.2⟩);have HR1:=Lib.hid (And.intro hrr1 (And.intro hgo hb1));clear ho1 hb1 hg1 hc1 hgo hrr1)
 go_wp2_with fail
 go_loopw [13] (fun x wr=>∃ i:Nat,i≤n∧x=.int .i64 i∧Below w1.heap.size w1 wr) (fun x _=>n - (intOf x).toNat)
 case atStart=>exact ⟨0,Nat.zero_le _,by first | rfl | go_num,Below.refl _ _⟩
 case round =>
  obtain ⟨i,hin,rfl,hb⟩:=hrel
  obtain ⟨w5,rfl⟩:∃ x,x=wr:=⟨_,rfl⟩
  by_cases hlt:i<n
  · obtain ⟨r,y0,y1,y2,hr,hl⟩:=(H.out.below (HR1.out.2.2.trans (hb.mono HR1.out.2.2.size))).at_ i hlt
    obtain ⟨q,hq⟩:∃ q,q=t i:=⟨_,rfl⟩
    rw [←hq] at y0 hr hl
    have b0:(0:Int)≤(i:Int):=by omega
    have b1:(i:Int)<(n:Int):=by omega
    have HB:=Lib.hid hb;clear hb hq
    by_cases hq0:q=0
    · have hn0':=(ratNum_nil hr).2 (by rw [hq0];rfl)
      obtain ⟨rA,rn,rc,rA2,rn2,rc2⟩:=r
      dsimp only at y1 y2 hn0'
      subst hn0';clear hr hl hq0
      go_upto_region 5 with fail
      have hx5:=heap_alloc_new w5 (.cells #[.bool (ratNeg q),.slice rA 0 rc,.slice rA2 rn2 rc2] 26)
      have zw6:(w5.alloc (.cells #[.bool (ratNeg q),.slice rA 0 rc,.slice rA2 rn2 rc2] 26)).heap.size=w5.heap.size+1:=by simp
      have aw6:=(Below.refl w5.heap.size w5).alloc (Nat.le_refl _) (.cells #[.bool (ratNeg q),.slice rA 0 rc,.slice rA2 rn2 rc2] 26)
      obtain ⟨w6,ew6⟩:∃ x0,x0=w5.alloc (.cells #[.bool (ratNeg q),.slice rA 0 rc,.slice rA2 rn2 rc2] 26):=⟨_,rfl⟩
      rw [←ew6] at hx5 zw6 aw6 ⊢;clear ew6;obtain ⟨p0,p1,p2⟩:=box3 hx5;have HA6:=Lib.hid aw6;clear hx5 aw6 zw6 y0 y1 y2
      go_upto_region 6 with (first | (go_at_call 35;refine (abs_zr _ _ _ _ _ _ _).mono ?_;rintro e w7 ⟨rfl,hb7⟩;have HB7:=Lib.hid (HA6.out.trans (hb7.mono HA6.out.size));clear hb7) | (go_at_call 34;refine (inv_zero _ _ _ _ _ _ _).mono ?_;unfold ratZero;rintro e w8 ⟨rfl,hb8⟩;have HB8:=Lib.hid (HB7.out.trans (hb8.mono HB7.out.size));clear hb8))
      have hx9:=heap_alloc_new w8 (.cells #[.bool false,.slice none 0 0,.slice none 0 0] 26)
      have zw9:(w8.alloc (.cells #[.bool false,.slice none 0 0,.slice none 0 0] 26)).heap.size=w8.heap.size+1:=by simp
      have aw9:=(Below.refl w8.heap.size w8).alloc (Nat.le_refl _) (.cells #[.bool false,.slice none 0 0,.slice none 0 0] 26)
      obtain ⟨w9,ew9⟩:∃ x0,x0=w8.alloc (.cells #[.bool false,.slice none 0 0,.slice none 0 0] 26):=⟨_,rfl⟩
      rw [←ew9] at hx9 zw9 aw9 ⊢;clear ew9;have HA9:=Lib.hid (HB8.out.trans (aw9.mono HB8.out.size));clear hx9 aw9 zw9
      go_wp2_with fail
      go_roundw
      case rel=>exact ⟨i+1,by omega,by go_num,HB.out.trans (HA9.out.mono HB.out.size)⟩
      case measure=>simp [intOf];omega
    · have hab:=fun W (hW:RatAt W r q)=>absZ_at hW
      have haz:absZ q≠0:=by have:=absZ_pos hq0;grind
      have hiv:=fun W (hW:RatAt W r q)=>inv_any r (absZ q) W (absZ_at hW) k (by omega) (absZ_le hl) haz
      have hsp:0<(absZ q)⁻¹:=Rat.inv_pos.2 (absZ_pos hq0);have hsl:RatLe (absZ q)⁻¹ k:=inv_le (absZ_le hl) haz;rw [absZ_neg] at hiv
      have habs:=fun W=>abs_any (ratNeg q) r W
      unfold RB.val at hiv habs
      obtain ⟨s,hs⟩:∃ s,s=(absZ q)⁻¹:=⟨_,rfl⟩
      rw [←hs] at hiv hsp hsl;have HIV:=Lib.hid hiv;have HAB:=Lib.hid habs;have HSP:=Lib.hid (And.intro hsp hsl);have HRQ:=Lib.hid hr;clear hab haz hiv hsp hsl habs hs hr hl hq0
      go_upto_region 5 with fail
      have hx5:=heap_alloc_new w5 (.cells #[.bool (ratNeg q),.slice r.A r.n r.c,.slice r.A2 r.n2 r.c2] 26)
      have zw6:(w5.alloc (.cells #[.bool (ratNeg q),.slice r.A r.n r.c,.slice r.A2 r.n2 r.c2] 26)).heap.size=w5.heap.size+1:=by simp
      have aw6:=(Below.refl w5.heap.size w5).alloc (Nat.le_refl _) (.cells #[.bool (ratNeg q),.slice r.A r.n r.c,.slice r.A2 r.n2 r.c2] 26)
      obtain ⟨w6,ew6⟩:∃ x0,x0=w5.alloc (.cells #[.bool (ratNeg q),.slice r.A r.n r.c,.slice r.A2 r.n2 r.c2] 26):=⟨_,rfl⟩
      rw [←ew6] at hx5 zw6 aw6 ⊢;clear ew6;obtain ⟨p0,p1,p2⟩:=box3 hx5;have HA6:=Lib.hid aw6;clear hx5 aw6 zw6 y0 y1 y2
      go_upto_region 6 with (first | (go_at_call 35;refine (HAB.out _).mono ?_;rintro e w7 ⟨rfl,hb7⟩;have HB7:=Lib.hid (HA6.out.trans (hb7.mono HA6.out.size));clear hb7) | (go_at_call 34;refine (HIV.out _ (HRQ.out.below HB7.out)).mono ?_;rintro e w8 ⟨b6,rfl,hr8,hb8⟩;have HB8:=Lib.hid (And.intro hr8 (HB7.out.trans (hb8.mono HB7.out.size)));clear hr8 hb8))
      have hx9:=heap_alloc_new w8 (.cells #[.bool (ratNeg s),.slice b6.A b6.n b6.c,.slice b6.A2 b6.n2 b6.c2] 26)
      have zw9:(w8.alloc (.cells #[.bool (ratNeg s),.slice b6.A b6.n b6.c,.slice b6.A2 b6.n2 b6.c2] 26)).heap.size=w8.heap.size+1:=by simp
      have aw9:=(Below.refl w8.heap.size w8).alloc (Nat.le_refl _) (.cells #[.bool (ratNeg s),.slice b6.A b6.n b6.c,.slice b6.A2 b6.n2 b6.c2] 26)
      obtain ⟨w9,ew9⟩:∃ x0,x0=w8.alloc (.cells #[.bool (ratNeg s),.slice b6.A b6.n b6.c,.slice b6.A2 b6.n2 b6.c2] 26):=⟨_,rfl⟩
      rw [←ew9] at hx9 zw9 aw9 ⊢;clear ew9
      obtain ⟨g6,hg6⟩:∃ x0,x0=w8.heap.size:=⟨_,rfl⟩
      rw [←hg6] at hx9 ⊢;have k59:=HB8.out.2.trans (aw9.mono HB8.out.2.size);have k19:=HB.out.trans (k59.mono HB.out.size);have hrr9:=(HR1.out.1.below k19).up (show k≤k+k by omega)
      have hgo6:g6≠go:=by
       have h1:=(HR1.out.1.wr hn0).lt;have h2:=HB.out.size;have h3:=HB8.out.2.size;omega
      have hrr90:RRow w9 go n (fun i=>if i<0 then t i*s else t i) (k+k):=hrr9.congr fun i _=>by rw [if_neg (by omega)]
      have H9:=Lib.hid (And.intro hx9 (And.intro (HB8.out.1.below aw9) (And.intro k19 (And.intro hrr90 hgo6))));clear hx9 aw9 zw9 hg6 k59 k19 hrr9 hgo6 hrr90
      go_wp2_with fail
      go_loopw [26] (fun x wr=>∃ j:Nat,j≤n∧x=.int .i64 j∧RRow wr go n (fun i=>if i<j then t i*s else t i) (k+k)∧Fr (fun b=>b=go) w9 wr) (fun x _=>n - (intOf x).toNat)
      case atStart=>exact ⟨0,Nat.zero_le _,by first | rfl | go_num,H9.out.2.2.2.1,Fr.refl _ _⟩
      case round =>
       obtain ⟨j,hjn,rfl,hrw,hfw⟩:=hrel
       obtain ⟨w10,rfl⟩:∃ x,x=wr:=⟨_,rfl⟩
       by_cases hlt2:j<n
       · obtain ⟨rj,y0,y1,y2,hrj,hlj⟩:=hrw.at_ j hlt2
         have hxj:(if j<j then t j*s else t j)=t j:=if_neg (by omega);rw [hxj] at y0 hrj hlj
         obtain ⟨x,hx⟩:∃ x,x=t j:=⟨_,rfl⟩
         rw [←hx] at y0 hrj hlj;have hx6:=(hfw.block g6 (lt_of_blk H9.out.1) H9.out.2.2.2.2).trans H9.out.1;have hr6:=H9.out.2.1.frT hfw ((H9.out.2.2.2.1.wr hn0).noU (by decide))
         have hxl:RatLe x k:=by
          obtain ⟨_,_,_,_,_,hl⟩:=H.out.at_ j hlt2;rw [hx];exact hl
         have hml:=fun W (hW:Below w10.heap.size w10 W)=>rmul_any rj b6 x s W (hrj.below hW) (hr6.below hW) k (by omega) hxl HSP.out.2
         have hpl:RatLe (x*s) (k+k):=mul_le hxl HSP.out.2;unfold RB.val at hml
         have hcs:∀ W',Below w10.heap.size w10 W'→(W'.cell? ⟨go,j*3,none⟩=some (.bool (ratNeg x))∧W'.cell? ⟨go,j*3+1,none⟩=some (.slice rj.A rj.n rj.c)∧W'.cell? ⟨go,j*3+2,none⟩=some (.slice rj.A2 rj.n2 rj.c2))∧(W'.cell? ⟨g6,0,none⟩=some (.bool (ratNeg s))∧W'.cell? ⟨g6,1,none⟩=some (.slice b6.A b6.n b6.c)∧W'.cell? ⟨g6,2,none⟩=some (.slice b6.A2 b6.n2 b6.c2)):=fun W' hb=>by
          have k1:∀ {g i:Nat} {x:Value},w10.cell? ⟨g,i,none⟩=some x→W'.cell? ⟨g,i,none⟩=some x:=fun {g i x} e=>(hb.cell (p:=⟨g,i,none⟩) (World.block_lt_of_cell? w10 _ e)).trans e
          exact ⟨⟨k1 y0,k1 y1,k1 y2⟩,box3 (box_keep hx6 hb)⟩
         have c1:(0:Int)≤(j:Int):=by omega
         have c2:(j:Int)<(n:Int):=by omega
         have HCS:=Lib.hid hcs;have HML:=Lib.hid hml;have HPL:=Lib.hid hpl;have HRW:=Lib.hid hrw;have HFW:=Lib.hid hfw;have HTJ:=Lib.hid hx;clear y0 y1 y2 hrj hlj hxj hx hx6 hr6 hxl hml hpl hcs hrw hfw
         go_upto_region 10 with fail
         have kb:Below w10.heap.size w10 w10.drew:=below_drew2 (Below.refl _ _);have hS:=HCS.out w10.drew kb;refine wp_region_E 9 (fun W'=>(W'.cell? ⟨go,j*3,none⟩=some (.bool (ratNeg x))∧W'.cell? ⟨go,j*3+1,none⟩=some (.slice rj.A rj.n rj.c)∧W'.cell? ⟨go,j*3+2,none⟩=some (.slice rj.A2 rj.n2 rj.c2))∧(W'.cell? ⟨g6,0,none⟩=some (.bool (ratNeg s))∧W'.cell? ⟨g6,1,none⟩=some (.slice b6.A b6.n b6.c)∧W'.cell? ⟨g6,2,none⟩=some (.slice b6.A2 b6.n2 b6.c2))) (by kernel_rfl) ?_;generalize w10.drew=w11 at kb hS ⊢;refine tkE 0 hS ?_;simp only [Act.put,sA,sZ,sS];refine tkE 1 hS ?_;simp only [Act.put,sA,sZ,sS];refine tkE 2 hS ?_;simp only [Act.put,sA,sZ,sS];refine tkE 3 hS ?_;simp only [Act.put,sA,sZ,sS];refine tkE 4 hS ?_;simp only [Act.put,sA,sZ,sS];refine tkE 5 hS ?_;simp only [Act.put,sA,sZ,sS];refine tkE 6 hS ?_;simp only [Act.put,sA,sZ,sS]
         refine onE 7 fun KK HKK7=>?_
         go_simp
         go_at_call 22
         refine (HML.out _ kb).mono ?_;rintro e u1 ⟨b1,rfl,hr1,hb1⟩;have hS:=HCS.out u1 (kb.trans (hb1.mono kb.size));replace kb:=kb.trans (hb1.mono kb.size);clear hb1;refine HKK7.out _ _ (.inr hS) ?_;clear HKK7
         try simp only [Act.put,sA,sZ,sS]
         refine tkE 8 hS ?_;simp only [Act.put,sA,sZ,sS];have hrr:=HRW.out.below kb;obtain ⟨rk9,q0,q1,q2,_,_⟩:=hrr.at_ j hlt2
         have z0:=fun i=>(hrr.wr (by omega)).fz i
         have HRR:=Lib.hid hrr;have HR1:=Lib.hid hr1;have HKB:=Lib.hid kb;clear hS hrr hr1 kb
         refine onE 9 fun KK HKK9=>?_
         go_simp;refine HKK9.out _ _ (.inl rfl) ?_;clear HKK9;refine wpAnyE_done (by kernel_rfl) ?_ _
         go_wp2_with fail
         go_roundw
         case rel =>
          refine ⟨j+1,by omega,by go_num,(HRR.out.put hlt2 HR1.out HPL.out).congr fun i hi=>?_,(HFW.out.trans (Fr.of_below (S:=fun b=>b=go) HKB.out) (fun b hb=>.inl hb)).trans (pu3_fr _ go (j*3) b1 _) (fun b hb=>.inl hb)⟩
          by_cases e:i=j
          · subst e
            rw [updF_self,if_pos (by omega),HTJ.out]
          · rw [updF_ne _ _ e]
            by_cases e2:i<j
            · rw [if_pos e2,if_pos (by omega)]
            · rw [if_neg e2,if_neg (by omega)]
         case measure=>simp [intOf];omega
       · obtain rfl:n=j:=by omega
         have hlt3:¬ ((n:Int)<(n:Int)):=by omega
         have HRW:=Lib.hid (And.intro hrw hfw);clear hrw hfw hlt2
         go_wp2_with fail
         go_ret;refine ⟨go,c1,s,rfl,HRW.out.1.congr fun i hi=>if_pos hi,HSP.out.1,?_⟩;have k9:=HR1.out.2.2.trans (H9.out.2.2.1.mono HR1.out.2.2.size);exact k9.trans (HRW.out.2.below k9.size (fun b hb=>by rw [hb];exact HR1.out.2.1))
  · obtain rfl:n=i:=by omega
    have hlt2:¬ ((n:Int)<(n:Int)):=by omega
    have HB:=Lib.hid hb;clear hb hlt
    go_wp2_with fail
    go_ret;refine ⟨go,c1,1,rfl,((HR1.out.1.below HB.out).up (by omega)).congr fun i _=>by grind,by decide,HR1.out.2.2.trans (HB.out.mono HR1.out.2.2.size)⟩
end Go.Proofs.YtdefcbfofonabaaGreat
