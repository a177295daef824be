/- Contract of attestref21.Feasible. -/
import Derived.Test.YtdefcbfofonabaaGreatRxBnd
import Derived.Test.YtdefcbfofonabaaGreatDeC
import Derived.Deep.CutBlock
namespace Go.Proofs.YtdefcbfofonabaaGreat
open Go.RowKit
set_option linter.unusedVariables false
set_option linter.unusedSimpArgs false
def lp1 (v:Int) (l:List Bd):List Bd:=l.filter fun b=>decide (0<b.c v)
def lm1 (v:Int) (l:List Bd):List Bd:=l.filter fun b=>decide (b.c v<0)
def l01 (v:Int) (l:List Bd):List Bd:=l.filter fun b=>decide (b.c v=0)
theorem bds_snoc (l:List BX) (x:BX):(l ++ [x]).map (·.2)=l.map (·.2) ++ [x.2]:=by simp
theorem filt_snoc (p:Bd→Bool) (l:List BX) (i:Nat) (x:BX) (h:l[i]?=some x):((l.take (i+1)).map (·.2)).filter p=((l.take i).map (·.2)).filter p ++ (if p x.2 then [x.2] else []):=by
 rw [take_snoc h,bds_snoc,List.filter_append]
 congr 1
 by_cases hp:p x.2=true<;>simp [hp]
theorem sgn3 (q:Rat):(signZ q=1∧0<q)∨(signZ q = -1∧q<0)∨(signZ q=0∧q=0):=by
 have h1:=@signZ_nul q;have h2:=@signZ_pos q;have h3:=@signZ_neg q
 have h4 : -1≤signZ q∧signZ q≤1:=by
  unfold signZ
  repeat' split
  all_goals omega
 rcases (show signZ q=1∨signZ q = -1∨signZ q=0 by omega) with h | h | h
 · exact .inl ⟨h,h2.1 (by omega)⟩
 · exact .inr (.inl ⟨h,h3.1 (by omega)⟩)
 · exact .inr (.inr ⟨h,h1.1 h⟩)
structure R1 (w0 w:World) (u d r:Value) (U D R:List BX) (K K':Nat) (v:Int) (l:List BX) (i:Nat):Prop where
 fs:FS w0 w u d r U D R K K K'
 hu:U.map (·.2)=lp1 v ((l.take i).map (·.2))
 hd:D.map (·.2)=lm1 v ((l.take i).map (·.2))
 hr:R.map (·.2)=l01 v ((l.take i).map (·.2))
 nu:U.length≤i
 nd:D.length≤i
 nr:R.length≤i
theorem R1.below {w0 w w':World} {u d r:Value} {U D R:List BX} {K K':Nat} {v:Int} {l:List BX} {i:Nat} (h:R1 w0 w u d r U D R K K' v l i) (hb:Below w.heap.size w w'):R1 w0 w' u d r U D R K K' v l i:=⟨h.fs.below hb,h.hu,h.hd,h.hr,h.nu,h.nd,h.nr⟩
section
variable {w0 w w':World} {u d r v':Value} {U D R:List BX} {K K':Nat} {v:Int} {l:List BX} {i:Nat} {x:BX}
theorem R1.pos (h:R1 w0 w u d r U D R K K' v l i) (hx:l[i]?=some x) (hc:0<x.2.c v) (hb:BOk w K x.1 x.2) (hown:w'.ownsRow 0 89 5 v' (U.length+1) (bbsL U ++ bbL x)) (hf:Fr (ownS u) w w') (hk:v'.ownBlock=u.ownBlock∨v'.ownBlock=some (w.heap.size+1)):R1 w0 w' v' d r (U ++ [x]) D R K K' v l (i+1):=by
 have n1:¬ x.2.c v<0:=by grind
 have n2:¬ x.2.c v=0:=by grind
 refine ⟨h.fs.appU hb hown hf hk,?_,?_,?_,by rw [List.length_append];simp;exact h.nu,Nat.le_succ_of_le h.nd,Nat.le_succ_of_le h.nr⟩
 · rw [bds_snoc,h.hu]
   unfold lp1;rw [filt_snoc _ l i x hx,if_pos (by simp [hc])]
 · rw [h.hd]
   unfold lm1;rw [filt_snoc _ l i x hx,if_neg (by simp;exact n1),List.append_nil]
 · rw [h.hr]
   unfold l01;rw [filt_snoc _ l i x hx,if_neg (by simp [n2]),List.append_nil]
theorem R1.neg (h:R1 w0 w u d r U D R K K' v l i) (hx:l[i]?=some x) (hc:x.2.c v<0) (hb:BOk w K x.1 x.2) (hown:w'.ownsRow 0 89 5 v' (D.length+1) (bbsL D ++ bbL x)) (hf:Fr (ownS d) w w') (hk:v'.ownBlock=d.ownBlock∨v'.ownBlock=some (w.heap.size+1)):R1 w0 w' u v' r U (D ++ [x]) R K K' v l (i+1):=by
 have n1:¬ 0<x.2.c v:=by grind
 have n2:¬ x.2.c v=0:=by grind
 refine ⟨((h.fs.rot.appU hb hown hf hk).rot).rot,?_,?_,?_,Nat.le_succ_of_le h.nu,by rw [List.length_append];simp;exact h.nd,Nat.le_succ_of_le h.nr⟩
 · rw [h.hu]
   unfold lp1;rw [filt_snoc _ l i x hx,if_neg (by simp;exact n1),List.append_nil]
 · rw [bds_snoc,h.hd]
   unfold lm1;rw [filt_snoc _ l i x hx,if_pos (by simp [hc])]
 · rw [h.hr]
   unfold l01;rw [filt_snoc _ l i x hx,if_neg (by simp [n2]),List.append_nil]
theorem R1.nul (h:R1 w0 w u d r U D R K K' v l i) (hx:l[i]?=some x) (hc:x.2.c v=0) (hb:BOk w K' x.1 x.2) (hown:w'.ownsRow 0 89 5 v' (R.length+1) (bbsL R ++ bbL x)) (hf:Fr (ownS r) w w') (hk:v'.ownBlock=r.ownBlock∨v'.ownBlock=some (w.heap.size+1)):R1 w0 w' u d v' U D (R ++ [x]) K K' v l (i+1):=by
 have n1:¬ 0<x.2.c v:=by grind
 have n2:¬ x.2.c v<0:=by grind
 refine ⟨(h.fs.rot.rot.appU hb hown hf hk).rot,?_,?_,?_,Nat.le_succ_of_le h.nu,Nat.le_succ_of_le h.nd,by rw [List.length_append];simp;exact h.nr⟩
 · rw [h.hu]
   unfold lp1;rw [filt_snoc _ l i x hx,if_neg (by simp;exact n1),List.append_nil]
 · rw [h.hd]
   unfold lm1;rw [filt_snoc _ l i x hx,if_neg (by simp;exact n2),List.append_nil]
 · rw [bds_snoc,h.hr]
   unfold l01;rw [filt_snoc _ l i x hx,if_pos (by simp [hc])]
end
def prs (v:Int) (us ds:List Bd):List Bd:=us.flatMap fun a=>ds.map fun b=>pairB a b v
theorem elim_eq (v:Int) (l:List Bd):elimB v l=l01 v l ++ prs v (lp1 v l) (lm1 v l):=rfl
theorem prs_snoc (v:Int) (us ds:List Bd) (a:Bd):prs v (us ++ [a]) ds=prs v us ds ++ ds.map fun b=>pairB a b v:=by
 unfold prs;rw [List.flatMap_append];simp
theorem map_take_snoc {α β:Type} (f:α→β) {l:List α} {i:Nat} {x:α} (h:l[i]?=some x):(l.take (i+1)).map f=(l.take i).map f ++ [f x]:=by
 rw [take_snoc h,List.map_append]
 rfl
structure R2 (w0 w:World) (u d r:Value) (U D R0 R:List BX) (K K':Nat) (v:Int) (M p q:Nat) (ex:List Bd):Prop where
 fs:FS w0 w u d r U D R K K K'
 hr:R.map (·.2)=R0.map (·.2) ++ prs v ((U.take p).map (·.2)) (D.map (·.2)) ++ ex
 nr:R.length≤M+p*M+q
section
variable {w0 w w':World} {u d r v':Value} {U D R0 R:List BX} {K K':Nat} {v:Int} {M p q:Nat} {ex:List Bd}
theorem R2.below (h:R2 w0 w u d r U D R0 R K K' v M p q ex) (hb:Below w.heap.size w w'):R2 w0 w' u d r U D R0 R K K' v M p q ex:=⟨h.fs.below hb,h.hr,h.nr⟩
theorem R2.app (h:R2 w0 w u d r U D R0 R K K' v M p q ex) {x:BX} (hb:BOk w K' x.1 x.2) (hown:w'.ownsRow 0 89 5 v' (R.length+1) (bbsL R ++ bbL x)) (hf:Fr (ownS r) w w') (hk:v'.ownBlock=r.ownBlock∨v'.ownBlock=some (w.heap.size+1)):R2 w0 w' u d v' U D R0 (R ++ [x]) K K' v M p (q+1) (ex ++ [x.2]):=by
 refine ⟨(h.fs.rot.rot.appU hb hown hf hk).rot,?_,by rw [List.length_append];have:=h.nr;simp;omega⟩;rw [bds_snoc,h.hr,List.append_assoc]
theorem R2.next {a:Bd} (h:R2 w0 w u d r U D R0 R K K' v M p q (D.map fun b=>pairB a b.2 v)) {x:BX} (hx:U[p]?=some x) (he:x.2=a) (hq:q≤M):R2 w0 w u d r U D R0 R K K' v M (p+1) 0 []:=by
 refine ⟨h.fs,?_,by have:=h.nr;rw [Nat.succ_mul];omega⟩;rw [h.hr,map_take_snoc _ hx,prs_snoc,he,List.append_nil,List.append_assoc,List.map_map]
 rfl
end
theorem all_false {l:List Bd} {b:Bd} (hb:b ∈ l) (h:okB b=false):l.all okB=false:=by
 cases hh:l.all okB
 · rfl
 · rw [List.all_eq_true.1 hh b hb] at h
   cases h
theorem all_snoc {l:List BX} {i:Nat} {x:BX} (hx:l[i]?=some x) (h:∀ b ∈ (l.take i).map (·.2),okB b=true) (hk:okB x.2=true):∀ b ∈ (l.take (i+1)).map (·.2),okB b=true:=by
 intro b hb;rw [map_take_snoc _ hx] at hb;rcases List.mem_append.1 hb with hb | hb
 · exact h b hb
 · simp only [List.mem_cons,List.not_mem_nil,or_false] at hb
   rw [hb];exact hk
set_option maxRecDepth 100000 in
set_option maxHeartbeats 8000000 in
theorem feas_any (A:Option Addr) (n c:Nat) (l:List BX) (w:World) (h:BsAt w A n c l 98) (hn:n≤10) :
 Calls Tryz.prog 30 #[.int .i64 3,.slice A n c] w fun r w'=>r=.returned (.bool ((elimN (l.map (·.2)) 3).all okB))∧Below w.heap.size w w':=by
 have H:=Lib.hid h;obtain ⟨i0,hi,hz0,hz1,hz2⟩:=info_parts info_bound;clear h
 go_enter Tryz.func30,Tryz.ntmps30
 go_wp2_with fail
 go_loopw [1,5] (fun x y wr=>∃ (v:Nat) (A':Option Addr) (n' c':Nat) (l':List BX),v≤3∧x=.slice A' n' c'∧y=.int .i64 v∧BsAt wr A' n' c' l' (kk v)∧n'≤lln v∧l'.map (·.2)=elimN (l.map (·.2)) v∧Below w.heap.size w wr) (fun _ y _=>3 - (intOf y).toNat)
 case atStart=>exact ⟨0,A,n,c,l,by decide,rfl,rfl,H.out,hn,rfl,Below.refl _ _⟩
 case round =>
  obtain ⟨v,A',n',c',l',hv3,rfl,rfl,hbs,hnl,hel,hbw⟩:=hrel
  obtain ⟨w1,rfl⟩:∃ x,x=wr:=⟨_,rfl⟩
  have HBS:=Lib.hid hbs;have HNL:=Lib.hid hnl;have HEL:=Lib.hid hel;have HBW:=Lib.hid hbw;clear hbs hnl hel hbw
  by_cases hlt:v<3
  · have hkk:=kk_le hlt
    have hll:=lln_le hlt;have hn':n'≤12210:=Nat.le_trans HNL.out hll
    obtain ⟨K,hK⟩:∃ K,K=kk v:=⟨_,rfl⟩
    obtain ⟨K',hK'⟩:∃ K',K'=4*K+8:=⟨_,rfl⟩
    have hbs:=HBS.out;rw [←hK] at hbs hkk;have HBS1:=Lib.hid hbs;have hfs:=FS.start w1 K K K';have HKK:=Lib.hid (And.intro hK hK')
    have e1:(v:Int)<3:=by omega
    clear hbs hK hK' hll HBS
    go_upto_region 5 with fail
    obtain ⟨w2,hw2⟩:∃ x0,x0=((w1.alloc (.cells #[] 89)).alloc (.cells #[] 89)).alloc (.cells #[] 89):=⟨_,rfl⟩
    rw [←hw2] at hfs ⊢
    have hr0:R1 w1 w2 (.slice (some ⟨w1.heap.size,0,none⟩) 0 0) (.slice (some ⟨w1.heap.size+1,0,none⟩) 0 0) (.slice (some ⟨w1.heap.size+1+1,0,none⟩) 0 0) [] [] [] K K' v l' 0:=⟨hfs,rfl,rfl,rfl,Nat.le_refl _,Nat.le_refl _,Nat.le_refl _⟩
    have HR0:=Lib.hid hr0;clear hr0 hfs hw2
    go_upto_region 6 with fail
    go_loopw [6,7,8,28] (fun x6 x7 x8 x wr=>∃ (i:Nat) (U D R:List BX),i≤n'∧x=.int .i64 i∧R1 w1 wr x6 x7 x8 U D R K K' v l' i) (fun _ _ _ x _=>n' - (intOf x).toNat)
    case atStart=>exact ⟨0,[],[],[],Nat.zero_le _,rfl,HR0.out⟩
    case round =>
     obtain ⟨i,U,D,R,hin,rfl,hr1⟩:=hrel
     obtain ⟨w3,rfl⟩:∃ x,x=wr:=⟨_,rfl⟩
     have HR1:=Lib.hid hr1;clear hr1
     by_cases hlt2:i<n'
     · have hb3:=HBS1.out.below HR1.out.fs.bel
       obtain ⟨g3,o3,x,ea,hxi,y0,y1,y2,y3,y4⟩:=hb3.rd.atB hb3.len hlt2;subst ea;have hok:=hb3.each x (List.mem_of_getElem? hxi)
       have b0:(0:Int)≤(i:Int):=by omega
       have HXI:=Lib.hid hxi;have HOK:=Lib.hid hok;clear hb3 hxi hok
       go_upto_region 8 with fail
       have hx10:=heap_alloc_new w3 (.cells #[.slice x.1.e.A x.1.e.n x.1.e.c,.bool x.1.e.s,.slice x.1.e.b.A x.1.e.b.n x.1.e.b.c,.slice x.1.e.b.A2 x.1.e.b.n2 x.1.e.b.c2,.bool x.1.s] 89)
       have zw4:(w3.alloc (.cells #[.slice x.1.e.A x.1.e.n x.1.e.c,.bool x.1.e.s,.slice x.1.e.b.A x.1.e.b.n x.1.e.b.c,.slice x.1.e.b.A2 x.1.e.b.n2 x.1.e.b.c2,.bool x.1.s] 89)).heap.size=w3.heap.size+1:=by simp
       have aw4:=(Below.refl w3.heap.size w3).alloc (Nat.le_refl _) (.cells #[.slice x.1.e.A x.1.e.n x.1.e.c,.bool x.1.e.s,.slice x.1.e.b.A x.1.e.b.n x.1.e.b.c,.slice x.1.e.b.A2 x.1.e.b.n2 x.1.e.b.c2,.bool x.1.s] 89)
       obtain ⟨w4,ew4⟩:∃ x0,x0=w3.alloc (.cells #[.slice x.1.e.A x.1.e.n x.1.e.c,.bool x.1.e.s,.slice x.1.e.b.A x.1.e.b.n x.1.e.b.c,.slice x.1.e.b.A2 x.1.e.b.n2 x.1.e.b.c2,.bool x.1.s] 89):=⟨_,rfl⟩
       rw [←ew4] at hx10 zw4 aw4 ⊢;clear ew4
       obtain ⟨g10,hg10⟩:∃ x0,x0=w3.heap.size:=⟨_,rfl⟩
       rw [←hg10] at hx10 ⊢;have hok4:=HOK.out.below aw4;have hcf:=coef_any x.1.e.A x.1.e.n x.1.e.c x.1.e.s x.1.e.b x.1.e.l K v w4 hok4.ok.tms hok4.ok.few (by omega) (hok4.ok.co v);rw [←hok4.co v] at hcf
       obtain ⟨q,hq⟩:∃ q,q=x.2.c v:=⟨_,rfl⟩
       rw [←hq] at hcf
       have hsg:=fun W (b:RB) (hb:QAt W b q)=>qsign_any b q W hb
       have hs3:=sgn3 q
       obtain ⟨z,hz⟩:∃ z,z=signZ q:=⟨_,rfl⟩
       rw [←hz] at hsg hs3;unfold RB.val at hcf hsg;have HCF:=Lib.hid hcf;have HSG:=Lib.hid hsg;have HQ:=Lib.hid hq;have HX10:=Lib.hid hx10;have HA4:=Lib.hid aw4;obtain ⟨p0,p1,p2,p3,p4⟩:=box5b hx10;clear hcf hsg hq hz hx10 hok4 aw4 zw4 hg10 y0 y1 y2 y3 y4
       go_upto_region 10 with (first | (go_at_call 63;refine HCF.out.mono ?_;rintro e w5 ⟨b5,rfl,hq5,hb5⟩;have HQ5:=Lib.hid hq5;have HB5:=Lib.hid hb5;clear hq5 hb5) | (go_at_call 62;refine (HSG.out _ b5 HQ5.out).mono ?_;rintro e w6 ⟨rfl,hb6⟩;have HB6:=Lib.hid hb6;clear hb6))
       have hk6:Below w3.heap.size w3 w6:=(HA4.out.trans (HB5.out.mono HA4.out.size)).trans (HB6.out.mono (HA4.out.trans (HB5.out.mono HA4.out.size)).size);have hx6:=box_keep HX10.out (HB5.out.trans (HB6.out.mono HB5.out.size));have HR6:=Lib.hid (HR1.out.below hk6);have HOK6:=Lib.hid (HOK.out.below hk6);have hn1:=HR1.out.nu;have hn2:=HR1.out.nd;have hn3:=HR1.out.nr;obtain ⟨p0,p1,p2,p3,p4⟩:=box5b hx6;clear hx6 hk6 HCF HSG HB5 HB6 HA4 HX10 HR1 HOK HQ5;rcases hs3 with ⟨rfl,hc⟩ | ⟨rfl,hc⟩ | ⟨rfl,hc⟩
       · have HC:=Lib.hid hc
         clear hc
         go_wp2_with (at_builtin;refine appS w6 5 #[.slice x.1.e.A x.1.e.n x.1.e.c,.bool x.1.e.s,.slice x.1.e.b.A x.1.e.b.n x.1.e.b.c,.slice x.1.e.b.A2 x.1.e.b.n2 x.1.e.b.c2,.bool x.1.s] 89 rfl _ _ 79 rfl i0 _ 88 Tryz.underlying79 hi hz0 hz1 hz2 rfl (by decide) (by decide) rfl _ U.length (bbsL U) rfl HR6.out.fs.u.own rfl (bbL_one x) (by omega) ?_;intro v8 w8 ho8 hf8 hk8)
         have HH:=Lib.hid (HR6.out.pos HXI.out (by rw [←HQ.out];exact HC.out) HOK6.out ho8 hf8 hk8);clear ho8 hf8 hk8
         go_wp2_with fail
         go_roundw
         case rel=>exact ⟨i+1,_,_,_,hlt2,by go_num,HH.out⟩
         case measure=>simp [intOf];omega
       · have HC:=Lib.hid hc
         clear hc
         go_wp2_with (at_builtin;refine appS w6 5 #[.slice x.1.e.A x.1.e.n x.1.e.c,.bool x.1.e.s,.slice x.1.e.b.A x.1.e.b.n x.1.e.b.c,.slice x.1.e.b.A2 x.1.e.b.n2 x.1.e.b.c2,.bool x.1.s] 89 rfl _ _ 79 rfl i0 _ 88 Tryz.underlying79 hi hz0 hz1 hz2 rfl (by decide) (by decide) rfl _ D.length (bbsL D) rfl HR6.out.fs.d.own rfl (bbL_one x) (by omega) ?_;intro v8 w8 ho8 hf8 hk8)
         have HH:=Lib.hid (HR6.out.neg HXI.out (by rw [←HQ.out];exact HC.out) HOK6.out ho8 hf8 hk8);clear ho8 hf8 hk8
         go_wp2_with fail
         go_roundw
         case rel=>exact ⟨i+1,_,_,_,hlt2,by go_num,HH.out⟩
         case measure=>simp [intOf];omega
       · have HC:=Lib.hid hc
         clear hc
         go_wp2_with (at_builtin;refine appS w6 5 #[.slice x.1.e.A x.1.e.n x.1.e.c,.bool x.1.e.s,.slice x.1.e.b.A x.1.e.b.n x.1.e.b.c,.slice x.1.e.b.A2 x.1.e.b.n2 x.1.e.b.c2,.bool x.1.s] 89 rfl _ _ 79 rfl i0 _ 88 Tryz.underlying79 hi hz0 hz1 hz2 rfl (by decide) (by decide) rfl _ R.length (bbsL R) rfl HR6.out.fs.r.own rfl (bbL_one x) (by omega) ?_;intro v8 w8 ho8 hf8 hk8)
         have HH:=Lib.hid (HR6.out.nul HXI.out (by rw [←HQ.out];exact HC.out) (HOK6.out.up (by have:=HKK.out.2;omega)) ho8 hf8 hk8);clear ho8 hf8 hk8
         go_wp2_with fail
         go_roundw
         case rel=>exact ⟨i+1,_,_,_,hlt2,by go_num,HH.out⟩
         case measure=>simp [intOf];omega
     · obtain rfl:i=n':=by omega
       obtain ⟨A1,c1,rfl,hU⟩:=HR1.out.fs.u.at;obtain ⟨A2,c2,rfl,hD⟩:=HR1.out.fs.d.at
       obtain ⟨M,hM⟩:∃ M,M=i:=⟨_,rfl⟩
       have hn1:U.length≤M:=by have:=HR1.out.nu;omega
       have hn2:D.length≤M:=by have:=HR1.out.nd;omega
       have hMb:M≤12210:=by omega
       have hMl:M≤lln v:=by have:=HNL.out;omega
       have HML:=Lib.hid hMl
       have hst:R2 w1 w3 (.slice A1 U.length c1) (.slice A2 D.length c2) u8 U D R R K K' v M 0 0 []:=⟨HR1.out.fs,by simp [prs],by have:=HR1.out.nr;omega⟩
       have HST:=Lib.hid hst;have HM:=Lib.hid hM
       have hlt3:¬ ((i:Int)<(i:Int)):=by omega
       have HN0:=Lib.hid (And.intro HR1.out.nu (And.intro HR1.out.nd HR1.out.nr));have HL0:=Lib.hid (And.intro HR1.out.hu (And.intro HR1.out.hd HR1.out.hr));clear hst hU hD hlt2 hM hMl HR1
       go_upto_region 16 with fail
       go_loopw [8,56] (fun x8 x wr=>∃ (p:Nat) (R':List BX),p≤U.length∧x=.int .i64 p∧R2 w1 wr (.slice A1 U.length c1) (.slice A2 D.length c2) x8 U D R R' K K' v M p 0 []) (fun _ x _=>U.length - (intOf x).toNat)
       case atStart=>exact ⟨0,R,Nat.zero_le _,rfl,HST.out⟩
       case round =>
        obtain ⟨p,R',hpU,rfl,hr2⟩:=hrel
        obtain ⟨w4,rfl⟩:∃ x,x=wr:=⟨_,rfl⟩
        have HR2:=Lib.hid hr2;clear hr2
        by_cases hpl:p<U.length
        · have hbu:=HR2.out.fs.u.at
          obtain ⟨_,_,eu,hbu⟩:=hbu
          injection eu with e1' _ e3'
          subst e1';subst e3';obtain ⟨g3,o3,xa,ea,hxa,y0,y1,y2,y3,y4⟩:=hbu.rd.atB hbu.len hpl;have hoka:=hbu.each xa (List.mem_of_getElem? hxa);subst ea
          have b0:(0:Int)≤(p:Int):=by omega
          have HXA:=Lib.hid hxa;have HOKA:=Lib.hid hoka;clear hbu hxa hoka
          go_upto_region 18 with fail
          have hx12:=heap_alloc_new w4 (.cells #[.slice xa.1.e.A xa.1.e.n xa.1.e.c,.bool xa.1.e.s,.slice xa.1.e.b.A xa.1.e.b.n xa.1.e.b.c,.slice xa.1.e.b.A2 xa.1.e.b.n2 xa.1.e.b.c2,.bool xa.1.s] 89)
          have zw5:(w4.alloc (.cells #[.slice xa.1.e.A xa.1.e.n xa.1.e.c,.bool xa.1.e.s,.slice xa.1.e.b.A xa.1.e.b.n xa.1.e.b.c,.slice xa.1.e.b.A2 xa.1.e.b.n2 xa.1.e.b.c2,.bool xa.1.s] 89)).heap.size=w4.heap.size+1:=by simp
          have aw5:=(Below.refl w4.heap.size w4).alloc (Nat.le_refl _) (.cells #[.slice xa.1.e.A xa.1.e.n xa.1.e.c,.bool xa.1.e.s,.slice xa.1.e.b.A xa.1.e.b.n xa.1.e.b.c,.slice xa.1.e.b.A2 xa.1.e.b.n2 xa.1.e.b.c2,.bool xa.1.s] 89)
          obtain ⟨w5,ew5⟩:∃ x0,x0=w4.alloc (.cells #[.slice xa.1.e.A xa.1.e.n xa.1.e.c,.bool xa.1.e.s,.slice xa.1.e.b.A xa.1.e.b.n xa.1.e.b.c,.slice xa.1.e.b.A2 xa.1.e.b.n2 xa.1.e.b.c2,.bool xa.1.s] 89):=⟨_,rfl⟩
          rw [←ew5] at hx12 zw5 aw5 ⊢;clear ew5
          obtain ⟨g12,hg12⟩:∃ x0,x0=w4.heap.size:=⟨_,rfl⟩
          rw [←hg12] at hx12 ⊢;have HR5:=Lib.hid (HR2.out.below aw5);have HOKA5:=Lib.hid (HOKA.out.below aw5);have HX12:=Lib.hid hx12
          have hg12':∀ b,u8.ownBlock=some b→b≠g12:=fun b hb=>by
           have:=(own_lt HR2.out.fs.r.own hb).2;omega
          have HG12:=Lib.hid hg12';clear hx12 hg12 hg12' aw5 zw5 HR2 HOKA y0 y1 y2 y3 y4
          go_upto_region 19 with fail
          go_loopw [8,62] (fun x8 x wr=>∃ (q:Nat) (R':List BX),q≤D.length∧x=.int .i64 q∧R2 w1 wr (.slice (some ⟨g3,o3,none⟩) U.length c1) (.slice A2 D.length c2) x8 U D R R' K K' v M p q ((D.take q).map fun b=>pairB xa.2 b.2 v)∧wr.heap[g12]?=some (.cells #[.slice xa.1.e.A xa.1.e.n xa.1.e.c,.bool xa.1.e.s,.slice xa.1.e.b.A xa.1.e.b.n xa.1.e.b.c,.slice xa.1.e.b.A2 xa.1.e.b.n2 xa.1.e.b.c2,.bool xa.1.s] 89 (0,0))∧∀ b,x8.ownBlock=some b→b≠g12) (fun _ x _=>D.length - (intOf x).toNat)
          case atStart=>exact ⟨0,R',Nat.zero_le _,rfl,HR5.out,HX12.out,HG12.out⟩
          case round =>
           obtain ⟨q,R'',hqD,rfl,hr2,hx12,hg12⟩:=hrel
           obtain ⟨w6,rfl⟩:∃ x,x=wr:=⟨_,rfl⟩
           have HR2:=Lib.hid hr2;have HX12:=Lib.hid hx12;have HG12:=Lib.hid hg12;clear hr2 hx12 hg12
           by_cases hql:q<D.length
           · obtain ⟨_,_,ed,hbd⟩:=HR2.out.fs.d.at
             injection ed with e1' _ e3'
             subst e1';subst e3';obtain ⟨g4,o4,xb,eb,hxb,y0,y1,y2,y3,y4⟩:=hbd.rd.atB hbd.len hql;have hokb:=hbd.each xb (List.mem_of_getElem? hxb);subst eb
             have b1:(0:Int)≤(q:Int):=by omega
             have HXB:=Lib.hid hxb;have HOKB:=Lib.hid hokb;clear hbd hxb hokb
             go_upto_region 21 with fail
             have hx14:=heap_alloc_new w6 (.cells #[.slice xb.1.e.A xb.1.e.n xb.1.e.c,.bool xb.1.e.s,.slice xb.1.e.b.A xb.1.e.b.n xb.1.e.b.c,.slice xb.1.e.b.A2 xb.1.e.b.n2 xb.1.e.b.c2,.bool xb.1.s] 89)
             have zw7:(w6.alloc (.cells #[.slice xb.1.e.A xb.1.e.n xb.1.e.c,.bool xb.1.e.s,.slice xb.1.e.b.A xb.1.e.b.n xb.1.e.b.c,.slice xb.1.e.b.A2 xb.1.e.b.n2 xb.1.e.b.c2,.bool xb.1.s] 89)).heap.size=w6.heap.size+1:=by simp
             have aw7:=(Below.refl w6.heap.size w6).alloc (Nat.le_refl _) (.cells #[.slice xb.1.e.A xb.1.e.n xb.1.e.c,.bool xb.1.e.s,.slice xb.1.e.b.A xb.1.e.b.n xb.1.e.b.c,.slice xb.1.e.b.A2 xb.1.e.b.n2 xb.1.e.b.c2,.bool xb.1.s] 89)
             obtain ⟨w7,ew7⟩:∃ x0,x0=w6.alloc (.cells #[.slice xb.1.e.A xb.1.e.n xb.1.e.c,.bool xb.1.e.s,.slice xb.1.e.b.A xb.1.e.b.n xb.1.e.b.c,.slice xb.1.e.b.A2 xb.1.e.b.n2 xb.1.e.b.c2,.bool xb.1.s] 89):=⟨_,rfl⟩
             rw [←ew7] at hx14 zw7 aw7 ⊢;clear ew7;have hx12:=box_keep HX12.out aw7;have hoka:=(HR2.out.fs.u.each xa (List.mem_of_getElem? HXA.out)).below aw7;have hokb:=HOKB.out.below aw7;have hpr:=pair_any xa.1.e xb.1.e xa.1.s xb.1.s xa.2 xb.2 K v w7 hoka hokb (by omega) (by omega);unfold BB.val at hpr;obtain ⟨p0,p1,p2,p3,p4⟩:=box5b hx12;obtain ⟨q0,q1,q2,q3,q4⟩:=box5b hx14;have HPR:=Lib.hid hpr;have HR7:=Lib.hid (HR2.out.below aw7);have HX12':=Lib.hid hx12;clear hx12 hx14 hoka hokb hpr aw7 zw7 y0 y1 y2 y3 y4 HR2 HX12 HOKB
             have hbytes:(R''.length+1)*88≤140737488355328:=by
              have h1:=HR7.out.nr;have h3:p*M≤12210*12210:=Nat.mul_le_mul (by omega) (by omega)
              have h4:R''.length+1≤200000000:=by omega
              have h5:(R''.length+1)*88≤200000000*88:=Nat.mul_le_mul h4 (Nat.le_refl _);omega
             have HBY:=Lib.hid hbytes;clear hbytes
             go_wp2_with (first | (go_at_call 64;refine HPR.out.mono ?_;rintro e w8 ⟨x,rfl,hbo,hb8⟩;have HBO:=Lib.hid hbo;have HR8:=Lib.hid (HR7.out.below hb8);have HX8:=Lib.hid (box_keep HX12'.out hb8);clear hbo hb8) | (at_builtin;refine appS w8 5 #[.slice x.e.A x.e.n x.e.c,.bool x.e.s,.slice x.e.b.A x.e.b.n x.e.b.c,.slice x.e.b.A2 x.e.b.n2 x.e.b.c2,.bool x.s] 89 rfl _ _ 79 rfl i0 _ 88 Tryz.underlying79 hi hz0 hz1 hz2 rfl (by decide) (by decide) rfl _ R''.length (bbsL R'') rfl HR8.out.fs.r.own rfl (bbL_one (x,pairB xa.2 xb.2 v)) HBY.out ?_;intro v9 w9 ho9 hf9 hk9;have HA9:=Lib.hid (And.intro ho9 (And.intro hf9 hk9));clear ho9 hf9 hk9))
             go_roundw
             case rel =>
              obtain ⟨ho9,hf9,hk9⟩:=HA9.out;have hlt8:=lt_of_blk HX8.out;refine ⟨q+1,R'' ++ [(x,pairB xa.2 xb.2 v)],hql,by go_num,?_,?_,?_⟩
              · have h1:=HR8.out.app (x:=(x,pairB xa.2 xb.2 v)) (by have:=HKK.out.2;rw [this];exact HBO.out) ho9 hf9 hk9
                rw [map_take_snoc _ HXB.out];exact h1
              · exact (hf9.block g12 hlt8 (fun h=>HG12.out g12 h rfl)).trans HX8.out
              · intro b hb
                rcases hk9 with h | h
                · rw [h] at hb
                  exact HG12.out b hb
                · rw [h] at hb
                  injection hb with hb
                  omega
             case measure=>simp [intOf];omega
           · obtain rfl:q=D.length:=by omega
             have hlt5:¬ ((D.length:Int)<(D.length:Int)):=by omega
             go_wp2_with fail
             go_roundw
             case rel =>
              have h1:=HR2.out;rw [List.take_of_length_le (Nat.le_refl _)] at h1;exact ⟨p+1,R'',hpl,by go_num,h1.next HXA.out rfl hn2⟩
             case measure=>simp [intOf];omega
        · obtain rfl:p=U.length:=by omega
          obtain ⟨A3,c3,rfl,hR⟩:=HR2.out.fs.r.at
          have hlt5:¬ ((U.length:Int)<(U.length:Int)):=by omega
          have HRR:=Lib.hid hR;clear hR
          go_wp2_with fail
          go_roundw
          case rel =>
           refine ⟨v+1,A3,R'.length,c3,R',by omega,rfl,by go_num,?_,?_,?_,HBW.out.trans (HR2.out.fs.bel.mono HBW.out.size)⟩
           · have h1:kk (v+1)=K':=by
              unfold kk;rw [HKK.out.2,HKK.out.1]
             rw [h1];exact HRR.out
           · have h1:=HR2.out.nr
             have h2:=HML.out;have h3:U.length*M≤lln v*lln v:=Nat.mul_le_mul (by omega) h2;have h4:lln (v+1)=lln v+lln v*lln v:=rfl;rw [h4];omega
           · have h1:=HR2.out.hr
             rw [List.take_of_length_le (Nat.le_refl _),HL0.out.1,HL0.out.2.1,HL0.out.2.2,List.append_nil] at h1;rw [h1]
             show _=elimB (v:Int) (elimN (l.map (·.2)) v)
             rw [elim_eq,←HEL.out];have h3:(l'.take i)=l':=List.take_of_length_le (by rw [HBS1.out.len];exact Nat.le_refl _);rw [h3]
          case measure=>simp [intOf];omega
  · have hv:v=3:=by omega
    subst hv
    have hlt6:¬ (((3:Nat):Int)<3):=by decide
    have hn6:n'≤200000000:=Nat.le_trans HNL.out (by decide)
    go_upto_region 26 with fail
    go_loopw [78] (fun x wr=>∃ i:Nat,i≤n'∧x=.int .i64 i∧(∀ b ∈ (l'.take i).map (·.2),okB b=true)∧Below w1.heap.size w1 wr) (fun x _=>n' - (intOf x).toNat)
    case atStart=>exact ⟨0,Nat.zero_le _,rfl,by simp,Below.refl _ _⟩
    case round =>
     obtain ⟨i,hin,rfl,hall,hbw⟩:=hrel
     obtain ⟨w3,rfl⟩:∃ x,x=wr:=⟨_,rfl⟩
     have HALL:=Lib.hid hall;have HBW3:=Lib.hid hbw;clear hall hbw
     by_cases hlt2:i<n'
     · have hb3:=HBS.out.below HBW3.out
       obtain ⟨g3,o3,x,ea,hxi,y0,y1,y2,y3,y4⟩:=hb3.rd.atB hb3.len hlt2;subst ea;have hok:=hb3.each x (List.mem_of_getElem? hxi)
       have b0:(0:Int)≤(i:Int):=by omega
       have HXI:=Lib.hid hxi;have hmem:x.2 ∈ l'.map (·.2):=List.mem_map.2 ⟨x,List.mem_of_getElem? hxi,rfl⟩;have HMEM:=Lib.hid hmem;clear hb3 hxi hmem
       go_upto_region 28 with fail
       have hx16:=heap_alloc_new w3 (.cells #[.slice x.1.e.A x.1.e.n x.1.e.c,.bool x.1.e.s,.slice x.1.e.b.A x.1.e.b.n x.1.e.b.c,.slice x.1.e.b.A2 x.1.e.b.n2 x.1.e.b.c2,.bool x.1.s] 89)
       have zw4:(w3.alloc (.cells #[.slice x.1.e.A x.1.e.n x.1.e.c,.bool x.1.e.s,.slice x.1.e.b.A x.1.e.b.n x.1.e.b.c,.slice x.1.e.b.A2 x.1.e.b.n2 x.1.e.b.c2,.bool x.1.s] 89)).heap.size=w3.heap.size+1:=by simp
       have aw4:=(Below.refl w3.heap.size w3).alloc (Nat.le_refl _) (.cells #[.slice x.1.e.A x.1.e.n x.1.e.c,.bool x.1.e.s,.slice x.1.e.b.A x.1.e.b.n x.1.e.b.c,.slice x.1.e.b.A2 x.1.e.b.n2 x.1.e.b.c2,.bool x.1.s] 89)
       obtain ⟨w4,ew4⟩:∃ x0,x0=w3.alloc (.cells #[.slice x.1.e.A x.1.e.n x.1.e.c,.bool x.1.e.s,.slice x.1.e.b.A x.1.e.b.n x.1.e.b.c,.slice x.1.e.b.A2 x.1.e.b.n2 x.1.e.b.c2,.bool x.1.s] 89):=⟨_,rfl⟩
       rw [←ew4] at hx16 zw4 aw4 ⊢;clear ew4
       obtain ⟨g16,hg16⟩:∃ x0,x0=w3.heap.size:=⟨_,rfl⟩
       rw [←hg16] at hx16 ⊢;have hsg:=qsign_any x.1.e.b x.2.k w4 (hok.ok.cst.below aw4);rw [←hok.ok.sgn] at hsg;have hst:=hok.st
       obtain ⟨q,hq⟩:∃ q,q=x.2.k:=⟨_,rfl⟩
       rw [←hq] at hsg;have hs3:=sgn3 q
       obtain ⟨z,hz⟩:∃ z,z=signZ q:=⟨_,rfl⟩
       rw [←hz] at hsg hs3
       obtain ⟨xs,hxs⟩:∃ s,s=x.1.s:=⟨_,rfl⟩
       rw [←hxs] at hx16 hst
       have hokb:okB x.2=!(decide (0<q) || (decide (q=0) && xs)):=by
        unfold okB;rw [hst,hq]
       unfold RB.val at hsg;have HSG:=Lib.hid hsg;have HOKB:=Lib.hid hokb;have HX16:=Lib.hid hx16;have HA4:=Lib.hid aw4;have HXS:=Lib.hid hxs;obtain ⟨p0,p1,p2,p3,p4⟩:=box5b hx16;clear hsg hokb hq hz hx16 aw4 zw4 hg16 hst hok y0 y1 y2 y3 y4 hxs
       go_upto_region 29 with (go_at_call 62;refine HSG.out.mono ?_;rintro e w6 ⟨rfl,hb6⟩;have HB6:=Lib.hid hb6;clear hb6)
       have hk6:Below w3.heap.size w3 w6:=HA4.out.trans (HB6.out.mono HA4.out.size);obtain ⟨p0,p1,p2,p3,p4⟩:=box5b (box_keep HX16.out HB6.out);have HK6:=Lib.hid (HBW3.out.trans (hk6.mono HBW3.out.size));clear hk6 HSG;rcases hs3 with ⟨rfl,hc⟩ | ⟨rfl,hc⟩ | ⟨rfl,hc⟩
       · have HC:=Lib.hid hc
         clear hc
         go_wp2_with fail
         go_ret;refine ⟨?_,HBW.out.trans (HK6.out.mono HBW.out.size)⟩;rw [all_false (by rw [←HEL.out];exact HMEM.out) (by rw [HOKB.out];simp [HC.out])]
         try rfl
       · have HC:=Lib.hid hc
         clear hc
         go_wp2_with fail
         go_roundw
         case rel =>
          refine ⟨i+1,hlt2,by go_num,all_snoc HXI.out HALL.out ?_,HK6.out⟩;rw [HOKB.out]
          have h1:¬ 0<q:=by have:=HC.out;grind
          have h2:¬ q=0:=by have:=HC.out;grind
          simp [h1,h2]
         case measure=>simp [intOf];omega
       · have HC:=Lib.hid hc
         clear hc
         cases xs
         · go_wp2_with fail
           go_roundw
           case rel =>
            refine ⟨i+1,hlt2,by go_num,all_snoc HXI.out HALL.out ?_,HK6.out⟩;rw [HOKB.out]
            have h1:¬ 0<q:=by have:=HC.out;grind
            simp [h1]
           case measure=>simp [intOf];omega
         · go_wp2_with fail
           go_ret;refine ⟨?_,HBW.out.trans (HK6.out.mono HBW.out.size)⟩;rw [all_false (by rw [←HEL.out];exact HMEM.out) (by rw [HOKB.out];simp [HC.out])]
           try rfl
     · obtain rfl:i=n':=by omega
       have hlt7:¬ ((i:Int)<(i:Int)):=by omega
       go_wp2_with fail
       go_ret;refine ⟨?_,HBW.out.trans (HBW3.out.mono HBW.out.size)⟩;have h1:=HALL.out;rw [List.take_of_length_le (by rw [HBS.out.len];exact Nat.le_refl _),HEL.out] at h1;rw [List.all_eq_true.2 h1]
       try rfl
end Go.Proofs.YtdefcbfofonabaaGreat
