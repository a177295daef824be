/- Rows of terms (a variable and a rational number): what lies there, stores into them, exchanges. -/
import Derived.Test.YtdefcbfofonabaaGreatRatB
import Derived.Test.YtdefcbfofonabaaGreatRatMath
import Derived.Lib.SliceRun
import Derived.Test.YtdefcbfofonabaaGreatBqA
import Derived.Test.YtdefcbfofonabaaGreatRegE
namespace Go.Proofs.YtdefcbfofonabaaGreat
open Go.RowKit
set_option linter.unusedVariables false
set_option linter.unusedSimpArgs false
abbrev TB:=RB × Tm
def tmL (t:TB):List Value:=[.int .i64 t.2.1,.bool (ratNeg t.2.2),.slice t.1.A t.1.n t.1.c,.slice t.1.A2 t.1.n2 t.1.c2]
def tmV (t:TB):Value:=.agg #[.int .i64 t.2.1,.bool (ratNeg t.2.2),.slice t.1.A t.1.n t.1.c,.slice t.1.A2 t.1.n2 t.1.c2]
def tmsL (l:List TB):List Value:=l.flatMap tmL
theorem tmL_len (t:TB):(tmL t).length=4:=rfl
theorem tmsL_cons (t:TB) (l:List TB):tmsL (t :: l)=tmL t ++ tmsL l:=List.flatMap_cons
theorem tmsL_app (l m:List TB):tmsL (l ++ m)=tmsL l ++ tmsL m:=List.flatMap_append
theorem tmsL_len:∀ l:List TB,(tmsL l).length=l.length*4
 | []=>rfl
 | t :: l=>by rw [tmsL_cons,List.length_append,tmsL_len l,tmL_len,List.length_cons];omega
theorem tmsL_at:∀ (l:List TB) (k:Nat) (t:TB),l[k]?=some t→∀ j,j<4→(tmsL l)[k*4+j]?=(tmL t)[j]?
 | [],k,t,h,_,_=>by simp at h
 | t' :: l,0,t,h,j,hj=>by
   simp at h;subst h;rw [tmsL_cons,List.getElem?_append_left (by rw [tmL_len];omega)];simp
 | t' :: l,k+1,t,h,j,hj=>by
   have ih:=tmsL_at l k t (by simpa using h) j hj;rw [tmsL_cons,List.getElem?_append_right (by rw [tmL_len];omega),tmL_len,show (k+1)*4+j - 4=k*4+j by omega];exact ih
theorem tmsL_set:∀ (l:List TB) (k:Nat) (t:TB),k<l.length→tmsL (l.set k t)=((((tmsL l).set (k*4) (.int .i64 t.2.1)).set (k*4+1) (.bool (ratNeg t.2.2))).set (k*4+2) (.slice t.1.A t.1.n t.1.c)).set (k*4+3) (.slice t.1.A2 t.1.n2 t.1.c2)
 | [],k,t,h=>by simp at h
 | t' :: l,0,t,h=>by
   rw [List.set_cons_zero,tmsL_cons,tmsL_cons];simp [tmL]
 | t' :: l,k+1,t,h=>by
   have ih:=tmsL_set l k t (by simpa using h);rw [List.set_cons_succ,tmsL_cons,ih,tmsL_cons]
   have e:∀ (a:List Value) (i:Nat) (v:Value),(tmL t' ++ a).set (i+4) v=tmL t' ++ a.set i v:=fun a i v=>by
    rw [List.set_append_right _ _ (by rw [tmL_len];omega),tmL_len,show i+4 - 4=i by omega]
   rw [show (k+1)*4=k*4+4 by omega,show k*4+4+1=k*4+1+4 by omega,show k*4+4+2=k*4+2+4 by omega,show k*4+4+3=k*4+3+4 by omega,e,e,e,e]
theorem tmL_one (t:TB):∀ u ∈ tmL t,u.oneCell'=true:=by
 intro u hu;simp [tmL] at hu
 rcases hu with rfl | rfl | rfl | rfl<;>rfl
def put4 (w:World) (g k:Nat) (t:TB):World:=(((w.setCell ⟨g,k*4,none⟩ (.int .i64 t.2.1)).setCell ⟨g,k*4+1,none⟩ (.bool (ratNeg t.2.2))).setCell ⟨g,k*4+2,none⟩ (.slice t.1.A t.1.n t.1.c)).setCell ⟨g,k*4+3,none⟩ (.slice t.1.A2 t.1.n2 t.1.c2)
theorem put4_fr (w:World) (g k:Nat) (t:TB):Fr (fun b=>b=g) w (put4 w g k t):=fr_set (fr_set (fr_set (fr_set (Fr.refl _ _) (.inl rfl)) (.inl rfl)) (.inl rfl)) (.inl rfl)
structure TRow (w:World) (g c:Nat) (l:List TB):Prop where
 own:w.ownsRow 0 44 4 (.slice (some ⟨g,0,none⟩) l.length c) l.length (tmsL l)
theorem TRow.blk {w:World} {g c:Nat} {l:List TB} (h:TRow w g c l):∃ cur:Array Value,w.heap[g]?=some (.cells cur 44 (0,0))∧cur.size=c*4∧cur.toList.take (l.length*4)=tmsL l∧l.length≤c∧c≤maxLen:=by
 rcases h.own.2 with ⟨hv,_⟩ | ⟨g',cap,cur,hv,_,hx,h1,h2,h3,h4⟩
 · cases hv
 · injection hv with e1 e2 e3
   injection e1 with e1
   injection e1 with e1
   subst e1;subst e3;exact ⟨cur,hx,h3,h4,h1,h2⟩
theorem TRow.of_blk {w:World} {g c:Nat} {l:List TB} {cur:Array Value} (hx:w.heap[g]?=some (.cells cur 44 (0,0))) (h3:cur.size=c*4) (h4:cur.toList.take (l.length*4)=tmsL l) (h1:l.length≤c) (h2:c≤maxLen):TRow w g c l :=
 ⟨by rw [tmsL_len],.inr ⟨g,c,cur,rfl,Nat.zero_le _,hx,h1,h2,h3,h4⟩⟩
theorem TRow.below {w w':World} {g c:Nat} {l:List TB} (h:TRow w g c l) (hb:Below w.heap.size w w'):TRow w' g c l:=⟨own_below h.own hb⟩
theorem TRow.drew {w:World} {g c:Nat} {l:List TB} (h:TRow w g c l):TRow w.drew g c l:=h.below (below_drew2 (Below.refl _ _))
theorem TRow.drewN {w:World} {g c:Nat} {l:List TB} (h:TRow w g c l) (q:Nat):TRow (w.drewN q) g c l:=h.below (below_drewN (Below.refl _ _) q)
theorem TRow.fz {w:World} {g c:Nat} {l:List TB} (h:TRow w g c l) (i:Nat):w.frozen? ⟨g,i,none⟩=false:=by
 obtain ⟨cur,hx,_⟩:=h.blk;exact frozen_of_blk hx i
theorem TRow.cell {w:World} {g c:Nat} {l:List TB} (h:TRow w g c l) {k:Nat} {t:TB} (hk:l[k]?=some t):w.cell? ⟨g,k*4,none⟩=some (.int .i64 t.2.1)∧w.cell? ⟨g,k*4+1,none⟩=some (.bool (ratNeg t.2.2))∧w.cell? ⟨g,k*4+2,none⟩=some (.slice t.1.A t.1.n t.1.c)∧w.cell? ⟨g,k*4+3,none⟩=some (.slice t.1.A2 t.1.n2 t.1.c2):=by
 obtain ⟨cur,hx,h3,h4,h1,_⟩:=h.blk;have hlt:k<l.length:=(List.getElem?_eq_some_iff.1 hk).1
 have key:∀ j,j<4→w.cell? ⟨g,k*4+j,none⟩=(tmL t)[j]?:=by
  intro j hj;rw [cell_of_blk hx,←tmsL_at l k t hk j hj,←h4,List.getElem?_take,if_pos (by omega)];simp
 exact ⟨key 0 (by decide),key 1 (by decide),key 2 (by decide),key 3 (by decide)⟩
theorem set_take (cur:List Value) (i n:Nat) (v:Value):(cur.set i v).take n=(cur.take n).set i v:=List.take_set
theorem TRow.put {w:World} {g c:Nat} {l:List TB} (h:TRow w g c l) {k:Nat} (hk:k<l.length) (t:TB):TRow (put4 w g k t) g c (l.set k t):=by
 obtain ⟨cur,hx,h3,h4,h1,h2⟩:=h.blk;refine TRow.of_blk (cur:=(((cur.setIfInBounds (k*4) (.int .i64 t.2.1)).setIfInBounds (k*4+1) (.bool (ratNeg t.2.2))).setIfInBounds (k*4+2) (.slice t.1.A t.1.n t.1.c)).setIfInBounds (k*4+3) (.slice t.1.A2 t.1.n2 t.1.c2)) ?_ (by simp [h3]) ?_ (by simpa using h1) h2
 · exact set_blk (set_blk (set_blk (set_blk hx _ _) _ _) _ _) _ _
 · rw [List.length_set,tmsL_set l k t hk,←h4]
   simp only [Array.toList_setIfInBounds,set_take]
def exch (l:List TB) (i j:Nat):List TB:=match l[i]?,l[j]? with
 | some a,some b=>(l.set i b).set j a
 | _,_=>l
theorem exch_perm (l:List TB) (i j:Nat):(exch l i j).Perm l:=by
 unfold exch
 split
 · rename_i a b ha hb
   obtain ⟨hi,rfl⟩:=List.getElem?_eq_some_iff.1 ha;obtain ⟨hj,rfl⟩:=List.getElem?_eq_some_iff.1 hb;exact List.set_set_perm hi hj
 · exact List.Perm.refl _
theorem TRow.exch {w:World} {g c:Nat} {l:List TB} (h:TRow w g c l) {i j:Nat} {a b:TB} (hi:l[i]?=some a) (hj:l[j]?=some b):TRow (put4 (put4 w g i b) g j a) g c (exch l i j):=by
 have h1:=h.put (List.getElem?_eq_some_iff.1 hi).1 b;have h2:=h1.put (k:=j) (by rw [List.length_set];exact (List.getElem?_eq_some_iff.1 hj).1) a;unfold Go.Proofs.YtdefcbfofonabaaGreat.exch;rw [hi,hj];exact h2
end Go.Proofs.YtdefcbfofonabaaGreat

namespace Go.Proofs.YtdefcbfofonabaaGreat
open Go.RowKit
set_option linter.unusedVariables false
set_option linter.unusedSimpArgs false
theorem appRn {P:Program} (B:Nat) (W0 w:World) (size:Nat) (E:TypeId) {ops:Array Oper} {rest:List Oper} {o:Oper} {a:Act} {Q:Exit→Act→World→Prop} (hgd:o.guard=none) (s x:Operand) (t:TypeId)
 (ho:o.op=.call { callee:=.builtin .append,args:=#[s,x],argTypes:=#[t,t] })
 (i:TypeInfo) (z:Value) (bytes:Nat) (ht:P.underlying t=some (.slice E)) (hi:P.info? E=some i) (hz:i.zero=some z)
 (hsize:i.size=size) (hby:i.bytes=bytes) (hzs:z.cells.size=size) (hsz:0<size) (hb1:0<bytes)
 (v:Value) (n:Nat) (xs:List Value) (hs:a.eval s=v) (hB:B≤W0.heap.size) (hown:w.ownsRow B E size v n xs) (hbel:Below B W0 w)
 (A:Option Addr) (m c:Nat) (news:List Value) (hx:a.eval x=.slice A m c) (hrd:Rd w size A m news) (h1:∀ u ∈ news,u.oneCell'=true) (hbytes:(n+m)*bytes≤140737488355328)
 (h:∀ v' w',w'.ownsRow B E size v' (n+m) (xs ++ news)→Below B W0 w'→w.grownBy w' v.ownBlock→wpList P ops Q rest (a.put o.dst v') w') :
 wpList P ops Q (o :: rest) a w:=by
 have hm:n+m≤(n+m)*bytes:=Nat.le_mul_of_pos_right _ hb1;have hBw:B≤w.heap.size:=Nat.le_trans hB hbel.size;rcases A with _ | ad
 · have hm0:m=0:=by
    rcases Nat.eq_zero_or_pos m with h0 | h0
    · exact h0
    · obtain ⟨_,_,h',_⟩:=hrd.2 h0
      cases h'
   subst hm0;have hn:news=[]:=List.eq_nil_of_length_eq_zero (by simpa using hrd.1);subst hn;have hh:=h v w (by simpa using hown) hbel (World.grownBy.refl w _);exact appNone hgd s x t ho B E i size ht hi v n c xs hs hown hx hh
 · refine wpList_append_own w hgd s x t ho B E i z size bytes ht hi hz hsize hby hzs hsz v n xs hs hown ad m c news hx hrd.1 ?_ h1 (by unfold maxLen;omega) hbytes hBw ?_
   · intro j u hu
     have hj:0<m:=by
      have h2:=(List.getElem?_eq_some_iff.1 hu).1;rw [hrd.1] at h2;rcases Nat.eq_zero_or_pos m with h0 | h0
      · subst h0;simp at h2
      · exact h0
     obtain ⟨b,off,e,hc⟩:=hrd.2 hj
     injection e with e
     subst e;rw [addr_add_none];exact hc j u hu
   · intro v' w' hown' hg _
     exact h v' w' hown' (hbel.grown hg hBw (fun k hk=>(hown.lt k hk).1)) hg
theorem own_empty4 (w:World) (B:Nat) (hB:B≤w.heap.size):(w.alloc (.cells #[] 44)).ownsRow B 44 4 (.slice (some ⟨w.heap.size,0,none⟩) 0 0) 0 []:=by
 have:=World.ownsRow_lit (base:=B) (e:=44) (size:=4) w #[] 0 hB (by unfold maxLen;omega) rfl
 simpa using this
theorem info_term:(Tryz.prog.info? 44).map (fun i=>(i.zero,i.size,i.bytes))=some (some (.agg #[.int .i64 0,.bool false,.slice none 0 0,.slice none 0 0]),4,64):=by kernel_rfl
theorem tmsL_one (l:List TB):∀ u ∈ tmsL l,u.oneCell'=true:=by
 intro u hu;obtain ⟨t,_,ht⟩:=List.mem_flatMap.1 hu;exact tmL_one t u ht
set_option maxRecDepth 100000 in
theorem clone_any (l:List TB) (A:Option Addr) (n c:Nat) (w:World) (h:Rd w 4 A n (tmsL l)) (hl:l.length=n) (hb:n≤1000000) :
 Calls Tryz.prog 52 #[.slice A n c] w fun e w'=>∃ v',e=.returned v'∧w'.ownsRow w.heap.size 44 4 v' n (tmsL l)∧Below w.heap.size w w':=by
 obtain ⟨i0,hi,hz0,hz1,hz2⟩:=info_parts info_term;rcases A with _ | ad
 · have hn:n=0:=by
    rcases Nat.eq_zero_or_pos n with h0 | h0
    · exact h0
    · obtain ⟨_,_,h',_⟩:=h.2 h0
      cases h'
   subst hn;obtain rfl:l=[]:=List.eq_nil_of_length_eq_zero hl;clear h hl
   have heq:=fun W=>Lib.run_eql_slice_nil (P:=Tryz.prog) W 23 44 none 0 c 0 0 Tryz.underlying23
   go_enter Tryz.func52,Tryz.ntmps52
   go_wp2_with fail
   go_ret;exact ⟨_,rfl,World.ownsRow_nil _ _ _ _,Below.refl _ _⟩
 · have heq:=fun W=>Lib.run_eql_slice_nil (P:=Tryz.prog) W 23 44 (some ad) n c 0 0 Tryz.underlying23
   have H:=Lib.hid h;clear h hl
   go_enter Tryz.func52,Tryz.ntmps52
   go_wp2_with (at_builtin;refine appRn w.heap.size w (w.alloc (.cells #[] 44)) 4 44 rfl _ _ 23 rfl i0 _ 64 Tryz.underlying23 hi hz0 hz1 hz2 rfl (by decide) (by decide) _ 0 [] rfl (Nat.le_refl _) (own_empty4 _ _ (Nat.le_refl _)) ((Below.refl _ _).alloc (Nat.le_refl _) _) (some ad) n c (tmsL l) rfl (H.out.alloc _) (tmsL_one l) (by omega) ?_)
   intro v8 w8 ho8 hx _;have HO:=Lib.hid ho8;have HX:=Lib.hid hx;clear ho8 hx
   go_wp2_with fail
   go_ret;exact ⟨_,rfl,HO.out,HX.out⟩
end Go.Proofs.YtdefcbfofonabaaGreat

namespace Go.Proofs.YtdefcbfofonabaaGreat
set_option linter.unusedVariables false
set_option linter.unusedSimpArgs false
def coT:List Tm→Int→Rat
 | [],_=>0
 | t :: r,v=>(if t.1=v then t.2 else 0)+coT r v
theorem coT_app (l m:List Tm) (v:Int):coT (l ++ m) v=coT l v+coT m v:=by
 induction l with
 | nil=>simp only [List.nil_append,coT];grind
 | cons t l ih=>simp only [List.cons_append,coT,ih];grind
theorem coT_none {l:List Tm} {v:Int} (h:∀ t ∈ l,t.1≠v):coT l v=0:=by
 induction l with
 | nil=>rfl
 | cons t l ih =>
   simp only [coT];rw [if_neg (h t (by simp)),ih fun u hu=>h u (by simp [hu])]
   grind
theorem coT_perm {l m:List Tm} (h:l.Perm m) (v:Int):coT l v=coT m v:=by
 induction h with
 | nil=>rfl
 | cons x _ ih=>simp only [coT,ih]
 | swap x y l=>simp only [coT];grind
 | trans _ _ h1 h2=>rw [h1,h2]
theorem coT_sc (r:Rat) (v:Int):∀ l:List Tm,coT (scT r l) v=r*coT l v
 | []=>by simp only [scT,List.map_nil,coT];grind
 | t :: l=>by
   have:=coT_sc r v l;simp only [scT,List.map_cons,coT] at this ⊢;rw [this]
   split<;>grind
theorem coT_grpGo (u:Int):∀ (l:List Tm) (v:Int) (c:Rat),coT (grpGo v c l) u=(if v=u then c else 0)+coT l u
 | [],v,c=>by
   unfold grpGo
   split
   · simp only [coT]
     split<;>grind
   · simp only [coT]
 | t :: r,v,c=>by
   unfold grpGo
   split
   · rename_i h
     rw [coT_grpGo u r v,coT,h]
     split<;>grind
   · rw [coT_app,coT_grpGo u r t.1]
     simp only [coT]
     split
     · simp only [coT]
       split<;>split<;>grind
     · simp only [coT]
       split<;>split<;>grind
theorem coT_grp (u:Int) (l:List Tm):coT (grp l) u=coT l u:=by
 cases l with
 | nil=>rfl
 | cons t r =>
   unfold grp;rw [coT_grpGo];simp only [coT]
   split<;>grind
def SrtV (l:List Tm):Prop:=l.Pairwise fun a b=>a.1≤b.1
structure Cano (l:List Tm):Prop where
 inc:l.Pairwise fun a b=>a.1<b.1
 nz:∀ t ∈ l,t.2≠0
theorem grpGo_inc:∀ (l:List Tm) (v:Int) (c:Rat),SrtV l→(∀ t ∈ l,v≤t.1)→(grpGo v c l).Pairwise (fun a b=>a.1<b.1)∧∀ t ∈ grpGo v c l,v≤t.1
 | [],v,c,_,_=>by
   unfold grpGo
   split
   · simp
   · simp
 | t :: r,v,c,hs,hv=>by
   have hs':=List.pairwise_cons.1 hs;unfold grpGo
   split
   · rename_i h
     exact grpGo_inc r v _ hs'.2 fun u hu=>hv u (by simp [hu])
   · rename_i h
     have hlt:v<t.1:=by
      have:=hv t (by simp);omega
     obtain ⟨h1,h2⟩:=grpGo_inc r t.1 (0+t.2) hs'.2 fun u hu=>hs'.1 u hu
     split
     · rw [List.nil_append]
       exact ⟨h1,fun u hu=>by have:=h2 u hu;omega⟩
     · refine ⟨?_,?_⟩
       · rw [List.singleton_append,List.pairwise_cons]
         exact ⟨fun u hu=>by have:=h2 u hu;simp only;omega,h1⟩
       · intro u hu
         rw [List.singleton_append,List.mem_cons] at hu;rcases hu with rfl | hu
         · exact Int.le_refl _
         · have:=h2 u hu
           omega
theorem cano_grp {l:List Tm} (h:SrtV l):Cano (grp l):=by
 refine ⟨?_,grp_nz l⟩
 cases l with
 | nil=>exact List.Pairwise.nil
 | cons t r =>
   have hs:=List.pairwise_cons.1 h;exact (grpGo_inc r t.1 _ hs.2 hs.1).1
theorem cano_co {l:List Tm} (h:l.Pairwise fun a b=>a.1<b.1):∀ t ∈ l,coT l t.1=t.2:=by
 induction l with
 | nil=>simp
 | cons t l ih =>
   have hs:=List.pairwise_cons.1 h;intro u hu;simp only [coT];rcases List.mem_cons.1 hu with rfl | hu
   · rw [if_pos rfl,coT_none fun x hx=>by have:=hs.1 x hx;omega]
     grind
   · have:=hs.1 u hu
     rw [if_neg (by omega),ih hs.2 u hu]
     grind
theorem Cano.nil {l:List Tm} (h:Cano l) (h0:∀ v,coT l v=0):l=[]:=by
 cases l with
 | nil=>rfl
 | cons t r =>
   have h1:=cano_co h.inc t (by simp);rw [h0] at h1;exact absurd h1.symm (h.nz t (by simp))
theorem Cano.mem_iff {l:List Tm} (h:Cano l) (v:Int):(∃ t ∈ l,t.1=v)↔coT l v≠0:=by
 constructor
 · rintro ⟨t,ht,rfl⟩
   rw [cano_co h.inc t ht];exact h.nz t ht
 · intro h0
   refine Classical.byContradiction fun hn=>h0 (coT_none fun t ht e=>hn ⟨t,ht,e⟩)
theorem Cano.nil_:Cano []:=⟨List.Pairwise.nil,by simp⟩
theorem Cano.one (v:Int) (q:Rat) (h:q≠0):Cano [(v,q)]:=⟨by simp,by simpa using h⟩
theorem few_vars:∀ (l:List Tm) (lo hi:Int),l.Pairwise (fun a b=>a.1<b.1)→(∀ t ∈ l,lo≤t.1∧t.1<hi)→lo≤hi→(l.length:Int)≤hi - lo
 | [],lo,hi,_,_,h=>by simp;omega
 | t :: r,lo,hi,hp,hb,h=>by
   have hs:=List.pairwise_cons.1 hp;have h1:=hb t (by simp);have:=few_vars r (t.1+1) hi hs.2 (fun u hu=>⟨by have:=hs.1 u hu;omega,(hb u (by simp [hu])).2⟩) (by omega);simp only [List.length_cons];omega
end Go.Proofs.YtdefcbfofonabaaGreat

namespace Go.Proofs.YtdefcbfofonabaaGreat
open Go.RowKit
set_option linter.unusedVariables false
set_option linter.unusedSimpArgs false
set_option maxRecDepth 100000 in
set_option maxHeartbeats 4000000 in
theorem qneg_any (b:RB) (q:Rat) (w:World) (h:QAt w b q) :
 Calls Tryz.prog 86 #[b.val (ratNeg q)] w fun e w'=>∃ b':RB,e=.returned (b'.val (ratNeg (-q)))∧QAt w' b' (-q)∧Below w.heap.size w w':=by
 have hlo:=fun W (hW:Below w.heap.size w W)=>low_any (ratNeg q) b q W (h.below hW)
 obtain ⟨n1,n2',n3⟩:=neg_rat q;have hnum:=h.num;have hlen:=h.num.len;obtain ⟨A,n,c,A2,n2,c2⟩:=b;unfold RB.val at hlo ⊢;simp only at hnum hlo hlen ⊢
 obtain ⟨s,hs⟩:∃ s,s=ratNeg q:=⟨_,rfl⟩
 rw [←hs] at hlo n1 ⊢;clear hs
 go_enter Tryz.func86,Tryz.ntmps86
 go_upto_region 1 with fail
 have hx1:=heap_alloc_new w (.cells #[.bool s,.slice A n c,.slice A2 n2 c2] 83)
 have zw1:(w.alloc (.cells #[.bool s,.slice A n c,.slice A2 n2 c2] 83)).heap.size=w.heap.size+1:=by simp
 have aw1:=(Below.refl w.heap.size w).alloc (Nat.le_refl _) (.cells #[.bool s,.slice A n c,.slice A2 n2 c2] 83)
 obtain ⟨w1,ew1⟩:∃ x,x=w.alloc (.cells #[.bool s,.slice A n c,.slice A2 n2 c2] 83):=⟨_,rfl⟩
 rw [←ew1] at hx1 zw1 aw1 ⊢;clear ew1;have hx2:=heap_alloc_new w1 (.cells #[.bool false,.slice none 0 0,.slice none 0 0] 83)
 have zw2:(w1.alloc (.cells #[.bool false,.slice none 0 0,.slice none 0 0] 83)).heap.size=w1.heap.size+1:=by simp
 have aw2:=(Below.refl w1.heap.size w1).alloc (Nat.le_refl _) (.cells #[.bool false,.slice none 0 0,.slice none 0 0] 83)
 obtain ⟨w2,ew2⟩:∃ x,x=w1.alloc (.cells #[.bool false,.slice none 0 0,.slice none 0 0] 83):=⟨_,rfl⟩
 rw [←ew2] at hx2 zw2 aw2 ⊢;clear ew2;rw [zw1] at hx2;have b2:=aw1.trans (aw2.mono aw1.size);have hv1:=box_keep hx1 aw2
 have hcs:∀ W',Fr (fun kk=>kk=w.heap.size+1) w2 W'→W'.cell? ⟨w.heap.size,0,none⟩=some (.bool s)∧W'.cell? ⟨w.heap.size,1,none⟩=some (.slice A n c)∧W'.cell? ⟨w.heap.size,2,none⟩=some (.slice A2 n2 c2):=fun W' hb=>Box.of ((hb.block _ (lt_of_blk hv1) (by omega)).trans hv1)
 have HCS:=Lib.hid hcs;have HLO:=Lib.hid (fun W (hW:Below w2.heap.size w2 W)=>hlo W (b2.trans (hW.mono b2.size)));have HX2:=Lib.hid hx2;have HB2:=Lib.hid b2;have HNUM:=Lib.hid (hnum.below b2);have HN2:=Lib.hid n2';have HN3:=Lib.hid n3
 by_cases h0:0<n
 · have hp:0<q.num.natAbs:=by rw [←hlen] at h0;exact bits_pos.1 h0
   rw [decide_eq_true hp,Bool.and_true] at n1
   have h0':(n:Int)>0:=by omega
   clear hcs hlo hx1 hx2 hv1 b2 aw1 aw2 zw1 zw2 hnum h hp hlen n2' n3
   cases s
   · have HN1:=Lib.hid n1
     clear n1
     go_region_held3 (fun W'=>W'.cell? ⟨w.heap.size,0,none⟩=some (.bool false)∧W'.cell? ⟨w.heap.size,1,none⟩=some (.slice A n c)∧W'.cell? ⟨w.heap.size,2,none⟩=some (.slice A2 n2 c2)) ((refine HCS.out _ ?_;repeat' (first | with_reducible exact Fr.of_below k1 | with_reducible exact (Fr.refl _ _).drew | with_reducible refine fr_set ?_ ?_ | exact .inl rfl))) (first | (go_at_call 97;refine (HLO.out _ (below_drew2 (Below.refl _ _))).mono ?_;rintro e u1 ⟨A6,n6,c6,rfl,h6,hb6⟩;have k1:Below w2.heap.size w2 u1:=(below_drew2 (Below.refl _ _)).trans (hb6.mono (Nat.le_refl _));have HXU:=Lib.hid (box_keep HX2.out k1);obtain ⟨p0,p1,p2⟩:=Box.of HXU.out;have z0:=frozen_of_blk HXU.out 0;have z1:=frozen_of_blk HXU.out 1;have z2:=frozen_of_blk HXU.out 2;have H6:=Lib.hid h6;clear hb6 h6))
     all_goals
      go_wp2_with fail
      refine bodyPost_ret (v:=.agg #[.bool true,.slice A n c,.slice A6 n6 c6]) (by simp [results,Tryz.results86,go_sem,p0,p1,p2]) rfl ?_
      have hq:QAt u1 ⟨A,n,c,A6,n6,c6⟩ (-q):=⟨by rw [HN2.out];exact HNUM.out.below k1,by rw [HN3.out];exact H6.out⟩
      refine ⟨⟨A,n,c,A6,n6,c6⟩,by rw [HN1.out]<;>rfl,hq.fr (S:=fun b=>b=w.heap.size+1) (fr_set (fr_set (fr_set (Fr.refl _ _) (.inl rfl)) (.inl rfl)) (.inl rfl)) (typB_of HXU.out (by decide)),?_⟩;exact bl_set (bl_set (bl_set (HB2.out.trans (k1.mono HB2.out.size)) (Nat.le_succ _)) (Nat.le_succ _)) (Nat.le_succ _)
   · have HN1:=Lib.hid n1
     clear n1;have hS:=HCS.out w2.drew (Fr.refl _ _).drew;refine wp_region_E 14 (fun W'=>W'.cell? ⟨w.heap.size,0,none⟩=some (.bool true)∧W'.cell? ⟨w.heap.size,1,none⟩=some (.slice A n c)∧W'.cell? ⟨w.heap.size,2,none⟩=some (.slice A2 n2 c2)) (by kernel_rfl) ?_;refine tkE 0 hS ?_;simp only [Act.put,sA,sZ,sS];refine tkE 1 hS ?_;simp only [Act.put,sA,sZ,sS];refine tkE 2 hS ?_;simp only [Act.put,sA,sZ,sS];refine tkE 3 hS ?_;simp only [Act.put,sA,sZ,sS];refine wpAnyE_skip (i:=4) (by kernel_rfl) rfl (by kernel_rfl) (by kernel_rfl) (by kernel_rfl) (fun _ _ _ h=>h) (by rfl) hS ?rest4
     case rest4 =>
     simp only [Act.put,sA,sZ,sS];refine wpAnyE_skip (i:=5) (by kernel_rfl) rfl (by kernel_rfl) (by kernel_rfl) (by kernel_rfl) (fun _ _ _ h=>h) (by rfl) hS ?rest5
     case rest5 =>
     simp only [Act.put,sA,sZ,sS];refine wpAnyE_skip (i:=6) (by kernel_rfl) rfl (by kernel_rfl) (by kernel_rfl) (by kernel_rfl) (fun _ _ _ h=>h) (by rfl) hS ?rest6
     case rest6 =>
     simp only [Act.put,sA,sZ,sS];refine wpAnyE_skip (i:=7) (by kernel_rfl) rfl (by kernel_rfl) (by kernel_rfl) (by kernel_rfl) (fun _ _ _ h=>h) (by rfl) hS ?rest7
     case rest7 =>
     simp only [Act.put,sA,sZ,sS];refine tkE 8 hS ?_;simp only [Act.put,sA,sZ,sS];refine tkE 9 hS ?_;simp only [Act.put,sA,sZ,sS];refine tkE 10 hS ?_;simp only [Act.put,sA,sZ,sS];refine tkE 11 hS ?_;simp only [Act.put,sA,sZ,sS]
     refine onE 12 fun KK HKK12=>?_
     go_simp
     go_at_call 97
     refine (HLO.out _ (below_drew2 (Below.refl _ _))).mono ?_;rintro e u1 ⟨A6,n6,c6,rfl,h6,hb6⟩;have k1:Below w2.heap.size w2 u1:=(below_drew2 (Below.refl _ _)).trans (hb6.mono (Nat.le_refl _));have HXU:=Lib.hid (box_keep HX2.out k1);have hS1:=HCS.out u1 (Fr.of_below k1);have H6:=Lib.hid h6;clear hb6 h6 hS;refine HKK12.out _ _ (.inr hS1) ?_;clear HKK12
     try simp only [Act.put,sA,sZ,sS]
     refine tkE 13 hS1 ?_;simp only [Act.put,sA,sZ,sS]
     refine onE 14 fun KK HKK14=>?_
     obtain ⟨p0,p1,p2⟩:=Box.of HXU.out;have z0:=frozen_of_blk HXU.out 0;have z1:=frozen_of_blk HXU.out 1;have z2:=frozen_of_blk HXU.out 2;clear hS1;go_simp;refine HKK14.out _ _ (.inl rfl) ?_;clear HKK14;refine wpAnyE_done (by kernel_rfl) ?_ _
     go_wp2_with fail
     refine bodyPost_ret (v:=.agg #[.bool false,.slice A n c,.slice A6 n6 c6]) (by simp [results,Tryz.results86,go_sem,p0,p1,p2]) rfl ?_
     have hq:QAt u1 ⟨A,n,c,A6,n6,c6⟩ (-q):=⟨by rw [HN2.out];exact HNUM.out.below k1,by rw [HN3.out];exact H6.out⟩
     refine ⟨⟨A,n,c,A6,n6,c6⟩,by rw [HN1.out]<;>rfl,hq.fr (S:=fun b=>b=w.heap.size+1) (fr_set (fr_set (fr_set (Fr.refl _ _) (.inl rfl)) (.inl rfl)) (.inl rfl)) (typB_of HXU.out (by decide)),?_⟩;exact bl_set (bl_set (bl_set (HB2.out.trans (k1.mono HB2.out.size)) (Nat.le_succ _)) (Nat.le_succ _)) (Nat.le_succ _)
 · have hp:¬ 0<q.num.natAbs:=fun hp=>h0 (by rw [←hlen];exact bits_pos.2 hp)
   rw [decide_eq_false hp,Bool.and_false] at n1
   have h0':¬ ((n:Int)>0):=by omega
   have HN1:=Lib.hid n1;clear hcs hlo hx1 hx2 hv1 b2 aw1 aw2 zw1 zw2 hnum h hp hlen n2' n3 n1
   cases s
   · skip
     go_region_held3 (fun W'=>W'.cell? ⟨w.heap.size,0,none⟩=some (.bool false)∧W'.cell? ⟨w.heap.size,1,none⟩=some (.slice A n c)∧W'.cell? ⟨w.heap.size,2,none⟩=some (.slice A2 n2 c2)) ((refine HCS.out _ ?_;repeat' (first | with_reducible exact Fr.of_below k1 | with_reducible exact (Fr.refl _ _).drew | with_reducible refine fr_set ?_ ?_ | exact .inl rfl))) (first | (go_at_call 97;refine (HLO.out _ (below_drew2 (Below.refl _ _))).mono ?_;rintro e u1 ⟨A6,n6,c6,rfl,h6,hb6⟩;have k1:Below w2.heap.size w2 u1:=(below_drew2 (Below.refl _ _)).trans (hb6.mono (Nat.le_refl _));have HXU:=Lib.hid (box_keep HX2.out k1);obtain ⟨p0,p1,p2⟩:=Box.of HXU.out;have z0:=frozen_of_blk HXU.out 0;have z1:=frozen_of_blk HXU.out 1;have z2:=frozen_of_blk HXU.out 2;have H6:=Lib.hid h6;clear hb6 h6))
     all_goals
      go_wp2_with fail
      refine bodyPost_ret (v:=.agg #[.bool false,.slice A n c,.slice A6 n6 c6]) (by simp [results,Tryz.results86,go_sem,p0,p1,p2]) rfl ?_
      have hq:QAt u1 ⟨A,n,c,A6,n6,c6⟩ (-q):=⟨by rw [HN2.out];exact HNUM.out.below k1,by rw [HN3.out];exact H6.out⟩
      refine ⟨⟨A,n,c,A6,n6,c6⟩,by rw [HN1.out]<;>rfl,hq.fr (S:=fun b=>b=w.heap.size+1) (fr_set (fr_set (fr_set (Fr.refl _ _) (.inl rfl)) (.inl rfl)) (.inl rfl)) (typB_of HXU.out (by decide)),?_⟩;exact bl_set (bl_set (bl_set (HB2.out.trans (k1.mono HB2.out.size)) (Nat.le_succ _)) (Nat.le_succ _)) (Nat.le_succ _)
   · skip
     have hS:=HCS.out w2.drew (Fr.refl _ _).drew;refine wp_region_E 14 (fun W'=>W'.cell? ⟨w.heap.size,0,none⟩=some (.bool true)∧W'.cell? ⟨w.heap.size,1,none⟩=some (.slice A n c)∧W'.cell? ⟨w.heap.size,2,none⟩=some (.slice A2 n2 c2)) (by kernel_rfl) ?_;refine tkE 0 hS ?_;simp only [Act.put,sA,sZ,sS];refine tkE 1 hS ?_;simp only [Act.put,sA,sZ,sS];refine tkE 2 hS ?_;simp only [Act.put,sA,sZ,sS];refine tkE 3 hS ?_;simp only [Act.put,sA,sZ,sS];refine wpAnyE_skip (i:=4) (by kernel_rfl) rfl (by kernel_rfl) (by kernel_rfl) (by kernel_rfl) (fun _ _ _ h=>h) (by rfl) hS ?rest4
     case rest4 =>
     simp only [Act.put,sA,sZ,sS];refine wpAnyE_skip (i:=5) (by kernel_rfl) rfl (by kernel_rfl) (by kernel_rfl) (by kernel_rfl) (fun _ _ _ h=>h) (by rfl) hS ?rest5
     case rest5 =>
     simp only [Act.put,sA,sZ,sS];refine wpAnyE_skip (i:=6) (by kernel_rfl) rfl (by kernel_rfl) (by kernel_rfl) (by kernel_rfl) (fun _ _ _ h=>h) (by rfl) hS ?rest6
     case rest6 =>
     simp only [Act.put,sA,sZ,sS];refine wpAnyE_skip (i:=7) (by kernel_rfl) rfl (by kernel_rfl) (by kernel_rfl) (by kernel_rfl) (fun _ _ _ h=>h) (by rfl) hS ?rest7
     case rest7 =>
     simp only [Act.put,sA,sZ,sS];refine tkE 8 hS ?_;simp only [Act.put,sA,sZ,sS];refine tkE 9 hS ?_;simp only [Act.put,sA,sZ,sS];refine tkE 10 hS ?_;simp only [Act.put,sA,sZ,sS];refine tkE 11 hS ?_;simp only [Act.put,sA,sZ,sS]
     refine onE 12 fun KK HKK12=>?_
     go_simp
     go_at_call 97
     refine (HLO.out _ (below_drew2 (Below.refl _ _))).mono ?_;rintro e u1 ⟨A6,n6,c6,rfl,h6,hb6⟩;have k1:Below w2.heap.size w2 u1:=(below_drew2 (Below.refl _ _)).trans (hb6.mono (Nat.le_refl _));have HXU:=Lib.hid (box_keep HX2.out k1);have hS1:=HCS.out u1 (Fr.of_below k1);have H6:=Lib.hid h6;clear hb6 h6 hS;refine HKK12.out _ _ (.inr hS1) ?_;clear HKK12
     try simp only [Act.put,sA,sZ,sS]
     refine tkE 13 hS1 ?_;simp only [Act.put,sA,sZ,sS]
     refine onE 14 fun KK HKK14=>?_
     obtain ⟨p0,p1,p2⟩:=Box.of HXU.out;have z0:=frozen_of_blk HXU.out 0;have z1:=frozen_of_blk HXU.out 1;have z2:=frozen_of_blk HXU.out 2;clear hS1;go_simp;refine HKK14.out _ _ (.inl rfl) ?_;clear HKK14;refine wpAnyE_done (by kernel_rfl) ?_ _
     go_wp2_with fail
     refine bodyPost_ret (v:=.agg #[.bool false,.slice A n c,.slice A6 n6 c6]) (by simp [results,Tryz.results86,go_sem,p0,p1,p2]) rfl ?_
     have hq:QAt u1 ⟨A,n,c,A6,n6,c6⟩ (-q):=⟨by rw [HN2.out];exact HNUM.out.below k1,by rw [HN3.out];exact H6.out⟩
     refine ⟨⟨A,n,c,A6,n6,c6⟩,by rw [HN1.out]<;>rfl,hq.fr (S:=fun b=>b=w.heap.size+1) (fr_set (fr_set (fr_set (Fr.refl _ _) (.inl rfl)) (.inl rfl)) (.inl rfl)) (typB_of HXU.out (by decide)),?_⟩;exact bl_set (bl_set (bl_set (HB2.out.trans (k1.mono HB2.out.size)) (Nat.le_succ _)) (Nat.le_succ _)) (Nat.le_succ _)
set_option maxRecDepth 100000 in
theorem qint_any (k:Nat) (w:World) (hk:k≤1) :
 Calls Tryz.prog 29 #[.int .i64 (k:Int)] w fun e w'=>∃ b:RB,e=.returned (b.val (ratNeg (k:Rat)))∧QAt w' b (k:Rat)∧Below w.heap.size w w':=by
 have hw:=fun W=>bword_any k W (by omega)
 have h1:=fun W=>bword_any 1 W (by decide)
 have hn:(k:Rat).num.natAbs=k:=by rcases (show k=0∨k=1 by omega) with rfl | rfl<;>rfl
 have hd:(k:Rat).den=1:=by rcases (show k=0∨k=1 by omega) with rfl | rfl<;>rfl
 have hs:ratNeg (k:Rat)=false:=by rcases (show k=0∨k=1 by omega) with rfl | rfl<;>rfl
 have hk0:¬ ((k:Int)<0):=by omega
 have hkw:IntKind.u64.wrap (k:Int)=(k:Int):=by rcases (show k=0∨k=1 by omega) with rfl | rfl<;>rfl
 unfold RB.val;rw [hs];have HW:=Lib.hid hw;have H1:=Lib.hid h1;have HN:=Lib.hid hn;have HD:=Lib.hid hd;clear hw h1 hn hd hs
 go_enter Tryz.func29,Tryz.ntmps29
 go_upto_region 1 with fail
 have hx1:=heap_alloc_new w (.cells #[.bool false,.slice none 0 0,.slice none 0 0] 83)
 have zw1:(w.alloc (.cells #[.bool false,.slice none 0 0,.slice none 0 0] 83)).heap.size=w.heap.size+1:=by simp
 have aw1:=(Below.refl w.heap.size w).alloc (Nat.le_refl _) (.cells #[.bool false,.slice none 0 0,.slice none 0 0] 83)
 obtain ⟨w1,ew1⟩:∃ x,x=w.alloc (.cells #[.bool false,.slice none 0 0,.slice none 0 0] 83):=⟨_,rfl⟩
 rw [←ew1] at hx1 zw1 aw1 ⊢;clear ew1;have HX1:=Lib.hid hx1;have HB1:=Lib.hid aw1;clear hx1 aw1 zw1;have hcall:=HW.out w1;clear HW
 go_upto_region 3 with fail
 go_wp2_with (first | (go_at_call 61;refine hcall.mono ?_;clear hcall;rintro e w2 ⟨A2,n2,c2,rfl,h2,b2⟩;have hcall2:=H1.out w2;have H2:=Lib.hid h2;clear h2) | (go_at_call 61;refine hcall2.mono ?_;clear hcall2;rintro e w3 ⟨A9,n9,c9,rfl,h9,b9⟩;have k1:=b2.trans (b9.mono b2.size);have HXU:=Lib.hid (box_keep HX1.out k1);obtain ⟨p0,p1,p2⟩:=Box.of HXU.out;have z0:=frozen_of_blk HXU.out 0;have z1:=frozen_of_blk HXU.out 1;have z2:=frozen_of_blk HXU.out 2;have H9:=Lib.hid h9;have H3:=Lib.hid (H2.out.below b9);clear h9))
 refine bodyPost_ret (v:=.agg #[.bool false,.slice A2 n2 c2,.slice A9 n9 c9]) (by simp [results,Tryz.results29,go_sem,p0,p1,p2]) rfl ?_
 have hq:QAt w3 ⟨A2,n2,c2,A9,n9,c9⟩ (k:Rat):=⟨by rw [HN.out];exact H3.out,by rw [HD.out];exact H9.out⟩
 refine ⟨⟨A2,n2,c2,A9,n9,c9⟩,rfl,hq.fr (S:=fun b=>b=w.heap.size) (fr_set (fr_set (fr_set (Fr.refl _ _) (.inl rfl)) (.inl rfl)) (.inl rfl)) (typB_of HXU.out (by decide)),?_⟩;exact bl_set (bl_set (bl_set (HB1.out.trans (k1.mono HB1.out.size)) (Nat.le_refl _)) (Nat.le_refl _)) (Nat.le_refl _)
theorem qint0 (w:World):Calls Tryz.prog 29 #[.int .i64 0] w fun e w'=>∃ b:RB,e=.returned (b.val (ratNeg 0))∧QAt w' b 0∧Below w.heap.size w w':=qint_any 0 w (by decide)
theorem qint1 (w:World):Calls Tryz.prog 29 #[.int .i64 1] w fun e w'=>∃ b:RB,e=.returned (b.val (ratNeg 1))∧QAt w' b 1∧Below w.heap.size w w':=qint_any 1 w (by decide)
set_option maxRecDepth 100000 in
theorem qint_m1 (w:World) :
 Calls Tryz.prog 29 #[.int .i64 (-1)] w fun e w'=>∃ b:RB,e=.returned (b.val (ratNeg (-1)))∧QAt w' b (-1)∧Below w.heap.size w w':=by
 have hw0:=fun W=>bword_any 0 W (by decide)
 have h1:=fun W=>bword_any 1 W (by decide)
 have hn:(-1:Rat).num.natAbs=0+1:=rfl;have hd:(-1:Rat).den=1:=rfl;have hs:ratNeg (-1:Rat)=true:=rfl;unfold RB.val;rw [hs];have HW:=Lib.hid hw0;have H1:=Lib.hid h1;have HN:=Lib.hid hn;have HD:=Lib.hid hd;clear hw0 h1 hn hd hs
 go_enter Tryz.func29,Tryz.ntmps29
 go_upto_region 1 with fail
 have hx1:=heap_alloc_new w (.cells #[.bool false,.slice none 0 0,.slice none 0 0] 83)
 have zw1:(w.alloc (.cells #[.bool false,.slice none 0 0,.slice none 0 0] 83)).heap.size=w.heap.size+1:=by simp
 have aw1:=(Below.refl w.heap.size w).alloc (Nat.le_refl _) (.cells #[.bool false,.slice none 0 0,.slice none 0 0] 83)
 obtain ⟨w1,ew1⟩:∃ x,x=w.alloc (.cells #[.bool false,.slice none 0 0,.slice none 0 0] 83):=⟨_,rfl⟩
 rw [←ew1] at hx1 zw1 aw1 ⊢;clear ew1;have HX1:=Lib.hid hx1;have HB1:=Lib.hid aw1;clear hx1 aw1 zw1;have hcall:=HW.out w1;have tok1:True:=trivial;clear HW
 go_upto_region 2 with fail
 go_wp2_with (first | (go_at_call 61;have _t:=tok1;refine hcall.mono ?_;clear hcall;rintro e w2 ⟨A2,n2,c2,rfl,h2,b2⟩;have tok2:True:=trivial;clear tok1 _t;have hcall2:=H1.out w2;have H2:=Lib.hid h2;clear h2) | (go_at_call 61;have _t:=tok2;refine hcall2.mono ?_;clear hcall2;rintro e w3 ⟨A3,n3,c3,rfl,h3,b3⟩;have tok3:True:=trivial;clear tok2 _t;have hl2:=H2.out.len;have hl3:=h3.len;have hz2:(bitl 0).length≤4:=bitl_len (by decide);have hz3:(bitl 1).length≤4:=bitl_len (by decide);have had:=badd_any (H2.out.below b3) h3 (by omega) (by omega);rw [bvl_bitl,bvl_bitl] at had;clear h3 hl2 hl3 hz2 hz3) | (go_at_call 60;refine had.mono ?_;clear had;rintro e w4 ⟨A4,n4,c4,rfl,h4,b4⟩;have hcall3:=H1.out w4;have H4:=Lib.hid h4;clear h4) | (go_at_call 61;have _t:=tok3;refine hcall3.mono ?_;clear hcall3;rintro e w5 ⟨A9,n9,c9,rfl,h9,b9⟩;clear tok3 _t;have k1:=(b2.trans (b3.mono b2.size)).trans ((b4.trans (b9.mono b4.size)).mono (b2.trans (b3.mono b2.size)).size);have HXU:=Lib.hid (box_keep HX1.out k1);obtain ⟨p0,p1,p2⟩:=Box.of HXU.out;have z0:=frozen_of_blk HXU.out 0;have z1:=frozen_of_blk HXU.out 1;have z2:=frozen_of_blk HXU.out 2;have H9:=Lib.hid h9;have H3:=Lib.hid (H4.out.below b9);clear h9))
 refine bodyPost_ret (v:=.agg #[.bool true,.slice A4 n4 c4,.slice A9 n9 c9]) (by simp [results,Tryz.results29,go_sem,p0,p1,p2]) rfl ?_
 have hq:QAt w5 ⟨A4,n4,c4,A9,n9,c9⟩ (-1):=⟨by rw [HN.out];exact H3.out,by rw [HD.out];exact H9.out⟩
 refine ⟨⟨A4,n4,c4,A9,n9,c9⟩,rfl,hq.fr (S:=fun b=>b=w.heap.size) (fr_set (fr_set (fr_set (Fr.refl _ _) (.inl rfl)) (.inl rfl)) (.inl rfl)) (typB_of HXU.out (by decide)),?_⟩;exact bl_set (bl_set (bl_set (HB1.out.trans (k1.mono HB1.out.size)) (Nat.le_refl _)) (Nat.le_refl _)) (Nat.le_refl _)
end Go.Proofs.YtdefcbfofonabaaGreat

namespace Go.Proofs.YtdefcbfofonabaaGreat
open Go.RowKit
set_option linter.unusedVariables false
set_option linter.unusedSimpArgs false
structure QOk (w:World) (K:Nat) (t:TB):Prop where
 at_:QAt w t.1 t.2.2
 le:QLe t.2.2 K
 lo : -9223372036854775808≤t.2.1
 hi:t.2.1≤9223372036854775807
theorem QOk.below {w w':World} {K:Nat} {t:TB} (h:QOk w K t) (hb:Below w.heap.size w w'):QOk w' K t:=⟨h.at_.below hb,h.le,h.lo,h.hi⟩
theorem QOk.fr {S:Nat→Prop} {w w':World} {K:Nat} {t:TB} (h:QOk w K t) (hf:Fr S w w') (hS:∀ b,S b→∃ cs t m,w.heap[b]?=some (.cells cs t m)∧t≠4∧t≠153):QOk w' K t :=
 ⟨h.at_.fr hf (fun b hb=>by obtain ⟨cs,t,m,e,h1,_⟩:=hS b hb;exact ⟨cs,t,m,e,h1⟩),h.le,h.lo,h.hi⟩
structure QsAt (w:World) (A:Option Addr) (n c:Nat) (l:List TB) (K:Nat):Prop where
 rd:Rd w 4 A n (tmsL l)
 len:l.length=n
 cap:n≤c
 each:∀ t ∈ l,QOk w K t
 typ:0<n→∃ b off cs m,A=some ⟨b,off,none⟩∧w.heap[b]?=some (.cells cs 153 m)
theorem QsAt.below {w w':World} {A:Option Addr} {n c K:Nat} {l:List TB} (h:QsAt w A n c l K) (hb:Below w.heap.size w w'):QsAt w' A n c l K :=
 ⟨h.rd.below hb,h.len,h.cap,fun t ht=>(h.each t ht).below hb,fun h0=>by
   obtain ⟨b,off,cs,m,e,hx⟩:=h.typ h0
   exact ⟨b,off,cs,m,e,(hb.block b (Array.getElem?_eq_some_iff.1 hx).1).trans hx⟩⟩
theorem QsAt.up {w:World} {A:Option Addr} {n c K K':Nat} {l:List TB} (h:QsAt w A n c l K) (hk:K≤K'):QsAt w A n c l K' :=
 ⟨h.rd,h.len,h.cap,fun t ht=>⟨(h.each t ht).at_,(h.each t ht).le.up hk,(h.each t ht).lo,(h.each t ht).hi⟩,h.typ⟩
theorem QsAt.fr {S:Nat→Prop} {w w':World} {A:Option Addr} {n c K:Nat} {l:List TB} (h:QsAt w A n c l K) (hf:Fr S w w') (hS:∀ b,S b→∃ cs t m,w.heap[b]?=some (.cells cs t m)∧t≠4∧t≠153):QsAt w' A n c l K:=by
 have hno:∀ b off,A=some ⟨b,off,none⟩→0<n→¬ S b:=by
  intro b off e h0 hs;obtain ⟨b',o',cs,m,e',hx⟩:=h.typ h0;rw [e] at e'
  injection e' with e'
  injection e' with e1 e2
  subst e1;obtain ⟨cs',t,m',hx',_,hne⟩:=hS b hs;rw [hx] at hx'
  injection hx' with hx'
  injection hx' with _ ht _
  exact hne ht.symm
 refine ⟨⟨h.rd.1,fun h0=>?_⟩,h.len,h.cap,fun t ht=>(h.each t ht).fr hf hS,fun h0=>?_⟩
 · obtain ⟨b,o,e,hc⟩:=h.rd.2 h0
   refine ⟨b,o,e,fun j u hu=>?_⟩;rw [hf.cell (p:=⟨b,o+j,none⟩) (World.block_lt_of_cell? w _ (hc j u hu)) (hno b o e h0)];exact hc j u hu
 · obtain ⟨b,o,cs,m,e,hx⟩:=h.typ h0
   exact ⟨b,o,cs,m,e,(hf.block b (Array.getElem?_eq_some_iff.1 hx).1 (hno b o e h0)).trans hx⟩
theorem QsAt.nil_ (w:World) (K:Nat):QsAt w none 0 0 [] K:=⟨Rd.none_,rfl,Nat.le_refl _,by simp,fun h=>absurd h (by decide)⟩
theorem QsAt.of_own {w:World} {B n K:Nat} {v:Value} {l:List TB} (h:w.ownsRow B 153 4 v n (tmsL l)) (he:∀ t ∈ l,QOk w K t):∃ A c,v=.slice A n c∧QsAt w A n c l K:=by
 obtain ⟨A,c,rfl,hc,hr⟩:=ownsRow_form h;refine ⟨A,c,rfl,hr,?_,hc,he,fun h0=>?_⟩
 · have:=h.1
   rw [tmsL_len] at this;omega
 · rcases h.2 with ⟨hv,hx⟩ | ⟨g,cap,cur,hv,_,hx,_⟩
   · omega
   · injection hv with h1 h2 h3
     exact ⟨g,0,cur,(0,0),h1,hx⟩
theorem typQ_of {w:World} {g:Nat} {cs:Array Value} {t:TypeId} {m:Nat × Nat} (h:w.heap[g]?=some (.cells cs t m)) (ht:t≠4∧t≠153):∀ b,b=g→∃ cs t m,w.heap[b]?=some (.cells cs t m)∧t≠4∧t≠153:=fun b e=>⟨cs,t,m,by rw [e];exact h,ht⟩
end Go.Proofs.YtdefcbfofonabaaGreat
