/- New rows of numbers: make. -/
import Derived.Test.YtdefcbfofonabaaGreatDeC
namespace Go.Proofs.YtdefcbfofonabaaGreat
open Go.RowKit
set_option linter.unusedVariables false
set_option linter.unusedSimpArgs false
theorem made_at (z:Array Value) (n i:Nat) (hi:i<n):(madeCells z n)[i]?=some z[i % z.size]!:=by
 unfold madeCells;simp [hi]
theorem makeN {P:Program} (w:World) {ops:Array Oper} {rest:List Oper} {o:Oper} {a:Act} {Q:Exit→Act→World→Prop}
 (hg:o.guard=none) (l c:Operand) (t:TypeId) (hop:o.op=Op.makeSlice t l c)
 (e:TypeId) (i:TypeInfo) (z:Value) (size bytes:Nat) (h1:P.underlying t=some (.slice e)) (h2:P.info? e=some i) (h3:i.zero=some z) (h4:i.size=size) (h5:i.bytes=bytes)
 (kl kc:IntKind) (L C:Int) (n:Nat) (hl:a.eval l=.int kl L) (hc:a.eval c=.int kc C) (hL:L=(n:Int)) (hC:C=(n:Int)) (hn:n≤1000) (hb:bytes≤1000)
 (hK:wpList P ops Q rest (a.put o.dst (.slice (some ⟨w.heap.size,0,none⟩) n n)) (w.alloc (.cells (madeCells z.cells (n*size)) e))) :
 wpList P ops Q (o :: rest) a w:=by
 refine wpList_plain hg fun K hK'=>?_
 subst hL;subst hC;subst h4;subst h5;have hbb:i.bytes*n≤1000*1000:=Nat.mul_le_mul hb hn
 have hrun:=run_make (P:=P) (w:=w) t e i z h1 h2 h3 kl kc n n (by omega) (by omega) (by
  have h:((i.bytes*n:Nat):Int)≤281474976710656:=by omega
  rwa [Int.natCast_mul] at h) (by omega)
 simp only [Int.toNat_natCast] at hrun;unfold Oper.wp;simp [execOp,hop,hl,hc,hrun,Result.andThen];exact hK' _ _ hK
theorem wrt_new (w:World) (cs:Array Value) (t:TypeId):Wrt (w.alloc (.cells cs t)) w.heap.size t:=⟨cs,heap_alloc_new w _⟩
theorem RRow.made (w:World) (n k:Nat) (hk:1≤k):RRow (w.alloc (.cells (madeCells #[.bool false,.slice none 0 0,.slice none 0 0] (n*3)) 26)) w.heap.size n (fun _=>0) k:=by
 have hx:=heap_alloc_new w (.cells (madeCells #[.bool false,.slice none 0 0,.slice none 0 0] (n*3)) 26);refine ⟨fun _=>wrt_new _ _ _,fun j hj=>⟨⟨none,0,0,none,0,0⟩,?_,?_,?_,zero_at _,zero_le k hk⟩⟩
 · rw [cell_of_blk hx,made_at _ _ _ (by omega),zero_neg]
   have:(j*3) % 3=0:=by omega
   simp [this]
 · rw [cell_of_blk hx,made_at _ _ _ (by omega)]
   have:(j*3+1) % 3=1:=by omega
   simp [this]
 · rw [cell_of_blk hx,made_at _ _ _ (by omega)]
   have:(j*3+2) % 3=2:=by omega
   simp [this]
theorem DRow.made (w:World) (n k:Nat) (hk:1≤k):DRow (w.alloc (.cells (madeCells #[.bool false,.slice none 0 0,.slice none 0 0,.bool false,.slice none 0 0,.slice none 0 0] (n*6)) 108)) w.heap.size n (fun _=>dzero) k:=by
 have hx:=heap_alloc_new w (.cells (madeCells #[.bool false,.slice none 0 0,.slice none 0 0,.bool false,.slice none 0 0,.slice none 0 0] (n*6)) 108)
 have key:∀ j i,j<n→i<6→(w.alloc (.cells (madeCells #[.bool false,.slice none 0 0,.slice none 0 0,.bool false,.slice none 0 0,.slice none 0 0] (n*6)) 108)).cell? ⟨w.heap.size,j*6+i,none⟩=some (#[Value.bool false,.slice none 0 0,.slice none 0 0,.bool false,.slice none 0 0,.slice none 0 0][i]!):=fun j i hj hi=>by
  rw [cell_of_blk hx,made_at _ _ _ (by omega)]
  have:(j*6+i) % 6=i:=by omega
  simp [this]
 refine ⟨fun _=>wrt_new _ _ _,fun j hj=>⟨⟨⟨none,0,0,none,0,0⟩,⟨none,0,0,none,0,0⟩⟩,⟨?_,?_,?_,?_,?_,?_⟩,zero_dat _,⟨zero_le k hk,zero_le k hk⟩⟩⟩
 · have:=key j 0 hj (by decide)
   unfold dzero;rw [zero_neg]
   simpa using this
 · simpa using key j 1 hj (by decide)
 · simpa using key j 2 hj (by decide)
 · have:=key j 3 hj (by decide)
   unfold dzero;rw [zero_neg]
   simpa using this
 · simpa using key j 4 hj (by decide)
 · simpa using key j 5 hj (by decide)
theorem info_rat3:(Tryz.prog.info? 26).map (fun i=>(i.zero,i.size,i.bytes))=some (some (.agg #[.bool false,.slice none 0 0,.slice none 0 0]),3,56):=by kernel_rfl
theorem info_d6:(Tryz.prog.info? 108).map (fun i=>(i.zero,i.size,i.bytes))=some (some (.agg #[.bool false,.slice none 0 0,.slice none 0 0,.bool false,.slice none 0 0,.slice none 0 0]),6,112):=by kernel_rfl
end Go.Proofs.YtdefcbfofonabaaGreat

namespace Go.Proofs.YtdefcbfofonabaaGreat
open Go.RowKit
set_option linter.unusedVariables false
set_option linter.unusedSimpArgs false
def isL (nv i:Nat):List Value:=(List.range i).map fun j=>.int .i64 ((nv+j:Nat):Int)
def rowI (nv j:Nat):Int:=if j<nv then -1 else ((j - nv:Nat):Int)
def rsL (nv i:Nat):List Value:=(List.range i).map fun j=>.int .i64 (rowI nv j)
def rowsL (rb:Nat→Nat) (N i:Nat):List Value:=(List.range i).map fun j=>.slice (some ⟨rb j,0,none⟩) N N
def dCells (d:DB) (x:Dl):List Value:=[.bool (ratNeg x.a),.slice d.a.A d.a.n d.a.c,.slice d.a.A2 d.a.n2 d.a.c2,.bool (ratNeg x.b),.slice d.b.A d.b.n d.b.c,.slice d.b.A2 d.b.n2 d.b.c2]
def dsL (db:Nat→DB) (H:Nat→Dl) (i:Nat):List Value:=(List.range i).flatMap fun j=>dCells (db j) (H j)
theorem isL_snoc (nv i:Nat):isL nv (i+1)=isL nv i ++ [.int .i64 ((nv+i:Nat):Int)]:=by
 unfold isL;rw [List.range_succ,List.map_append]
 rfl
theorem rsL_snoc (nv i:Nat):rsL nv (i+1)=rsL nv i ++ [.int .i64 (rowI nv i)]:=by
 unfold rsL;rw [List.range_succ,List.map_append]
 rfl
theorem rowsL_snoc (rb:Nat→Nat) (N i g:Nat):rowsL (updF rb i g) N (i+1)=rowsL rb N i ++ [.slice (some ⟨g,0,none⟩) N N]:=by
 unfold rowsL;rw [List.range_succ,List.map_append,List.map_singleton,updF_self]
 congr 1
 refine List.map_congr_left fun j hj=>?_
 have:=List.mem_range.1 hj;rw [updF_ne _ _ (by omega)]
theorem flat_congr {α β:Type} {f g:α→List β}:∀ {l:List α},(∀ x ∈ l,f x=g x)→l.flatMap f=l.flatMap g
 | [],_=>rfl
 | a :: l,h=>by rw [List.flatMap_cons,List.flatMap_cons,h a (by simp),flat_congr fun x hx=>h x (by simp [hx])]
theorem dsL_snoc (db:Nat→DB) (H:Nat→Dl) (i:Nat) (d:DB):dsL (updF db i d) H (i+1)=dsL db H i ++ dCells d (H i):=by
 unfold dsL;rw [List.range_succ,List.flatMap_append,List.flatMap_singleton,updF_self]
 congr 1
 refine flat_congr fun j hj=>?_
 have:=List.mem_range.1 hj;rw [updF_ne _ _ (by omega)]
theorem mapr_at {α:Type} (f:Nat→α) {n j:Nat} (hj:j<n):((List.range n).map f)[j]?=some (f j):=by
 rw [List.getElem?_map,List.getElem?_range hj]
 rfl
theorem dsL_len (db:Nat→DB) (H:Nat→Dl):∀ n,(dsL db H n).length=n*6
 | 0=>rfl
 | n+1=>by
   have:=dsL_len db H n;unfold dsL at this ⊢;rw [List.range_succ,List.flatMap_append,List.length_append,this,List.flatMap_singleton];simp [dCells];omega
theorem dsL_at (db:Nat→DB) (H:Nat→Dl):∀ {n j i:Nat},j<n→i<6→(dsL db H n)[j*6+i]?=(dCells (db j) (H j))[i]?
 | 0,j,i,h,_=>by omega
 | n+1,j,i,h,hi=>by
   have hl:=dsL_len db H n
   have e:dsL db H (n+1)=dsL db H n ++ dCells (db n) (H n):=by
    unfold dsL;rw [List.range_succ,List.flatMap_append,List.flatMap_singleton]
   rw [e]
   by_cases h2:j<n
   · rw [List.getElem?_append_left (by omega)]
     exact dsL_at db H h2 hi
   · have h3:j=n:=by omega
     subst h3;rw [List.getElem?_append_right (by omega),hl,show j*6+i - j*6=i by omega]
structure Bld (w:World) (B gt nv m:Nat) (LA:Option Addr) (lc gv:Nat) (c2 c3 c4 c6 v2 v3 v4 v6:Value) (i2 i3 i4 i6:Nat) (rb:Nat→Nat) (db:Nat→DB) (F:Nat→Nat→Rat) (H:Nat→Dl) (k:Nat):Prop where
 tb:w.heap[gt]?=some (.cells #[.int .i64 (nv:Int),.slice LA m lc,c2,c3,c4,.slice (some ⟨gv,0,none⟩) (nv+m) (nv+m),c6] 106 (0,0))
 o2:w.ownsRow B 3 1 v2 i2 (isL nv i2)
 o3:w.ownsRow B 3 1 v3 i3 (rsL nv i3)
 o4:w.ownsRow B 30 1 v4 i4 (rowsL rb (nv+m) i4)
 o6:w.ownsRow B 108 6 v6 i6 (dsL db H i6)
 n23:∀ b,v2.ownBlock=some b→v3.ownBlock≠some b
 n6v:v6.ownBlock≠some gv
 val:DRow w gv (nv+m) (fun _=>dzero) k
 rws:∀ j,j<i4→RRow w (rb j) (nv+m) (F j) k
 rnd:∀ i j,i<i4→j<i4→i≠j→rb i≠rb j
 lrb:∀ j,j<i4→B≤rb j
 dss:∀ j,j<i6→DAt w (db j) (H j)∧DLe (H j) k
 lg:B≤gt
 lv:B≤gv
 n0:0<nv+m
def Ty (w:World) (S:Nat→Prop):Prop:=∀ b,S b→∃ cs t m,w.heap[b]?=some (.cells cs t m)∧t≠125∧t≠26
theorem Ty.noU {w:World} {S:Nat→Prop} (h:Ty w S):NoU w S:=fun b hb=>by
 obtain ⟨cs,t,m,h1,h2,_⟩:=h b hb;exact ⟨cs,t,m,h1,h2⟩
theorem Ty.noR {w:World} {S:Nat→Prop} (h:Ty w S) {g:Nat} (hw:Wrt w g 26):¬ S g:=fun hS=>by
 obtain ⟨cs,t,m,h1,_,h2⟩:=h g hS;obtain ⟨cs',hx⟩:=hw;rw [hx] at h1
 injection h1 with h1
 injection h1 with _ h1
 exact h2 h1.symm
theorem ty_own {w:World} {B n size:Nat} {v:Value} {xs:List Value} {e:TypeId} (h:w.ownsRow B e size v n xs) (h1:e≠125) (h2:e≠26):Ty w (ownS v):=fun b hb=>by
 rcases h.2 with ⟨rfl,_⟩ | ⟨g,cap,cur,rfl,_,hx,_⟩
 · simp [ownS,Value.ownBlock] at hb
 · have:g=b:=by simpa [ownS,Value.ownBlock] using hb
   subst this;exact ⟨cur,_,_,hx,h1,h2⟩
theorem ty_blk {w:World} {g:Nat} {cs:Array Value} {t:TypeId} {m:Nat × Nat} (h:w.heap[g]?=some (.cells cs t m)) (h1:t≠125) (h2:t≠26):Ty w (fun b=>b=g):=fun b hb=>⟨cs,t,m,by rw [hb];exact h,h1,h2⟩
section
variable {w w':World} {B gt nv m lc gv i2 i3 i4 i6 k:Nat} {LA:Option Addr} {c2 c3 c4 c6 v2 v3 v4 v6:Value} {rb:Nat→Nat} {db:Nat→DB} {F:Nat→Nat→Rat} {H:Nat→Dl}
theorem Bld.wv (h:Bld w B gt nv m LA lc gv c2 c3 c4 c6 v2 v3 v4 v6 i2 i3 i4 i6 rb db F H k):Wrt w gv 108:=h.val.wr h.n0
theorem Bld.turn (h:Bld w B gt nv m LA lc gv c2 c3 c4 c6 v2 v3 v4 v6 i2 i3 i4 i6 rb db F H k) {S:Nat→Prop} (hf:Fr S w w') (hT:Ty w S) (hv:¬ S gv) :
 DRow w' gv (nv+m) (fun _=>dzero) k∧(∀ j,j<i4→RRow w' (rb j) (nv+m) (F j) k)∧(∀ j,j<i6→DAt w' (db j) (H j)∧DLe (H j) k) :=
 ⟨h.val.fr hf (fun _=>hv) hT.noU,fun j hj=>(h.rws j hj).fr hf (fun h0=>hT.noR ((h.rws j hj).wr h0)) hT.noU,fun j hj=>⟨(h.dss j hj).1.frT hf hT.noU,(h.dss j hj).2⟩⟩
theorem Bld.below (h:Bld w B gt nv m LA lc gv c2 c3 c4 c6 v2 v3 v4 v6 i2 i3 i4 i6 rb db F H k) (hb:Below w.heap.size w w'):Bld w' B gt nv m LA lc gv c2 c3 c4 c6 v2 v3 v4 v6 i2 i3 i4 i6 rb db F H k :=
 ⟨box_keep h.tb hb,own_below h.o2 hb,own_below h.o3 hb,own_below h.o4 hb,own_below h.o6 hb,h.n23,h.n6v,h.val.below hb,fun j hj=>(h.rws j hj).below hb,h.rnd,h.lrb,fun j hj=>⟨(h.dss j hj).1.below hb,(h.dss j hj).2⟩,h.lg,h.lv,h.n0⟩
theorem Bld.app2 (h:Bld w B gt nv m LA lc gv c2 c3 c4 c6 v2 v3 v4 v6 i2 i3 i4 i6 rb db F H k) {v:Value} (ho:w'.ownsRow B 3 1 v (i2+1) (isL nv i2 ++ [.int .i64 ((nv+i2:Nat):Int)])) (hf:Fr (ownS v2) w w') (hk:v.ownBlock=v2.ownBlock∨v.ownBlock=some w.heap.size) :
 Bld w' B gt nv m LA lc gv c2 c3 c4 c6 v v3 v4 v6 (i2+1) i3 i4 i6 rb db F H k:=by
 have hT:=ty_own h.o2 (by decide) (by decide);obtain ⟨t1,t2,t3⟩:=h.turn hf hT (fun hs=>by obtain ⟨cs,hx⟩:=h.wv;exact own_type h.o2 hx (by decide) hs);refine ⟨(hf.block gt (lt_of_blk h.tb) (own_type h.o2 h.tb (by decide))).trans h.tb,by rw [isL_snoc];exact ho,hf.own h.o3 (fun b hb hs=>h.n23 b hs hb),hf.own h.o4 (fun b hb hs=>own_own h.o2 h.o4 (by decide) hs hb),hf.own h.o6 (fun b hb hs=>own_own h.o2 h.o6 (by decide) hs hb),fun b hb h3=>?_,h.n6v,t1,t2,h.rnd,h.lrb,t3,h.lg,h.lv,h.n0⟩;rcases hk with hk | hk
 · exact h.n23 b (by rw [←hk];exact hb) h3
 · have:=(own_lt h.o3 h3).2
   rw [hb] at hk
   injection hk with hk
   omega
theorem Bld.app3 (h:Bld w B gt nv m LA lc gv c2 c3 c4 c6 v2 v3 v4 v6 i2 i3 i4 i6 rb db F H k) {v:Value} (ho:w'.ownsRow B 3 1 v (i3+1) (rsL nv i3 ++ [.int .i64 (rowI nv i3)])) (hf:Fr (ownS v3) w w') (hk:v.ownBlock=v3.ownBlock∨v.ownBlock=some w.heap.size) :
 Bld w' B gt nv m LA lc gv c2 c3 c4 c6 v2 v v4 v6 i2 (i3+1) i4 i6 rb db F H k:=by
 have hT:=ty_own h.o3 (by decide) (by decide);obtain ⟨t1,t2,t3⟩:=h.turn hf hT (fun hs=>by obtain ⟨cs,hx⟩:=h.wv;exact own_type h.o3 hx (by decide) hs);refine ⟨(hf.block gt (lt_of_blk h.tb) (own_type h.o3 h.tb (by decide))).trans h.tb,hf.own h.o2 (fun b hb hs=>h.n23 b hb hs),by rw [rsL_snoc];exact ho,hf.own h.o4 (fun b hb hs=>own_own h.o3 h.o4 (by decide) hs hb),hf.own h.o6 (fun b hb hs=>own_own h.o3 h.o6 (by decide) hs hb),fun b hb h3=>?_,h.n6v,t1,t2,h.rnd,h.lrb,t3,h.lg,h.lv,h.n0⟩;rcases hk with hk | hk
 · exact h.n23 b hb (by rw [←hk];exact h3)
 · have:=(own_lt h.o2 hb).2
   rw [h3] at hk
   injection hk with hk
   omega
theorem Bld.app4 (h:Bld w B gt nv m LA lc gv c2 c3 c4 c6 v2 v3 v4 v6 i2 i3 i4 i6 rb db F H k) {v:Value} {g:Nat} (ho:w'.ownsRow B 30 1 v (i4+1) (rowsL rb (nv+m) i4 ++ [.slice (some ⟨g,0,none⟩) (nv+m) (nv+m)])) (hf:Fr (ownS v4) w w') (hr:RRow w g (nv+m) (F i4) k) (hB:B≤g) (hn:∀ j,j<i4→rb j≠g) :
 Bld w' B gt nv m LA lc gv c2 c3 c4 c6 v2 v3 v v6 i2 i3 (i4+1) i6 (updF rb i4 g) db F H k:=by
 have hT:=ty_own h.o4 (by decide) (by decide);obtain ⟨t1,t2,t3⟩:=h.turn hf hT (fun hs=>by obtain ⟨cs,hx⟩:=h.wv;exact own_type h.o4 hx (by decide) hs);refine ⟨(hf.block gt (lt_of_blk h.tb) (own_type h.o4 h.tb (by decide))).trans h.tb,hf.own h.o2 (fun b hb hs=>own_own h.o4 h.o2 (by decide) hs hb),hf.own h.o3 (fun b hb hs=>own_own h.o4 h.o3 (by decide) hs hb),by rw [rowsL_snoc];exact ho,hf.own h.o6 (fun b hb hs=>own_own h.o4 h.o6 (by decide) hs hb),h.n23,h.n6v,t1,fun j hj=>?_,fun i j hi hj hij=>?_,fun j hj=>?_,t3,h.lg,h.lv,h.n0⟩
 · by_cases e:j=i4
   · subst e
     rw [updF_self];exact hr.fr hf (fun h0=>hT.noR (hr.wr h0)) hT.noU
   · rw [updF_ne _ _ e]
     exact t2 j (by omega)
 · by_cases e:i=i4
   · subst e
     rw [updF_self,updF_ne _ _ (by omega)];exact (hn j (by omega)).symm
   · by_cases e2:j=i4
     · subst e2
       rw [updF_self,updF_ne _ _ e];exact hn i (by omega)
     · rw [updF_ne _ _ e,updF_ne _ _ e2]
       exact h.rnd i j (by omega) (by omega) hij
 · by_cases e:j=i4
   · subst e
     rw [updF_self];exact hB
   · rw [updF_ne _ _ e]
     exact h.lrb j (by omega)
theorem Bld.app6 (h:Bld w B gt nv m LA lc gv c2 c3 c4 c6 v2 v3 v4 v6 i2 i3 i4 i6 rb db F H k) {v:Value} {d:DB} (ho:w'.ownsRow B 108 6 v (i6+1) (dsL db H i6 ++ dCells d (H i6))) (hf:Fr (ownS v6) w w') (hk:v.ownBlock=v6.ownBlock∨v.ownBlock=some w.heap.size) (hd:DAt w d (H i6)) (hl:DLe (H i6) k) :
 Bld w' B gt nv m LA lc gv c2 c3 c4 c6 v2 v3 v4 v i2 i3 i4 (i6+1) rb (updF db i6 d) F H k:=by
 have hT:=ty_own h.o6 (by decide) (by decide);obtain ⟨t1,t2,t3⟩:=h.turn hf hT h.n6v;refine ⟨(hf.block gt (lt_of_blk h.tb) (own_type h.o6 h.tb (by decide))).trans h.tb,hf.own h.o2 (fun b hb hs=>own_own h.o6 h.o2 (by decide) hs hb),hf.own h.o3 (fun b hb hs=>own_own h.o6 h.o3 (by decide) hs hb),hf.own h.o4 (fun b hb hs=>own_own h.o6 h.o4 (by decide) hs hb),by rw [dsL_snoc];exact ho,h.n23,fun hv=>?_,t1,t2,h.rnd,h.lrb,fun j hj=>?_,h.lg,h.lv,h.n0⟩
 · rcases hk with hk | hk
   · exact h.n6v (by rw [←hk];exact hv)
   · have:=h.wv.lt
     rw [hv] at hk
     injection hk with hk
     omega
 · by_cases e:j=i6
   · subst e
     rw [updF_self];exact ⟨hd.frT hf hT.noU,hl⟩
   · rw [updF_ne _ _ e]
     exact t3 j (by omega)
theorem Bld.set (h:Bld w B gt nv m LA lc gv c2 c3 c4 c6 v2 v3 v4 v6 i2 i3 i4 i6 rb db F H k) (i:Nat) (u:Value) {c2' c3' c4' c6':Value}
 (hc:(#[.int .i64 (nv:Int),.slice LA m lc,c2,c3,c4,.slice (some ⟨gv,0,none⟩) (nv+m) (nv+m),c6]:Array Value).setIfInBounds i u=#[.int .i64 (nv:Int),.slice LA m lc,c2',c3',c4',.slice (some ⟨gv,0,none⟩) (nv+m) (nv+m),c6']) :
 Bld (w.setCell ⟨gt,i,none⟩ u) B gt nv m LA lc gv c2' c3' c4' c6' v2 v3 v4 v6 i2 i3 i4 i6 rb db F H k:=by
 have hT:=ty_blk h.tb (by decide) (by decide);have hf:Fr (fun b=>b=gt) w (w.setCell ⟨gt,i,none⟩ u):=fr_set (Fr.refl _ _) (.inl rfl)
 have hgt:∀ {e:TypeId} {size n:Nat} {v:Value} {xs:List Value},w.ownsRow B e size v n xs→e≠106→∀ b,v.ownBlock=some b→¬ (b=gt):=fun ho he b hb e=>own_type ho h.tb he (by rw [←e];exact hb)
 obtain ⟨t1,t2,t3⟩:=h.turn hf hT (fun e=>(h.wv).ne ⟨_,h.tb⟩ (by decide) e);exact ⟨by rw [←hc];exact set_blk h.tb i u,hf.own h.o2 (hgt h.o2 (by decide)),hf.own h.o3 (hgt h.o3 (by decide)),hf.own h.o4 (hgt h.o4 (by decide)),hf.own h.o6 (hgt h.o6 (by decide)),h.n23,h.n6v,t1,t2,h.rnd,h.lrb,t3,h.lg,h.lv,h.n0⟩
end
end Go.Proofs.YtdefcbfofonabaaGreat

namespace Go.Proofs.YtdefcbfofonabaaGreat
open Go.RowKit
set_option linter.unusedVariables false
set_option linter.unusedSimpArgs false
section
variable {w w':World} {B:Nat} {T:TL} {P:Pb} {S:Sx} {k:Nat}
theorem TabAt.wg (h:TabAt w B T P S k):Wrt w T.g 106:=⟨_,h.tb⟩
theorem TabAt.wv (h:TabAt w B T P S k):Wrt w T.gv 108:=h.val.wr (by have:=h.nv0;omega)
theorem TabAt.wrow (h:TabAt w B T P S k):Wrt w T.gr 3:=h.row.wr (by have:=h.nv0;omega)
theorem TabAt.wa (h:TabAt w B T P S k) {i:Nat} (hi:i<P.m):Wrt w (T.rb i) 26:=(h.rws i hi).wr (by have:=h.nv0;omega)
theorem TabAt.turn {b:Nat} (h:TabAt w B T P S k) (hf:Fr (fun x=>x=b) w w') (hB:B≤b) (hg:T.g≠b) {S':Sx}
 (hbas:IRow w' T.gb P.m (fun i=>(S'.bas i:Int))) (hrow:IRow w' T.gr (P.nv+P.m) S'.row) (hval:DRow w' T.gv (P.nv+P.m) S'.val k) (hhis:DRow w' T.gh P.m P.hi k)
 (hout:SRow w' T.ga P.m (P.nv+P.m) T.rb T.rbc) (hrws:∀ i,i<P.m→RRow w' (T.rb i) (P.nv+P.m) (S'.a i) k):TabAt w' B T P S' k :=
 ⟨(hf.block T.g (lt_of_blk h.tb) hg).trans h.tb,fun i hi=>by
   obtain ⟨b',off,e,hlt,hc⟩:=h.opl i hi
   exact ⟨b',off,e,hlt,(hf.cell (p:=⟨b',off+i*5+4,none⟩) (World.block_lt_of_cell? w _ hc) (by dsimp only;omega)).trans hc⟩,h.bA,h.aA,h.hA,hbas,hrow,hval,hhis,hout,hrws,h.lg,h.lr,h.lv,h.lb,h.lrb,h.dbr,h.dvh,h.drb,h.cv,h.nv0,h.nvm,h.mm⟩
def Sx.setVal (S:Sx) (j:Nat) (x:Dl):Sx:={ S with val:=updF S.val j x }
def Sx.setA (S:Sx) (i j:Nat) (q:Rat):Sx:={ S with a:=updF S.a i (updF (S.a i) j q) }
def Sx.setBas (S:Sx) (i j:Nat):Sx:={ S with bas:=updF S.bas i j }
def Sx.setRow (S:Sx) (j:Nat) (z:Int):Sx:={ S with row:=updF S.row j z }
theorem TabAt.setVal (h:TabAt w B T P S k) {j:Nat} (hj:j<P.nv+P.m) {d:DB} {x:Dl} (hd:DAt w d x) (hl:DLe x k):TabAt (pu6 w T.gv (j*6) d x) B T P (S.setVal j x) k:=by
 have hw:=h.wv;have hS:=hw.noU (by decide);have hf:=pu6_fr w T.gv (j*6) d x;refine h.turn hf h.lv (h.wg.ne hw (by decide)) (h.bas.fr hf fun h0=>(h.bas.wr h0).ne hw (by decide)) (h.row.fr hf fun h0=>h.wrow.ne hw (by decide)) (h.val.put hj hd hl) (h.his.fr hf (fun h0 e=>h.dvh h0 e.symm) hS) (h.out.fr hf fun h0=>(h.out.wr h0).ne hw (by decide)) (fun i hi=>(h.rws i hi).fr hf (fun h0=>(h.wa hi).ne hw (by decide)) hS)
theorem TabAt.setA (h:TabAt w B T P S k) {i j:Nat} (hi:i<P.m) (hj:j<P.nv+P.m) {r:RB} {q:Rat} (hr:RatAt w r q) (hl:RatLe q k):TabAt (pu3 w (T.rb i) (j*3) r q) B T P (S.setA i j q) k:=by
 have hw:=h.wa hi;have hS:=hw.noU (by decide);have hf:=pu3_fr w (T.rb i) (j*3) r q;refine h.turn hf (h.lrb i hi) (h.wg.ne hw (by decide)) (h.bas.fr hf fun h0=>(h.bas.wr h0).ne hw (by decide)) (h.row.fr hf fun h0=>h.wrow.ne hw (by decide)) (h.val.fr hf (fun h0=>h.wv.ne hw (by decide)) hS) (h.his.fr hf (fun h0=>(h.his.wr h0).ne hw (by decide)) hS) (h.out.fr hf fun h0=>(h.out.wr h0).ne hw (by decide)) (fun i' hi'=>?_);unfold Sx.setA
 by_cases e:i'=i
 · subst e
   show RRow _ _ _ (updF S.a i' _ i') k
   rw [updF_self];exact (h.rws i' hi').put hj hr hl
 · show RRow _ _ _ (updF S.a i _ i') k
   rw [updF_ne _ _ e];exact (h.rws i' hi').fr hf (fun _=>h.drb i' i hi' hi e) hS
theorem TabAt.setBas (h:TabAt w B T P S k) {i:Nat} (hi:i<P.m) (j:Nat):TabAt (w.setCell ⟨T.gb,i,none⟩ (.int .i64 (j:Int))) B T P (S.setBas i j) k:=by
 have h0:0<P.m:=by omega
 have hw:=h.bas.wr h0;have hS:=hw.noU (by decide);have hf:Fr (fun x=>x=T.gb) w (w.setCell ⟨T.gb,i,none⟩ (.int .i64 (j:Int))):=fr_set (Fr.refl _ _) (.inl rfl);refine h.turn hf (h.lb h0).1 (h.wg.ne hw (by decide)) ((h.bas.put hi (j:Int)).congr fun i' hi'=>?_) (h.row.fr hf fun _ e=>h.dbr h0 e.symm) (h.val.fr hf (fun _=>h.wv.ne hw (by decide)) hS) (h.his.fr hf (fun h0=>(h.his.wr h0).ne hw (by decide)) hS) (h.out.fr hf fun h0=>(h.out.wr h0).ne hw (by decide)) (fun i' hi'=>(h.rws i' hi').fr hf (fun _=>(h.wa hi').ne hw (by decide)) hS);unfold Sx.setBas updF;simp only
 split<;>rfl
theorem TabAt.setRow (h:TabAt w B T P S k) {j:Nat} (hj:j<P.nv+P.m) (z:Int):TabAt (w.setCell ⟨T.gr,j,none⟩ (.int .i64 z)) B T P (S.setRow j z) k:=by
 have hw:=h.wrow;have hS:=hw.noU (by decide);have hf:Fr (fun x=>x=T.gr) w (w.setCell ⟨T.gr,j,none⟩ (.int .i64 z)):=fr_set (Fr.refl _ _) (.inl rfl);exact h.turn hf h.lr (h.wg.ne hw (by decide)) (h.bas.fr hf fun h0=>h.dbr h0) (h.row.put hj z) (h.val.fr hf (fun _=>h.wv.ne hw (by decide)) hS) (h.his.fr hf (fun h0=>(h.his.wr h0).ne hw (by decide)) hS) (h.out.fr hf fun h0=>(h.out.wr h0).ne hw (by decide)) (fun i' hi'=>(h.rws i' hi').fr hf (fun _=>(h.wa hi').ne hw (by decide)) hS)
def TL.setRb (T:TL) (i b c:Nat):TL:={ T with rb:=updF T.rb i b,rbc:=updF T.rbc i c }
theorem TabAt.setOut (h:TabAt w B T P S k) {i b c:Nat} {f:Nat→Rat} (hi:i<P.m) (hr:RRow w b (P.nv+P.m) f k) (hB:B≤b) (hne:∀ j,j<P.m→T.rb j≠b):TabAt (w.setCell ⟨T.ga,i,none⟩ (.slice (some ⟨b,0,none⟩) (P.nv+P.m) c)) B (T.setRb i b c) P { S with a:=updF S.a i f } k:=by
 have h0:0<P.m:=by omega
 have hw:=h.out.wr h0;have hS:=hw.noU (by decide)
 have hn0:0<P.nv+P.m:=by omega
 have hf:Fr (fun x=>x=T.ga) w (w.setCell ⟨T.ga,i,none⟩ (.slice (some ⟨b,0,none⟩) (P.nv+P.m) c)):=fr_set (Fr.refl _ _) (.inl rfl);have hg:T.g≠T.ga:=h.wg.ne hw (by decide);have hba:=(h.lb h0).2.1;refine ⟨(hf.block T.g (lt_of_blk h.tb) hg).trans h.tb,fun i hi=>?_,h.bA,h.aA,h.hA,h.bas.fr hf fun h0=>(h.bas.wr h0).ne hw (by decide),h.row.fr hf fun _=>h.wrow.ne hw (by decide),h.val.fr hf (fun _=>h.wv.ne hw (by decide)) hS,h.his.fr hf (fun h0=>(h.his.wr h0).ne hw (by decide)) hS,h.out.put hi b c,fun i' hi'=>?_,h.lg,h.lr,h.lv,h.lb,fun i' hi'=>?_,h.dbr,h.dvh,fun i' j' hi' hj' hij=>?_,h.cv,h.nv0,h.nvm,h.mm⟩
 · obtain ⟨b',off,e,hlt,hc⟩:=h.opl i hi
   exact ⟨b',off,e,hlt,(hf.cell (p:=⟨b',off+i*5+4,none⟩) (World.block_lt_of_cell? w _ hc) (by dsimp only;omega)).trans hc⟩
 · show RRow _ (updF T.rb i b i') _ (updF S.a i f i') k
   by_cases e:i'=i
   · subst e
     rw [updF_self,updF_self];exact hr.fr hf (fun h0=>(hr.wr h0).ne hw (by decide)) hS
   · rw [updF_ne _ _ e,updF_ne _ _ e]
     exact (h.rws i' hi').fr hf (fun _=>(h.wa hi').ne hw (by decide)) hS
 · show B≤updF T.rb i b i'
   by_cases e:i'=i
   · rw [e,updF_self]
     exact hB
   · rw [updF_ne _ _ e]
     exact h.lrb i' hi'
 · show updF T.rb i b i'≠updF T.rb i b j'
   by_cases e:i'=i
   · rw [e,updF_self,updF_ne _ _ (by omega)]
     exact fun e'=>hne j' hj' e'.symm
   · by_cases e2:j'=i
     · rw [e2,updF_self,updF_ne _ _ e]
       exact hne i' hi'
     · rw [updF_ne _ _ e,updF_ne _ _ e2]
       exact h.drb i' j' hi' hj' hij
theorem TabAt.congr {S':Sx} (h:TabAt w B T P S k) (ha:∀ i j,i<P.m→j<P.nv+P.m→S.a i j=S'.a i j) (hv:∀ j,j<P.nv+P.m→S.val j=S'.val j) (hb:∀ i,i<P.m→S.bas i=S'.bas i) (hr:∀ j,j<P.nv+P.m→S.row j=S'.row j):TabAt w B T P S' k :=
 ⟨h.tb,h.opl,h.bA,h.aA,h.hA,h.bas.congr (fun i hi=>by rw [hb i hi]),h.row.congr hr,h.val.congr hv,h.his,h.out,fun i hi=>(h.rws i hi).congr (fun j hj=>ha i j hi hj),h.lg,h.lr,h.lv,h.lb,h.lrb,h.dbr,h.dvh,h.drb,h.cv,h.nv0,h.nvm,h.mm⟩
structure TOld (T:TL) (P:Pb) (N:Nat):Prop where
 g:T.g<N
 r:T.gr<N
 v:T.gv<N
 b:0<P.m→T.gb<N∧T.ga<N∧T.gh<N
 rb:∀ i,i<P.m→T.rb i<N
theorem TabAt.old (h:TabAt w B T P S k):TOld T P w.heap.size:=⟨h.wg.lt,h.wrow.lt,h.wv.lt,fun h0=>⟨(h.bas.wr h0).lt,(h.out.wr h0).lt,(h.his.wr h0).lt⟩,fun i hi=>(h.wa hi).lt⟩
end
end Go.Proofs.YtdefcbfofonabaaGreat
