/- Rows of bounds of the reference in memory. -/
import Derived.Test.YtdefcbfofonabaaGreatRxPair
namespace Go.Proofs.YtdefcbfofonabaaGreat
open Go.RowKit
set_option linter.unusedVariables false
set_option linter.unusedSimpArgs false
abbrev BX:=BB × Bd
def bbL (x:BX):List Value:=[.slice x.1.e.A x.1.e.n x.1.e.c,.bool x.1.e.s,.slice x.1.e.b.A x.1.e.b.n x.1.e.b.c,.slice x.1.e.b.A2 x.1.e.b.n2 x.1.e.b.c2,.bool x.1.s]
def bbsL (l:List BX):List Value:=l.flatMap bbL
theorem bbsL_cons (a:BX) (l:List BX):bbsL (a :: l)=bbL a ++ bbsL l:=List.flatMap_cons
theorem bbsL_app (l m:List BX):bbsL (l ++ m)=bbsL l ++ bbsL m:=List.flatMap_append
theorem bbsL_one (a:BX):bbsL [a]=bbL a:=by simp [bbsL]
theorem bbsL_at:∀ (l:List BX) (k:Nat) (p:BX),l[k]?=some p→∀ j,j<5→(bbsL l)[k*5+j]?=(bbL p)[j]?
 | [],k,p,h,_,_=>by simp at h
 | p' :: l,0,p,h,j,hj=>by
   simp at h;subst h;rw [bbsL_cons,List.getElem?_append_left (by simp [bbL];omega)];simp
 | p' :: l,k+1,p,h,j,hj=>by
   have ih:=bbsL_at l k p (by simpa using h) j hj;have hl:(bbL p').length=5:=rfl;rw [bbsL_cons,List.getElem?_append_right (by omega),hl,show (k+1)*5+j - 5=k*5+j by omega];exact ih
theorem bbL_one (p:BX):∀ u ∈ bbL p,u.oneCell'=true:=by
 intro u hu;simp [bbL] at hu
 rcases hu with rfl | rfl | rfl | rfl | rfl<;>rfl
theorem info_bound:(Tryz.prog.info? 89).map (fun i=>(i.zero,i.size,i.bytes))=some (some (.agg #[.slice none 0 0,.bool false,.slice none 0 0,.slice none 0 0,.bool false]),5,88):=by kernel_rfl
structure BsAt (w:World) (A:Option Addr) (n c:Nat) (l:List BX) (K:Nat):Prop where
 rd:Rd w 5 A n (bbsL l)
 len:l.length=n
 cap:n≤c
 each:∀ x ∈ l,BOk w K x.1 x.2
theorem BsAt.below {w w':World} {A:Option Addr} {n c K:Nat} {l:List BX} (h:BsAt w A n c l K) (hb:Below w.heap.size w w'):BsAt w' A n c l K:=⟨h.rd.below hb,h.len,h.cap,fun x hx=>(h.each x hx).below hb⟩
theorem Rd.atB {w:World} {A:Option Addr} {n:Nat} {l:List BX} (h:Rd w 5 A n (bbsL l)) (hl:l.length=n) {i:Nat} (hi:i<n):∃ (g off:Nat) (x:BX),A=some ⟨g,off,none⟩∧l[i]?=some x∧w.cell? ⟨g,off+i*5,none⟩=some (.slice x.1.e.A x.1.e.n x.1.e.c)∧w.cell? ⟨g,off+i*5+1,none⟩=some (.bool x.1.e.s)∧w.cell? ⟨g,off+i*5+2,none⟩=some (.slice x.1.e.b.A x.1.e.b.n x.1.e.b.c)∧w.cell? ⟨g,off+i*5+3,none⟩=some (.slice x.1.e.b.A2 x.1.e.b.n2 x.1.e.b.c2)∧w.cell? ⟨g,off+i*5+4,none⟩=some (.bool x.1.s):=by
 obtain ⟨g,off,e,hc⟩:=h.2 (by omega)
 have hl':i<l.length:=by omega
 have key:=bbsL_at l i l[i] (List.getElem?_eq_getElem hl');refine ⟨g,off,l[i],e,List.getElem?_eq_getElem hl',?_,?_,?_,?_,?_⟩
 · have:=hc (i*5) _ ((key 0 (by decide)).trans rfl)
   exact this
 · have:=hc (i*5+1) _ ((key 1 (by decide)).trans rfl)
   rwa [←Nat.add_assoc] at this
 · have:=hc (i*5+2) _ ((key 2 (by decide)).trans rfl)
   rwa [←Nat.add_assoc] at this
 · have:=hc (i*5+3) _ ((key 3 (by decide)).trans rfl)
   rwa [←Nat.add_assoc] at this
 · have:=hc (i*5+4) _ ((key 4 (by decide)).trans rfl)
   rwa [←Nat.add_assoc] at this
theorem XOk.up {w:World} {K K':Nat} {e:XE} {k:Rat} (h:XOk w K e k) (hk:K≤K'):XOk w K' e k:=⟨h.tms.up hk,h.cst,h.sgn,h.le.up hk,h.few,fun v i=>(h.co v i).up hk⟩
theorem XOk.fr {S:Nat→Prop} {w w':World} {K:Nat} {e:XE} {k:Rat} (h:XOk w K e k) (hf:Fr S w w') (hS:∀ b,S b→∃ cs t m,w.heap[b]?=some (.cells cs t m)∧t≠4∧t≠153):XOk w' K e k :=
 ⟨h.tms.fr hf hS,h.cst.fr hf (fun b hb=>by obtain ⟨cs,t,m,e,h1,_⟩:=hS b hb;exact ⟨cs,t,m,e,h1⟩),h.sgn,h.le,h.few,h.co⟩
theorem BOk.up {w:World} {K K':Nat} {x:BB} {d:Bd} (h:BOk w K x d) (hk:K≤K'):BOk w K' x d:=⟨h.ok.up hk,h.co,h.st,h.vs⟩
theorem BOk.fr {S:Nat→Prop} {w w':World} {K:Nat} {x:BB} {d:Bd} (h:BOk w K x d) (hf:Fr S w w') (hS:∀ b,S b→∃ cs t m,w.heap[b]?=some (.cells cs t m)∧t≠4∧t≠153):BOk w' K x d:=⟨h.ok.fr hf hS,h.co,h.st,h.vs⟩
theorem own_typX {w:World} {B n:Nat} {v:Value} {xs:List Value} (h:w.ownsRow B 89 5 v n xs):∀ b,ownS v b→∃ cs t m,w.heap[b]?=some (.cells cs t m)∧t≠4∧t≠153:=by
 intro b hb;rcases h.2 with ⟨rfl,_⟩ | ⟨g,cap,cur,rfl,_,hx,_⟩
 · simp [ownS,Value.ownBlock] at hb
 · have:g=b:=by simpa [ownS,Value.ownBlock] using hb
   subst this;exact ⟨cur,_,_,hx,by decide⟩
structure BRow (w0 w:World) (v:Value) (l:List BX) (K:Nat):Prop where
 own:w.ownsRow 0 89 5 v l.length (bbsL l)
 new:∀ b,v.ownBlock=some b→w0.heap.size≤b
 each:∀ x ∈ l,BOk w K x.1 x.2
theorem BRow.below {w0 w w':World} {v:Value} {l:List BX} {K:Nat} (h:BRow w0 w v l K) (hb:Below w.heap.size w w'):BRow w0 w' v l K:=⟨own_below h.own hb,h.new,fun x hx=>(h.each x hx).below hb⟩
theorem BRow.at {w0 w:World} {v:Value} {l:List BX} {K:Nat} (h:BRow w0 w v l K):∃ A c,v=.slice A l.length c∧BsAt w A l.length c l K:=by
 obtain ⟨A,c,rfl,hc,hr⟩:=ownsRow_form h.own;exact ⟨A,c,rfl,hr,rfl,hc,h.each⟩
structure FS (w0 w:World) (vu vd vr:Value) (U D R:List BX) (KU KD KR:Nat):Prop where
 u:BRow w0 w vu U KU
 d:BRow w0 w vd D KD
 r:BRow w0 w vr R KR
 ud:∀ b,vu.ownBlock=some b→vd.ownBlock≠some b
 ur:∀ b,vu.ownBlock=some b→vr.ownBlock≠some b
 dr:∀ b,vd.ownBlock=some b→vr.ownBlock≠some b
 bel:Below w0.heap.size w0 w
section
variable {w0 w w':World} {u d r:Value} {U D R:List BX} {KU KD KR:Nat}
theorem FS.below (h:FS w0 w u d r U D R KU KD KR) (hb:Below w.heap.size w w'):FS w0 w' u d r U D R KU KD KR:=⟨h.u.below hb,h.d.below hb,h.r.below hb,h.ud,h.ur,h.dr,h.bel.trans (hb.mono h.bel.size)⟩
theorem FS.rot (h:FS w0 w u d r U D R KU KD KR):FS w0 w d r u D R U KD KR KU:=⟨h.d,h.r,h.u,h.dr,fun b h1 h2=>h.ud b h2 h1,fun b h1 h2=>h.ur b h2 h1,h.bel⟩
theorem FS.appU (h:FS w0 w u d r U D R KU KD KR) {x:BX} {v':Value} (hx:BOk w KU x.1 x.2) (hown:w'.ownsRow 0 89 5 v' (U.length+1) (bbsL U ++ bbL x)) (hf:Fr (ownS u) w w') (hb:v'.ownBlock=u.ownBlock∨v'.ownBlock=some (w.heap.size+1)):FS w0 w' v' d r (U ++ [x]) D R KU KD KR:=by
 have hty:=own_typX h.u.own
 have hne:∀ {z:Value} {l:List BX},w.ownsRow 0 89 5 z l.length (bbsL l)→(∀ b,u.ownBlock=some b→z.ownBlock≠some b)→∀ b,v'.ownBlock=some b→z.ownBlock≠some b:=by
  intro z l ho hn b h1 h2;rcases hb with h3 | h3
  · rw [h3] at h1
    exact hn b h1 h2
  · rw [h3] at h1
    injection h1 with h1
    have:=(own_lt ho h2).2;omega
 refine ⟨⟨?_,?_,?_⟩,⟨hf.own h.d.own fun b h1 h2=>h.ud b h2 h1,h.d.new,fun y hy=>(h.d.each y hy).fr hf hty⟩,⟨hf.own h.r.own fun b h1 h2=>h.ur b h2 h1,h.r.new,fun y hy=>(h.r.each y hy).fr hf hty⟩,hne h.d.own h.ud,hne h.r.own h.ur,h.dr,h.bel.trans (hf.below h.bel.size h.u.new)⟩
 · rw [bbsL_app,bbsL_one,List.length_append]
   exact hown
 · intro b h1
   rcases hb with h3 | h3
   · rw [h3] at h1
     exact h.u.new b h1
   · rw [h3] at h1
     injection h1 with h1
     have:=h.bel.size;omega
 · intro y hy
   rcases List.mem_append.1 hy with hy | hy
   · exact (h.u.each y hy).fr hf hty
   · simp only [List.mem_cons,List.not_mem_nil,or_false] at hy
     subst hy;exact hx.fr hf hty
end
theorem brow_nil (w0 w:World) (g c K:Nat) (cs:Array Value) (hg:w0.heap.size≤g) (hx:w.heap[g]?=some (.cells #[] 89 (0,0))):BRow w0 w (.slice (some ⟨g,0,none⟩) 0 0) [] K :=
 ⟨⟨rfl,.inr ⟨g,0,#[],rfl,Nat.zero_le _,hx,Nat.le_refl _,Nat.zero_le _,rfl,rfl⟩⟩,fun b hb=>by
   have:g=b:=by simpa [Value.ownBlock] using hb
   omega,by simp⟩
theorem FS.start (w:World) (KU KD KR:Nat):FS w (((w.alloc (.cells #[] 89)).alloc (.cells #[] 89)).alloc (.cells #[] 89)) (.slice (some ⟨w.heap.size,0,none⟩) 0 0) (.slice (some ⟨w.heap.size+1,0,none⟩) 0 0) (.slice (some ⟨w.heap.size+1+1,0,none⟩) 0 0) [] [] [] KU KD KR:=by
 have h1:=heap_alloc_new w (.cells #[] 89);have b1:=(Below.refl w.heap.size w).alloc (Nat.le_refl _) (.cells #[] 89)
 have z1:(w.alloc (.cells #[] 89)).heap.size=w.heap.size+1:=by simp
 generalize w.alloc (.cells #[] 89)=w1 at *
 have h2:=heap_alloc_new w1 (.cells #[] 89);have b2:=(Below.refl w1.heap.size w1).alloc (Nat.le_refl _) (.cells #[] 89)
 have z2:(w1.alloc (.cells #[] 89)).heap.size=w.heap.size+1+1:=by simp [z1]
 generalize w1.alloc (.cells #[] 89)=w2 at *
 have h3:=heap_alloc_new w2 (.cells #[] 89);have b3:=(Below.refl w2.heap.size w2).alloc (Nat.le_refl _) (.cells #[] 89)
 generalize w2.alloc (.cells #[] 89)=w3 at *
 rw [z1] at h2;rw [z2] at h3;have h1':=box_keep (box_keep h1 b2) b3;have h2':=box_keep h2 b3;have k2:=b1.trans (b2.mono b1.size);refine ⟨brow_nil _ _ _ 0 _ #[] (Nat.le_refl _) h1',brow_nil _ _ _ 0 _ #[] (by omega) h2',brow_nil _ _ _ 0 _ #[] (by omega) h3,?_,?_,?_,k2.trans (b3.mono k2.size)⟩
 all_goals
  intro b hb hc;simp [Value.ownBlock] at hb hc;omega
def elimN (l:List Bd):Nat→List Bd
 | 0=>l
 | v+1=>elimB (v:Int) (elimN l v)
def okB (b:Bd):Bool:=!(decide (0<b.k) || (decide (b.k=0) && b.s))
theorem okB_iff (b:Bd):okB b=true↔holdB b.k b.s:=by
 unfold okB holdB
 cases b.s
 · simp
   grind
 · simp
   grind
def kk:Nat→Nat
 | 0=>98
 | v+1=>4*kk v+8
def lln:Nat→Nat
 | 0=>10
 | v+1=>lln v+lln v*lln v
theorem kk_le {v:Nat} (h:v<3):98≤kk v∧kk v≤1608:=by
 rcases v with _ | _ | _ | v
 · decide
 · decide
 · decide
 · omega
theorem lln_le {v:Nat} (h:v<3):lln v≤12210:=by
 rcases v with _ | _ | _ | v
 · decide
 · decide
 · decide
 · omega
theorem take_snoc {α:Type} {l:List α} {i:Nat} {x:α} (h:l[i]?=some x):l.take (i+1)=l.take i ++ [x]:=by
 rw [List.take_add_one,h]
 rfl
end Go.Proofs.YtdefcbfofonabaaGreat
