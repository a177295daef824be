/- How a slice of constraints as plain data is opened, with its sizes. -/
import Derived.Test.YtdefcbfofonabaaGreatOpen
import Derived.Test.YtdefcbfofonabaaGreatLawEx9
import Derived.Test.YtdefcbfofonabaaGreatSmTop
namespace Go.Proofs.YtdefcbfofonabaaGreat
open Go.ChangeShapes Go.WideShapes Go.ChangeAt Go.RowKit
set_option linter.unusedVariables false
set_option linter.unusedSimpArgs false
theorem flat_get {K:Nat}:∀ (css:List (List Value)),(∀ cs ∈ css,cs.length=K)→∀ i j,j<K→css.flatten[i*K+j]?=(css[i]?).bind (·[j]?)
 | [],_,i,j,_=>by simp
 | cs :: r,h,0,j,hj=>by
   rw [List.flatten_cons,List.getElem?_append_left (by rw [h cs (by simp)];omega)];simp
 | cs :: r,h,i+1,j,hj=>by
   have hl:=h cs (by simp);have ih:=flat_get r (fun c hc=>h c (by simp [hc])) i j hj;rw [List.flatten_cons,List.getElem?_append_right (by rw [hl,Nat.succ_mul];omega),hl,show (i+1)*K+j - K=i*K+j by rw [Nat.succ_mul];omega,ih];simp
theorem flat_len {K:Nat}:∀ (css:List (List Value)),(∀ cs ∈ css,cs.length=K)→css.flatten.length=css.length*K
 | [],_=>by simp
 | cs :: r,h=>by
   rw [List.flatten_cons,List.length_append,h cs (by simp),flat_len r (fun c hc=>h c (by simp [hc])),List.length_cons,Nat.succ_mul,Nat.add_comm]
theorem wAll_mem {H:Type} {P:Program} {e:TypeId}:∀ {l:List (DataW H)} {d:DataW H},d ∈ l→∀ r ∈ d.weights P e,r ∈ DataW.weightsAll P e l
 | x :: l,d,h,r,hr=>by
   simp only [DataW.weightsAll,List.mem_append];rcases List.mem_cons.1 h with rfl | h
   · exact .inl hr
   · exact .inr (wAll_mem h r hr)
theorem rd_blocks {H:Type} {enc:TypeId × Value→H} {W:World} {K:Nat} {t e:TypeId} {v:Value} {fuel lim:Nat} {y:DataW H × List MemPlace} (hlim:∀ r ∈ y.1.weights Tryz.prog t,r≤lim) (ht:Tryz.prog.underlying t=some (.slice e)) (hce:Tryz.prog.cellsOf e=K) (hK:0<K)
 (hf:DataW.trod enc Tryz.prog W 0 (fun _=>true) true fuel t [v]=some y) :
 ∃ (A:Option Addr) (n c:Nat) (css:List (List Value)),v=.slice A n c∧css.length=n∧n≤c∧c≤maxLen∧Rd W K A n css.flatten∧(0<n→n*Tryz.prog.bytesOf e≤lim)∧∀ cs ∈ css,cs.length=K∧∃ m x,DataW.trod enc Tryz.prog W 0 (fun _=>true) true m e cs=some x∧∀ r ∈ x.1.weights Tryz.prog e,r≤lim:=by
 rcases Go.Deep.open_slice ht hf with ⟨hcs,_⟩ | ⟨a',n',c',m,f,D,Pl,hcs,_,hl,hm,hmm,hx,hcell⟩
 · simp at hcs
   subst hcs;exact ⟨none,0,0,[],rfl,rfl,Nat.le_refl _,by unfold maxLen;omega,⟨by simp,fun h=>absurd h (by omega)⟩,fun h=>absurd h (by omega),by simp⟩
 · simp at hcs
   subst hcs;simp only [if_true] at hmm;subst hmm;rw [hce] at hcell;subst hx
   have hw1:∀ i,i<n'→∀ r ∈ (D i).weights Tryz.prog e,r≤lim:=fun i hi r hr=>hlim r (by
    simp only [DataW.weights,ht,List.mem_cons,List.mem_append]
    exact .inr (.inl (wAll_mem (List.mem_map.2 ⟨i,List.mem_range.2 hi,rfl⟩) r hr)))
   have hw2:n'*Tryz.prog.bytesOf e≤lim:=by
    refine Nat.le_trans (Nat.mul_le_mul_right _ (Nat.le_add_right n' (m - n'))) (hlim _ ?_);simp only [DataW.weights,ht,List.mem_cons,List.length_map,List.length_range];exact .inl trivial
   have hsp:0<m→a'.spot=none:=by
    intro h0;obtain ⟨cs',h1,_⟩:=hcell 0 h0;obtain ⟨_,hlen,hget⟩:=World.cells?_some h1
    have h0':(0:Nat)<cs'.length:=by omega
    have:=World.cell?_spot ((hget 0 hK).trans (List.getElem?_eq_getElem h0'))
    simpa [Addr.add] using this
   have hone:∀ i,i<m→∃ cs:List Value,(cs.length=K∧∃ q x,DataW.trod enc Tryz.prog W 0 (fun _=>true) true q e cs=some x∧(i<n'→∀ r ∈ x.1.weights Tryz.prog e,r≤lim))∧a'.spot=none∧(∀ j,j<K→W.cell? ⟨a'.block,a'.off+(i*K+j),none⟩=cs[j]?):=by
    intro i hi;have hsp:=hsp (by omega);obtain ⟨cs',h1,h2⟩:=hcell i hi;obtain ⟨_,hlen,hget⟩:=World.cells?_some h1;refine ⟨cs',⟨hlen,_,_,h2,fun hi'=>hw1 i hi'⟩,hsp,fun j hj=>?_⟩;have:=hget j hj;obtain ⟨b,off,spot⟩:=a';simp only at hsp;subst hsp;simp only [add_none] at this;rw [Nat.add_assoc] at this;exact this
   obtain ⟨F,hF⟩:=Go.Deep.choose_lt (p:=fun i (cs:List Value)=>(cs.length=K∧∃ q x,DataW.trod enc Tryz.prog W 0 (fun _=>true) true q e cs=some x∧(i<n'→∀ r ∈ x.1.weights Tryz.prog e,r≤lim))∧a'.spot=none∧(∀ j,j<K→W.cell? ⟨a'.block,a'.off+(i*K+j),none⟩=cs[j]?)) hone
   have hin:∀ cs ∈ (List.range n').map F,∃ i,i<n'∧F i=cs:=fun cs hcs=>by
    obtain ⟨i,hi,e⟩:=List.mem_map.1 hcs;exact ⟨i,List.mem_range.1 hi,e⟩
   have hlen:∀ cs ∈ (List.range n').map F,cs.length=K:=fun cs hcs=>by
    obtain ⟨i,hi,rfl⟩:=hin cs hcs;exact (hF i (by omega)).1.1
   refine ⟨some a',n',m,(List.range n').map F,rfl,by simp,hl,hm,⟨by rw [flat_len _ hlen];simp,fun hn=>?_⟩,fun _=>hw2,fun cs hcs=>?_⟩
   · have hs:=(hF 0 (by omega)).2.1
     obtain ⟨b,off,spot⟩:=a';simp only at hs;subst hs;refine ⟨b,off,rfl,fun j u hu=>?_⟩
     have hj:j<n'*K:=by
      have:=(List.getElem?_eq_some_iff.1 hu).1;rw [flat_len _ hlen] at this
      simpa using this
     have hq:j / K<n':=by rw [Nat.div_lt_iff_lt_mul hK];exact hj
     have hmod:j % K<K:=Nat.mod_lt _ hK
     have ej:j / K*K+j % K=j:=by rw [Nat.mul_comm];exact Nat.div_add_mod j K
     have hc:=(hF (j / K) (by omega)).2.2 (j % K) hmod;rw [ej] at hc;simp only at hc;rw [hc,←hu];have:=flat_get _ hlen (j / K) (j % K) hmod;rw [ej] at this;rw [this];simp [hq]
   · obtain ⟨i,hi,rfl⟩:=hin cs hcs
     obtain ⟨h1,q,x,h2,h3⟩:=(hF i (by omega)).1;exact ⟨h1,q,x,h2,h3 hi⟩
theorem choose_list {α:Type} (f:α→List Value) (P:α→Prop):∀ css:List (List Value),(∀ cs ∈ css,∃ x,f x=cs∧P x)→∃ l:List α,l.flatMap f=css.flatten∧l.length=css.length∧∀ x ∈ l,P x
 | [],_=>⟨[],rfl,rfl,by simp⟩
 | cs :: r,h=>by
   obtain ⟨x,e,hp⟩:=h cs (by simp)
   obtain ⟨l,e2,hl,hq⟩:=choose_list f P r fun c hc=>h c (by simp [hc])
   refine ⟨x :: l,by rw [List.flatMap_cons,e,e2,List.flatten_cons],by simp [hl],fun y hy=>?_⟩;rcases List.mem_cons.1 hy with rfl | hy
   · exact hp
   · exact hq y hy
set_option maxRecDepth 100000 in
theorem trod_nb {H:Type} {enc:TypeId × Value→H} {W:World} {cs:List Value} {k:Nat} {y:DataW H × List MemPlace} (hl:cs.length=3) (h:DataW.trod enc Tryz.prog W 0 (fun _=>true) true k 70 cs=some y):∃ b:NB,b.cells=cs∧b.ok W:=by
 have h1:Tryz.prog.cellsOf 4=1:=by kernel_rfl
 have h2:Tryz.prog.cellsOf 24=1:=by kernel_rfl
 obtain ⟨y0,y1,y2,q,_,_,t0,t1,t2⟩:=Go.Deep.trod_struct3 Tryz.underlying70 h
 match cs,hl with
 | [c0,c1,c2],_ =>
   simp only [h1,h2] at t0 t1 t2;obtain ⟨x0,e0,_⟩:=DataW.trod_bool Tryz.underlying4 t0;simp at e0;subst e0;obtain ⟨A,n,c,us,e1,hn⟩:=num_trod (v:=c1) t1;obtain ⟨A2,n2,c2',us2,e2,hn2⟩:=num_trod (v:=c2) t2;subst e1;subst e2;exact ⟨⟨x0,A,n,c,A2,n2,c2',us,us2⟩,rfl,hn,hn2⟩
theorem cells_slice {A:Option Addr} {n c:Nat}:(Value.slice A n c).cells.toList=[.slice A n c]:=rfl
set_option maxRecDepth 100000 in
theorem trod_vb {H:Type} {enc:TypeId × Value→H} {W:World} {cs:List Value} {k:Nat} {y:DataW H × List MemPlace} (hl:cs.length=4) (h:DataW.trod enc Tryz.prog W 0 (fun _=>true) true k 78 cs=some y):∃ b:VB,b.cells=cs∧b.ok W:=by
 have h1:Tryz.prog.cellsOf 3=1:=by kernel_rfl
 have h2:Tryz.prog.cellsOf 70=3:=by kernel_rfl
 obtain ⟨y0,y1,q,_,_,t0,t1⟩:=trod_struct2 Tryz.underlying78 h
 match cs,hl with
 | [c0,c1,c2,c3],_ =>
   simp only [h1,h2] at t0 t1;obtain ⟨x0,e0,_,w0⟩:=DataW.trod_int Tryz.underlying3 t0;simp at e0;subst e0;obtain ⟨b,e,hb⟩:=trod_nb (cs:=[c1,c2,c3]) rfl t1;obtain ⟨h3,h4⟩:=b_i64 w0;refine ⟨⟨x0,b⟩,?_,hb,h3,h4⟩;unfold NB.cells at e;unfold VB.cells;rw [←e]
set_option maxRecDepth 100000 in
theorem trod_xb {H:Type} {enc:TypeId × Value→H} {W:World} {cs:List Value} {k:Nat} {y:DataW H × List MemPlace} (hl:cs.length=5) (h:DataW.trod enc Tryz.prog W 0 (fun _=>true) true k 74 cs=some y) (hw:∀ r ∈ y.1.weights Tryz.prog 74,r≤reachBytes):∃ b:XB,b.cells=cs∧b.ok W∧b.n*64≤140737488351232:=by
 have h1:Tryz.prog.cellsOf 3=1:=by kernel_rfl
 have h2:Tryz.prog.cellsOf 72=4:=by kernel_rfl
 have h3:Tryz.prog.cellsOf 68=1:=by kernel_rfl
 have h4:Tryz.prog.cellsOf 70=3:=by kernel_rfl
 obtain ⟨y0,y1,q,ey,_,t0,t1⟩:=trod_struct2 Tryz.underlying74 h
 match cs,hl with
 | [c0,c1,c2,c3,c4],_ =>
   simp only [h1,h2] at t0 t1;obtain ⟨x0,e0,_,w0⟩:=DataW.trod_int Tryz.underlying3 t1;simp at e0;subst e0;obtain ⟨z0,z1,r,ez,_,s0,s1⟩:=trod_struct2 Tryz.underlying72 t0;simp only [h3,h4] at s0 s1;obtain ⟨b,e,hb⟩:=trod_nb (cs:=[c1,c2,c3]) rfl s1
   have hw3:∀ r ∈ z0.1.weights Tryz.prog 68,r≤reachBytes:=fun r hr=>hw r (by
    rw [ey];simp only [DataW.weights,Tryz.underlying74,DataW.weightsEach,List.map_cons,List.map_nil,List.mem_append];refine .inl ?_;rw [ez];simp only [DataW.weights,Tryz.underlying72,DataW.weightsEach,List.map_cons,List.map_nil,List.mem_append]
    exact .inl hr)
   have h64:Tryz.prog.bytesOf 78=64:=by kernel_rfl
   obtain ⟨A,n,c,css,e2,hll,hnc,hcm,hrd,hsz,heach⟩:=rd_blocks (v:=c0) (K:=4) hw3 Tryz.underlying68 (by kernel_rfl) (by decide) s0;subst e2
   obtain ⟨l,e3,hl3,hok⟩:=choose_list VB.cells (fun b=>b.ok W) css fun cs hcs=>by
    obtain ⟨h5,m,x,hx,_⟩:=heach cs hcs;exact trod_vb h5 hx
   refine ⟨⟨A,n,c,l,b,x0⟩,?_,⟨⟨by rw [←e3] at hrd;exact hrd,hl3.trans hll,hnc,hok⟩,hb⟩,?_⟩;unfold NB.cells at e;unfold XB.cells;simp only [List.cons.injEq,and_true] at e;obtain ⟨rfl,rfl,rfl⟩:=e
   rfl
   show n*64≤140737488351232
   rcases Nat.eq_zero_or_pos n with h | h
   · omega
   · have:=hsz h
     rw [h64] at this;simp only [reachBytes] at this;omega
set_option maxRecDepth 100000 in
theorem open_xs {H:Type} {enc:TypeId × Value→H} {W:World} {b0:Nat} {v:Value} {d:DataW H} {p:List MemPlace} (hv:Value.okWide Tryz.prog W .any b0 22 v)
 (h:DataW.Trod enc Tryz.prog W 0 (fun _=>true) true 22 v d p) (hw:∀ r ∈ d.weights Tryz.prog 22,r≤reachBytes):∃ (A:Option Addr) (n c:Nat) (l:List XB),v=.slice A n c∧XsAt W A n c l∧∀ x ∈ l,x.n*64≤140737488351232:=by
 obtain ⟨A,n,c,rfl⟩:=okWide_slice Tryz.underlying22 hv;obtain ⟨fuel,hf⟩:=h;rw [cells_slice] at hf;obtain ⟨A',n',c',css,e,hl,hnc,hcm,hrd,hsz,heach⟩:=rd_blocks (K:=5) (y:=(d,p)) hw Tryz.underlying22 (by kernel_rfl) (by decide) hf
 injection e with e1 e2 e3
 subst e1;subst e2;subst e3
 obtain ⟨l,e,hll,hok⟩:=choose_list XB.cells (fun b=>b.ok W∧b.n*64≤140737488351232) css fun cs hcs=>by
  obtain ⟨h3,m,x,hx,hx2⟩:=heach cs hcs;exact trod_xb h3 hx hx2
 exact ⟨A,n,c,l,rfl,⟨by rw [←e] at hrd;exact hrd,by omega,hnc,fun x hx=>(hok x hx).1⟩,fun x hx=>(hok x hx).2⟩
end Go.Proofs.YtdefcbfofonabaaGreat

namespace Go.Proofs.YtdefcbfofonabaaGreat
open Go.RowKit
theorem simplex_law {w:World} {A:Option Addr} {n c:Nat} {l:List XB} (h:XsAt w A n c l) (hz:∀ x ∈ l,x.n*64≤140737488351232) :
 Calls Tryz.prog 3 #[.slice A n c] w fun e w'=>e=.returned (.bool true)∧Below w.heap.size w w':=simplex_any A n c l w h hz
end Go.Proofs.YtdefcbfofonabaaGreat
