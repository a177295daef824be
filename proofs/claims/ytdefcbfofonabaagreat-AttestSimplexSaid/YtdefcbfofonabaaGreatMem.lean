/- Small lemmas about memory: a slice that reads as a list of cells, whole blocks, owned rows. No program in sight. -/
import Derived.WalkKit
import Derived.WalkLawsBesides
import Derived.WalkSpells
import Derived.Laws.OwnMore
import Derived.Lib.Hide
import Derived.Laws.BitsAllLaws
import Derived.Test.YtdefcbfofonabaaGreatRows
import Derived.BigQuiet
import Derived.Deep.QuietTactic
namespace Go.Proofs.YtdefcbfofonabaaGreat
set_option linter.unusedVariables false
set_option linter.unusedSimpArgs false
open Go.RowKit
def Rd (w:World) (size:Nat) (A:Option Addr) (n:Nat) (xs:List Value):Prop :=
 xs.length=n*size∧(0<n→∃ b off,A=some ⟨b,off,none⟩∧∀ j u,xs[j]?=some u→w.cell? ⟨b,off+j,none⟩=some u)
section
variable {w w':World} {size n:Nat} {A:Option Addr} {xs:List Value}
theorem Rd.none_:Rd w size A 0 []:=⟨by simp,fun h=>absurd h (by omega)⟩
theorem Rd.at_ {k:Nat} (h:Rd w 1 A n xs) (hk:k<n):∃ b off u,A=some ⟨b,off,none⟩∧xs[k]?=some u∧w.cell? ⟨b,off+k,none⟩=some u:=by
 obtain ⟨b,off,e,hc⟩:=h.2 (by omega)
 have hl:k<xs.length:=by have:=h.1;omega
 exact ⟨b,off,xs[k],e,List.getElem?_eq_getElem hl,hc k _ (List.getElem?_eq_getElem hl)⟩
theorem Rd.blk {b off:Nat} (h:Rd w size A n xs) (hn:0<n) (hs:0<size) (e:A=some ⟨b,off,none⟩):b<w.heap.size:=by
 obtain ⟨b',off',e',hc⟩:=h.2 hn;rw [e] at e'
 injection e' with e'
 injection e' with e1 e2
 subst e1;subst e2
 have hl:0<xs.length:=by rw [h.1];exact Nat.mul_pos hn hs
 exact World.block_lt_of_cell? w _ (hc 0 xs[0] (List.getElem?_eq_getElem hl))
theorem Rd.keep (h:Rd w size A n xs) (hk:∀ p:Addr,p.block<w.heap.size→w'.cell? p=w.cell? p):Rd w' size A n xs :=
 ⟨h.1,fun hn=>by
   obtain ⟨b,off,e,hc⟩:=h.2 hn
   exact ⟨b,off,e,fun j u hu=>(hk _ (World.block_lt_of_cell? w _ (hc j u hu))).trans (hc j u hu)⟩⟩
theorem Rd.below (h:Rd w size A n xs) (hb:Below w.heap.size w w'):Rd w' size A n xs:=h.keep fun _ hp=>hb.cell hp
theorem Rd.alloc (h:Rd w size A n xs) (o:Obj):Rd (w.alloc o) size A n xs:=h.keep fun p hp=>World.cell?_alloc_lt w o p hp
theorem Rd.cut {k cap:Nat} (h:Rd w 1 A n xs) (hk:k≤n) (hc:n≤cap) :
 Rd w 1 (if cap=k then A else A.map (·.add k)) (n - k) (xs.drop k):=by
 refine ⟨by rw [List.length_drop,h.1];omega,fun hn=>?_⟩;obtain ⟨b,off,rfl,hcell⟩:=h.2 (by omega);rw [if_neg (by omega)];refine ⟨b,off+k,by simp [Addr.add],fun j u hu=>?_⟩;have:=hcell (k+j) u (by rw [←hu,List.getElem?_drop]);rw [Nat.add_assoc];exact this
theorem Rd.take {k:Nat} (h:Rd w 1 A n xs) (hk:k≤n):Rd w 1 A k (xs.take k):=by
 refine ⟨by rw [List.length_take,h.1];omega,fun hn=>?_⟩;obtain ⟨b,off,rfl,hcell⟩:=h.2 (by omega);refine ⟨b,off,rfl,fun j u hu=>hcell j u ?_⟩;rw [List.getElem?_take] at hu
 split at hu
 · exact hu
 · cases hu
theorem ownsRow_form {base:Nat} {e:TypeId} {v:Value} (h:w.ownsRow base e size v n xs):∃ A c,v=.slice A n c∧n≤c∧Rd w size A n xs:=by
 rcases h.2 with ⟨rfl,rfl⟩ | ⟨g,cap,cur,rfl,_,hh,hnc,_⟩
 · exact ⟨none,0,rfl,Nat.le_refl _,by have:=h.1;simp at this;subst this;exact Rd.none_⟩
 · refine ⟨_,cap,rfl,hnc,h.1,fun _=>⟨g,0,rfl,fun j u hu=>?_⟩⟩
   have:=h.cells (g:=g) rfl j u hu
   have hadd:(⟨g,0,none⟩:Addr).add j=⟨g,j,none⟩:=by unfold Addr.add;split<;>simp_all
   rw [hadd] at this
   simpa using this
end
theorem owned_form {w:World} {base:Nat} {e:TypeId} {v:Value} {size n:Nat} {xs:List Value} (h:w.ownsRow base e size v n xs) (hn:0<n) :
 ∃ g c,v=.slice (some ⟨g,0,none⟩) n c∧base≤g∧g<w.heap.size∧n≤c:=by
 rcases h.2 with ⟨_,rfl⟩ | ⟨g,cap,cur,rfl,hg,hh,hnc,_⟩
 · omega
 · exact ⟨g,cap,rfl,hg,(Array.getElem?_eq_some_iff.1 hh).1,hnc⟩
theorem ret_bool {a b:Bool} (h:a=b):Ending.returned (.bool a)=.returned (.bool b):=by rw [h]
theorem one_cell (w:World) (v:Value) (E:TypeId) (j:Nat) (u:Value) (h:[v][j]?=some u):(w.alloc (.cells #[v] E)).cell? ((⟨w.heap.size,0,none⟩:Addr).add j)=some u:=by
 match j,h with
 | 0,h =>
   simp at h;subst h;simp [Addr.add]
theorem below_append {B:Nat} {a w w':World} {o:Obj} {e:TypeId} {size n:Nat} {v:Value} {xs:List Value} (h:Below B a w) (hB:B≤w.heap.size) (hown:w.ownsRow B e size v n xs) (hg:(w.alloc o).grownBy w' v.ownBlock):Below B a w' :=
 (h.alloc hB o).grown hg (by simp;omega) (fun k hk=>(hown.lt k hk).1)
theorem app1 {P:Program} (B:Nat) (W0 w:World) (X:Value) (E:TypeId) {ops:Array Oper} {rest:List Oper} {o:Oper} {a:Act} {Q:Exit→Act→World→Prop} (hgd:o.guard=none) (s x:Operand) (t:TypeId)
 (ho:o.op=.call { callee:=.builtin .append,args:=#[s,x],argTypes:=#[t,t] })
 (i:TypeInfo) (z:Value) (bytes:Nat) (ht:P.underlying t=some (.slice E)) (hi:P.info? E=some i) (hz:i.zero=some z)
 (hsize:i.size=1) (hby:i.bytes=bytes) (hzs:z.cells.size=1) (hb1:0<bytes)
 (v:Value) (n:Nat) (xs:List Value) (hs:a.eval s=v) (hB:B≤W0.heap.size) (hown:w.ownsRow B E 1 v n xs) (hbel:Below B W0 w)
 (hx:a.eval x=.slice (some ⟨w.heap.size,0,none⟩) 1 1) (h1:X.oneCell'=true) (hbytes:(n+1)*bytes≤140737488355328)
 (h:∀ v' w',w'.ownsRow B E 1 v' (n+1) (xs ++ [X])→Below B W0 w'→w.grownBy w' v.ownBlock→wpList P ops Q rest (a.put o.dst v') w') :
 wpList P ops Q (o :: rest) a (w.alloc (.cells #[X] E)):=by
 have hm:n+1≤(n+1)*bytes:=Nat.le_mul_of_pos_right _ hb1;have hBw:B≤w.heap.size:=Nat.le_trans hB hbel.size;refine wpList_append_own _ hgd s x t ho B E i z 1 bytes ht hi hz hsize hby hzs (by decide) v n xs hs (hown.alloc _) ⟨w.heap.size,0,none⟩ 1 1 [X] hx rfl (one_cell _ _ _) ?_ (by unfold maxLen;omega) hbytes (by simp;omega) ?_
 · intro u hu
   simp at hu;subst hu;exact h1
 · intro v' w' hown' hg _
   refine h v' w' hown' (below_append hbel hBw hown hg) ?_;have ha:=World.grownBy_alloc w (.cells #[X] E) v.ownBlock;exact ⟨hg.os.trans ha.os,hg.tape.trans ha.tape,hg.output.trans ha.output,Nat.le_trans ha.size hg.size,fun k hk hne=>(hg.block k (Nat.lt_of_lt_of_le hk ha.size) hne).trans (ha.block k hk hne)⟩
theorem make1 {P:Program} (B:Nat) (W0 w:World) {ops:Array Oper} {rest:List Oper} {o:Oper} {a:Act} {Q:Exit→Act→World→Prop}
 (hg:o.guard=none) (l c:Operand) (t:TypeId) (hop:o.op=Op.makeSlice t l c)
 (e:TypeId) (i:TypeInfo) (z:Value) (bytes:Nat) (h1:P.underlying t=some (.slice e)) (h2:P.info? e=some i) (h3:i.zero=some z) (h4:i.size=1) (h5:i.bytes=bytes) (hzs:z.cells=#[z]) (hb1:0<bytes)
 (kl kc:IntKind) (L C:Int) (n:Nat) (hl:a.eval l=.int kl L) (hc:a.eval c=.int kc C) (hL:L=(n:Int)) (hC:C=(n:Int)) (b2:n*bytes≤281474976710656)
 (ys:List Value) (hys:List.replicate n z=ys) (hB:B≤W0.heap.size) (hbel:Below B W0 w)
 (hK:∀ w',w'.ownsRow w.heap.size e 1 (.slice (some ⟨w.heap.size,0,none⟩) n n) n ys→Below B W0 w'→w.grownBy w' none→wpList P ops Q rest (a.put o.dst (.slice (some ⟨w.heap.size,0,none⟩) n n)) w') :
 wpList P ops Q (o :: rest) a w:=by
 have hm:n≤n*bytes:=Nat.le_mul_of_pos_right _ hb1;subst h5;refine wpList_make_full w hg l c t hop w.heap.size e i z 1 h1 h2 h3 h4 kl kc L C n hl hc hL hC (by rw [Nat.mul_comm];exact b2) (by unfold maxLen;omega) (Nat.le_refl _) ?_;intro w' hown hgr;rw [hzs,Nat.mul_one,toList_madeCells_one,hys] at hown;exact hK w' hown (hbel.grown hgr (Nat.le_trans hB hbel.size) (fun k hk=>by cases hk)) hgr
theorem addr_add_none (b o j:Nat):(⟨b,o,none⟩:Addr).add j=⟨b,o+j,none⟩:=by
 unfold Addr.add
 split
 · subst_vars;rfl
 · rfl
theorem appNone {P:Program} {w:World} {ops:Array Oper} {rest:List Oper} {o:Oper} {a:Act} {Q:Exit→Act→World→Prop} (hgd:o.guard=none) (s x:Operand) (t:TypeId)
 (ho:o.op=.call { callee:=.builtin .append,args:=#[s,x],argTypes:=#[t,t] })
 (base:Nat) (e:TypeId) (i:TypeInfo) (size:Nat) (ht:P.underlying t=some (.slice e)) (hi:P.info? e=some i)
 (v:Value) (n c:Nat) (xs:List Value) (hs:a.eval s=v) (hown:w.ownsRow base e size v n xs) (hx:a.eval x=.slice none 0 c)
 (h:wpList P ops Q rest (a.put o.dst v) w):wpList P ops Q (o :: rest) a w:=by
 refine wpList_plain hgd fun K hK=>?_
 have hrun:(Builtin.append_ #[t,t] o.type #[v,.slice none 0 c]).run P w=.ok v w:=by
  rcases hown.2 with ⟨rfl,rfl⟩ | ⟨g,cap,cur,rfl,_,_,hnc,_⟩
  · simp [Builtin.append_,run_underlying ht,sizeOf,typeInfo,hi,Builtin.lenOf,Builtin.firstCells]
  · simp [Builtin.append_,run_underlying ht,sizeOf,typeInfo,hi,Builtin.lenOf,Builtin.firstCells,hnc,storeCells]
 unfold Oper.wp;simp [execOp,ho,resolve,invoke,builtin,hs,hx,hrun,Result.andThen];exact hK _ _ h
theorem appR {P:Program} (B:Nat) (W0 w:World) (E:TypeId) {ops:Array Oper} {rest:List Oper} {o:Oper} {a:Act} {Q:Exit→Act→World→Prop} (hgd:o.guard=none) (s x:Operand) (t:TypeId)
 (ho:o.op=.call { callee:=.builtin .append,args:=#[s,x],argTypes:=#[t,t] })
 (i:TypeInfo) (z:Value) (bytes:Nat) (ht:P.underlying t=some (.slice E)) (hi:P.info? E=some i) (hz:i.zero=some z)
 (hsize:i.size=1) (hby:i.bytes=bytes) (hzs:z.cells.size=1) (hb1:0<bytes)
 (v:Value) (n:Nat) (xs:List Value) (hs:a.eval s=v) (hB:B≤W0.heap.size) (hown:w.ownsRow B E 1 v n xs) (hbel:Below B W0 w)
 (A:Option Addr) (m c:Nat) (news:List Value) (hx:a.eval x=.slice A m c) (hrd:Rd w 1 A m news) (h1:∀ u ∈ news,u.oneCell'=true) (hbytes:(n+m)*bytes≤140737488355328)
 (h:∀ v' w',w'.ownsRow B E 1 v' (n+m) (xs ++ news)→Below B W0 w'→w.grownBy w' v.ownBlock→wpList P ops Q rest (a.put o.dst v') w') :
 wpList P ops Q (o :: rest) a w:=by
 have hm:n+m≤(n+m)*bytes:=Nat.le_mul_of_pos_right _ hb1;have hBw:B≤w.heap.size:=Nat.le_trans hB hbel.size;rcases A with _ | ad
 · have hm0:m=0:=by
    rcases Nat.eq_zero_or_pos m with h0 | h0
    · exact h0
    · obtain ⟨_,_,h',_⟩:=hrd.2 h0
      cases h'
   subst hm0;have hn:news=[]:=List.eq_nil_of_length_eq_zero (by simpa using hrd.1);subst hn;have hh:=h v w (by simpa using hown) hbel (World.grownBy.refl w _);exact appNone hgd s x t ho B E i 1 ht hi v n c xs hs hown hx hh
 · refine wpList_append_own w hgd s x t ho B E i z 1 bytes ht hi hz hsize hby hzs (by decide) v n xs hs hown ad m c news hx hrd.1 ?_ h1 (by unfold maxLen;omega) hbytes hBw ?_
   · intro j u hu
     have hj:0<m:=by
      have:=(List.getElem?_eq_some_iff.1 hu).1;have:=hrd.1;omega
     obtain ⟨b,off,e,hc⟩:=hrd.2 hj
     injection e with e
     subst e;rw [addr_add_none];exact hc j u hu
   · intro v' w' hown' hg _
     exact h v' w' hown' (hbel.grown hg hBw (fun k hk=>(hown.lt k hk).1)) hg
theorem own_empty (w:World) (E:TypeId) (B:Nat) (hB:B≤w.heap.size):(w.alloc (.cells #[] E)).ownsRow B E 1 (.slice (some ⟨w.heap.size,0,none⟩) 0 0) 0 []:=by
 have:=World.ownsRow_lit (base:=B) (e:=E) (size:=1) w #[] 0 hB (by unfold maxLen;omega) rfl
 simpa using this
theorem rd_lit (w:World) (cs:Array Value) (E:TypeId):Rd (w.alloc (.cells cs E)) 1 (some ⟨w.heap.size,0,none⟩) cs.size cs.toList:=by
 refine ⟨by simp,fun _=>⟨w.heap.size,0,rfl,fun j u hu=>?_⟩⟩;rw [Nat.zero_add];simp at hu;simp [hu]
end Go.Proofs.YtdefcbfofonabaaGreat

namespace Go.Proofs.YtdefcbfofonabaaGreat
set_option linter.unusedVariables false
set_option linter.unusedSimpArgs false
def lv:List Nat→Nat
 | []=>0
 | a :: l=>a+4294967296*lv l
def limbs (N:Nat):List Nat:=if N=0 then [] else N % 4294967296 :: limbs (N / 4294967296)
termination_by N
decreasing_by omega
theorem limbs_zero:limbs 0=[]:=by rw [limbs];simp
theorem limbs_pos (N:Nat) (h:N≠0):limbs N=N % 4294967296 :: limbs (N / 4294967296):=by rw [limbs,if_neg h]
def small (l:List Nat):Prop:=∀ x ∈ l,x<4294967296
theorem small_nil:small []:=fun x h=>by cases h
theorem small_cons {a:Nat} {l:List Nat}:small (a :: l)↔a<4294967296∧small l:=by simp [small]
theorem small_append {a b:List Nat}:small (a ++ b)↔small a∧small b:=by
 constructor
 · intro h;exact ⟨fun x hx=>h x (by simp [hx]),fun x hx=>h x (by simp [hx])⟩
 · rintro ⟨h1,h2⟩ x hx
   rcases List.mem_append.1 hx with hx | hx
   · exact h1 x hx
   · exact h2 x hx
theorem small_take {l:List Nat} (h:small l) (k:Nat):small (l.take k):=fun x hx=>h x (List.mem_of_mem_take hx)
theorem small_drop {l:List Nat} (h:small l) (k:Nat):small (l.drop k):=fun x hx=>h x (List.mem_of_mem_drop hx)
theorem lv_limbs (N:Nat):lv (limbs N)=N:=by
 induction N using Nat.strongRecOn with
 | _ N ih =>
   by_cases h:N=0
   · subst h;rw [limbs_zero];rfl
   · rw [limbs_pos N h]
     simp only [lv];rw [ih _ (by omega)];omega
theorem limbs_small (N:Nat):small (limbs N):=by
 induction N using Nat.strongRecOn with
 | _ N ih =>
   by_cases h:N=0
   · subst h;rw [limbs_zero];exact small_nil
   · rw [limbs_pos N h]
     exact small_cons.2 ⟨Nat.mod_lt _ (by decide),ih _ (by omega)⟩
theorem lv_append (a b:List Nat):lv (a ++ b)=lv a+2 ^ (32*a.length)*lv b:=by
 induction a with
 | nil=>simp [lv]
 | cons x a ih =>
   simp only [List.cons_append,lv,ih,List.length_cons];rw [Nat.mul_add 32,Nat.pow_add,Nat.mul_add,←Nat.add_assoc,←Nat.mul_assoc,Nat.mul_comm (2 ^ (32*a.length))]
theorem lv_lt (l:List Nat) (h:small l):lv l<2 ^ (32*l.length):=by
 induction l with
 | nil=>simp [lv]
 | cons x l ih =>
   obtain ⟨h1,h2⟩:=small_cons.1 h;have:=ih h2;simp only [lv,List.length_cons];rw [Nat.mul_add 32,Nat.pow_add]
   have e:2 ^ (32*1)=4294967296:=by decide
   rw [e]
   generalize 2 ^ (32*l.length)=p at *
   have:4294967296*(lv l+1)≤4294967296*p:=Nat.mul_le_mul_left _ (by omega);omega
theorem limbs_lv (l:List Nat) (h:small l) (hc:∀ (hl:l≠[]),l.getLast hl≠0):limbs (lv l)=l:=by
 induction l with
 | nil=>exact limbs_zero
 | cons a l ih =>
   obtain ⟨h1,h2⟩:=small_cons.1 h
   have ih':=ih h2 fun hl=>by
    have:=hc (by simp)
    rwa [List.getLast_cons hl] at this
   by_cases hz:lv (a :: l)=0
   · exfalso
     simp only [lv] at hz
     have ha:a=0:=by omega
     have hl0:lv l=0:=by omega
     rw [hl0,limbs_zero] at ih';subst ih';exact hc (by simp) (by simpa using ha)
   · rw [limbs_pos _ hz]
     simp only [lv]
     have e1:(a+4294967296*lv l) % 4294967296=a:=by omega
     have e2:(a+4294967296*lv l) / 4294967296=lv l:=by omega
     rw [e1,e2,ih']
theorem limbs_length_le (l:List Nat) (h:small l):(limbs (lv l)).length≤l.length:=by
 induction l with
 | nil=>rw [lv,limbs_zero];simp
 | cons a l ih =>
   obtain ⟨h1,h2⟩:=small_cons.1 h;have:=ih h2
   by_cases hz:lv (a :: l)=0
   · rw [hz,limbs_zero];simp
   · rw [limbs_pos _ hz]
     simp only [lv]
     have e2:(a+4294967296*lv l) / 4294967296=lv l:=by omega
     rw [e2]
     simpa using this
theorem lv_take_succ (l:List Nat) (k:Nat) (h:k<l.length):lv (l.take (k+1))=lv (l.take k)+2 ^ (32*k)*l[k]:=by
 rw [List.take_succ_eq_append_getElem h,lv_append];simp only [lv,List.length_take,Nat.min_eq_left (Nat.le_of_lt h),Nat.mul_zero,Nat.add_zero]
theorem lv_zeros (n:Nat):lv (List.replicate n 0)=0:=by
 induction n with
 | zero=>rfl
 | succ n ih=>simp [List.replicate_succ,lv,ih]
theorem small_zeros (n:Nat):small (List.replicate n 0):=fun x hx=>by rw [(List.mem_replicate.1 hx).2];decide
theorem lv_of_digits (l:List Nat) (W:Nat) (h:∀ i (hi:i<l.length),l[i]=W / 2 ^ (32*i) % 4294967296):lv l=W % 2 ^ (32*l.length):=by
 induction l generalizing W with
 | nil=>simp [lv,Nat.mod_one]
 | cons a l ih =>
   have h0:a=W % 4294967296:=by
    have:=h 0 (by simp);rw [List.getElem_cons_zero] at this;rw [this];simp
   have ih':=ih (W / 4294967296) fun i hi=>by
    have:=h (i+1) (by simpa using hi);rw [List.getElem_cons_succ] at this;rw [this,Nat.mul_add 32,Nat.pow_add,Nat.div_div_eq_div_mul,Nat.mul_comm (2 ^ (32*i))]
   simp only [lv,ih',List.length_cons];rw [Nat.mul_add 32,Nat.add_comm (32*l.length),Nat.pow_add]
   have e:2 ^ (32*1)=4294967296:=by decide
   rw [e,Nat.mod_mul,h0]
theorem shr_limb (V i s:Nat) (hs:s<32):(V / 2 ^ (32*i) % 18446744073709551616 / 2 ^ s) % 4294967296=V / 2 ^ s / 2 ^ (32*i) % 4294967296:=by
 rw [Nat.div_div_eq_div_mul V,Nat.mul_comm (2 ^ s),←Nat.div_div_eq_div_mul];generalize V / 2 ^ (32*i)=X
 have e:(18446744073709551616:Nat)=2 ^ s*2 ^ (64 - s):=by
  rw [←Nat.pow_add]
  have:s+(64 - s)=64:=by omega
  rw [this]
 rw [e,Nat.mod_mul_right_div_self]
 have e2:(2:Nat) ^ (64 - s)=4294967296*2 ^ (32 - s):=by
  have:(4294967296:Nat)=2 ^ 32:=by decide
  rw [this,←Nat.pow_add]
  congr 1;omega
 rw [e2,Nat.mod_mul_right_mod]
theorem lv_drop (l:List Nat) (k:Nat) (h:small l) (hk:k≤l.length):lv (l.drop k)=lv l / 2 ^ (32*k):=by
 have h1:=lv_append (l.take k) (l.drop k);rw [List.take_append_drop] at h1;have h2:=lv_lt _ (small_take h k);rw [List.length_take,Nat.min_eq_left hk] at h1 h2;rw [h1,Nat.add_mul_div_left _ _ (Nat.pow_pos (by omega)),Nat.div_eq_of_lt h2,Nat.zero_add]
def rowN (n:Nat) (f:Nat→Nat):List Nat:=(List.range n).map f
theorem rowN_length (n:Nat) (f:Nat→Nat):(rowN n f).length=n:=by simp [rowN]
theorem rowN_get (n:Nat) (f:Nat→Nat) (i:Nat) (h:i<(rowN n f).length):(rowN n f)[i]=f i:=by simp [rowN]
theorem rowN_set (n:Nat) (f g:Nat→Nat) (k b:Nat) (hk:k<n) (h1:g k=b) (h2:∀ i,i≠k→i<n→g i=f i):(rowN n f).set k b=rowN n g:=by
 apply List.ext_getElem
 · simp [rowN]
 · intro i h1' h2'
   rw [List.getElem_set,rowN_get,rowN_get]
   split
   · subst_vars;rfl
   · rw [h2 i (by omega) (by rw [rowN_length] at h2';exact h2')]
theorem rowN_zeros (n:Nat) (f:Nat→Nat) (h:∀ i,i<n→f i=0):List.replicate n 0=rowN n f:=by
 apply List.ext_getElem
 · simp [rowN]
 · intro i h1 h2
   rw [rowN_get,h i (by simpa using h1)];simp
def shrRow (V s k i:Nat):Nat:=if i<k then V / 2 ^ s / 2 ^ (32*i) % 4294967296 else 0
theorem shrRow_step (V s m k:Nat) (hk:k<m):(rowN m (shrRow V s k)).set k (V / 2 ^ s / 2 ^ (32*k) % 4294967296)=rowN m (shrRow V s (k+1)):=by
 refine rowN_set _ _ _ _ _ hk ?_ fun i hne _=>?_
 · unfold shrRow;rw [if_pos (by omega)]
 · unfold shrRow
   by_cases h:i<k
   · rw [if_pos h,if_pos (by omega)]
   · rw [if_neg h,if_neg (by omega)]
theorem shrRow_lt (V s k i:Nat):shrRow V s k i<4294967296:=by
 unfold shrRow
 split
 · exact Nat.mod_lt _ (by decide)
 · decide
theorem shrRow_end (V s m:Nat) (hV:V<2 ^ (32*m)):lv (rowN m (shrRow V s m))=V / 2 ^ s:=by
 rw [lv_of_digits _ (V / 2 ^ s) fun i hi=>by rw [rowN_get,shrRow,if_pos (by rw [rowN_length] at hi;exact hi)],rowN_length];exact Nat.mod_eq_of_lt (Nat.lt_of_le_of_lt (Nat.div_le_self _ _) hV)
theorem small_rowN (n:Nat) (f:Nat→Nat) (h:∀ i,f i<4294967296):small (rowN n f):=by
 intro x hx;obtain ⟨i,_,rfl⟩:=List.mem_map.1 hx;exact h i
theorem two_limbs (ys:List Nat) (k:Nat) (h:small ys) (hk:k<ys.length) (Y:Nat) (hY:(hk1:k+1<ys.length)→Y=ys[k+1]) (hY0:ys.length≤k+1→Y=0) (s:Nat) (hs:s<32) :
 (ys[k]+4294967296*Y) / 2 ^ s % 4294967296=lv ys / 2 ^ s / 2 ^ (32*k) % 4294967296:=by
 rw [←shr_limb _ _ _ hs,←lv_drop ys k h (by omega),List.drop_eq_getElem_cons hk];simp only [lv];have hx:=h ys[k] (List.getElem_mem _)
 have hd:lv (ys.drop (k+1)) % 4294967296=Y:=by
  by_cases h1:k+1<ys.length
  · rw [List.drop_eq_getElem_cons h1,hY h1]
    simp only [lv];have:=h ys[k+1] (List.getElem_mem _);omega
  · rw [List.drop_of_length_le (by omega),hY0 (by omega)];rfl
 have e:(ys[k]+4294967296*lv (ys.drop (k+1))) % 18446744073709551616=ys[k]+4294967296*Y:=by omega
 rw [e]
end Go.Proofs.YtdefcbfofonabaaGreat

namespace Go.Proofs.YtdefcbfofonabaaGreat
set_option linter.unusedVariables false
set_option linter.unusedSimpArgs false
open Go.RowKit
theorem own_below {w w':World} {B:Nat} {e:TypeId} {size n:Nat} {v:Value} {xs:List Value} (h:w.ownsRow B e size v n xs) (hb:Below w.heap.size w w'):w'.ownsRow B e size v n xs :=
 h.kept (row:=none) ⟨hb.os,hb.tape,hb.output,hb.size,fun k hk _=>hb.block k hk⟩ (by cases v.ownBlock<;>simp)
theorem below_drewN {B:Nat} {a w:World} (h:Below B a w) (q:Nat):Below B a (w.drewN q):=⟨h.os,h.tape,h.output,h.size,h.block⟩
theorem below_drew' {B:Nat} {a w:World} (h:Below B a.drew w):Below B a w:=⟨h.os,h.tape,h.output,h.size,h.block⟩
theorem own_more {w:World} {B B':Nat} {e:TypeId} {size n:Nat} {v:Value} {xs:List Value} (h:w.ownsRow B e size v n xs) (hB:B'≤B):w.ownsRow B' e size v n xs:=by
 refine ⟨h.1,?_⟩;rcases h.2 with h' | ⟨g,cap,cur,hv,hg,r⟩
 · exact .inl h'
 · exact .inr ⟨g,cap,cur,hv,by omega,r⟩
theorem own_new (w:World) (cur:Array Value) (E:TypeId) (n c:Nat) (ys:List Value) (hnc:n≤c) (hcm:c≤maxLen) (hs:cur.size=c) (hy:cur.toList.take n=ys) :
 (w.alloc (.cells cur E)).ownsRow w.heap.size E 1 (.slice (some ⟨w.heap.size,0,none⟩) n c) n ys:=by
 refine ⟨?_,.inr ⟨w.heap.size,c,cur,rfl,Nat.le_refl _,heap_alloc_new w _,hnc,hcm,by omega,by rw [Nat.mul_one];exact hy⟩⟩;rw [←hy,List.length_take];simp only [Array.length_toList];omega
theorem make2 {P:Program} (B:Nat) (W0 w:World) {ops:Array Oper} {rest:List Oper} {o:Oper} {a:Act} {Q:Exit→Act→World→Prop}
 (hg:o.guard=none) (l c:Operand) (t:TypeId) (hop:o.op=Op.makeSlice t l c)
 (e:TypeId) (i:TypeInfo) (z:Value) (bytes:Nat) (h1:P.underlying t=some (.slice e)) (h2:P.info? e=some i) (h3:i.zero=some z) (h4:i.size=1) (h5:i.bytes=bytes) (hzs:z.cells=#[z]) (hb1:0<bytes)
 (kl kc:IntKind) (L C:Int) (n cc:Nat) (hl:a.eval l=.int kl L) (hc:a.eval c=.int kc C) (hL:L=(n:Int)) (hC:C=(cc:Int)) (hncc:n≤cc) (b2:cc*bytes≤281474976710656)
 (ys:List Value) (hys:List.replicate n z=ys) (hB:B≤W0.heap.size) (hbel:Below B W0 w)
 (hK:∀ w',w'.ownsRow w.heap.size e 1 (.slice (some ⟨w.heap.size,0,none⟩) n cc) n ys→Below B W0 w'→w.grownBy w' none→wpList P ops Q rest (a.put o.dst (.slice (some ⟨w.heap.size,0,none⟩) n cc)) w') :
 wpList P ops Q (o :: rest) a w:=by
 have hm:cc≤cc*bytes:=Nat.le_mul_of_pos_right _ hb1;subst h5
 refine wpList_plain hg fun K hK'=>?_
 subst hL;subst hC
 have hrun:=run_make (P:=P) (w:=w) t e i z h1 h2 h3 kl kc n cc (by omega) (by omega) (by
  have h:((i.bytes*cc:Nat):Int)≤281474976710656:=by rw [Nat.mul_comm];omega
  rwa [Int.natCast_mul] at h) (by omega)
 simp only [Int.toNat_natCast,h4,Nat.mul_one,hzs] at hrun;unfold Oper.wp;simp [execOp,hop,hl,hc,hrun,Result.andThen];have hgr:w.grownBy (w.alloc (.cells (madeCells #[z] cc) e)) none:=World.grownBy_alloc w _ none;refine hK' _ _ (hK _ ?_ (hbel.alloc (Nat.le_trans hB hbel.size) _) hgr);refine own_new w _ e n cc ys hncc (by unfold maxLen;omega) (by simp [madeCells]) ?_;rw [toList_madeCells_one,List.take_replicate,Nat.min_eq_left hncc,hys]
end Go.Proofs.YtdefcbfofonabaaGreat

namespace Go.Proofs.YtdefcbfofonabaaGreat
set_option linter.unusedVariables false
set_option linter.unusedSimpArgs false
open Go.RowKit
theorem info_u32:(Tryz.prog.info? 125).map (fun i=>(i.zero,i.size,i.bytes))=some (some (.int .u32 0),1,4):=by kernel_rfl
def lw (l:List Nat):List Value:=l.map fun (u:Nat)=>Value.int .u32 (u:Int)
theorem lw_append (a b:List Nat):lw (a ++ b)=lw a ++ lw b:=by simp [lw]
theorem lw_length (l:List Nat):(lw l).length=l.length:=by simp [lw]
theorem lw_get (l:List Nat) (k:Nat) (h:k<l.length):(lw l)[k]?=some (.int .u32 (l[k]:Nat)):=by simp [lw,h]
theorem lw_take (l:List Nat) (k:Nat):(lw l).take k=lw (l.take k):=by simp [lw,List.map_take]
theorem lw_drop (l:List Nat) (k:Nat):(lw l).drop k=lw (l.drop k):=by simp [lw,List.map_drop]
theorem one32 (l:List Nat):∀ u ∈ lw l,u.oneCell'=true:=by
 intro u hu;obtain ⟨x,_,rfl⟩:=List.mem_map.1 hu
 rfl
theorem cut_any (xs:List Nat) (A:Option Addr) (n c:Nat) (w:World) (hl:xs.length=n) (hnc:n≤c) (hn:n≤9223372036854775807) (hr:Rd w 1 A n (lw xs)) (hs:small xs) :
 Calls Tryz.prog 79 #[.slice A n c] w fun e w'=>∃ k:Nat,e=.returned (.slice A k c)∧k≤n∧xs.take k=limbs (lv xs)∧w=w':=by
 go_enter Tryz.func79,Tryz.ntmps79
 go_wp2_with fail
 go_loop [0] (fun a=>∃ m:Nat,m≤n∧a=.slice A m c∧lv (xs.take m)=lv xs) (fun a=>match a with | .slice _ m _=>m | _=>0)
 case atStart=>exact ⟨n,Nat.le_refl _,rfl,by rw [List.take_of_length_le (by omega)]⟩
 case round =>
  obtain ⟨m,hm,rfl,hv⟩:=hrel;have HV:=Lib.hid hv;clear hv
  cases m with
  | zero =>
    go_wp2_with fail
    go_ret;refine ⟨0,rfl,by omega,?_,rfl⟩;have:=HV.out;rw [List.take_zero] at this ⊢;rw [←this,lv,limbs_zero]
  | succ m =>
    obtain ⟨b1,o1,u1,rfl,hu1,hc1⟩:=hr.at_ (k:=m) (by omega);rw [lw_get xs m (by omega)] at hu1
    injection hu1 with hu1
    have ht:=lv_take_succ xs m (by omega);have htk:xs.take (m+1)=xs.take m ++ [xs[m]]:=List.take_succ_eq_append_getElem (by omega);have hxs:=hs xs[m] (List.getElem_mem _)
    generalize xs[m]=X at *
    subst hu1;have HT:=Lib.hid ht;have HK:=Lib.hid htk;have HR:=Lib.hid hr;have HS:=Lib.hid hs;clear ht htk hr hs
    have hc1':w.cell? ⟨b1,o1+((m+1:Nat) - 1:Int).toNat,none⟩=some (.int .u32 X):=by rw [←hc1];congr 2;omega
    by_cases hX:X≤0
    · obtain rfl:X=0:=by omega
      go_wp2_with fail
      go_round
      case rel=>exact ⟨m,by omega,by first | rfl | (congr 1;omega),by rw [←HV.out,HT.out];simp⟩
      case measure=>simp
    · have hb:((X:Int) == 0)=false:=by rw [beq_eq_false_iff_ne];omega
      go_wp2_with fail
      go_ret;refine ⟨m+1,rfl,hm,?_,rfl⟩;rw [←HV.out]
      symm
      refine limbs_lv _ (small_take HS.out _) fun hl=>?_
      have e:(xs.take (m+1)).getLast hl=X:=by simp [HK.out]
      rw [e];omega
theorem norm_any (xs:List Nat) (A:Option Addr) (n c:Nat) (w:World) (hl:xs.length=n) (hnc:n≤c) (hn:n≤35184372088832) (hr:Rd w 1 A n (lw xs)) (hs:small xs) :
 Calls Tryz.prog 55 #[.slice A n c] w fun e w'=>∃ v,e=.returned v∧w'.ownsRow w.heap.size 125 1 v (limbs (lv xs)).length (lw (limbs (lv xs)))∧Below w.heap.size w w':=by
 obtain ⟨i0,hi,hz0,hz1,hz2⟩:=info_parts info_u32;have hcut:=cut_any xs A n c w hl hnc (by omega) hr hs;have hlen:=limbs_length_le xs hs
 generalize limbs (lv xs)=L at *
 have HCUT:=Lib.hid hcut;clear hcut
 go_enter Tryz.func55,Tryz.ntmps55
 go_wp2_with fail
 refine HCUT.out.mono ?_;rintro e w' ⟨k,rfl,hk,htk,rfl⟩;have hrk:=hr.take hk;rw [lw_take,htk] at hrk
 have hkl:k=L.length:=by rw [←htk,List.length_take];omega
 have HK:=Lib.hid hkl;clear HCUT hr hs htk hkl
 go_wp2_with (at_builtin;refine appR w.heap.size w w 125 rfl _ _ 24 rfl i0 (.int .u32 0) 4 Tryz.underlying24 hi hz0 hz1 hz2 rfl (by decide) _ 0 [] rfl (Nat.le_refl _) (World.ownsRow_nil _ _ _ _) (Below.refl _ _) A k c (lw L) rfl hrk (one32 L) (by omega) ?_)
 intro v1 w1 hown1 hb1 _
 go_wp2_with fail
 go_ret;refine ⟨_,rfl,?_,hb1⟩;rw [←HK.out]
 simpa using hown1
theorem lv_two (u:Nat) (h:u<18446744073709551616):lv [u % 4294967296,u / 4294967296]=u:=by simp only [lv];omega
theorem word_any (u:Nat) (w:World) (hu:u<18446744073709551616) :
 Calls Tryz.prog 24 #[.int .u64 u] w fun e w'=>∃ v,e=.returned v∧w'.ownsRow w.heap.size 125 1 v (limbs u).length (lw (limbs u))∧Below w.heap.size w w':=by
 have hn:=fun W hr=>norm_any [u % 4294967296,u / 4294967296] (some ⟨w.heap.size,0,none⟩) 2 2 W rfl (by omega) (by omega) hr (by intro x hx;simp at hx;omega)
 rw [lv_two u hu] at hn;have HN:=Lib.hid hn;clear hn
 go_enter Tryz.func24,Tryz.ntmps24
 go_wp2_with fail
 refine (HN.out _ (rd_lit w _ _)).mono ?_;rintro e w1 ⟨v,rfl,hown,hb⟩
 go_wp2_with fail
 go_ret;exact ⟨_,rfl,own_more hown (by simp),((Below.refl _ _).alloc (Nat.le_refl _) _).trans (hb.mono (by simp))⟩
theorem shiftOK_any (n:Int) (w:World) :
 Calls Tryz.prog 116 #[.int .i64 n] w fun e w'=>e=.returned (.bool (decide (0≤n∧n≤100000)))∧w=w':=by
 by_cases h:0≤n
 · go_enter Tryz.func116,Tryz.ntmps116
   go_wp2_with fail
   go_ret;exact ⟨ret_bool (by simp [h]),rfl⟩
 · go_enter Tryz.func116,Tryz.ntmps116
   go_wp2_with fail
   go_ret;exact ⟨ret_bool (by simp;omega),rfl⟩
theorem low_or (U X:Nat) (hU:U<4294967296) (hX:X<4294967296):bits .or .u64 (U:Int) ((X:Int)*4294967296)=((U+4294967296*X:Nat):Int):=by
 have e:(X:Int)*4294967296=((4294967296*X:Nat):Int):=by omega
 rw [e,u64_or_nat _ _ (by omega) (by omega)];have h3:=Nat.two_pow_add_eq_or_of_lt (i:=32) (show U<2 ^ 32 by omega) X
 have e2:(2:Nat) ^ 32=4294967296:=by decide
 rw [e2] at h3;rw [Nat.or_comm,←h3,Nat.add_comm]
end Go.Proofs.YtdefcbfofonabaaGreat
