/- Slices of bools, in memory. -/
import Derived.Test.YtdefcbfofonabaaGreatRows
import Derived.Test.YtdefcbfofonabaaGreatMem
import Derived.Maps.AppendAt
import Derived.Deep.RegionLaw
namespace Go.Proofs.YtdefcbfofonabaaGreat
set_option linter.unusedVariables false
set_option linter.unusedSimpArgs false
open Go.RowKit
theorem full_blk {w:World} {B g n:Nat} {e:TypeId} {ys:List Value} (h:w.ownsRow B e 1 (.slice (some ⟨g,0,none⟩) n n) n ys):w.heap[g]?=some (.cells ys.toArray e (0,0)):=by
 rcases h.2 with ⟨h',_⟩ | ⟨g',cap,cur,hv,_,hh,_,_,hs,ht⟩
 · cases h'
 · injection hv with h1 h2 h3
   injection h1 with h1
   injection h1 with h1
   subst h1;subst h3;rw [hh];rw [List.take_of_length_le (by simp;omega)] at ht;rw [←ht]
theorem info_bool:(Tryz.prog.info? 4).map (fun i=>(i.zero,i.size,i.bytes))=some (some (.bool false),1,1):=by kernel_rfl
def boolL (xs:List Bool):List Value:=xs.map Value.bool
end Go.Proofs.YtdefcbfofonabaaGreat

namespace Go.Proofs.YtdefcbfofonabaaGreat
open Go.RowKit
set_option linter.unusedVariables false
set_option linter.unusedSimpArgs false
structure Fr (S:Nat→Prop) (w w':World):Prop where
 os:w'.os=w.os
 tape:w'.tape=w.tape
 output:w'.output=w.output
 size:w.heap.size≤w'.heap.size
 block:∀ k,k<w.heap.size→¬ S k→w'.heap[k]?=w.heap[k]?
section
variable {S S':Nat→Prop} {w w1 w2:World}
theorem Fr.refl (S:Nat→Prop) (w:World):Fr S w w:=⟨rfl,rfl,rfl,Nat.le_refl _,fun _ _ _=>rfl⟩
theorem Fr.trans (h:Fr S w w1) (k:Fr S' w1 w2) (hs:∀ b,S' b→S b∨w.heap.size≤b):Fr S w w2 :=
 ⟨k.os.trans h.os,k.tape.trans h.tape,k.output.trans h.output,Nat.le_trans h.size k.size,fun b hb hn =>
   (k.block b (Nat.lt_of_lt_of_le hb h.size) (fun hs'=>by rcases hs b hs' with h' | h';exact hn h';omega)).trans (h.block b hb hn)⟩
theorem Fr.mono (h:Fr S w w1) (hs:∀ b,b<w.heap.size→S b→S' b):Fr S' w w1:=⟨h.os,h.tape,h.output,h.size,fun b hb hn=>h.block b hb (fun h'=>hn (hs b hb h'))⟩
theorem Fr.drew (h:Fr S w w1):Fr S w w1.drew:=⟨h.os,h.tape,h.output,h.size,h.block⟩
theorem Fr.drewN (h:Fr S w w1) (q:Nat):Fr S w (w1.drewN q):=⟨h.os,h.tape,h.output,h.size,h.block⟩
theorem Fr.alloc (h:Fr S w w1) (o:Obj):Fr S w (w1.alloc o) :=
 ⟨h.os,h.tape,h.output,Nat.le_trans h.size (by simp),fun b hb hn=>(Below.heap_alloc w1 o b (Nat.lt_of_lt_of_le hb h.size)).trans (h.block b hb hn)⟩
theorem Fr.setCell (h:Fr S w w1) (p:Addr) (u:Value) (hp:S p.block∨w.heap.size≤p.block):Fr S w (w1.setCell p u) :=
 ⟨h.os,h.tape,h.output,by simpa [World.setCell] using h.size,fun b hb hn=>(Below.heap_setCell w1 p u b (by rintro rfl;rcases hp with hp | hp;exact hn hp;omega)).trans (h.block b hb hn)⟩
theorem Fr.of_below (h:Below w.heap.size w w1):Fr S w w1:=⟨h.os,h.tape,h.output,h.size,fun b hb _=>h.block b hb⟩
theorem Fr.of_grown {row:Option Nat} (h:w.grownBy w1 row) (hr:∀ k,row=some k→S k∨w.heap.size≤k):Fr S w w1 :=
 ⟨h.os,h.tape,h.output,h.size,fun b hb hn=>h.block b hb (fun e=>by rcases hr b e.symm with h' | h';exact hn h';omega)⟩
theorem Fr.below {B:Nat} (h:Fr S w w1) (hB:B≤w.heap.size) (hs:∀ b,S b→B≤b):Below B w w1 :=
 ⟨h.os,h.tape,h.output,h.size,fun b hb=>h.block b (by omega) (fun h'=>by have:=hs b h';omega)⟩
theorem Fr.cell (h:Fr S w w1) {p:Addr} (hp:p.block<w.heap.size) (hn:¬ S p.block):w1.cell? p=w.cell? p:=World.cell?_of_block (h.block p.block hp hn)
theorem Fr.own {B:Nat} {e:TypeId} {size n:Nat} {v:Value} {xs:List Value} (h:Fr S w w1) (ho:w.ownsRow B e size v n xs) (hn:∀ b,v.ownBlock=some b→¬ S b):w1.ownsRow B e size v n xs:=by
 refine ⟨ho.1,?_⟩;rcases ho.2 with h' | ⟨g,cap,cur,hv,hg,hh,r⟩
 · exact .inl h'
 · refine .inr ⟨g,cap,cur,hv,hg,?_,r⟩
   rw [h.block g (Array.getElem?_eq_some_iff.1 hh).1 (hn g (by rw [hv];rfl))];exact hh
theorem Fr.rd {size n:Nat} {A:Option Addr} {xs:List Value} (h:Fr S w w1) (hr:Rd w size A n xs) (hn:∀ b o,A=some ⟨b,o,none⟩→¬ S b):Rd w1 size A n xs :=
 ⟨hr.1,fun h0=>by
   obtain ⟨b,o,e,hc⟩:=hr.2 h0
   exact ⟨b,o,e,fun j u hu=>(h.cell (World.block_lt_of_cell? w _ (hc j u hu)) (hn b o e)).trans (hc j u hu)⟩⟩
end
def ownS (v:Value):Nat→Prop:=fun b=>v.ownBlock=some b
theorem own_type {w:World} {B:Nat} {e:TypeId} {size n:Nat} {v:Value} {xs:List Value} (h:w.ownsRow B e size v n xs) {g:Nat} {cs:Array Value} {t:TypeId} {m:Nat × Nat} (hg:w.heap[g]?=some (.cells cs t m)) (hne:e≠t):v.ownBlock≠some g:=by
 rcases h.2 with ⟨rfl,_⟩ | ⟨g',cap,cur,rfl,_,hh,_⟩
 · simp [Value.ownBlock]
 · intro he
   have:g'=g:=by simpa [Value.ownBlock] using he
   subst this;rw [hh] at hg
   injection hg with hg
   injection hg with _ ht
   exact hne ht
theorem own_own {w:World} {B B':Nat} {e e':TypeId} {size n size' n':Nat} {v v':Value} {xs xs':List Value} (h:w.ownsRow B e size v n xs) (h':w.ownsRow B' e' size' v' n' xs') (hne:e≠e') {b:Nat} (hb:v.ownBlock=some b):v'.ownBlock≠some b:=by
 rcases h'.2 with ⟨rfl,_⟩ | ⟨g',cap,cur,rfl,_,hh,_⟩
 · simp [Value.ownBlock]
 · intro he
   have:g'=b:=by simpa [Value.ownBlock] using he
   subst this;exact own_type h hh hne hb
theorem own_lt {w:World} {B:Nat} {e:TypeId} {size n:Nat} {v:Value} {xs:List Value} (h:w.ownsRow B e size v n xs) {b:Nat} (hb:v.ownBlock=some b):B≤b∧b<w.heap.size:=h.lt b hb
theorem cell_of_blk {w:World} {g:Nat} {cs:Array Value} {t:TypeId} (h:w.heap[g]?=some (.cells cs t (0,0))) (i:Nat):w.cell? ⟨g,i,none⟩=cs[i]?:=cell_of_row w g i cs t (0,0) h
theorem frozen_of_blk {w:World} {g:Nat} {cs:Array Value} {t:TypeId} (h:w.heap[g]?=some (.cells cs t (0,0))) (i:Nat):w.frozen? ⟨g,i,none⟩=false:=frozen_of_row w g i cs t h
theorem lt_of_blk {w:World} {g:Nat} {o:Obj} (h:w.heap[g]?=some o):g<w.heap.size:=(Array.getElem?_eq_some_iff.1 h).1
theorem set_blk {w:World} {g:Nat} {cs:Array Value} {t:TypeId} (h:w.heap[g]?=some (.cells cs t (0,0))) (i:Nat) (u:Value):(w.setCell ⟨g,i,none⟩ u).heap[g]?=some (.cells (cs.setIfInBounds i u) t (0,0)):=by
 simp [World.setCell,Array.getElem?_modify,h]
theorem set_far {w:World} {g:Nat} {p:Addr} (hp:g≠p.block) (u:Value):(w.setCell p u).heap[g]?=w.heap[g]?:=Below.heap_setCell w p u g hp
theorem alloc_old {w:World} {g:Nat} (o:Obj) (h:g<w.heap.size):(w.alloc o).heap[g]?=w.heap[g]?:=Below.heap_alloc w o g h
theorem run_appS {P:Program} (w:World) (size:Nat) (Xs:Array Value) (E t ty:TypeId) (i:TypeInfo) (z:Value) (bytes:Nat) (ht:P.underlying t=some (.slice E)) (hi:P.info? E=some i) (hz:i.zero=some z)
 (hsize:i.size=size) (hby:i.bytes=bytes) (hzs:z.cells.size=size) (hsz:0<size) (hb1:0<bytes) (hX:Xs.size=size)
 (v:Value) (n:Nat) (xs:List Value) (hown:w.ownsRow 0 E size v n xs) (h1:∀ u ∈ Xs.toList,u.oneCell'=true) (hbytes:(n+1)*bytes≤140737488355328) :
 ∃ v' w',(Builtin.append_ #[t,t] ty #[v,.slice (some ⟨w.heap.size,0,none⟩) 1 1]).run P (w.alloc (.cells Xs E))=.ok v' w' ∧
   w'.ownsRow 0 E size v' (n+1) (xs ++ Xs.toList)∧Fr (ownS v) w w'∧(v'.ownBlock=v.ownBlock∨v'.ownBlock=some (w.heap.size+1)):=by
 have hm:n+1≤(n+1)*bytes:=Nat.le_mul_of_pos_right _ hb1
 obtain ⟨v',w',hr,h2,h3,_,h4⟩:=run_append_own_at (P:=P) (w:=w.alloc (.cells Xs E)) 0 t ty E i z size bytes ht hi hz hsize hby hzs hsz v n xs (hown.alloc _) ⟨w.heap.size,0,none⟩ 1 1 Xs.toList (by simp [hX]) (by
  intro j u hu;rw [addr_add_none,Nat.zero_add];simp at hu
  simp [hu]) h1 (by unfold maxLen;omega) hbytes (by simp)
 refine ⟨v',w',hr,h2,?_,by simpa using h4⟩;have ha:Fr (ownS v) w (w.alloc (.cells Xs E)):=(Fr.refl _ _).alloc _;exact ha.trans (Fr.of_grown (S:=ownS v) h3 (fun k hk=>.inl hk)) (fun b hb=>.inl hb)
theorem appS {P:Program} (w:World) (size:Nat) (Xs:Array Value) (E:TypeId) {ops:Array Oper} {rest:List Oper} {o:Oper} {a:Act} {Q:Exit→Act→World→Prop} (hgd:o.guard=none) (s x:Operand) (t:TypeId)
 (ho:o.op=.call { callee:=.builtin .append,args:=#[s,x],argTypes:=#[t,t] })
 (i:TypeInfo) (z:Value) (bytes:Nat) (ht:P.underlying t=some (.slice E)) (hi:P.info? E=some i) (hz:i.zero=some z)
 (hsize:i.size=size) (hby:i.bytes=bytes) (hzs:z.cells.size=size) (hsz:0<size) (hb1:0<bytes) (hX:Xs.size=size)
 (v:Value) (n:Nat) (xs:List Value) (hs:a.eval s=v) (hown:w.ownsRow 0 E size v n xs)
 (hx:a.eval x=.slice (some ⟨w.heap.size,0,none⟩) 1 1) (h1:∀ u ∈ Xs.toList,u.oneCell'=true) (hbytes:(n+1)*bytes≤140737488355328)
 (h:∀ v' w',w'.ownsRow 0 E size v' (n+1) (xs ++ Xs.toList)→Fr (ownS v) w w'→(v'.ownBlock=v.ownBlock∨v'.ownBlock=some (w.heap.size+1))→wpList P ops Q rest (a.put o.dst v') w') :
 wpList P ops Q (o :: rest) a (w.alloc (.cells Xs E)):=by
 refine wpList_plain hgd fun K hK=>?_
 obtain ⟨v',w',hr,h2,h3,h4⟩:=run_appS (P:=P) w size Xs E t o.type i z bytes ht hi hz hsize hby hzs hsz hb1 hX v n xs hown h1 hbytes;unfold Oper.wp execOp;simp only [ho,resolve,invoke,builtin,Sem.run_bind,Sem.run_pure,Result.andThen_ok,List.map_toArray,List.map_cons,List.map_nil,hs,hx,hr];exact hK _ _ (h v' w' h2 h3 h4)
theorem stepS {P:Program} (w:World) (size:Nat) (Xs:Array Value) (E:TypeId) {ops:Array Oper} {o:Oper} {a:Act} {K:Act→World→Prop} {Q:Exit→Act→World→Prop} {E':Prop} (hgd:o.guard=none) (s x:Operand) (t:TypeId)
 (ho:o.op=.call { callee:=.builtin .append,args:=#[s,x],argTypes:=#[t,t] })
 (i:TypeInfo) (z:Value) (bytes:Nat) (ht:P.underlying t=some (.slice E)) (hi:P.info? E=some i) (hz:i.zero=some z)
 (hsize:i.size=size) (hby:i.bytes=bytes) (hzs:z.cells.size=size) (hsz:0<size) (hb1:0<bytes) (hX:Xs.size=size)
 (v:Value) (n:Nat) (xs:List Value) (hs:a.eval s=v) (hown:w.ownsRow 0 E size v n xs)
 (hx:a.eval x=.slice (some ⟨w.heap.size,0,none⟩) 1 1) (h1:∀ u ∈ Xs.toList,u.oneCell'=true) (hbytes:(n+1)*bytes≤140737488355328)
 (h:∀ v' w',w'.ownsRow 0 E size v' (n+1) (xs ++ Xs.toList)→Fr (ownS v) w w'→(v'.ownBlock=v.ownBlock∨v'.ownBlock=some (w.heap.size+1))→K (a.put o.dst v') w') :
 if Region.wanted o (yielded ops a.tmps)=true then Oper.wp P o a (w.alloc (.cells Xs E)) K Q else E':=by
 have hw:Region.wanted o (yielded ops a.tmps)=true:=by simp [Region.wanted,hgd]
 rw [if_pos hw];obtain ⟨v',w',hr,h2,h3,h4⟩:=run_appS (P:=P) w size Xs E t o.type i z bytes ht hi hz hsize hby hzs hsz hb1 hX v n xs hown h1 hbytes;unfold Oper.wp execOp;simp only [ho,resolve,invoke,builtin,Sem.run_bind,Sem.run_pure,Result.andThen_ok,List.map_toArray,List.map_cons,List.map_nil,hs,hx,hr];exact h v' w' h2 h3 h4
end Go.Proofs.YtdefcbfofonabaaGreat

namespace Go.Proofs.YtdefcbfofonabaaGreat
set_option linter.unusedVariables false
set_option linter.unusedSimpArgs false
def bvl:List Bool→Nat
 | []=>0
 | b :: l=>b.toNat+2*bvl l
def cutB:List Bool→List Bool
 | []=>[]
 | b :: l=>match cutB l with
   | []=>if b then [true] else []
   | c :: r=>b :: c :: r
def tight (l:List Bool):Prop:=cutB l=l
theorem bvl_cut (l:List Bool):bvl (cutB l)=bvl l:=by
 induction l with
 | nil=>rfl
 | cons b l ih =>
   rw [cutB,bvl,←ih]
   cases h:cutB l with
   | nil=>cases b<;>simp [bvl]
   | cons c r=>simp [bvl]
theorem cut_false (l:List Bool):cutB (l ++ [false])=cutB l:=by
 induction l with
 | nil=>rfl
 | cons b l ih=>rw [List.cons_append,cutB,cutB,ih]
theorem cut_true (l:List Bool):cutB (l ++ [true])=l ++ [true]:=by
 induction l with
 | nil=>rfl
 | cons b l ih =>
   rw [List.cons_append,cutB,ih]
   cases l<;>rfl
theorem cut_length (l:List Bool):(cutB l).length≤l.length:=by
 induction l with
 | nil=>exact Nat.le_refl _
 | cons b l ih =>
   rw [cutB]
   cases h:cutB l with
   | nil=>cases b<;>simp
   | cons c r=>rw [h] at ih;simp at ih ⊢;omega
theorem tight_cut (l:List Bool):tight (cutB l):=by
 unfold tight
 induction l with
 | nil=>rfl
 | cons b l ih =>
   rw [cutB]
   cases h:cutB l with
   | nil=>cases b<;>rfl
   | cons c r =>
     rw [h] at ih
     show cutB (b :: c :: r)=_
     rw [cutB,ih]
theorem tight_nil:tight []:=rfl
theorem bvl_lt (l:List Bool):bvl l<2 ^ l.length:=by
 induction l with
 | nil=>simp [bvl]
 | cons b l ih =>
   rw [bvl,List.length_cons,Nat.pow_succ]
   have:b.toNat≤1:=by cases b<;>simp
   omega
theorem bvl_append (a b:List Bool):bvl (a ++ b)=bvl a+2 ^ a.length*bvl b:=by
 induction a with
 | nil=>simp [bvl]
 | cons x a ih =>
   rw [List.cons_append,bvl,bvl,ih,List.length_cons,Nat.pow_succ]
   have e:2 ^ a.length*2*bvl b=2*(2 ^ a.length*bvl b):=by rw [Nat.mul_assoc,Nat.mul_left_comm]
   omega
theorem tight_cons {b:Bool} {l:List Bool} (h:tight (b :: l)):tight l∧(l=[]→b=true):=by
 unfold tight at h ⊢;rw [cutB] at h
 cases hc:cutB l with
 | nil =>
   rw [hc] at h
   cases b
   · simp at h
   · simp at h
     subst h;exact ⟨rfl,fun _=>rfl⟩
 | cons c r =>
   rw [hc] at h;simp at h;refine ⟨h,fun e=>?_⟩;subst e
   cases h
theorem tight_ge (l:List Bool) (h:tight l) (hne:l≠[]):2 ^ l.length≤2*bvl l:=by
 induction l with
 | nil=>exact absurd rfl hne
 | cons b l ih =>
   obtain ⟨h1,h2⟩:=tight_cons h;rw [bvl,List.length_cons,Nat.pow_succ]
   cases l with
   | nil=>simp [h2 rfl,bvl]
   | cons c r =>
     have:=ih h1 (by simp);omega
theorem tight_zero (l:List Bool) (h:tight l):(l.length=0↔bvl l=0):=by
 constructor
 · intro e
   rw [List.eq_nil_of_length_eq_zero e]
   rfl
 · intro e
   cases l with
   | nil=>rfl
   | cons b l =>
     have:=tight_ge _ h (by simp);have h2:0<2 ^ (b :: l).length:=Nat.pow_pos (by omega);omega
theorem tight_lt (a b:List Bool) (hb:tight b) (h:a.length<b.length):bvl a<bvl b:=by
 have h1:=bvl_lt a;have h2:=tight_ge b hb (by intro e;subst e;simp at h);have h3:2 ^ (a.length+1)≤2 ^ b.length:=Nat.pow_le_pow_right (by omega) h;rw [Nat.pow_succ] at h3;omega
theorem tight_len (a b:List Bool) (hb:tight b) (h:bvl b≤bvl a):b.length≤a.length:=by
 rcases Nat.lt_or_ge a.length b.length with h1 | h1
 · have:=tight_lt a b hb h1
   omega
 · exact h1
theorem bvl_top (a b:List Bool) (k:Nat) (hl:a.length=b.length) (hk:k<a.length) (hd:a.drop (k+1)=b.drop (k+1)) (h1:a[k]=false) (h2:b[k]=true):bvl a<bvl b:=by
 have e1:a=a.take k ++ (false :: a.drop (k+1)):=by rw [←h1];simp
 have e2:b=b.take k ++ (true :: a.drop (k+1)):=by rw [hd,←h2];simp
 have hx:=bvl_lt (a.take k);rw [List.length_take,Nat.min_eq_left (by omega)] at hx;rw [e1,e2,bvl_append,bvl_append,List.length_take,List.length_take,Nat.min_eq_left (by omega),Nat.min_eq_left (by omega),bvl,bvl];simp;generalize bvl (a.drop (k+1))=z
 generalize 2 ^ k=p at *
 have e3:p*(1+2*z)=p+p*(2*z):=by rw [Nat.mul_add,Nat.mul_one]
 rw [e3];omega
theorem sub_step (o x y ow x' y' ow' d p:Nat) (h:o+y=x+ow*p) (hd:d+y'+ow=x'+2*ow'):o+p*d+(y+p*y')=x+p*x'+ow'*(p*2):=by
 have h3:p*d+p*y'+p*ow=p*x'+p*(2*ow'):=by rw [←Nat.mul_add,←Nat.mul_add,←Nat.mul_add,hd]
 have e1:ow'*(p*2)=p*(2*ow'):=by rw [Nat.mul_comm,Nat.mul_assoc]
 have e2:p*ow=ow*p:=Nat.mul_comm _ _;omega
theorem bvl_take (l:List Bool) (i:Nat) (h:i<l.length):bvl (l.take (i+1))=bvl (l.take i)+2 ^ i*l[i].toNat:=by
 rw [List.take_succ_eq_append_getElem h,bvl_append,List.length_take,Nat.min_eq_left (by omega)];simp [bvl]
theorem bvl_snoc (l:List Bool) (b:Bool):bvl (l ++ [b])=bvl l+2 ^ l.length*b.toNat:=by
 rw [bvl_append];simp [bvl]
end Go.Proofs.YtdefcbfofonabaaGreat

namespace Go.Proofs.YtdefcbfofonabaaGreat
open Go.RowKit
set_option linter.unusedVariables false
set_option linter.unusedSimpArgs false
theorem stepRS {P:Program} (B:Nat) (w:World) (size:Nat) (E:TypeId) {ops:Array Oper} {o:Oper} {a:Act} {K:Act→World→Prop} {Q:Exit→Act→World→Prop} {E':Prop} (hgd:o.guard=none) (s x:Operand) (t:TypeId)
 (ho:o.op=.call { callee:=.builtin .append,args:=#[s,x],argTypes:=#[t,t] })
 (i:TypeInfo) (z:Value) (bytes:Nat) (ht:P.underlying t=some (.slice E)) (hi:P.info? E=some i) (hz:i.zero=some z)
 (hsize:i.size=size) (hby:i.bytes=bytes) (hzs:z.cells.size=size) (hsz:0<size) (hb1:0<bytes)
 (v:Value) (n:Nat) (xs:List Value) (hs:a.eval s=v) (hBw:B≤w.heap.size) (hown:w.ownsRow B E size v n xs)
 (A:Option Addr) (m c:Nat) (news:List Value) (hx:a.eval x=.slice A m c) (hrd:Rd w size A m news) (h1:∀ u ∈ news,u.oneCell'=true) (hbytes:(n+m)*bytes≤140737488355328)
 (h:∀ v' w',w'.ownsRow B E size v' (n+m) (xs ++ news)→w.grownBy w' v.ownBlock→K (a.put o.dst v') w') :
 if Region.wanted o (yielded ops a.tmps)=true then Oper.wp P o a w K Q else E':=by
 have hm:n+m≤(n+m)*bytes:=Nat.le_mul_of_pos_right _ hb1
 have hw:Region.wanted o (yielded ops a.tmps)=true:=by simp [Region.wanted,hgd]
 rw [if_pos hw]
 have hrun:∃ v' w',(Builtin.append_ #[t,t] o.type #[v,.slice A m c]).run P w=.ok v' w'∧w'.ownsRow B E size v' (n+m) (xs ++ news)∧w.grownBy w' v.ownBlock:=by
  rcases A with _ | ad
  · have hm0:m=0:=by
     rcases Nat.eq_zero_or_pos m with h0 | h0
     · exact h0
     · obtain ⟨_,_,h',_⟩:=hrd.2 h0
       cases h'
    subst hm0;have hn:news=[]:=List.eq_nil_of_length_eq_zero (by simpa using hrd.1);subst hn;refine ⟨v,w,?_,by simpa using hown,World.grownBy.refl w _⟩;rcases hown.2 with ⟨rfl,rfl⟩ | ⟨g,cap,cur,rfl,_,_,hnc,_⟩
    · simp [Builtin.append_,run_underlying ht,sizeOf,typeInfo,hi,Builtin.lenOf,Builtin.firstCells]
    · simp [Builtin.append_,run_underlying ht,sizeOf,typeInfo,hi,Builtin.lenOf,Builtin.firstCells,hnc,storeCells]
  · obtain ⟨v',w',hr,h2,h3,_,_⟩:=run_append_own_at (P:=P) (w:=w) B t o.type E i z size bytes ht hi hz hsize hby hzs hsz v n xs hown ad m c news hrd.1 (by
     intro j u hu
     have hj:0<m:=by
      have h1:=(List.getElem?_eq_some_iff.1 hu).1;have h2:=hrd.1;rcases Nat.eq_zero_or_pos m with h0 | h0
      · rw [h2,h0] at h1;simp at h1
      · exact h0
     obtain ⟨b,off,e,hc⟩:=hrd.2 hj
     injection e with e
     subst e;rw [addr_add_none]
     exact hc j u hu) h1 (by unfold maxLen;omega) hbytes hBw
    exact ⟨v',w',hr,h2,h3⟩
 obtain ⟨v',w',hr,h2,h3⟩:=hrun;unfold Oper.wp execOp;simp only [ho,resolve,invoke,builtin,Sem.run_bind,Sem.run_pure,Result.andThen_ok,List.map_toArray,List.map_cons,List.map_nil,hs,hx,hr];exact h v' w' h2 h3
end Go.Proofs.YtdefcbfofonabaaGreat

namespace Go.Proofs.YtdefcbfofonabaaGreat
set_option linter.unusedVariables false
set_option linter.unusedSimpArgs false
def bitl (N:Nat):List Bool:=if h:N=0 then [] else decide (N % 2=1) :: bitl (N / 2)
theorem bitl_zero:bitl 0=[]:=by rw [bitl];simp
theorem bitl_pos {N:Nat} (h:N≠0):bitl N=decide (N % 2=1) :: bitl (N / 2):=by rw [bitl];simp [h]
theorem bitl_one:bitl 1=[true]:=by rw [bitl_pos (by decide)];simp [bitl_zero]
theorem bvl_bitl (N:Nat):bvl (bitl N)=N:=by
 induction N using Nat.strongRecOn with
 | ind N ih =>
   by_cases h:N=0
   · subst h
     rw [bitl_zero]
     rfl
   · rw [bitl_pos h,bvl,ih (N / 2) (by omega)]
     rcases Nat.mod_two_eq_zero_or_one N with e | e
     · rw [e];simp;omega
     · rw [e];simp;omega
theorem tight_of {b:Bool} {l:List Bool} (h:tight l) (hb:l=[]→b=true):tight (b :: l):=by
 unfold tight at h ⊢;rw [cutB,h]
 cases l with
 | nil=>rw [hb rfl];rfl
 | cons c r=>rfl
theorem tight_bitl (N:Nat):tight (bitl N):=by
 induction N using Nat.strongRecOn with
 | ind N ih =>
   by_cases h:N=0
   · subst h
     rw [bitl_zero]
     rfl
   · rw [bitl_pos h]
     refine tight_of (ih (N / 2) (by omega)) fun e=>?_
     have:N / 2=0:=by rw [←bvl_bitl (N / 2),e];rfl
     apply decide_eq_true
     omega
theorem bitl_bvl:∀ l:List Bool,tight l→bitl (bvl l)=l
 | [],_=>bitl_zero
 | b :: l,h=>by
   obtain ⟨h1,h2⟩:=tight_cons h;have ih:=bitl_bvl l h1
   have hne:bvl (b :: l)≠0:=fun e=>by
    have:=(tight_zero _ h).2 e;simp at this
   have hb:b.toNat≤1:=by cases b<;>simp
   rw [bitl_pos hne,bvl,show (b.toNat+2*bvl l) / 2=bvl l by omega,ih]
   congr 1
   cases b<;>simp<;>omega
theorem tight_eq {l:List Bool} {N:Nat} (h:tight l) (hv:bvl l=N):l=bitl N:=by rw [←hv,bitl_bvl l h]
theorem bitl_len {N k:Nat} (h:N<2 ^ k):(bitl N).length≤k:=by
 by_cases h0:N=0
 · subst h0
   rw [bitl_zero];simp
 · have h1:=tight_ge (bitl N) (tight_bitl N) (fun e=>h0 (by rw [←bvl_bitl N,e];rfl))
   rw [bvl_bitl] at h1
   by_cases hk:(bitl N).length≤k
   · exact hk
   · have:2 ^ (k+1)≤2 ^ (bitl N).length:=Nat.pow_le_pow_right (by decide) (by omega)
     rw [Nat.pow_succ] at this;omega
theorem lt_bitl (N:Nat):N<2 ^ (bitl N).length:=by
 have:=bvl_lt (bitl N)
 rwa [bvl_bitl] at this
theorem bitl_nil {N:Nat}:(bitl N).length=0↔N=0:=by
 have:=tight_zero (bitl N) (tight_bitl N)
 rwa [bvl_bitl] at this
theorem bitl_mono {N M:Nat} (h:N≤M):(bitl N).length≤(bitl M).length:=bitl_len (Nat.lt_of_le_of_lt h (lt_bitl M))
theorem bitl_mul {x y a b:Nat} (hx:(bitl x).length≤a) (hy:(bitl y).length≤b):(bitl (x*y)).length≤a+b:=by
 refine bitl_len ?_;have h1:x<2 ^ a:=Nat.lt_of_lt_of_le (lt_bitl x) (Nat.pow_le_pow_right (by decide) hx);have h2:y<2 ^ b:=Nat.lt_of_lt_of_le (lt_bitl y) (Nat.pow_le_pow_right (by decide) hy);rw [Nat.pow_add];exact Nat.mul_lt_mul_of_lt_of_le h1 (Nat.le_of_lt h2) (Nat.pow_pos (by decide))
theorem bitl_add {x y k M:Nat} (hx:(bitl x).length≤k) (hy:(bitl y).length≤k) (h:M≤x+y):(bitl M).length≤k+1:=by
 refine bitl_len ?_;have h1:x<2 ^ k:=Nat.lt_of_lt_of_le (lt_bitl x) (Nat.pow_le_pow_right (by decide) hx);have h2:y<2 ^ k:=Nat.lt_of_lt_of_le (lt_bitl y) (Nat.pow_le_pow_right (by decide) hy);rw [Nat.pow_succ];omega
def AddI (L M o:List Bool) (i c:Nat):Prop:=bvl o+2 ^ i*c=bvl (L.take i)+bvl (M.take i)
theorem bit_next (L:List Bool) (i:Nat):bvl (L.take (i+1))=bvl (L.take i)+2 ^ i*(L.getD i false).toNat:=by
 by_cases h:i<L.length
 · rw [bvl_take L i h,List.getD_eq_getElem?_getD,List.getElem?_eq_getElem h]
   rfl
 · rw [List.take_of_length_le (by omega),List.take_of_length_le (by omega),List.getD_eq_getElem?_getD,List.getElem?_eq_none (by omega)]
   simp
theorem addI_step {L M o:List Bool} {i c:Nat} (h:AddI L M o i c) (ho:o.length=i) (d:Bool) (c':Nat) (he:d.toNat+2*c'=(L.getD i false).toNat+(M.getD i false).toNat+c):AddI L M (o ++ [d]) (i+1) c':=by
 unfold AddI at h ⊢;rw [bvl_snoc,ho,bit_next L,bit_next M,Nat.pow_succ]
 generalize (L.getD i false).toNat=x at *
 generalize (M.getD i false).toNat=y at *
 generalize 2 ^ i=p at *
 have h2:p*d.toNat+p*(2*c')=p*x+p*y+p*c:=by rw [←Nat.mul_add,←Nat.mul_add,←Nat.mul_add,he]
 have e:p*2*c'=p*(2*c'):=by rw [Nat.mul_assoc]
 omega
theorem addI_end {L M o:List Bool} {i:Nat} (h:AddI L M o i 0) (h1:L.length≤i) (h2:M.length≤i):bvl o=bvl L+bvl M:=by
 unfold AddI at h;rw [List.take_of_length_le h1,List.take_of_length_le h2] at h;omega
end Go.Proofs.YtdefcbfofonabaaGreat
