/- Contracts of attestref02 on lists of bits: Cut, Cmp, Sub. -/
import Derived.Test.YtdefcbfofonabaaGreatBools
import Derived.Test.YtdefcbfofonabaaGreatOpen
import Derived.BigQuiet
import Derived.Deep.QuietTactic
namespace Go.Proofs.YtdefcbfofonabaaGreat
open Go.RowKit
set_option linter.unusedVariables false
set_option linter.unusedSimpArgs false
def TypB (w:World) (A:Option Addr) (n:Nat):Prop:=0<n→∃ b off cs m,A=some ⟨b,off,none⟩∧w.heap[b]?=some (.cells cs 4 m)
theorem TypB.keep {w w':World} {A:Option Addr} {n:Nat} (h:TypB w A n) (hb:Below w.heap.size w w'):TypB w' A n:=fun h0=>by
 obtain ⟨b,off,cs,m,e,hx⟩:=h h0;exact ⟨b,off,cs,m,e,(hb.block b (Array.getElem?_eq_some_iff.1 hx).1).trans hx⟩
theorem TypB.le {w:World} {A:Option Addr} {n k:Nat} (h:TypB w A n) (hk:k≤n):TypB w A k:=fun h0=>h (by omega)
theorem TypB.zero {w:World} {A:Option Addr}:TypB w A 0:=fun h=>absurd h (by decide)
structure Bts (w:World) (A:Option Addr) (n c:Nat) (l:List Bool):Prop where
 rd:Rd w 1 A n (boolL l)
 len:l.length=n
 cap:n≤c
 typ:TypB w A n
theorem Bts.below {w w':World} {A:Option Addr} {n c:Nat} {l:List Bool} (h:Bts w A n c l) (hb:Below w.heap.size w w'):Bts w' A n c l:=⟨h.rd.below hb,h.len,h.cap,h.typ.keep hb⟩
theorem Bts.drewN {w:World} {A:Option Addr} {n c:Nat} {l:List Bool} (h:Bts w A n c l) (q:Nat):Bts (w.drewN q) A n c l:=⟨h.rd,h.len,h.cap,h.typ⟩
theorem Bts.alloc {w:World} {A:Option Addr} {n c:Nat} {l:List Bool} (h:Bts w A n c l) (o:Obj):Bts (w.alloc o) A n c l:=⟨h.rd.alloc o,h.len,h.cap,h.typ.keep ((Below.refl _ _).alloc (Nat.le_refl _) o)⟩
theorem Bts.frT {S:Nat→Prop} {w w':World} {A:Option Addr} {n c:Nat} {l:List Bool} (h:Bts w A n c l) (hf:Fr S w w') (hS:∀ b,S b→∃ cs t m,w.heap[b]?=some (.cells cs t m)∧t≠4):Bts w' A n c l:=by
 have hno:∀ b off,A=some ⟨b,off,none⟩→0<n→¬ S b:=by
  intro b off e h0 hs;obtain ⟨b',o',cs,m,e',hx⟩:=h.typ h0;rw [e] at e'
  injection e' with e'
  injection e' with e1 e2
  subst e1;obtain ⟨cs',t,m',hx',hne⟩:=hS b hs;rw [hx] at hx'
  injection hx' with hx'
  injection hx' with _ ht _
  exact hne ht.symm
 refine ⟨⟨h.rd.1,fun h0=>?_⟩,h.len,h.cap,fun h0=>?_⟩
 · obtain ⟨b,o,e,hc⟩:=h.rd.2 h0
   refine ⟨b,o,e,fun j u hu=>?_⟩;rw [hf.cell (p:=⟨b,o+j,none⟩) (World.block_lt_of_cell? w _ (hc j u hu)) (hno b o e h0)];exact hc j u hu
 · obtain ⟨b,o,cs,m,e,hx⟩:=h.typ h0
   exact ⟨b,o,cs,m,e,(hf.block b (Array.getElem?_eq_some_iff.1 hx).1 (hno b o e h0)).trans hx⟩
def Fresh (B:Nat) (A:Option Addr):Prop:=∀ p,A=some p→B≤p.block
theorem Bts.of {w:World} {B n:Nat} {v:Value} {l:List Bool} (h:w.ownsRow B 4 1 v n (boolL l)):∃ A c,v=.slice A n c∧Bts w A n c l∧Fresh B A:=by
 obtain ⟨A,c,e,hc,hr⟩:=ownsRow_form h;refine ⟨A,c,e,⟨hr,?_,hc,fun h0=>?_⟩,fun p hp=>?_⟩
 · have:=h.1
   unfold boolL at this;rw [List.length_map] at this;omega
 · rcases h.2 with ⟨hv,hx⟩ | ⟨g,cap,cur,hv,_,hx,_⟩
   · omega
   · rw [e] at hv
     injection hv with h1 h2 h3
     exact ⟨g,0,cur,(0,0),h1,hx⟩
 · subst hp
   rcases h.2 with ⟨h',_⟩ | ⟨g',cap',cur,h',hB,_⟩
   · rw [e] at h';cases h'
   · rw [e] at h'
     injection h' with h1 h2 h3
     injection h1 with h1
     subst h1;exact hB
theorem boolL_length (l:List Bool):(boolL l).length=l.length:=by simp [boolL]
theorem boolL_take (l:List Bool) (k:Nat):(boolL l).take k=boolL (l.take k):=by simp [boolL,List.map_take]
theorem boolL_append (a b:List Bool):boolL (a ++ b)=boolL a ++ boolL b:=by simp [boolL]
theorem boolL_one (l:List Bool):∀ u ∈ boolL l,u.oneCell'=true:=by
 intro u hu;obtain ⟨x,_,rfl⟩:=List.mem_map.1 hu
 rfl
theorem Bts.at_ {w:World} {A:Option Addr} {n c:Nat} {l:List Bool} (h:Bts w A n c l) (k:Nat) (hk:k<l.length):∃ b off,A=some ⟨b,off,none⟩∧w.cell? ⟨b,off+k,none⟩=some (.bool l[k]):=by
 obtain ⟨b,off,u,e,hu,hc⟩:=h.rd.at_ (k:=k) (by have:=h.len;omega);unfold boolL at hu;rw [List.getElem?_map,List.getElem?_eq_getElem hk] at hu
 injection hu with hu
 subst hu;exact ⟨b,off,e,hc⟩
theorem rcut_any {w:World} {A:Option Addr} {n c:Nat} {l:List Bool} (h:Bts w A n c l) (hn:n≤1000000) :
 Calls Tryz.prog 84 #[.slice A n c] w fun e w'=>∃ k,e=.returned (.slice A k c)∧Bts w A k c (cutB l)∧k≤n∧w'=w:=by
 obtain ⟨hr,hl,hc,hty⟩:=h
 have hfull:cutB (l.take n)=cutB l:=by rw [List.take_of_length_le (by omega)]
 have HF:=Lib.hid hfull;clear hfull
 go_enter Tryz.func84,Tryz.ntmps84
 go_wp2_with fail
 go_loop [3] (fun x=>∃ m:Nat,m≤n∧x=.int .i64 m∧cutB (l.take m)=cutB l) (fun x=>(intOf x).toNat)
 case atStart=>exact ⟨n,Nat.le_refl _,rfl,HF.out⟩
 case round =>
  obtain ⟨m,hm,rfl,hv⟩:=hrel;have HV:=Lib.hid hv;clear hv
  cases m with
  | zero =>
    have hend:Bts w A 0 c (cutB l):=by
     rw [←HV.out];exact ⟨by have:=hr.take (show 0≤n by omega);rw [boolL_take] at this;exact this,rfl,by omega,TypB.zero⟩
    have HE:=Lib.hid hend;clear hend hr
    go_wp2_with fail
    go_ret;exact ⟨0,rfl,HE.out,by omega,rfl⟩
  | succ m =>
    obtain ⟨b1,o1,rfl,hc1⟩:=Bts.at_ ⟨hr,hl,hc,hty⟩ m (by omega);have htk:l.take (m+1)=l.take m ++ [l[m]]:=List.take_succ_eq_append_getElem (by omega)
    generalize l[m]=X at *
    have hc1':w.cell? ⟨b1,o1+((m+1:Nat) - 1:Int).toNat,none⟩=some (.bool X):=by rw [←hc1];congr 2;omega
    cases X
    · have hnx:cutB (l.take m)=cutB l:=by rw [←HV.out,htk,cut_false]
      have HN:=Lib.hid hnx;have HR:=Lib.hid hr;clear hnx htk hr
      go_wp2_with fail
      go_round
      case rel=>exact ⟨m,by omega,by first | rfl | (congr 1;omega),HN.out⟩
      case measure=>simp [intOf]
    · have hend:Bts w (some ⟨b1,o1,none⟩) (m+1) c (cutB l):=by
       rw [←HV.out,htk,cut_true,←htk];exact ⟨by have:=hr.take (show m+1≤n by omega);rw [boolL_take] at this;exact this,by rw [List.length_take];omega,by omega,hty.le (by omega)⟩
      have HE:=Lib.hid hend;clear hend htk hr
      go_wp2_with fail
      go_ret;exact ⟨m+1,rfl,HE.out,by omega,rfl⟩
end Go.Proofs.YtdefcbfofonabaaGreat

namespace Go.Proofs.YtdefcbfofonabaaGreat
open Go.RowKit
set_option linter.unusedVariables false
set_option linter.unusedSimpArgs false
theorem drop_stepB {L M:List Bool} {k:Nat} (h1:k<L.length) (h2:k<M.length) (h:L.drop (k+1)=M.drop (k+1)) (he:L[k]=M[k]):L.drop k=M.drop k:=by
 rw [List.drop_eq_getElem_cons h1,List.drop_eq_getElem_cons h2,h,he]
def CmpR (r:Int) (a b:List Bool):Prop:=0≤r↔bvl b≤bvl a
theorem cmpR_lt {a b:List Bool} (h:bvl a<bvl b):CmpR (-1) a b:=⟨fun h=>by omega,fun h'=>by omega⟩
theorem cmpR_gt {a b:List Bool} (h:bvl b<bvl a):CmpR 1 a b:=⟨fun _=>by omega,fun h'=>by decide⟩
theorem cmpR_eq {a b:List Bool} (h:a=b):CmpR 0 a b:=⟨fun _=>by rw [h];exact Nat.le_refl _,fun h'=>by decide⟩
set_option maxRecDepth 100000 in
theorem rcmp_any {w:World} {A A2:Option Addr} {n c n2 c2:Nat} {L M:List Bool} (h:Bts w A n c L) (h2:Bts w A2 n2 c2 M) (hn:n≤1000000) (hn2:n2≤1000000) (t1:tight L) (t2:tight M) :
 Calls Tryz.prog 110 #[.slice A n c,.slice A2 n2 c2] w fun e w'=>∃ r,e=.returned (.int .i64 r)∧CmpR r L M∧∃ q,w'=w.drewN q:=by
 have hl:=h.len;have hl2:=h2.len
 have hlt1:n<n2→bvl L<bvl M:=fun e=>tight_lt L M t2 (by omega)
 have hlt2:n2<n→bvl M<bvl L:=fun e=>tight_lt M L t1 (by omega)
 have HR:=Lib.hid h;have HR2:=Lib.hid h2;clear h h2
 go_enter Tryz.func110,Tryz.ntmps110
 rcases Nat.lt_trichotomy n n2 with h | h | h
 · have h1:((n:Int) != (n2:Int))=true:=by rw [bne_iff_ne];omega
   have h2:(n:Int)<(n2:Int):=by omega
   have HE:=Lib.hid (cmpR_lt (hlt1 h));clear h hlt1 hlt2
   go_wp2_with fail
   go_ret;exact ⟨_,rfl,HE.out,0,rfl⟩
 · subst h
   clear hlt1 hlt2
   go_wp2_with fail
   go_loopw [5] (fun x wr=>∃ (k q:Nat),k≤n∧x=.int .i64 ((k:Int) - 1)∧L.drop k=M.drop k∧wr=w.drewN q) (fun x _=>(intOf x+1).toNat)
   case atStart=>exact ⟨n,0,Nat.le_refl _,by rfl,by rw [List.drop_of_length_le (by omega),List.drop_of_length_le (by omega)],rfl⟩
   case round =>
    obtain ⟨k,q,hk,rfl,hdr,rfl⟩:=hrel
    by_cases hk0:0<k
    · obtain ⟨i,rfl⟩:∃ i,k=i+1:=⟨k - 1,by omega⟩
      have em:((i+1:Nat):Int) - 1=i:=by omega
      rw [em]
      have hi1:i<L.length:=by omega
      have hi2:i<M.length:=by omega
      obtain ⟨b1,o1,rfl,x0⟩:=HR.out.at_ i hi1;obtain ⟨b2,o2,rfl,y0⟩:=HR2.out.at_ i hi2;have hst:=drop_stepB hi1 hi2 hdr;have hlt:=bvl_top L M i (by omega) hi1 hdr;have hgt:=bvl_top M L i (by omega) hi2 hdr.symm
      have hin:(i:Int)<(n:Int):=by omega
      generalize L[i]=x at *
      generalize M[i]=y at *
      have HST:=Lib.hid hst;have HDR:=Lib.hid hdr;clear hst em hk0 hdr
      cases x<;>cases y
      · clear hlt hgt
        go_wp2_with fail
        go_quiet (fail)
        go_wp2_with fail
        go_roundw
        case rel=>exact ⟨i,_,by omega,by first | rfl | go_num,HST.out (by trivial),by first | rfl | rw [World.drewN_drewN]⟩
        case measure=>simp [intOf]
      · have HE:=Lib.hid (cmpR_lt (hlt rfl rfl))
        clear hlt hgt
        go_wp2_with fail
        go_quiet (fail)
        go_wp2_with fail
        go_ret;exact ⟨_,rfl,HE.out,_,by first | rfl | (simp only [World.drewN_drewN];exact rfl)⟩
      · have HE:=Lib.hid (cmpR_gt (hgt rfl rfl))
        clear hlt hgt
        go_wp2_with fail
        go_quiet (fail)
        go_wp2_with fail
        go_ret;exact ⟨_,rfl,HE.out,_,by first | rfl | (simp only [World.drewN_drewN];exact rfl)⟩
      · clear hlt hgt
        go_wp2_with fail
        go_quiet (fail)
        go_wp2_with fail
        go_roundw
        case rel=>exact ⟨i,_,by omega,by first | rfl | go_num,HST.out (by trivial),by first | rfl | rw [World.drewN_drewN]⟩
        case measure=>simp [intOf]
    · obtain rfl:k=0:=by omega
      have e0:((0:Nat):Int) - 1 = -1:=rfl;rw [e0];have HE:=Lib.hid (cmpR_eq (a:=L) (b:=M) (by rw [List.drop_zero,List.drop_zero] at hdr;exact hdr));clear e0 hdr
      go_wp2_with fail
      go_ret;exact ⟨_,rfl,HE.out,_,rfl⟩
 · have h1:((n:Int) != (n2:Int))=true:=by rw [bne_iff_ne];omega
   have h2:¬ (n:Int)<(n2:Int):=by omega
   have HE:=Lib.hid (cmpR_gt (hlt2 h));clear h hlt1 hlt2
   go_wp2_with fail
   go_ret;exact ⟨_,rfl,HE.out,0,rfl⟩
end Go.Proofs.YtdefcbfofonabaaGreat

namespace Go.Proofs.YtdefcbfofonabaaGreat
open Go.RowKit
set_option linter.unusedVariables false
set_option linter.unusedSimpArgs false
def SubI (L M o:List Bool) (i ow:Nat):Prop:=bvl o+bvl (M.take i)=bvl (L.take i)+ow*2 ^ i
theorem subI_step {L M o:List Bool} {i ow:Nat} (h:SubI L M o i ow) (ho:o.length=i) (hi:i<L.length) (d:Bool) (ow':Nat) (y:Bool) (hy:bvl (M.take (i+1))=bvl (M.take i)+2 ^ i*y.toNat) (he:d.toNat+y.toNat+ow=L[i].toNat+2*ow'):SubI L M (o ++ [d]) (i+1) ow':=by
 unfold SubI at h ⊢;rw [bvl_snoc,ho,hy,bvl_take L i hi,Nat.pow_succ];exact sub_step _ _ _ _ _ _ _ _ _ h he
theorem subI_end {L M o:List Bool} {ow:Nat} (h:SubI L M o L.length ow) (ho:o.length=L.length) (hm:M.length≤L.length) (hle:bvl M≤bvl L):bvl o=bvl L - bvl M:=by
 unfold SubI at h;rw [List.take_of_length_le hm,List.take_of_length_le (Nat.le_refl _)] at h;have h1:=bvl_lt o;rw [ho] at h1;rcases Nat.eq_zero_or_pos ow with rfl | hp
 · rw [Nat.zero_mul] at h
   omega
 · have:2 ^ L.length≤ow*2 ^ L.length:=Nat.le_mul_of_pos_left _ hp
   omega
set_option maxRecDepth 100000 in
set_option maxHeartbeats 4000000 in
theorem rsub_any {w:World} {A A2:Option Addr} {n c n2 c2:Nat} {L M:List Bool} (h:Bts w A n c L) (h2:Bts w A2 n2 c2 M) (hn:n≤1000000) (t2:tight M) (hle:bvl M≤bvl L) :
 Calls Tryz.prog 111 #[.slice A n c,.slice A2 n2 c2] w fun e w'=>∃ A' n' c',e=.returned (.slice A' n' c')∧∃ o,Bts w' A' n' c' o∧Fresh w.heap.size A'∧tight o∧bvl o=bvl L - bvl M∧o.length≤L.length∧Below w.heap.size w w':=by
 obtain ⟨i0,hi,hz0,hz1,hz2⟩:=info_parts info_bool;have hl:=h.len;have hl2:=h2.len;have hml:=tight_len L M t2 hle;have HR:=Lib.hid h;have HR2:=Lib.hid h2;have HLE:=Lib.hid hle;clear h h2 t2 hle
 go_enter Tryz.func111,Tryz.ntmps111
 go_wp2_with fail
 go_loopw [5,6,12] (fun v g x wr=>∃ (i:Nat) (o:List Bool) (ob:Bool),i≤n∧x=.int .i64 i∧((ob=false∧g=.int .i64 0)∨(ob=true∧g=.int .i64 1))∧o.length=i∧wr.ownsRow w.heap.size 4 1 v i (boolL o)∧Below w.heap.size w wr∧SubI L M o i ob.toNat) (fun _ _ x _=>n - (intOf x).toNat)
 case atStart=>exact ⟨0,[],false,by omega,rfl,.inl ⟨rfl,rfl⟩,rfl,own_empty _ _ _ (Nat.le_refl _),(Below.refl _ _).alloc (Nat.le_refl _) _,by simp [SubI,bvl]⟩
 case round =>
  obtain ⟨i,o,ob,hin,rfl,how,hol,hown,hb,hinv⟩:=hrel
  by_cases hlt:i<n
  · have hlt':(i:Int)<(n:Int):=by omega
    have hi1:i<L.length:=by omega
    have h1:=HR.out.below hb;have h2:=HR2.out.below hb;obtain ⟨b1,o1,rfl,x0⟩:=h1.at_ i hi1
    have hst:=fun d ow' y=>subI_step hinv hol hi1 d ow' y
    have HB:=Lib.hid hb;have HO:=Lib.hid hown;have HH2:=Lib.hid h2;clear hb hown h2 h1 hinv
    generalize L[i]=x at *
    by_cases hm:i<n2
    · have hm':(i:Int)<(n2:Int):=by omega
      obtain ⟨b2,o2,rfl,y0⟩:=HH2.out.at_ i (by omega);have hy:=bvl_take M i (by omega)
      generalize M[i]=y at *
      have HY:=Lib.hid hy;clear hy hm
      rcases how with ⟨rfl,rfl⟩ | ⟨rfl,rfl⟩<;>cases x<;>cases y
      ·
       have HSB:=Lib.hid (hst false 0 false HY.out (by decide));clear hst
       go_wp2_with (at_builtin;refine app1 w.heap.size w wr _ 4 rfl _ _ 81 rfl i0 (.bool false) 1 Tryz.underlying81 hi hz0 hz1 hz2 rfl (by decide) _ i _ rfl (Nat.le_refl _) HO.out HB.out rfl rfl (by omega) ?_)
       intro v1 w1 hown1 hb1 _;have HO1:=Lib.hid hown1;have HB1:=Lib.hid hb1;clear hown1 hb1
       go_wp2_with fail
       go_roundw
       case rel=>exact ⟨i+1,o ++ [false],false,by omega,by first | rfl | go_num,by first | exact .inl ⟨rfl,rfl⟩ | exact .inr ⟨rfl,rfl⟩,by simp;omega,by rw [boolL_append];exact HO1.out,HB1.out,HSB.out⟩
       case measure=>simp [intOf];omega
      ·
       have HSB:=Lib.hid (hst true 1 true HY.out (by decide));clear hst
       go_wp2_with (at_builtin;refine app1 w.heap.size w wr _ 4 rfl _ _ 81 rfl i0 (.bool false) 1 Tryz.underlying81 hi hz0 hz1 hz2 rfl (by decide) _ i _ rfl (Nat.le_refl _) HO.out HB.out rfl rfl (by omega) ?_)
       intro v1 w1 hown1 hb1 _;have HO1:=Lib.hid hown1;have HB1:=Lib.hid hb1;clear hown1 hb1
       go_wp2_with fail
       go_roundw
       case rel=>exact ⟨i+1,o ++ [true],true,by omega,by first | rfl | go_num,by first | exact .inl ⟨rfl,rfl⟩ | exact .inr ⟨rfl,rfl⟩,by simp;omega,by rw [boolL_append];exact HO1.out,HB1.out,HSB.out⟩
       case measure=>simp [intOf];omega
      ·
       have HSB:=Lib.hid (hst true 0 false HY.out (by decide));clear hst
       go_wp2_with (at_builtin;refine app1 w.heap.size w wr _ 4 rfl _ _ 81 rfl i0 (.bool false) 1 Tryz.underlying81 hi hz0 hz1 hz2 rfl (by decide) _ i _ rfl (Nat.le_refl _) HO.out HB.out rfl rfl (by omega) ?_)
       intro v1 w1 hown1 hb1 _;have HO1:=Lib.hid hown1;have HB1:=Lib.hid hb1;clear hown1 hb1
       go_wp2_with fail
       go_roundw
       case rel=>exact ⟨i+1,o ++ [true],false,by omega,by first | rfl | go_num,by first | exact .inl ⟨rfl,rfl⟩ | exact .inr ⟨rfl,rfl⟩,by simp;omega,by rw [boolL_append];exact HO1.out,HB1.out,HSB.out⟩
       case measure=>simp [intOf];omega
      ·
       have HSB:=Lib.hid (hst false 0 true HY.out (by decide));clear hst
       go_wp2_with (at_builtin;refine app1 w.heap.size w wr _ 4 rfl _ _ 81 rfl i0 (.bool false) 1 Tryz.underlying81 hi hz0 hz1 hz2 rfl (by decide) _ i _ rfl (Nat.le_refl _) HO.out HB.out rfl rfl (by omega) ?_)
       intro v1 w1 hown1 hb1 _;have HO1:=Lib.hid hown1;have HB1:=Lib.hid hb1;clear hown1 hb1
       go_wp2_with fail
       go_roundw
       case rel=>exact ⟨i+1,o ++ [false],false,by omega,by first | rfl | go_num,by first | exact .inl ⟨rfl,rfl⟩ | exact .inr ⟨rfl,rfl⟩,by simp;omega,by rw [boolL_append];exact HO1.out,HB1.out,HSB.out⟩
       case measure=>simp [intOf];omega
      ·
       have HSB:=Lib.hid (hst true 1 false HY.out (by decide));clear hst
       go_wp2_with (at_builtin;refine app1 w.heap.size w wr _ 4 rfl _ _ 81 rfl i0 (.bool false) 1 Tryz.underlying81 hi hz0 hz1 hz2 rfl (by decide) _ i _ rfl (Nat.le_refl _) HO.out HB.out rfl rfl (by omega) ?_)
       intro v1 w1 hown1 hb1 _;have HO1:=Lib.hid hown1;have HB1:=Lib.hid hb1;clear hown1 hb1
       go_wp2_with fail
       go_roundw
       case rel=>exact ⟨i+1,o ++ [true],true,by omega,by first | rfl | go_num,by first | exact .inl ⟨rfl,rfl⟩ | exact .inr ⟨rfl,rfl⟩,by simp;omega,by rw [boolL_append];exact HO1.out,HB1.out,HSB.out⟩
       case measure=>simp [intOf];omega
      ·
       have HSB:=Lib.hid (hst false 1 true HY.out (by decide));clear hst
       go_wp2_with (at_builtin;refine app1 w.heap.size w wr _ 4 rfl _ _ 81 rfl i0 (.bool false) 1 Tryz.underlying81 hi hz0 hz1 hz2 rfl (by decide) _ i _ rfl (Nat.le_refl _) HO.out HB.out rfl rfl (by omega) ?_)
       intro v1 w1 hown1 hb1 _;have HO1:=Lib.hid hown1;have HB1:=Lib.hid hb1;clear hown1 hb1
       go_wp2_with fail
       go_roundw
       case rel=>exact ⟨i+1,o ++ [false],true,by omega,by first | rfl | go_num,by first | exact .inl ⟨rfl,rfl⟩ | exact .inr ⟨rfl,rfl⟩,by simp;omega,by rw [boolL_append];exact HO1.out,HB1.out,HSB.out⟩
       case measure=>simp [intOf];omega
      ·
       have HSB:=Lib.hid (hst false 0 false HY.out (by decide));clear hst
       go_wp2_with (at_builtin;refine app1 w.heap.size w wr _ 4 rfl _ _ 81 rfl i0 (.bool false) 1 Tryz.underlying81 hi hz0 hz1 hz2 rfl (by decide) _ i _ rfl (Nat.le_refl _) HO.out HB.out rfl rfl (by omega) ?_)
       intro v1 w1 hown1 hb1 _;have HO1:=Lib.hid hown1;have HB1:=Lib.hid hb1;clear hown1 hb1
       go_wp2_with fail
       go_roundw
       case rel=>exact ⟨i+1,o ++ [false],false,by omega,by first | rfl | go_num,by first | exact .inl ⟨rfl,rfl⟩ | exact .inr ⟨rfl,rfl⟩,by simp;omega,by rw [boolL_append];exact HO1.out,HB1.out,HSB.out⟩
       case measure=>simp [intOf];omega
      ·
       have HSB:=Lib.hid (hst true 1 true HY.out (by decide));clear hst
       go_wp2_with (at_builtin;refine app1 w.heap.size w wr _ 4 rfl _ _ 81 rfl i0 (.bool false) 1 Tryz.underlying81 hi hz0 hz1 hz2 rfl (by decide) _ i _ rfl (Nat.le_refl _) HO.out HB.out rfl rfl (by omega) ?_)
       intro v1 w1 hown1 hb1 _;have HO1:=Lib.hid hown1;have HB1:=Lib.hid hb1;clear hown1 hb1
       go_wp2_with fail
       go_roundw
       case rel=>exact ⟨i+1,o ++ [true],true,by omega,by first | rfl | go_num,by first | exact .inl ⟨rfl,rfl⟩ | exact .inr ⟨rfl,rfl⟩,by simp;omega,by rw [boolL_append];exact HO1.out,HB1.out,HSB.out⟩
       case measure=>simp [intOf];omega
    · have hm':¬ (i:Int)<(n2:Int):=by omega
      have hy:bvl (M.take (i+1))=bvl (M.take i)+2 ^ i*(false).toNat:=by rw [List.take_of_length_le (by omega),List.take_of_length_le (by omega)];simp
      have HY:=Lib.hid hy;clear hy hm
      rcases how with ⟨rfl,rfl⟩ | ⟨rfl,rfl⟩<;>cases x
      ·
       have HSB:=Lib.hid (hst false 0 false HY.out (by decide));clear hst
       go_wp2_with (at_builtin;refine app1 w.heap.size w wr _ 4 rfl _ _ 81 rfl i0 (.bool false) 1 Tryz.underlying81 hi hz0 hz1 hz2 rfl (by decide) _ i _ rfl (Nat.le_refl _) HO.out HB.out rfl rfl (by omega) ?_)
       intro v1 w1 hown1 hb1 _;have HO1:=Lib.hid hown1;have HB1:=Lib.hid hb1;clear hown1 hb1
       go_wp2_with fail
       go_roundw
       case rel=>exact ⟨i+1,o ++ [false],false,by omega,by first | rfl | go_num,by first | exact .inl ⟨rfl,rfl⟩ | exact .inr ⟨rfl,rfl⟩,by simp;omega,by rw [boolL_append];exact HO1.out,HB1.out,HSB.out⟩
       case measure=>simp [intOf];omega
      ·
       have HSB:=Lib.hid (hst true 0 false HY.out (by decide));clear hst
       go_wp2_with (at_builtin;refine app1 w.heap.size w wr _ 4 rfl _ _ 81 rfl i0 (.bool false) 1 Tryz.underlying81 hi hz0 hz1 hz2 rfl (by decide) _ i _ rfl (Nat.le_refl _) HO.out HB.out rfl rfl (by omega) ?_)
       intro v1 w1 hown1 hb1 _;have HO1:=Lib.hid hown1;have HB1:=Lib.hid hb1;clear hown1 hb1
       go_wp2_with fail
       go_roundw
       case rel=>exact ⟨i+1,o ++ [true],false,by omega,by first | rfl | go_num,by first | exact .inl ⟨rfl,rfl⟩ | exact .inr ⟨rfl,rfl⟩,by simp;omega,by rw [boolL_append];exact HO1.out,HB1.out,HSB.out⟩
       case measure=>simp [intOf];omega
      ·
       have HSB:=Lib.hid (hst true 1 false HY.out (by decide));clear hst
       go_wp2_with (at_builtin;refine app1 w.heap.size w wr _ 4 rfl _ _ 81 rfl i0 (.bool false) 1 Tryz.underlying81 hi hz0 hz1 hz2 rfl (by decide) _ i _ rfl (Nat.le_refl _) HO.out HB.out rfl rfl (by omega) ?_)
       intro v1 w1 hown1 hb1 _;have HO1:=Lib.hid hown1;have HB1:=Lib.hid hb1;clear hown1 hb1
       go_wp2_with fail
       go_roundw
       case rel=>exact ⟨i+1,o ++ [true],true,by omega,by first | rfl | go_num,by first | exact .inl ⟨rfl,rfl⟩ | exact .inr ⟨rfl,rfl⟩,by simp;omega,by rw [boolL_append];exact HO1.out,HB1.out,HSB.out⟩
       case measure=>simp [intOf];omega
      ·
       have HSB:=Lib.hid (hst false 0 false HY.out (by decide));clear hst
       go_wp2_with (at_builtin;refine app1 w.heap.size w wr _ 4 rfl _ _ 81 rfl i0 (.bool false) 1 Tryz.underlying81 hi hz0 hz1 hz2 rfl (by decide) _ i _ rfl (Nat.le_refl _) HO.out HB.out rfl rfl (by omega) ?_)
       intro v1 w1 hown1 hb1 _;have HO1:=Lib.hid hown1;have HB1:=Lib.hid hb1;clear hown1 hb1
       go_wp2_with fail
       go_roundw
       case rel=>exact ⟨i+1,o ++ [false],false,by omega,by first | rfl | go_num,by first | exact .inl ⟨rfl,rfl⟩ | exact .inr ⟨rfl,rfl⟩,by simp;omega,by rw [boolL_append];exact HO1.out,HB1.out,HSB.out⟩
       case measure=>simp [intOf];omega
  · obtain rfl:i=n:=by omega
    obtain ⟨A',c',rfl,ho,hfr⟩:=Bts.of hown;have hval:=subI_end (L:=L) (M:=M) (o:=o) (by rw [hl];exact hinv) (by omega) hml HLE.out
    have hct:=fun W hW=>rcut_any (w:=W) (ho.below hW) hn
    have HO:=Lib.hid ho;have HCT:=Lib.hid (rcut_any ho hn);have HB:=Lib.hid hb;have HV:=Lib.hid hval;have HF:=Lib.hid hfr;clear hct ho hb hval hfr hown hinv
    go_wp2_with (go_at_call 84;refine HCT.out.mono ?_;rintro e w9 ⟨k,rfl,hk,hkn,hw⟩;obtain rfl:=hw.symm)
    go_ret;exact ⟨_,_,_,rfl,cutB o,hk,HF.out,tight_cut _,by rw [bvl_cut,HV.out],by have:=cut_length o;omega,HB.out⟩
end Go.Proofs.YtdefcbfofonabaaGreat
