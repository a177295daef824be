/- A map of keys of constraints to places: what it answers, and how it grows. -/
import Derived.Test.YtlbbbafehhdpnaaGreatDoorAtomK
import Derived.WideKeyRuns
namespace Go.Proofs.YtlbbbafehhdpnaaGreatDoor
open Go.RowKit
set_option linter.unusedVariables false
set_option linter.unusedSimpArgs false

instance : DecidableEq KB := fun a b =>
  if h : a.o = b.o ∧ a.s = b.s ∧ a.x = b.x ∧ a.y = b.y ∧ a.t = b.t then
    isTrue (by cases a; cases b; simp_all)
  else isFalse (by rintro rfl; exact h ⟨rfl, rfl, rfl, rfl, rfl⟩)
def entsK : List (KB × Nat) → Nat → List MapEntry
  | [], _ => []
  | n :: r, i => { key := n.1.val, val := .int .i64 (n.2 : Int), born := i } :: entsK r (i + 1)
theorem entsK_snoc (ns : List (KB × Nat)) (n : KB) (v i : Nat) : entsK (ns ++ [(n, v)]) i = entsK ns i ++ [{ key := n.val, val := .int .i64 (v : Int), born := i + ns.length }] := by
  induction ns generalizing i with
  | nil => simp [entsK]
  | cons m ns ih =>
    simp only [List.cons_append, entsK, ih, List.length_cons]
    have e : i + 1 + ns.length = i + (ns.length + 1) := by omega
    rw [e]
def pfindK : List (KB × Nat) → KB → Nat → Option (Nat × Nat)
  | [], _, _ => none
  | m :: r, n, i => if n = m.1 then some (i, m.2) else pfindK r n (i + 1)
def plookK (ps : List (KB × Nat)) (n : KB) : Option Nat := (pfindK ps n 0).map (·.2)
theorem pfindK_mem {ps : List (KB × Nat)} {n : KB} {i : Nat} {q : Nat × Nat} (h : pfindK ps n i = some q) : (n, q.2) ∈ ps := by
  induction ps generalizing i with
  | nil => simp [pfindK] at h
  | cons p ps ih =>
    simp only [pfindK] at h
    by_cases e : n = p.1
    · rw [if_pos e] at h
      injection h with h
      subst h
      subst e
      simp
    · rw [if_neg e] at h
      exact List.mem_cons_of_mem _ (ih h)
theorem plookK_mem {ps : List (KB × Nat)} {n : KB} {v : Nat} (h : plookK ps n = some v) : (n, v) ∈ ps := by
  unfold plookK at h
  cases hq : pfindK ps n 0 with
  | none => rw [hq] at h; cases h
  | some q =>
    rw [hq] at h
    simp at h
    subst h
    exact pfindK_mem hq
theorem pfindK_snoc (ps : List (KB × Nat)) (n m : KB) (v i : Nat) : (pfindK (ps ++ [(n, v)]) m i).map (·.2) = match (pfindK ps m i).map (·.2) with | some x => some x | none => if m = n then some v else none := by
  induction ps generalizing i with
  | nil => simp only [List.nil_append, pfindK]; by_cases h : m = n <;> simp [h]
  | cons p ps ih =>
    simp only [List.cons_append, pfindK]
    by_cases h : m = p.1
    · simp [h]
    · simp only [h, if_false]; exact ih _
theorem plookK_snoc (ps : List (KB × Nat)) (n m : KB) (v : Nat) : plookK (ps ++ [(n, v)]) m = match plookK ps m with | some x => some x | none => if m = n then some v else none := pfindK_snoc ps n m v 0

theorem run_partK (t : TypeId) (ht : (isAgg t).run Tryz.prog = fun W => .ok false W) (cs : Array Value) (i : Nat) (v : Value) (W : World) (hv : cs[i]? = some v) : (part t cs i).run Tryz.prog W = .ok v W := by
  simp [part, ht, hv, Result.andThen]
theorem run_part_i (cs : Array Value) (i : Nat) (v : Value) (W : World) (hv : cs[i]? = some v) : (part 3 cs i).run Tryz.prog W = .ok v W := run_partK _ (by funext W; kernel_rfl) cs i v W hv
theorem run_part_b (cs : Array Value) (i : Nat) (v : Value) (W : World) (hv : cs[i]? = some v) : (part 4 cs i).run Tryz.prog W = .ok v W := run_partK _ (by funext W; kernel_rfl) cs i v W hv
theorem run_part_s (cs : Array Value) (i : Nat) (v : Value) (W : World) (hv : cs[i]? = some v) : (part 9 cs i).run Tryz.prog W = .ok v W := run_partK _ (by funext W; kernel_rfl) cs i v W hv
theorem run_part_r (o : Int) (s : Bool) (x y t : ByteArray) (W : World) : (part 62 #[.int .i64 o, .bool s, .string x, .string y, .string t] 1).run Tryz.prog W = .ok (.agg #[.bool s, .string x, .string y]) W := by
  have ha : (isAgg 62).run Tryz.prog W = .ok true W := by kernel_rfl
  have hs : (sizeOf 62).run Tryz.prog W = .ok 3 W := by kernel_rfl
  simp [part, ha, hs, Result.andThen]
theorem ba_toList (s s' : ByteArray) : s.toList = s'.toList ↔ s = s' := by
  rw [ByteArray.toList_eq, ByteArray.toList_eq]
  constructor
  · intro h
    obtain ⟨⟨x⟩⟩ := s
    obtain ⟨⟨y⟩⟩ := s'
    simp only at h
    rw [h]
  · rintro rfl; rfl
theorem run_eql_r (d : Nat) (s s' : Bool) (x x' y y' : ByteArray) (W : World) : (Op.equalIn (d + 2) 62 (.agg #[.bool s, .string x, .string y]) (.agg #[.bool s', .string x', .string y'])).run Tryz.prog W = .ok (decide (s = s' ∧ x = x' ∧ y = y')) W := by
  have hu := Tryz.underlying62
  have hp : Tryz.prog.stoodInHeld 62 = false := by kernel_rfl
  have hb := Tryz.underlying4
  have hst := Tryz.underlying9
  have hpb := run_part_b
  have hps := run_part_s
  rw [run_equalIn_struct W _ 62 _ _ (by simp only [Program.fieldsOf, hu]) hp]
  simp only [Program.fieldsOf, hu]
  simp only [Op.eqFields]
  simp [hpb _ 0 (.bool s), hpb _ 0 (.bool s'), hps _ 1 (.string x), hps _ 1 (.string x'), hps _ 2 (.string y), hps _ 2 (.string y'), run_equalIn_bool _ _ _ _ _ hb, run_equalIn_string _ _ _ _ _ hst, Result.andThen]
  simp only [ba_toList]
  by_cases h0 : s = s' <;> by_cases h1 : x = x' <;> by_cases h2 : y = y' <;> simp [h0, h1, h2]
theorem run_eql_K (p q : KB) (w : World) : (Op.equal 64 p.val q.val).run Tryz.prog w = .ok (decide (p = q)) w := by
  have hu := Tryz.underlying64
  have hp : Tryz.prog.stoodInHeld 64 = false := by kernel_rfl
  have hi := Tryz.underlying3
  have hst := Tryz.underlying9
  have hpi := run_part_i
  have hps := run_part_s
  have hpr := run_part_r
  have hr := run_eql_r
  obtain ⟨o, s, x, y, t⟩ := p
  obtain ⟨o', s', x', y', t'⟩ := q
  unfold KB.val
  simp only [Op.equal, Op.maxDepth]
  rw [run_equalIn_struct w _ 64 _ _ (by simp only [Program.fieldsOf, hu]) hp]
  simp only [Program.fieldsOf, hu]
  simp only [Op.eqFields]
  simp [hpi _ 0 (.int .i64 o), hpi _ 0 (.int .i64 o'), hpr, hr, hps _ 4 (.string t), hps _ 4 (.string t'), run_equalIn_int _ _ _ _ _ _ _ hi, run_equalIn_string _ _ _ _ _ hst, Result.andThen]
  simp only [ba_toList]
  by_cases h0 : o = o' <;> by_cases h1 : s = s' <;> by_cases h2 : x = x' <;> by_cases h3 : y = y' <;> by_cases h4 : t = t' <;> simp [h0, h1, h2, h3, h4]
theorem run_findAskingK (n : KB) (w : World) (ns : List (KB × Nat)) (i : Nat) :
    (Instr.findAsking 64 n.val (entsK ns i) i).run Tryz.prog w = .ok ((pfindK ns n i).map fun q => (q.1, .int .i64 (q.2 : Int))) w := by
  induction ns generalizing i with
  | nil => simp [entsK, Instr.findAsking, pfindK]
  | cons m ns ih =>
    simp only [entsK, Instr.findAsking, Sem.run_bind, run_eql_K n m.1 w, Result.andThen_ok]
    by_cases h : n = m.1
    · simp [h, pfindK]
    · simp only [h, decide_false, Bool.false_eq_true, if_false]
      rw [ih]
      simp [pfindK, h]
theorem run_checkKeyK (e : Bool) (n : KB) (w : World) : (Instr.checkKey e 10000 64 n.val).run Tryz.prog w = .ok () w := by
  have hpi := run_part_i
  have hpb := run_part_b
  have hps := run_part_s
  have hpr := run_part_r
  have hki : ∀ (x : Int) (d : Nat) (W : World), (Instr.checkKey e (d + 1) 3 (.int .i64 x)).run Tryz.prog W = .ok () W := by
    intro x d W
    simp [Instr.checkKey, run_underlying Tryz.underlying3]
  have hkb : ∀ (x : Bool) (d : Nat) (W : World), (Instr.checkKey e (d + 1) 4 (.bool x)).run Tryz.prog W = .ok () W := by
    intro x d W
    simp [Instr.checkKey, run_underlying Tryz.underlying4]
  have hks : ∀ (x : ByteArray) (d : Nat) (W : World), (Instr.checkKey e (d + 1) 9 (.string x)).run Tryz.prog W = .ok () W := by
    intro x d W
    simp [Instr.checkKey, run_underlying Tryz.underlying9]
  have hkr : ∀ (s : Bool) (x y : ByteArray) (k : Nat) (W : World), (Instr.checkKey e (k + 1 + 1) 62 (.agg #[.bool s, .string x, .string y])).run Tryz.prog W = .ok () W := by
    intro s x y k W
    generalize hd : k + 1 = d1 at *
    have hk1 : ∀ x W, (Instr.checkKey e d1 4 (.bool x)).run Tryz.prog W = .ok () W := fun x W => hd ▸ hkb x k W
    have hk2 : ∀ x W, (Instr.checkKey e d1 9 (.string x)).run Tryz.prog W = .ok () W := fun x W => hd ▸ hks x k W
    simp only [Instr.checkKey, Sem.run_bind, run_underlying Tryz.underlying62, Result.andThen_ok]
    rw [← Array.forIn_toList]
    simp [hpb _ 0 (.bool s), hps _ 1 (.string x), hps _ 2 (.string y), hk1, hk2, Result.andThen]
  obtain ⟨o, s, x, y, t⟩ := n
  unfold KB.val
  generalize hd : (9999 : Nat) = d1 at *
  rw [show (10000 : Nat) = d1 + 1 by omega]
  have hk1 : ∀ x W, (Instr.checkKey e d1 3 (.int .i64 x)).run Tryz.prog W = .ok () W := fun x W => hd ▸ hki x 9998 W
  have hk2 : ∀ x W, (Instr.checkKey e d1 9 (.string x)).run Tryz.prog W = .ok () W := fun x W => hd ▸ hks x 9998 W
  have hk3 : ∀ s x y W, (Instr.checkKey e d1 62 (.agg #[.bool s, .string x, .string y])).run Tryz.prog W = .ok () W := fun s x y W => hd ▸ hkr s x y 9997 W
  simp only [Instr.checkKey, Sem.run_bind, run_underlying Tryz.underlying64, Result.andThen_ok]
  rw [← Array.forIn_toList]
  simp [hpi _ 0 (.int .i64 o), hpr, hps _ 4 (.string t), hk1, hk2, hk3, Result.andThen]

set_option maxRecDepth 100000 in
theorem run_lookK (mb : Nat) (ps : List (KB × Nat)) (cl : Nat) (n : KB) (w : World) (hm : w.heap[mb]? = some (.map (entsK ps 0).toArray cl)) :
    (Instr.lookup 60 (.map (some mb)) n.val true).run Tryz.prog w = .ok (.tuple #[.int .i64 (((plookK ps n).getD 0 : Nat) : Int), .bool (plookK ps n).isSome]) w := by
  have hw : (match Tryz.prog.underlying 64 with | some (.array _ _) | some (.struct _) => true | _ => false) = true := by rw [Tryz.underlying64]
  have hz : (zeroValue 3).run Tryz.prog w = .ok (.int .i64 0) w := by kernel_rfl
  have hg : (getObj mb).run Tryz.prog w = .ok (.map (entsK ps 0).toArray cl) w := by simp [getObj, Sem.run, hm]
  simp only [Instr.lookup, Sem.run_bind, run_underlying Tryz.underlying60, Result.andThen_ok, hg, Sem.run_pure, run_checkKeyK]
  rw [run_findKey_eq w hw, run_findAskingK]
  unfold plookK
  cases h : pfindK ps n 0 with
  | none => simp [hz]
  | some q => simp
set_option maxRecDepth 100000 in
theorem run_lookK' (mb : Nat) (ps : List (KB × Nat)) (cl : Nat) (n : KB) (w : World) (hm : w.heap[mb]? = some (.map (entsK ps 0).toArray cl)) :
    (Instr.lookup 60 (.map (some mb)) n.val false).run Tryz.prog w = .ok (.int .i64 (((plookK ps n).getD 0 : Nat) : Int)) w := by
  have hw : (match Tryz.prog.underlying 64 with | some (.array _ _) | some (.struct _) => true | _ => false) = true := by rw [Tryz.underlying64]
  have hz : (zeroValue 3).run Tryz.prog w = .ok (.int .i64 0) w := by kernel_rfl
  have hg : (getObj mb).run Tryz.prog w = .ok (.map (entsK ps 0).toArray cl) w := by simp [getObj, Sem.run, hm]
  simp only [Instr.lookup, Sem.run_bind, run_underlying Tryz.underlying60, Result.andThen_ok, hg, Sem.run_pure, run_checkKeyK]
  rw [run_findKey_eq w hw, run_findAskingK]
  unfold plookK
  cases h : pfindK ps n 0 with
  | none => simp [hz]
  | some q => simp
set_option maxRecDepth 100000 in
theorem run_storeK (mb : Nat) (ps : List (KB × Nat)) (n : KB) (v : Nat) (w : World) (hm : w.heap[mb]? = some (.map (entsK ps 0).toArray ps.length)) (hn : plookK ps n = none) :
    (Instr.mapUpdate 60 (.map (some mb)) n.val (.int .i64 (v : Int))).run Tryz.prog w =
      .ok () { w with heap := w.heap.setIfInBounds mb (.map (entsK (ps ++ [(n, v)]) 0).toArray (ps.length + 1)) } := by
  have hw : (match Tryz.prog.underlying 64 with | some (.array _ _) | some (.struct _) => true | _ => false) = true := by rw [Tryz.underlying64]
  have hg : (getObj mb).run Tryz.prog w = .ok (.map (entsK ps 0).toArray ps.length) w := by simp [getObj, Sem.run, hm]
  have hn' : pfindK ps n 0 = none := by simpa [plookK] using hn
  simp only [Instr.mapUpdate, Sem.run_bind, run_underlying Tryz.underlying60, Result.andThen_ok, hg, Sem.run_pure, run_checkKeyK]
  rw [run_findKey_eq w hw, run_findAskingK, hn']
  simp only [Option.map_none, Result.andThen_ok]
  rw [entsK_snoc]
  simp [setObj, Sem.run, hm]
end Go.Proofs.YtlbbbafehhdpnaaGreatDoor

namespace Go.Proofs.YtlbbbafehhdpnaaGreatDoor
open Go.RowKit
set_option linter.unusedVariables false
set_option linter.unusedSimpArgs false

def ints (xs : List Int) : List Value := xs.map (Value.int .i64)
theorem ints_append (xs ys : List Int) : ints (xs ++ ys) = ints xs ++ ints ys := by simp [ints]
theorem info_int : (Tryz.prog.info? 3).map (fun i => (i.zero, i.size, i.bytes)) = some (some (.int .i64 0), 1, 8) := by kernel_rfl
/-- what the map knows behind i rounds. -/
def POk (l : List AB) (ps : List (KB × Nat)) (i : Nat) : Prop := ∀ e ∈ ps, e.2 < i ∧ ∃ a, l[e.2]? = some a ∧ KeyOk e.1 a.says
/-- what has been answered. -/
def OOk (l : List AB) (ol : List Int) : Prop := ∀ (j : Nat) (o : Int), ol[j]? = some o → 0 ≤ o ∧ o ≤ j ∧ ∃ a b, l[j]? = some a ∧ l[o.toNat]? = some b ∧ ∀ p, b.says p = a.says p
theorem OOk.snoc {l : List AB} {ol : List Int} (h : OOk l ol) {i v : Nat} (hl : ol.length = i) (hv : v ≤ i) {a b : AB} (ha : l[i]? = some a) (hb : l[v]? = some b) (hs : ∀ p, b.says p = a.says p) : OOk l (ol ++ [(v : Int)]) := by
  intro j o hj
  by_cases hji : j < i
  · rw [List.getElem?_append_left (by omega)] at hj
    exact h j o hj
  · have hj' := (List.getElem?_eq_some_iff.1 hj).1
    rw [List.length_append, List.length_singleton] at hj'
    obtain rfl : j = i := by omega
    rw [List.getElem?_append_right (by omega), hl, Nat.sub_self] at hj
    simp at hj
    subst hj
    exact ⟨by omega, by omega, a, b, ha, by simpa using hb, hs⟩
theorem POk.up {l : List AB} {ps : List (KB × Nat)} {i : Nat} (h : POk l ps i) : POk l ps (i + 1) := fun e he => ⟨Nat.lt_succ_of_lt (h e he).1, (h e he).2⟩
theorem POk.snoc {l : List AB} {ps : List (KB × Nat)} {i : Nat} (h : POk l ps i) {a : AB} (ha : l[i]? = some a) {kb : KB} (hk : KeyOk kb a.says) : POk l (ps ++ [(kb, i)]) (i + 1) := by
  intro e he
  rcases List.mem_append.1 he with h1 | h1
  · exact h.up e h1
  · simp at h1
    subst h1
    exact ⟨Nat.lt_succ_self _, a, ha, hk⟩
set_option maxRecDepth 100000 in
set_option maxHeartbeats 8000000 in
theorem aplaces_any (A : Option Addr) (n c : Nat) (l : List AB) (m k : Nat) (w : World) (h : AtmsAt w A n c l m k) (hm : m ≤ 30) (hk : k ≤ 20) (hn : n ≤ 1000) (ht : Pow10 w) :
    Calls Tryz.prog 6 #[.slice A n c] w fun e w' => ∃ v ol, e = .returned v ∧ w'.ownsRow w.heap.size 3 1 v n (ints ol) ∧ ol.length = n ∧ OOk l ol ∧ Below w.heap.size w w' := by
  obtain ⟨i0, hif, hz0, hz1, hz2⟩ := info_parts info_int
  have H := Lib.hid h
  have HT := Lib.hid ht
  clear h ht
  have hmm := @run_makeMap Tryz.prog
  have hb1 : Below w.heap.size w (w.alloc (.map #[] 0)) := (Below.refl _ _).alloc (Nat.le_refl _) _
  have hm1 := heap_alloc_new w (.map #[] 0)
  obtain ⟨W1, hW1⟩ : ∃ W, W = w.alloc (.map #[] 0) := ⟨_, rfl⟩
  have hs1 : W1.heap.size = w.heap.size + 1 := by rw [hW1]; simp
  rw [← hW1] at hb1 hm1
  go_enter Tryz.func6, Tryz.ntmps6
  go_upto_region 2 with fail
  rw [← hW1]
  clear hW1 hmm
  go_wp2_with (refine make2 W1.heap.size W1 W1 rfl _ _ 28 rfl 3 i0 (.int .i64 0) 8 Tryz.underlying28 hif hz0 hz1 hz2 rfl (by decide) .i64 .i64 _ _ 0 n rfl rfl rfl rfl (Nat.zero_le _) (by omega) [] rfl (Nat.le_refl _) (Below.refl _ _) ?_; intro w2 hown2 hb2 hg2)
  have hm2 := (hb2.block _ (lt_of_blk hm1)).trans hm1
  have HB2 := Lib.hid (hb1.trans (hb2.mono hb1.size))
  have HM2 := Lib.hid hm2
  have HO2 := Lib.hid (own_more hown2 (show w.heap.size + 1 ≤ W1.heap.size by omega))
  clear hm1 hb1 hown2 hb2 hg2 hm2
  go_loopw [4, 17] (fun y x wr => ∃ (i : Nat) (v : Value) (PS : List (KB × Nat)) (OL : List Int), i ≤ n ∧ x = .int .i64 i ∧ v = y ∧ wr.heap[w.heap.size]? = some (.map (entsK PS 0).toArray PS.length) ∧ wr.ownsRow (w.heap.size + 1) 3 1 v i (ints OL) ∧ OL.length = i ∧ POk l PS i ∧ OOk l OL ∧ Below w.heap.size w wr) (fun _ x _ => n - (intOf x).toNat)
  case atStart => exact ⟨0, _, [], [], Nat.zero_le _, rfl, rfl, HM2.out, by have h := HO2.out; rw [hs1] at h; exact h, rfl, fun e he => (by cases he), fun j o hj => (by simp at hj), HB2.out⟩
  case round =>
    clear HM2 HO2 HB2
    obtain ⟨i, v, PS, OL, hi', rfl, rfl, hmi, hoi, hol, hpo, hoo, hbk⟩ := hrel
    obtain ⟨w5, rfl⟩ : ∃ x, x = wr := ⟨_, rfl⟩
    by_cases hlt : i < n
    · obtain ⟨g3, of3, a, ea, hti, y0, y1, y2, y3, y4⟩ := (H.out.below hbk).rd.at5 H.out.len hlt
      subst ea
      have hok := (H.out.below hbk).each a (List.mem_of_getElem? hti)
      have ht5 := HT.out.below hbk
      have hlm := lt_of_blk hmi
      have HMI := Lib.hid hmi
      have HOI := Lib.hid hoi
      have HBK := Lib.hid hbk
      have HPO := Lib.hid hpo
      have HOO := Lib.hid hoo
      have HOL := Lib.hid hol
      have HTI := Lib.hid hti
      clear hmi hoi hbk hpo hoo hti hol
      go_upto_region 6 with fail
      have hx6 := heap_alloc_new w5 (.cells #[.slice a.A a.n a.c, .bool (ratNeg a.q), .slice a.b.A a.b.n a.b.c, .slice a.b.A2 a.b.n2 a.b.c2, .int .i64 a.op] 41)
      have zw6 : (w5.alloc (.cells #[.slice a.A a.n a.c, .bool (ratNeg a.q), .slice a.b.A a.b.n a.b.c, .slice a.b.A2 a.b.n2 a.b.c2, .int .i64 a.op] 41)).heap.size = w5.heap.size + 1 := by simp
      have aw6 := (Below.refl w5.heap.size w5).alloc (Nat.le_refl _) (.cells #[.slice a.A a.n a.c, .bool (ratNeg a.q), .slice a.b.A a.b.n a.b.c, .slice a.b.A2 a.b.n2 a.b.c2, .int .i64 a.op] 41)
      obtain ⟨w6, ew6⟩ : ∃ x, x = w5.alloc (.cells #[.slice a.A a.n a.c, .bool (ratNeg a.q), .slice a.b.A a.b.n a.b.c, .slice a.b.A2 a.b.n2 a.b.c2, .int .i64 a.op] 41) := ⟨_, rfl⟩
      rw [← ew6] at hx6 zw6 aw6 ⊢
      clear ew6
      have hok6 := hok.below aw6
      have hko := keyof_any a.A a.n a.c a.b a.l a.q a.op k w6 hok6.tms hok6.cst hok6.le (by have := hok6.few; omega) hk hok6.lo hok6.hi (ht5.below aw6)
      obtain ⟨x0, x1, x2, x3, x4⟩ := box5 hx6
      have HA6 := Lib.hid aw6
      clear hx6 aw6 zw6 hok hok6 ht5 y0 y1 y2 y3 y4
      go_upto_region 7 with (go_at_call 18; refine hko.mono ?_; clear hko; rintro e w7 ⟨kb, rfl, hkey, hb7⟩; unfold KB.val)
      have hx8 := heap_alloc_new w7 (.cells #[.int .i64 kb.o, .bool kb.s, .string kb.x, .string kb.y, .string kb.t] 64)
      have zw8 : (w7.alloc (.cells #[.int .i64 kb.o, .bool kb.s, .string kb.x, .string kb.y, .string kb.t] 64)).heap.size = w7.heap.size + 1 := by simp
      have aw8 := (Below.refl w7.heap.size w7).alloc (Nat.le_refl _) (.cells #[.int .i64 kb.o, .bool kb.s, .string kb.x, .string kb.y, .string kb.t] 64)
      obtain ⟨w8, ew8⟩ : ∃ x, x = w7.alloc (.cells #[.int .i64 kb.o, .bool kb.s, .string kb.x, .string kb.y, .string kb.t] 64) := ⟨_, rfl⟩
      rw [← ew8] at hx8 zw8 aw8 ⊢
      clear ew8
      obtain ⟨gk, hgk⟩ : ∃ x, x = w7.heap.size := ⟨_, rfl⟩
      rw [← hgk] at hx8 ⊢
      have hb58 : Below w5.heap.size w5 w8 := (HA6.out.trans (hb7.mono HA6.out.size)).trans (aw8.mono (HA6.out.trans (hb7.mono HA6.out.size)).size)
      have hgm : w.heap.size < gk := by rw [hgk]; exact Nat.lt_of_lt_of_le hlm (HA6.out.trans (hb7.mono HA6.out.size)).size
      have hown6 := own_below HOI.out hb58
      have hm6 := (hb58.block _ hlm).trans HMI.out
      have hlk := run_lookK w.heap.size PS PS.length kb w8 hm6
      unfold KB.val at hlk
      obtain ⟨z0, z1, z2, z3, z4⟩ := box5 hx8
      have HM6 := Lib.hid hm6
      have HB58 := Lib.hid hb58
      have HX8 := Lib.hid hx8
      have HKEY := Lib.hid hkey
      have hs8 := hb58.size
      clear hm6 hx8 hkey hb7 hb58 aw8 zw8 hgk x0 x1 x2 x3 x4
      cases hpl : plookK PS kb with
      | some v0 =>
        rw [hpl, Option.getD_some, Option.isSome_some] at hlk
        have hlk2 := run_lookK' w.heap.size PS PS.length kb w8 HM6.out
        unfold KB.val at hlk2
        rw [hpl, Option.getD_some] at hlk2
        obtain ⟨hv0, b0, hb0, hkb0⟩ := HPO.out _ (plookK_mem hpl)
        have HKB := Lib.hid (And.intro hb0 hkb0)
        have hbA : Below (w.heap.size + 1) w8 w8 := Below.refl _ _
        have hownA := hown6
        clear hpl hb0 hkb0 hown6
        go_wp2_with (at_builtin; refine app1 (w.heap.size + 1) w8 w8 (.int .i64 (v0 : Int)) 3 rfl _ _ 28 rfl i0 (.int .i64 0) 8 Tryz.underlying28 hif hz0 hz1 hz2 rfl (by decide) _ i _ rfl (by omega) hownA hbA rfl rfl (by omega) ?_)
        intro v7 w7 hown7 hb7 hg7
        have HO7 := Lib.hid hown7
        have HB7 := Lib.hid hb7
        clear hown7 hb7 hg7 hownA hbA
        go_wp2_with fail
        go_roundw
        case rel => exact ⟨i + 1, _, PS, OL ++ [(v0 : Int)], by omega, by go_num, rfl, (HB7.out.block _ (by omega)).trans HM6.out, by rw [ints_append]; exact HO7.out, by rw [List.length_append, HOL.out]; rfl, HPO.out.up, HOO.out.snoc HOL.out (Nat.le_of_lt hv0) HTI.out HKB.out.1 (keyOk_same HKB.out.2 HKEY.out), HBK.out.trans ((HB58.out.mono (by have := HBK.out.size; omega)).trans (HB7.out.mono (by omega)))⟩
        case measure => simp [intOf]; omega
      | none =>
        rw [hpl, Option.getD_none, Option.isSome_none] at hlk
        have hst := run_storeK w.heap.size PS kb i w8 HM6.out hpl
        obtain ⟨W7, hW7⟩ : ∃ W : World, W = { w8 with heap := w8.heap.setIfInBounds w.heap.size (.map (entsK (PS ++ [(kb, i)]) 0).toArray (PS.length + 1)) } := ⟨_, rfl⟩
        rw [← hW7] at hst
        unfold KB.val at hst
        have hfr : Fr (fun b => b = w.heap.size) w8 W7 := by
          rw [hW7]
          refine ⟨rfl, rfl, rfl, by simp, fun b hb hnb => ?_⟩
          show (w8.heap.setIfInBounds w.heap.size _)[b]? = _
          rw [Array.getElem?_setIfInBounds, if_neg (fun e => hnb e.symm)]
        have hm7 : W7.heap[w.heap.size]? = some (.map (entsK (PS ++ [(kb, i)]) 0).toArray (PS ++ [(kb, i)]).length) := by
          rw [hW7]
          show (w8.heap.setIfInBounds w.heap.size _)[w.heap.size]? = _
          rw [Array.getElem?_setIfInBounds, if_pos rfl, if_pos (lt_of_blk HM6.out), List.length_append]
          rfl
        have hlt6 := lt_of_blk HX8.out
        have hg7 := (hfr.block gk hlt6 (by omega)).trans HX8.out
        have hlk2 := run_lookK' w.heap.size (PS ++ [(kb, i)]) _ kb W7 hm7
        rw [plookK_snoc, hpl] at hlk2
        simp only [if_true, Option.getD_some] at hlk2
        unfold KB.val at hlk2
        obtain ⟨y0, y1, y2, y3, y4⟩ := box5 hg7
        have hownA := hfr.own hown6 (fun b hb e => by have := (own_lt hown6 hb).1; omega)
        have hbA : Below (w.heap.size + 1) W7 W7 := Below.refl _ _
        have HFB := Lib.hid ((Fr.of_below HB58.out).trans hfr (fun b e => .inl e))
        have HM7 := Lib.hid hm7
        have hs7 := hfr.size
        clear hpl hW7 hfr hm7 hg7 hown6
        go_wp2_with (at_builtin; refine app1 (w.heap.size + 1) W7 W7 (.int .i64 (i : Int)) 3 rfl _ _ 28 rfl i0 (.int .i64 0) 8 Tryz.underlying28 hif hz0 hz1 hz2 rfl (by decide) _ i _ rfl (by omega) hownA hbA rfl rfl (by omega) ?_)
        intro v7 w7 hown7 hb7 hg7
        have HO7 := Lib.hid hown7
        have HB7 := Lib.hid hb7
        clear hown7 hb7 hg7 hownA hbA
        go_wp2_with fail
        go_roundw
        case rel => exact ⟨i + 1, _, PS ++ [(kb, i)], OL ++ [(i : Int)], by omega, by go_num, rfl, (HB7.out.block _ (by omega)).trans HM7.out, by rw [ints_append]; exact HO7.out, by rw [List.length_append, HOL.out]; rfl, HPO.out.snoc HTI.out HKEY.out, HOO.out.snoc HOL.out (Nat.le_refl _) HTI.out HTI.out (fun p => rfl), HBK.out.trans ((HFB.out.below (S := fun b => b = w.heap.size) (Nat.le_of_lt hlm) (fun b e => by omega)).trans (HB7.out.mono (by omega)))⟩
        case measure => simp [intOf]; omega
    · obtain rfl : n = i := by omega
      have HO := Lib.hid hoi
      have HOO := Lib.hid hoo
      have HBK := Lib.hid hbk
      clear hoi hmi hpo hoo hbk
      go_wp2_with fail
      go_ret
      exact ⟨_, OL, rfl, own_more HO.out (by omega), hol, HOO.out, HBK.out⟩
end Go.Proofs.YtlbbbafehhdpnaaGreatDoor
