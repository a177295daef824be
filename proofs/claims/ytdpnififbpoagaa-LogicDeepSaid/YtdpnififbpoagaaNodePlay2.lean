/- Contract of package intern: Play. -/
import Derived.Test.YtdpnififbpoagaaNodePlay
namespace Go.Proofs.Ytdpnififbpoagaa
open Go.RowKit
set_option linter.unusedVariables false
set_option linter.unusedSimpArgs false

def ansL (xs : List Int) : List Value := xs.map (Value.int .i64)
theorem stepP_snd (s : List Nd × List Int) (o : Nd) : ansL (stepP s o).2 = ansL s.2 ++ [.int .i64 (ansI (doN s.1 o).2)] := by simp [ansL, stepP]
theorem info_int : (Try.prog.info? 3).map (fun i => (i.zero, i.size, i.bytes)) = some (some (.int .i64 0), 1, 8) := by kernel_rfl

theorem Rd.node3 {w : World} {A : Option Addr} {n : Nat} {os : List Nd} (h : Rd w 3 A n (ndCells os)) (k : Nat) (hk : k < os.length) (hn : os.length = n) :
    ∃ b off, A = some ⟨b, off, none⟩ ∧ w.cell? ⟨b, off + k * 3, none⟩ = some (.int .i64 os[k].k) ∧ w.cell? ⟨b, off + k * 3 + 1, none⟩ = some (.int .i64 os[k].a) ∧ w.cell? ⟨b, off + k * 3 + 2, none⟩ = some (.int .i64 os[k].b) ∧ b < w.heap.size := by
  obtain ⟨b, off, e, hc⟩ := h.2 (by omega)
  obtain ⟨h1, h2, h3⟩ := ndCells_get os k hk
  exact ⟨b, off, e, hc _ _ h1, hc _ _ h2, hc _ _ h3, World.block_lt_of_cell? w _ (hc _ _ h1)⟩

/-- a row of ints lies beside a table. -/
theorem Tab.apart {w : World} {tb mb B n : Nat} {sv o : Value} {ns : List Nd} {xs : List Value} (h : Tab w tb mb sv ns) {e : TypeId} {size : Nat} (ho : w.ownsRow B e size o n xs) (h1 : e ≠ 86) (h2 : e ≠ 33) :
    ∀ b, o.ownBlock = some b → ¬ TS tb mb sv b := by
  obtain ⟨ps, hp, _⟩ := h.map
  intro b hb hS
  rcases hS with rfl | rfl | hS
  · exact own_type ho h.blk h1 hb
  · exact own_map ho hp hb
  · exact own_own h.own ho (fun e => h2 e.symm) hS hb
theorem Tab.apart' {w : World} {tb mb B n : Nat} {sv o : Value} {ns : List Nd} {xs : List Value} (h : Tab w tb mb sv ns) {e : TypeId} {size : Nat} (ho : w.ownsRow B e size o n xs) (h1 : e ≠ 86) (h2 : e ≠ 33) {w' : World} (hf : Fr (ownS o) w w') : Tab w' tb mb sv ns :=
  h.keep hf (fun hb => h.apart ho h1 h2 tb hb (.inl rfl)) (fun hb => h.apart ho h1 h2 mb hb (.inr (.inl rfl))) (fun b hb hS => h.apart ho h1 h2 b hS (.inr (.inr hb)))

theorem Tab.rd {w : World} {tb mb : Nat} {sv : Value} {ns : List Nd} (h : Tab w tb mb sv ns) : ∃ g c, sv = .slice (some ⟨g, 0, none⟩) ns.length c ∧ g < w.heap.size ∧ Rd w 3 (some ⟨g, 0, none⟩) ns.length (ndCells ns) := by
  obtain ⟨g, c, rfl, hg⟩ := h.form
  obtain ⟨A, c', e, _, hr⟩ := ownsRow_form h.own
  injection e with e1 e2 e3
  subst e1
  exact ⟨g, c, rfl, hg, hr⟩

set_option maxRecDepth 100000 in
set_option maxHeartbeats 4000000 in
theorem play_any (os : List Nd) (A : Option Addr) (n c : Nat) (w : World) (hl : os.length = n) (hnc : n ≤ 100000) (hr : Rd w 3 A n (ndCells os)) :
    Calls Try.prog 16 #[.slice A n c] w fun e w' => ∃ v1 v2, e = .returned (.tuple #[v1, v2]) ∧
      w'.ownsRow w.heap.size 3 1 v1 n (ansL (playN os).2) ∧ w'.ownsRow w.heap.size 33 3 v2 (playN os).1.length (ndCells (playN os).1) ∧ Below w.heap.size w w' := by
  obtain ⟨i0, hi, hz0, hz1, hz2⟩ := info_parts info_int
  obtain ⟨j0, hj, hy0, hy1, hy2⟩ := info_parts info_node
  have N := new_tab w
  go_enter Try.func16, Try.ntmps16
  go_wp2_with (first | (go_at_call 33; refine N.mono ?_; rintro e w1 ⟨rfl, sv0, mb, ht, hb1, hmb, hsv⟩) | (at_make; refine make2 w.heap.size w w1 rfl _ _ 24 rfl 3 i0 (.int .i64 0) 8 Try.underlying24 hi hz0 hz1 hz2 rfl (by decide) .i64 .i64 0 (n : Int) 0 n rfl rfl rfl rfl (by omega) (by omega) [] rfl (Nat.le_refl _) hb1 ?_))
  intro w2 hown2 hb2 hg2
  have ht2 := ht.keep (Fr.of_grown (S := fun _ => False) hg2 (fun k hk => by cases hk)) (fun h => h) (fun h => h) (fun _ _ h => h)
  have hown2' := own_more hown2 hb1.size
  clear ht hown2 hg2 hb1 N
  go_wp2_with fail
  go_loopw [5, 16] (fun o i wr => ∃ (k : Nat) (sv : Value), k ≤ n ∧ i = .int .i64 k ∧ Tab wr w.heap.size mb sv (playN (os.take k)).1 ∧ (∀ b, sv.ownBlock = some b → w.heap.size ≤ b) ∧ wr.ownsRow w.heap.size 3 1 o k (ansL (playN (os.take k)).2) ∧ Below w.heap.size w wr) (fun _ i _ => n - (intOf i).toNat)
  case atStart => exact ⟨0, sv0, Nat.zero_le _, rfl, ht2, hsv, hown2', hb2⟩
  case round =>
    obtain ⟨k, sv, hk, rfl, htk, hsvk, hownk, hbk⟩ := hrel
    by_cases hlt : k < n
    · obtain ⟨b1, o1, rfl, hc1, hc2, hc3, hb1⟩ := (hr.below hbk).node3 k (by omega) hl
      have hpl := playN_take os k (by omega)
      have hgood := good_play (os.take k)
      generalize os[k] = op at *
      generalize hP : playN (os.take k) = Pk at *
      obtain ⟨ns', q, hdo⟩ : ∃ ns' q, doN Pk.1 op = (ns', q) := ⟨_, _, rfl⟩
      have hd := do_any w.heap.size mb sv Pk.1 op (wr.alloc (.cells #[.int .i64 op.k, .int .i64 op.a, .int .i64 op.b] 36)) (htk.keep ((Fr.refl (fun _ => False) _).alloc _) (fun h => h) (fun h => h) (fun _ _ h => h)) hgood.neg
      simp only [ansV, hdo] at hd
      have hpl' : playN (os.take (k + 1)) = (ns', Pk.2 ++ [ansI q]) := by rw [hpl]; simp [stepP, hdo]
      have HD := Lib.hid hd
      have HR := Lib.hid hr
      have HPL := Lib.hid hpl'
      have HT := Lib.hid htk
      have HS := Lib.hid hsvk
      have HO := Lib.hid hownk
      have HB := Lib.hid hbk
      clear hd hr hpl hpl' hdo hP hgood htk hsvk hownk hbk
      cases q with
      | some j =>
        simp only [Option.getD_some, Option.isSome_some] at HD
        go_wp2_with (first | (go_at_call 22; refine HD.out.mono ?_; rintro e w3 ⟨rfl, sv3, ht3, hf3, hn3⟩; have hf03 : Fr (TS w.heap.size mb sv) wr w3 := ((Fr.refl _ wr).alloc _).trans hf3 (fun b hb => .inl hb); have hown3 := hf03.own HO.out (HT.out.apart HO.out (by decide) (by decide)); have hb3 : Below w.heap.size w w3 := HB.out.trans (hf03.below HB.out.size (fun b hb => by rcases hb with rfl | rfl | hb; exact Nat.le_refl _; exact hmb; exact HS.out b hb))) | (at_builtin; refine app1 w.heap.size w w3 (.int .i64 ((j:Nat):Int)) 3 rfl _ _ 24 rfl i0 (.int .i64 0) 8 Try.underlying24 hi hz0 hz1 hz2 rfl (by decide) _ k _ rfl (Nat.le_refl _) hown3 hb3 rfl rfl (by omega) ?_))
        intro v4 w4 hown4 hb4 hg4
        have ht4 := ht3.apart' hown3 (by decide) (by decide) (Fr.of_grown hg4 (fun k hk => .inl hk))
        have hn4 : ∀ b, sv3.ownBlock = some b → w.heap.size ≤ b := fun b hb => by
          rcases hn3 b hb with h | h
          · exact HS.out b h
          · have := HB.out.size
            simp at h
            omega
        clear ht3 hf3 hn3 hf03 hown3 hb3 hg4
        go_wp2_with fail
        go_roundw
        case rel => exact ⟨k + 1, sv3, by omega, by go_num, by rw [HPL.out]; exact ht4, hn4, by rw [HPL.out]; simpa [ansL, ansI] using hown4, hb4⟩
        case measure => simp [intOf]; omega
      | none =>
        simp only [Option.getD_none, Option.isSome_none] at HD
        go_wp2_with (first | (go_at_call 22; refine HD.out.mono ?_; rintro e w3 ⟨rfl, sv3, ht3, hf3, hn3⟩; have hf03 : Fr (TS w.heap.size mb sv) wr w3 := ((Fr.refl _ wr).alloc _).trans hf3 (fun b hb => .inl hb); have hown3 := hf03.own HO.out (HT.out.apart HO.out (by decide) (by decide)); have hb3 : Below w.heap.size w w3 := HB.out.trans (hf03.below HB.out.size (fun b hb => by rcases hb with rfl | rfl | hb; exact Nat.le_refl _; exact hmb; exact HS.out b hb))) | (at_builtin; refine app1 w.heap.size w w3 (.int .i64 (-1)) 3 rfl _ _ 24 rfl i0 (.int .i64 0) 8 Try.underlying24 hi hz0 hz1 hz2 rfl (by decide) _ k _ rfl (Nat.le_refl _) hown3 hb3 rfl rfl (by omega) ?_))
        intro v4 w4 hown4 hb4 hg4
        have ht4 := ht3.apart' hown3 (by decide) (by decide) (Fr.of_grown hg4 (fun k hk => .inl hk))
        have hn4 : ∀ b, sv3.ownBlock = some b → w.heap.size ≤ b := fun b hb => by
          rcases hn3 b hb with h | h
          · exact HS.out b h
          · have := HB.out.size
            simp at h
            omega
        clear ht3 hf3 hn3 hf03 hown3 hb3 hg4
        go_wp2_with fail
        go_roundw
        case rel => exact ⟨k + 1, sv3, by omega, by go_num, by rw [HPL.out]; exact ht4, hn4, by rw [HPL.out]; simpa [ansL, ansI] using hown4, hb4⟩
        case measure => simp [intOf]; omega
    · obtain rfl : k = n := by omega
      rw [List.take_of_length_le (by omega)] at htk hownk
      obtain ⟨hc0, hc1⟩ := htk.cells
      have hmost := htk.most
      obtain ⟨g, cg, rfl, hg, hrd⟩ := htk.rd
      have HT := Lib.hid htk
      have HO := Lib.hid hownk
      have HB := Lib.hid hbk
      clear hc1 hsvk hr htk hownk hbk hown2' ht2
      go_wp2_with (at_builtin; refine appRS w.heap.size wr wr 3 33 rfl _ _ 25 rfl j0 _ 24 Try.underlying25 hj hy0 hy1 hy2 rfl (by decide) (by decide) _ 0 [] rfl (Nat.le_trans (Nat.le_refl _) HB.out.size) (World.ownsRow_nil _ _ _ _) (Below.refl _ _) _ (playN os).1.length cg _ rfl hrd (ndCells_one' _) (by omega) ?_)
      intro v5 w5 hown5 hb5 hg5
      go_wp2_with fail
      go_ret2
      have hf5 : Fr (fun _ => False) wr w5 := Fr.of_grown hg5 (fun k hk => by cases hk)
      exact ⟨_, _, rfl, hf5.own HO.out (fun _ _ h => h), by simpa using hown5, HB.out.trans hb5⟩
end Go.Proofs.Ytdpnififbpoagaa
