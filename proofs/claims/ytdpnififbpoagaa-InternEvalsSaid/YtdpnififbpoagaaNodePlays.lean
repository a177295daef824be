/- attestlaw10.InternPlays. -/
import Derived.Test.YtdpnififbpoagaaNodeShares
import Derived.Test.YtdpnififbpoagaaRefDo2
namespace Go.Proofs.Ytdpnififbpoagaa
open Go.RowKit
set_option linter.unusedVariables false
set_option linter.unusedSimpArgs false

theorem few_short (os : List Nd) (A : Option Addr) (n c : Nat) (w : World) (hl : os.length = n) (hn : n ≤ 200) (hr : Rd w 3 A n (ndCells os)) :
    Calls Try.prog 15 #[.slice A n c] w fun e w' => ∃ v, e = .returned v ∧ w'.ownsRow w.heap.size 36 3 v n (ndCells os) ∧ Below w.heap.size w w' := by
  obtain ⟨i0, hi, hz0, hz1, hz2⟩ := info_parts info_op
  have h200 : ¬ (200 : Int) < (n : Int) := by omega
  go_enter Try.func15, Try.ntmps15
  go_wp2_with (at_builtin; refine appRS w.heap.size w (w.alloc (.cells #[] 36)) 3 36 rfl _ _ 22 rfl i0 _ 24 Try.underlying22 hi hz0 hz1 hz2 rfl (by decide) (by decide) _ 0 [] rfl (Nat.le_refl _) (own_emptyS _ _ _ _ (Nat.le_refl _)) ((Below.refl _ _).alloc (Nat.le_refl _) _) A n c _ rfl (hr.alloc _) (ndCells_one' _) (by omega) ?_)
  intro v' w' hown' hb' _
  go_wp2_with fail
  go_ret
  exact ⟨v', rfl, by simpa using hown', hb'⟩

set_option maxRecDepth 100000 in
set_option maxHeartbeats 4000000 in
theorem played_any (os : List Nd) (A : Option Addr) (n c : Nat) (w : World) (hl : os.length = n) (hnc : n ≤ 100000) (hr : Rd w 3 A n (ndCells os)) :
    Calls Try.prog 17 #[.slice A n c] w fun e w' => ∃ v1 v2, e = .returned (.tuple #[v1, v2]) ∧
      w'.ownsRow w.heap.size 34 3 v1 (playN os).1.length (ndCells (playN os).1) ∧ w'.ownsRow w.heap.size 3 1 v2 n (ansL (playN os).2) ∧ Below w.heap.size w w' := by
  obtain ⟨i0, hi, hz0, hz1, hz2⟩ := info_parts info_int
  have N := rstart_any w
  go_enter Try.func17, Try.ntmps17
  go_wp2_with (go_at_call 44; refine N.mono ?_; rintro e w1 ⟨v0, rfl, hown1, hb1⟩)
  have hown0 : (w1.alloc (.cells #[] 3)).ownsRow w.heap.size 34 3 v0 2 (ndCells ns0) := hown1.alloc _
  have hownE : (w1.alloc (.cells #[] 3)).ownsRow w.heap.size 3 1 (.slice (some ⟨w1.heap.size, 0, none⟩) 0 0) 0 [] := own_empty _ _ _ hb1.size
  have hb0 : Below w.heap.size w (w1.alloc (.cells #[] 3)) := hb1.alloc hb1.size _
  clear N hown1 hb1
  go_loopw [4, 5, 6, 13] (fun nv ov iv i wr => ∃ (k : Nat) (v1 v2 : Value), k ≤ n ∧ i = .int .i64 k ∧ v1 = nv ∧ v2 = ov ∧ wr.ownsRow w.heap.size 34 3 v1 (playN (os.take k)).1.length (ndCells (playN (os.take k)).1) ∧ wr.ownsRow w.heap.size 3 1 v2 k (ansL (playN (os.take k)).2) ∧ Below w.heap.size w wr) (fun _ _ _ i _ => n - (intOf i).toNat)
  case atStart => exact ⟨0, _, _, Nat.zero_le _, rfl, rfl, rfl, hown0, hownE, hb0⟩
  case round =>
    obtain ⟨k, v1, v2, hk, rfl, rfl, rfl, hnk, hok, hbk⟩ := hrel
    by_cases hlt : k < n
    · obtain ⟨b1, o1, rfl, hc1, hc2, hc3, hb1⟩ := (hr.below hbk).node3 k (by omega) hl
      have hpl := playN_take os k (by omega)
      have hgood := good_play (os.take k)
      generalize os[k] = op at *
      generalize hP : playN (os.take k) = Pk at *
      have hd := rdo_any w.heap.size v1 Pk.1 op (wr.alloc (.cells #[.int .i64 op.k, .int .i64 op.a, .int .i64 op.b] 36)) (by simp; have := hbk.size; omega) hgood (hnk.alloc _)
      have hpl' : playN (os.take (k + 1)) = ((doN Pk.1 op).1, Pk.2 ++ [ansI (doN Pk.1 op).2]) := by rw [hpl]; rfl
      generalize doN Pk.1 op = D at *
      obtain ⟨ns', q⟩ := D
      simp only at hd hpl'
      generalize ansI q = z at *
      have HD := Lib.hid hd
      have HR := Lib.hid hr
      have HPL := Lib.hid hpl'
      have HN := Lib.hid hnk
      have HO := Lib.hid hok
      have HB := Lib.hid hbk
      clear hd hr hpl hpl' hP hgood hnk hok hbk
      go_wp2_with (first | (go_at_call 46; refine HD.out.mono ?_; rintro e w3 ⟨v3, rfl, haf⟩; have hf3 : Fr (ownS v1) wr w3 := ((Fr.refl _ wr).alloc _).trans haf.fr (fun b hb => .inl hb); have hown3 := hf3.own HO.out (fun b hb hS => own_own HN.out HO.out (by decide) hS hb); have hb3 : Below w.heap.size w w3 := HB.out.trans (hf3.below HB.out.size (fun b hb => (own_lt HN.out hb).1)); have hn3 := haf.own) | (at_builtin; refine app1 w.heap.size w w3 (.int .i64 z) 3 rfl _ _ 24 rfl i0 (.int .i64 0) 8 Try.underlying24 hi hz0 hz1 hz2 rfl (by decide) _ k _ rfl (Nat.le_refl _) hown3 hb3 rfl rfl (by omega) ?_))
      intro v4 w4 hown4 hb4 hg4
      have hn4 := (Fr.of_grown (S := ownS v2) hg4 (fun k hk => .inl hk)).own hn3 (fun b hb hS => own_own hn3 hown3 (by decide) hb hS)
      clear hf3 hown3 hb3 hg4 haf hn3
      go_wp2_with fail
      go_roundw
      case rel => exact ⟨k + 1, _, _, by omega, by go_num, rfl, rfl, by rw [HPL.out]; exact hn4, by rw [HPL.out]; simpa [ansL] using hown4, hb4⟩
      case measure => simp [intOf]; omega
    · obtain rfl : k = n := by omega
      rw [List.take_of_length_le (by omega)] at hnk hok
      go_wp2_with fail
      go_ret2
      exact ⟨_, _, rfl, hnk, hok, hbk⟩

set_option maxRecDepth 100000 in
set_option maxHeartbeats 8000000 in
theorem plays_walk (os : List Nd) (A : Option Addr) (n c : Nat) (w : World) (hl : os.length = n) (hnc : n ≤ c) (hc : c ≤ maxLen) (hr : Rd w 3 A n (ndCells os)) :
    Calls Try.prog 3 #[.slice A n c] w fun e w' => e = .returned (.bool true) ∧ Below w.heap.size w w' := by
  have hf := few_any os A n c w hl hnc hc hr
  have haw := awake_any
  have hgood := good_play (os.take 200)
  have hlt : (os.take 200).length ≤ 200 := by rw [List.length_take]; omega
  have hlp := len_play (os.take 200)
  have hf2 := fun A' c' W hr' => few_short (os.take 200) A' (os.take 200).length c' W rfl hlt hr'
  have hpl := fun A' c' W hr' => play_any (os.take 200) A' (os.take 200).length c' W rfl (by omega) hr'
  have hrl := fun A' c' W hr' => played_any (os.take 200) A' (os.take 200).length c' W rfl (by omega) hr'
  generalize playN (os.take 200) = P at *
  obtain ⟨ns, ans⟩ := P
  simp only at hgood hpl hrl hlp
  generalize hos : os.take 200 = os2 at *
  have hm := hgood.most
  have HF2 := Lib.hid hf2
  have HPL := Lib.hid hpl
  have HRL := Lib.hid hrl
  clear hpl hrl hf2 hgood hos hr
  go_enter Try.func3, Try.ntmps3
  go_wp2_with (first | (go_at_call 15; refine hf.mono ?_; clear hf; rintro e w1 ⟨v1, rfl, hown1, hb1⟩; obtain ⟨A1, c1, rfl, _, hr1⟩ := ownsRow_form hown1) | (go_at_call 15; refine (HF2.out _ _ _ hr1).mono ?_; rintro e w2 ⟨v2, rfl, hown2, hb2⟩; obtain ⟨A2, c2, rfl, _, hr2⟩ := ownsRow_form hown2; have hr12 := hr1.below hb2) | (go_at_call 16; refine (HPL.out _ _ _ hr2).mono ?_; rintro e w3 ⟨v3, v4, rfl, hown3, hown4, hb3⟩; obtain ⟨A3, c3, rfl, _, hr3⟩ := ownsRow_form hown3; obtain ⟨A4, c4, rfl, _, hr4⟩ := ownsRow_form hown4; have hr13 := hr12.below hb3) | (go_at_call 17; refine (HRL.out _ _ _ hr13).mono ?_; rintro e w4 ⟨v5, v6, rfl, hown5, hown6, hb4⟩; obtain ⟨A5, c5, rfl, _, hr5⟩ := ownsRow_form hown5; obtain ⟨A6, c6, rfl, _, hr6⟩ := ownsRow_form hown6) | (go_at_call 18; refine (haw _).mono ?_; rintro e w5 ⟨rfl, hb5⟩))
  have g3 := (hr3.below hb4).below hb5
  have g4 := (hr4.below hb4).below hb5
  have g5 := hr5.below hb5
  have g6 := hr6.below hb5
  have hb := hb1.trans ((hb2.trans ((hb3.trans ((hb4.trans (hb5.mono hb4.size)).mono hb3.size)).mono hb2.size)).mono hb1.size)
  have HB0 := Lib.hid hb
  have HG3 := Lib.hid g3
  have HG4 := Lib.hid g4
  have HG5 := Lib.hid g5
  have HG6 := Lib.hid g6
  clear hr1 hr2 hr12 hr13 hr3 hr4 hr5 hr6 g3 g4 g5 g6 hown1 hown2 hown3 hown4 hown5 hown6 hb1 hb2 hb3 hb4 hb5 hb haw HPL HRL HF2
  go_loopw [40] (fun i wr => ∃ k q : Nat, k ≤ os2.length ∧ i = .int .i64 k ∧ wr = w5.drewN q) (fun i _ => os2.length - (intOf i).toNat)
  case atStart => exact ⟨0, 0, Nat.zero_le _, rfl, rfl⟩
  case round =>
    obtain ⟨k, q, hk, rfl, rfl⟩ := hrel
    by_cases hlt2 : k < os2.length
    · have hx : (ansL ans)[k]? = some (.int .i64 ans[k]) := by simp [ansL]
      generalize ans[k] = z at *
      obtain ⟨b3, o3, u3, rfl, hu3, hc3⟩ := HG3.out.at_ hlt2
      obtain ⟨b6, o6, u6, rfl, hu6, hc6⟩ := HG6.out.at_ hlt2
      rw [hx] at hu3 hu6
      injection hu3 with hu3
      injection hu6 with hu6
      subst hu3
      subst hu6
      clear hx
      go_wp2_with fail
      go_quiet (fail)
      go_wp2_with fail
      go_roundw
      case rel => exact ⟨k + 1, q + nq, by omega, by go_num, by first | rfl | rw [World.drewN_drewN]⟩
      case measure => simp [intOf]; omega
    · obtain rfl : k = os2.length := by omega
      go_wp2_with fail
      go_loopw [55] (fun i wr => ∃ k q : Nat, k ≤ ns.length ∧ i = .int .i64 k ∧ wr = w5.drewN q) (fun i _ => ns.length - (intOf i).toNat)
      case atStart => exact ⟨0, q, Nat.zero_le _, rfl, rfl⟩
      case round =>
        obtain ⟨k, q, hk, rfl, rfl⟩ := hrel
        by_cases hlt3 : k < ns.length
        · obtain ⟨b4, o4, rfl, x0, x1, x2, _⟩ := HG4.out.nd3 k hlt3 rfl
          obtain ⟨b5, o5, rfl, y0, y1, y2, _⟩ := HG5.out.nd3 k hlt3 rfl
          generalize nd ns k = X at *
          obtain ⟨xk, xa, xb⟩ := X
          simp only at x0 x1 x2 y0 y1 y2
          go_wp2_with fail
          go_quiet (fail)
          go_wp2_with fail
          go_roundw
          case rel => exact ⟨k + 1, q + nq, by omega, by go_num, by first | rfl | rw [World.drewN_drewN]⟩
          case measure => simp [intOf]; omega
        · go_wp2_with fail
          go_ret
          exact ⟨rfl, below_drewN HB0.out q⟩

theorem plays_law {w : World} (A : Option Addr) (n c : Nat) (os : List Nd) (hl : os.length = n) (hnc : n ≤ c) (hc : c ≤ maxLen) (hr : Rd w 3 A n (ndCells os)) (hwf : ∀ o ∈ os, o.wf) :
    Calls Try.prog 3 #[.slice A n c] w fun e w' => e = .returned (.bool true) ∧ Below w.heap.size w w' := plays_walk os A n c w hl hnc hc hr
end Go.Proofs.Ytdpnififbpoagaa
