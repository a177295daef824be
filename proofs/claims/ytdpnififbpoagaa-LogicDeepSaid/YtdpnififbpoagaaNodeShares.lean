/- attestlaw10.InternShares. -/
import Derived.Test.YtdpnififbpoagaaNodeAwake
import Derived.Test.YtdpnififbpoagaaOpenOps
namespace Go.Proofs.Ytdpnififbpoagaa
open Go.RowKit
set_option linter.unusedVariables false
set_option linter.unusedSimpArgs false

theorem Rd.nd3 {w : World} {A : Option Addr} {n : Nat} {os : List Nd} (h : Rd w 3 A n (ndCells os)) (k : Nat) (hk : k < os.length) (hn : os.length = n) :
    ∃ b off, A = some ⟨b, off, none⟩ ∧ w.cell? ⟨b, off + k * 3, none⟩ = some (.int .i64 (nd os k).k) ∧ w.cell? ⟨b, off + k * 3 + 1, none⟩ = some (.int .i64 (nd os k).a) ∧ w.cell? ⟨b, off + k * 3 + 2, none⟩ = some (.int .i64 (nd os k).b) ∧ b < w.heap.size := by
  rw [nd_get os k hk]
  exact h.node3 k hk hn

theorem Rd.nd3' {w : World} {b off n : Nat} {os : List Nd} (h : Rd w 3 (some ⟨b, off, none⟩) n (ndCells os)) (k : Nat) (hk : k < os.length) (hn : os.length = n) :
    w.cell? ⟨b, off + k * 3, none⟩ = some (.int .i64 (nd os k).k) ∧ w.cell? ⟨b, off + k * 3 + 1, none⟩ = some (.int .i64 (nd os k).a) ∧ w.cell? ⟨b, off + k * 3 + 2, none⟩ = some (.int .i64 (nd os k).b) := by
  obtain ⟨b', off', e, h0, h1, h2, _⟩ := h.nd3 k hk hn
  injection e with e
  injection e with e1 e2
  subst e1; subst e2
  exact ⟨h0, h1, h2⟩

set_option maxRecDepth 100000 in
set_option maxHeartbeats 8000000 in
theorem shares_walk (os : List Nd) (A : Option Addr) (n c : Nat) (w : World) (hl : os.length = n) (hnc : n ≤ c) (hc : c ≤ maxLen) (hr : Rd w 3 A n (ndCells os)) :
    Calls Try.prog 4 #[.slice A n c] w fun e w' => e = .returned (.bool true) ∧ Below w.heap.size w w' := by
  have hf := few_any os A n c w hl hnc hc hr
  have haw := awake_any
  have hgood := good_play (os.take 200)
  have hlt : (os.take 200).length ≤ 200 := by rw [List.length_take]; omega
  have hlp := len_play (os.take 200)
  have hpl := fun A' c' W hr' => play_any (os.take 200) A' (os.take 200).length c' W rfl (by omega) hr'
  generalize playN (os.take 200) = P at *
  obtain ⟨ns, ans⟩ := P
  simp only at hgood hpl
  have h2 := hgood.two
  have hm := hgood.most
  have hl2 : ¬ (ns.length : Int) < 2 := by omega
  generalize hos : os.take 200 = os2 at *
  have HG := Lib.hid hgood
  have HPL := Lib.hid hpl
  clear hpl hgood hos hr
  go_enter Try.func4, Try.ntmps4
  go_wp2_with (first | (go_at_call 15; refine hf.mono ?_; rintro e w1 ⟨v1, rfl, hown1, hb1⟩; obtain ⟨A1, c1, rfl, _, hr1⟩ := ownsRow_form hown1) | (go_at_call 16; refine (HPL.out _ _ _ hr1).mono ?_; rintro e w2 ⟨v2, v3, rfl, hown2, hown3, hb2⟩; obtain ⟨A3, c3, rfl, _, hr3⟩ := ownsRow_form hown3) | (go_at_call 18; refine (haw _).mono ?_; rintro e w3 ⟨rfl, hb3⟩))
  have hr4 := hr3.below hb3
  have HR := Lib.hid hr4
  have HB0 := Lib.hid (hb1.trans ((hb2.trans (hb3.mono hb2.size)).mono hb1.size))
  clear hr1 hr3 hr4 hown1 hown2 hown3 hb1 hb2 hb3 hf haw HPL
  go_loopw [23] (fun i wr => ∃ k : Nat, k ≤ ns.length ∧ i = .int .i64 k ∧ Below w3.heap.size w3 wr) (fun i _ => ns.length - (intOf i).toNat)
  case atStart => exact ⟨0, Nat.zero_le _, rfl, Below.refl _ _⟩
  case round =>
    obtain ⟨k, hk, rfl, hbk⟩ := hrel
    have HB := Lib.hid hbk
    by_cases hlt : k < ns.length
    · obtain ⟨b, off, rfl, x0, x1, x2, hbs⟩ := (HR.out.below hbk).nd3 k hlt rfl
      clear hbk
      go_wp2_with fail
      go_loopw [7] (fun j wr' => ∃ (m q : Nat), m ≤ k ∧ j = .int .i64 m ∧ wr' = (wr.alloc (.cells #[.int .i64 (nd ns k).k, .int .i64 (nd ns k).a, .int .i64 (nd ns k).b] 33)).drewN q) (fun j _ => k - (intOf j).toNat)
      case atStart => exact ⟨0, 0, Nat.zero_le _, rfl, rfl⟩
      case round =>
        obtain ⟨m, q, hm', rfl, rfl⟩ := hrel
        by_cases hmk : m < k
        · obtain ⟨y0, y1, y2⟩ := (HR.out.below HB.out).nd3' m (by omega) rfl
          have hml : m < ns.length := by omega
          have hne := HG.out.one m k hmk hlt
          by_cases e1 : (nd ns m).k = (nd ns k).k
          · by_cases e2 : (nd ns m).a = (nd ns k).a
            · have e3 : ¬ (nd ns m).b = (nd ns k).b := fun e3 => hne (by cases h : nd ns m; cases h' : nd ns k; rw [h, h'] at e1 e2 e3; simp only at e1 e2 e3; rw [e1, e2, e3])
              clear hne
              go_wp2_with fail
              go_quiet (fail)
              go_wp2_with fail
              go_roundw
              case rel => exact ⟨m + 1, q + nq, by omega, by go_num, by first | rfl | rw [World.drewN_drewN]⟩
              case measure => simp [intOf]; omega
            ·
              clear hne
              go_wp2_with fail
              go_quiet (fail)
              go_wp2_with fail
              go_roundw
              case rel => exact ⟨m + 1, q + nq, by omega, by go_num, by first | rfl | rw [World.drewN_drewN]⟩
              case measure => simp [intOf]; omega
          ·
            clear hne
            go_wp2_with fail
            go_quiet (fail)
            go_wp2_with fail
            go_roundw
            case rel => exact ⟨m + 1, q + nq, by omega, by go_num, by first | rfl | rw [World.drewN_drewN]⟩
            case measure => simp [intOf]; omega
        · obtain rfl : m = k := by omega
          by_cases hm2 : 2 ≤ m
          · have hpart := HG.out.parts m hm2 hlt
            have hm2' : ¬ (m : Int) < 2 := by omega
            generalize hX : nd ns m = X at *
            obtain ⟨kd, a, b'⟩ := X
            rcases hpart with ⟨h1, h3, h4⟩ | ⟨h1, h3, h4, h5, h6⟩ | ⟨h1, h3, h4, h5⟩
            · simp only at h1 h3 h4 x0 x1 x2
              subst h1 h4
              have h3' : ¬ a < 0 := by omega
              go_wp2_with fail
              go_roundw
              case rel => exact ⟨m + 1, by omega, by go_num, HB.out.trans (below_drewN ((Below.refl _ _).alloc HB.out.size _) q)⟩
              case measure => simp [intOf]; omega
            · simp only at h1 h3 h4 h5 h6 x0 x1 x2
              obtain ⟨a, rfl⟩ : ∃ a' : Nat, a = a' := ⟨a.toNat, by omega⟩
              rw [Int.toNat_natCast] at h6
              obtain ⟨z0, z1, z2⟩ := (HR.out.below HB.out).nd3' a (by omega) rfl
              generalize (nd ns a).k = K at *
              subst h1 h5
              have h3' : ¬ (a : Int) < 2 := by omega
              have h4' : ¬ (m : Int) ≤ (a : Int) := by omega
              have h6' : ¬ K = 4 := h6
              go_wp2_with fail
              go_roundw
              case rel => exact ⟨m + 1, by omega, by go_num, HB.out.trans (below_drewN ((Below.refl _ _).alloc HB.out.size _) q)⟩
              case measure => simp [intOf]; omega
            · simp only at h1 h3 h4 h5 x0 x1 x2
              have h3' : ¬ a < 2 := by omega
              have h4' : ¬ b' ≤ a := by omega
              have h5' : ¬ (m : Int) ≤ b' := by omega
              rcases h1 with rfl | rfl
              · go_wp2_with fail
                go_roundw
                case rel => exact ⟨m + 1, by omega, by go_num, HB.out.trans (below_drewN ((Below.refl _ _).alloc HB.out.size _) q)⟩
                case measure => simp [intOf]; omega
              · go_wp2_with fail
                go_roundw
                case rel => exact ⟨m + 1, by omega, by go_num, HB.out.trans (below_drewN ((Below.refl _ _).alloc HB.out.size _) q)⟩
                case measure => simp [intOf]; omega
          · have hm2' : (m : Int) < 2 := by omega
            go_wp2_with fail
            go_roundw
            case rel => exact ⟨m + 1, by omega, by go_num, HB.out.trans (below_drewN ((Below.refl _ _).alloc HB.out.size _) q)⟩
            case measure => simp [intOf]; omega
    · clear hbk
      go_wp2_with fail
      go_ret
      exact ⟨rfl, HB0.out.trans (HB.out.mono HB0.out.size)⟩

theorem shares_law {w : World} (A : Option Addr) (n c : Nat) (os : List Nd) (hl : os.length = n) (hnc : n ≤ c) (hc : c ≤ maxLen) (hr : Rd w 3 A n (ndCells os)) (hwf : ∀ o ∈ os, o.wf) :
    Calls Try.prog 4 #[.slice A n c] w fun e w' => e = .returned (.bool true) ∧ Below w.heap.size w w' := shares_walk os A n c w hl hnc hc hr
end Go.Proofs.Ytdpnififbpoagaa
