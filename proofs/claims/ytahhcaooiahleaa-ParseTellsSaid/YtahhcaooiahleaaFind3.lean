/- Which packets tell bytes: the longest copies, at the elder distances and at any. -/
import Derived.Test.YtahhcaooiahleaaFind2
namespace Go.Proofs.Ytahhcaooiahleaa
open Go Go.RowKit

theorem R4.get_lt {w : World} {F : FA} {b : List Nat} {te dict : Nat} {r : R4} {kn : Nat} (h : FindW w F b te dict r kn) (k : Nat) : (r.get k : Int) < 1099511627776 := by
  have := h.ra
  have := h.rb
  have := h.rc
  have := h.rd
  unfold R4.get
  split <;> omega

theorem eldGo_step (L : Nat → Nat) (r : R4) (k : Nat) : eldGo L r (k + 1) = if (eldGo L r k).1 < L (r.get k) then (L (r.get k), k) else eldGo L r k := rfl


theorem eldGo_le (L : Nat → Nat) (r : R4) (hL : ∀ d, L d ≤ 273) (k : Nat) : (eldGo L r k).1 ≤ 273 := by
  induction k with
  | zero => exact Nat.zero_le _
  | succ k ih => rw [eldGo_step]; split; exact hL _; exact ih

theorem bestGo_le (L : Nat → Nat) (hL : ∀ d, L d ≤ 273) (k : Nat) : (bestGo L k).1 ≤ 273 := by
  induction k with
  | zero => exact Nat.zero_le _
  | succ k ih => unfold bestGo; split; exact hL _; exact ih

set_option maxRecDepth 100000 in
set_option maxHeartbeats 1000000 in
theorem parse_elder {w : World} {F : FA} {b : List Nat} {te dict : Nat} {r : R4} {kn : Nat} (h : FindW w F b te dict r kn) {i : Nat} (hi : i ≤ te) :
    Calls Try.prog 92 #[.pointer (some ⟨F.fb, 0, none⟩), .int .i64 (i : Nat)] w fun e w' => e = .returned (.tuple #[.int .i64 ((eldGo (long b te dict i) r 4).1 : Nat), .int .i64 ((eldGo (long b te dict i) r 4).2 : Nat)]) ∧ ∃ n, w' = w.drewN n := by
  have c3 := h.f3.1
  have c4 := h.f4.1
  have c5 := h.f5.1
  have c6 := h.f6.1
  have i0 : ∀ w, (Instr.index 38 (.agg #[.int .u32 (r.a : Nat), .int .u32 (r.b : Nat), .int .u32 (r.c : Nat), .int .u32 (r.d : Nat)]) (.int .i64 0)).run Try.prog w = .ok (.int .u32 (r.get 0 : Nat)) w := fun _ => by kernel_rfl
  have i1 : ∀ w, (Instr.index 38 (.agg #[.int .u32 (r.a : Nat), .int .u32 (r.b : Nat), .int .u32 (r.c : Nat), .int .u32 (r.d : Nat)]) (.int .i64 1)).run Try.prog w = .ok (.int .u32 (r.get 1 : Nat)) w := fun _ => by kernel_rfl
  have i2 : ∀ w, (Instr.index 38 (.agg #[.int .u32 (r.a : Nat), .int .u32 (r.b : Nat), .int .u32 (r.c : Nat), .int .u32 (r.d : Nat)]) (.int .i64 2)).run Try.prog w = .ok (.int .u32 (r.get 2 : Nat)) w := fun _ => by kernel_rfl
  have i3 : ∀ w, (Instr.index 38 (.agg #[.int .u32 (r.a : Nat), .int .u32 (r.b : Nat), .int .u32 (r.c : Nat), .int .u32 (r.d : Nat)]) (.int .i64 3)).run Try.prog w = .ok (.int .u32 (r.get 3 : Nat)) w := fun _ => by kernel_rfl
  go_enter Try.func92, Try.ntmps92
  go_wp2_with fail
  go_loopw [6, 7, 15] (fun x y j wr => ∃ k m : Nat, k ≤ 4 ∧ j = .int .i64 (k : Nat) ∧ x = .int .i64 ((eldGo (long b te dict i) r k).1 : Nat) ∧ y = .int .i64 ((eldGo (long b te dict i) r k).2 : Nat) ∧ wr = w.drewN m) (fun _ _ j _ => 4 - (intOf j).toNat)
  case atStart => exact ⟨0, 0, by decide, rfl, rfl, rfl, rfl⟩
  case round =>
    obtain ⟨k, m, hk, rfl, rfl, rfl, rfl⟩ := hrel
    clear c3 c4 c5 c6
    obtain rfl | rfl | rfl | rfl | rfl : k = 0 ∨ k = 1 ∨ k = 2 ∨ k = 3 ∨ k = 4 := by omega
    · obtain ⟨x, hx⟩ : ∃ x, x = (eldGo (long b te dict i) r 0).1 := ⟨_, rfl⟩
      obtain ⟨y, hy⟩ : ∃ y, y = (eldGo (long b te dict i) r 0).2 := ⟨_, rfl⟩
      obtain ⟨z, hz⟩ : ∃ z, z = long b te dict i (r.get 0) := ⟨_, rfl⟩
      have hx2 : (x : Int) < 1099511627776 := by have := eldGo_le (long b te dict i) r (fun d => (long_le b te dict i d).1) 0; omega
      have hz2 : (z : Int) < 1099511627776 := by have := (long_le b te dict i (r.get 0)).1; omega
      have hs := eldGo_step (long b te dict i) r 0
      rw [← hx, ← hz] at hs
      rw [← hx, ← hy]
      have hl := parse_length (w := w.drewN m) (h.kept (kept_drewN _ _) (by simp)) (i := i) (d := r.get 0) hi (R4.get_lt h 0) rfl
      rw [← hz] at hl
      have hg : (r.get 0 : Int) < 1099511627776 := R4.get_lt h 0
      have HS := Lib.hid hs
      have HY := Lib.hid hy
      have HX := Lib.hid hx
      have HL := Lib.hid hl
      clear hs hx hy hz hl
      by_cases hxz : x < z
      · have d1 : decide ((x : Int) < (z : Int)) = true := decide_eq_true (by omega)
        have d2 : decide (x < z) = true := decide_eq_true hxz
        go_wp2_with fail
        refine HL.out.mono ?_
        rintro e w1 ⟨rfl, n', rfl⟩
        go_wp2_with fail
        go_roundw
        case rel => exact ⟨0 + 1, _, by decide, by go_num, by rw [HS.out, if_pos hxz], by rw [HS.out, if_pos hxz]; rfl, rfl⟩
        case measure => simp [intOf]
      · have d1 : decide ((x : Int) < (z : Int)) = false := decide_eq_false (by omega)
        have d2 : decide (x < z) = false := decide_eq_false hxz
        go_wp2_with fail
        refine HL.out.mono ?_
        rintro e w1 ⟨rfl, n', rfl⟩
        go_wp2_with fail
        go_roundw
        case rel => exact ⟨0 + 1, _, by decide, by go_num, by rw [HS.out, if_neg hxz, ← HX.out], by rw [HS.out, if_neg hxz, ← HY.out], rfl⟩
        case measure => simp [intOf]
    · obtain ⟨x, hx⟩ : ∃ x, x = (eldGo (long b te dict i) r 1).1 := ⟨_, rfl⟩
      obtain ⟨y, hy⟩ : ∃ y, y = (eldGo (long b te dict i) r 1).2 := ⟨_, rfl⟩
      obtain ⟨z, hz⟩ : ∃ z, z = long b te dict i (r.get 1) := ⟨_, rfl⟩
      have hx2 : (x : Int) < 1099511627776 := by have := eldGo_le (long b te dict i) r (fun d => (long_le b te dict i d).1) 1; omega
      have hz2 : (z : Int) < 1099511627776 := by have := (long_le b te dict i (r.get 1)).1; omega
      have hs := eldGo_step (long b te dict i) r 1
      rw [← hx, ← hz] at hs
      rw [← hx, ← hy]
      have hl := parse_length (w := w.drewN m) (h.kept (kept_drewN _ _) (by simp)) (i := i) (d := r.get 1) hi (R4.get_lt h 1) rfl
      rw [← hz] at hl
      have hg : (r.get 1 : Int) < 1099511627776 := R4.get_lt h 1
      have HS := Lib.hid hs
      have HY := Lib.hid hy
      have HX := Lib.hid hx
      have HL := Lib.hid hl
      clear hs hx hy hz hl
      by_cases hxz : x < z
      · have d1 : decide ((x : Int) < (z : Int)) = true := decide_eq_true (by omega)
        have d2 : decide (x < z) = true := decide_eq_true hxz
        go_wp2_with fail
        refine HL.out.mono ?_
        rintro e w1 ⟨rfl, n', rfl⟩
        go_wp2_with fail
        go_roundw
        case rel => exact ⟨1 + 1, _, by decide, by go_num, by rw [HS.out, if_pos hxz], by rw [HS.out, if_pos hxz]; rfl, rfl⟩
        case measure => simp [intOf]
      · have d1 : decide ((x : Int) < (z : Int)) = false := decide_eq_false (by omega)
        have d2 : decide (x < z) = false := decide_eq_false hxz
        go_wp2_with fail
        refine HL.out.mono ?_
        rintro e w1 ⟨rfl, n', rfl⟩
        go_wp2_with fail
        go_roundw
        case rel => exact ⟨1 + 1, _, by decide, by go_num, by rw [HS.out, if_neg hxz, ← HX.out], by rw [HS.out, if_neg hxz, ← HY.out], rfl⟩
        case measure => simp [intOf]
    · obtain ⟨x, hx⟩ : ∃ x, x = (eldGo (long b te dict i) r 2).1 := ⟨_, rfl⟩
      obtain ⟨y, hy⟩ : ∃ y, y = (eldGo (long b te dict i) r 2).2 := ⟨_, rfl⟩
      obtain ⟨z, hz⟩ : ∃ z, z = long b te dict i (r.get 2) := ⟨_, rfl⟩
      have hx2 : (x : Int) < 1099511627776 := by have := eldGo_le (long b te dict i) r (fun d => (long_le b te dict i d).1) 2; omega
      have hz2 : (z : Int) < 1099511627776 := by have := (long_le b te dict i (r.get 2)).1; omega
      have hs := eldGo_step (long b te dict i) r 2
      rw [← hx, ← hz] at hs
      rw [← hx, ← hy]
      have hl := parse_length (w := w.drewN m) (h.kept (kept_drewN _ _) (by simp)) (i := i) (d := r.get 2) hi (R4.get_lt h 2) rfl
      rw [← hz] at hl
      have hg : (r.get 2 : Int) < 1099511627776 := R4.get_lt h 2
      have HS := Lib.hid hs
      have HY := Lib.hid hy
      have HX := Lib.hid hx
      have HL := Lib.hid hl
      clear hs hx hy hz hl
      by_cases hxz : x < z
      · have d1 : decide ((x : Int) < (z : Int)) = true := decide_eq_true (by omega)
        have d2 : decide (x < z) = true := decide_eq_true hxz
        go_wp2_with fail
        refine HL.out.mono ?_
        rintro e w1 ⟨rfl, n', rfl⟩
        go_wp2_with fail
        go_roundw
        case rel => exact ⟨2 + 1, _, by decide, by go_num, by rw [HS.out, if_pos hxz], by rw [HS.out, if_pos hxz]; rfl, rfl⟩
        case measure => simp [intOf]
      · have d1 : decide ((x : Int) < (z : Int)) = false := decide_eq_false (by omega)
        have d2 : decide (x < z) = false := decide_eq_false hxz
        go_wp2_with fail
        refine HL.out.mono ?_
        rintro e w1 ⟨rfl, n', rfl⟩
        go_wp2_with fail
        go_roundw
        case rel => exact ⟨2 + 1, _, by decide, by go_num, by rw [HS.out, if_neg hxz, ← HX.out], by rw [HS.out, if_neg hxz, ← HY.out], rfl⟩
        case measure => simp [intOf]
    · obtain ⟨x, hx⟩ : ∃ x, x = (eldGo (long b te dict i) r 3).1 := ⟨_, rfl⟩
      obtain ⟨y, hy⟩ : ∃ y, y = (eldGo (long b te dict i) r 3).2 := ⟨_, rfl⟩
      obtain ⟨z, hz⟩ : ∃ z, z = long b te dict i (r.get 3) := ⟨_, rfl⟩
      have hx2 : (x : Int) < 1099511627776 := by have := eldGo_le (long b te dict i) r (fun d => (long_le b te dict i d).1) 3; omega
      have hz2 : (z : Int) < 1099511627776 := by have := (long_le b te dict i (r.get 3)).1; omega
      have hs := eldGo_step (long b te dict i) r 3
      rw [← hx, ← hz] at hs
      rw [← hx, ← hy]
      have hl := parse_length (w := w.drewN m) (h.kept (kept_drewN _ _) (by simp)) (i := i) (d := r.get 3) hi (R4.get_lt h 3) rfl
      rw [← hz] at hl
      have hg : (r.get 3 : Int) < 1099511627776 := R4.get_lt h 3
      have HS := Lib.hid hs
      have HY := Lib.hid hy
      have HX := Lib.hid hx
      have HL := Lib.hid hl
      clear hs hx hy hz hl
      by_cases hxz : x < z
      · have d1 : decide ((x : Int) < (z : Int)) = true := decide_eq_true (by omega)
        have d2 : decide (x < z) = true := decide_eq_true hxz
        go_wp2_with fail
        refine HL.out.mono ?_
        rintro e w1 ⟨rfl, n', rfl⟩
        go_wp2_with fail
        go_roundw
        case rel => exact ⟨3 + 1, _, by decide, by go_num, by rw [HS.out, if_pos hxz], by rw [HS.out, if_pos hxz]; rfl, rfl⟩
        case measure => simp [intOf]
      · have d1 : decide ((x : Int) < (z : Int)) = false := decide_eq_false (by omega)
        have d2 : decide (x < z) = false := decide_eq_false hxz
        go_wp2_with fail
        refine HL.out.mono ?_
        rintro e w1 ⟨rfl, n', rfl⟩
        go_wp2_with fail
        go_roundw
        case rel => exact ⟨3 + 1, _, by decide, by go_num, by rw [HS.out, if_neg hxz, ← HX.out], by rw [HS.out, if_neg hxz, ← HY.out], rfl⟩
        case measure => simp [intOf]
    · go_wp2_with fail
      go_ret2
      exact ⟨rfl, m, rfl⟩

theorem mlen_two {b : List Nat} {i d k : Nat} (h0 : b.getD (i + 0) 0 = b.getD (i + 0 - 1 - d) 0) (h1 : b.getD (i + 1) 0 = b.getD (i + 1 - 1 - d) 0) (hk : 2 ≤ k) : 2 ≤ mlen b i d k 0 := by
  obtain ⟨k, rfl⟩ : ∃ m, k = m + 1 + 1 := ⟨k - 2, by omega⟩
  unfold mlen
  rw [if_pos h0]
  unfold mlen
  rw [if_pos h1]
  exact mlen_ge b i d k 2

theorem long_two {b : List Nat} {te dict i d : Nat} (hb : ∀ x ∈ b, x < 256) (h1 : d < i) (h2 : d < dict) (h3 : i + 1 < te) (hp : pairAt b (i - 1 - d) = pairAt b i) : 2 ≤ long b te dict i d := by
  have a1 := getD_lt hb (i - 1 - d)
  have a2 := getD_lt hb (i - 1 - d + 1)
  have a3 := getD_lt hb i
  have a4 := getD_lt hb (i + 1)
  unfold pairAt at hp
  unfold long
  rw [if_neg (by omega)]
  refine mlen_two ?_ ?_ (by omega)
  · rw [Nat.add_zero]; omega
  · rw [show i + 1 - 1 - d = i - 1 - d + 1 from by omega]; omega


set_option maxRecDepth 100000 in
set_option maxHeartbeats 2000000 in
theorem parse_longest {w : World} {F : FA} {b : List Nat} {te dict : Nat} {r : R4} {kn : Nat} (h : FindW w F b te dict r kn) {i : Nat} (hi : i < te) (hk : kn ≤ i) :
    Calls Try.prog 93 #[.pointer (some ⟨F.fb, 0, none⟩), .int .i64 (i : Nat)] w fun e w' => e = .returned (.tuple #[.int .i64 ((bestGo (long b te dict i) i).1 : Nat), .int .i64 ((bestGo (long b te dict i) i).2 : Nat)]) ∧ ∃ kn', kn' ≤ i ∧ FindW w' F b te dict r kn' ∧ Kept (FindS F) w w' := by
  have hlen := h.len
  have hto := h.to_le
  have hd2 := h.d2
  go_enter Try.func93, Try.ntmps93
  go_wp2_with fail
  refine (parse_learn h hi hk).mono ?_
  rintro e w1 ⟨rfl, kn', hkn, hkn2, h1, K1⟩
  have c1 := h1.f1.1
  have hlen' : (te : Int) < 1099511627776 := by omega
  by_cases hsh : te ≤ i + 1
  · have t1 : decide ((te : Int) ≤ (i : Int) + 1) = true := decide_eq_true (by omega)
    have t2 : decide (te ≤ i + 1) = true := decide_eq_true hsh
    go_wp2_with fail
    go_ret2
    exact ⟨by rw [best_short hsh]; rfl, kn', hkn, h1, K1⟩
  · have t1 : decide ((te : Int) ≤ (i : Int) + 1) = false := decide_eq_false (by omega)
    have t2 : decide (te ≤ i + 1) = false := decide_eq_false hsh
    obtain rfl := hkn2 (by omega)
    have c7 := h1.f7.1
    have hp6 := pairAt_lt h1.small kn'
    have hpr := fun n => parse_pair (w := w1.drewN n) (h1.kept (kept_drewN w1 n) (by simp)) (i := kn') (by omega)
    have hl0 := (h1.last (pairAt b kn') hp6).1
    have hst := best_start (b := b) (te := te) (dict := dict) (i := kn') rfl
    have hch := fun at_ => best_chain (b := b) (te := te) (dict := dict) (i := kn') (at_ := at_)
    have hdc := fun k => best_dict (b := b) (te := te) (dict := dict) (i := kn') (k := k)
    have hpl := prev_le b (pairAt b kn') kn'
    have hpp := fun n => prev_pos (b := b) (p := pairAt b kn') (n := n)
    obtain ⟨p, hp⟩ : ∃ p, p = pairAt b kn' := ⟨_, rfl⟩
    simp only [← hp] at hp6 hpr hl0 hst hch hpl hpp
    have HPR := Lib.hid hpr
    clear hpr
    have hp7 : (p : Int) < 65536 := by omega
    have HP := Lib.hid hp
    have HST := Lib.hid hst
    have HCH := Lib.hid hch
    have HDC := Lib.hid hdc
    have HPP := Lib.hid hpp
    clear hst hch hdc hpp hp hp6 hkn2
    go_wp2_with fail
    go_quiet ((go_at_call 129; exact Calls.quiet_of (HPR.out _)))
    go_wp2_with fail
    obtain ⟨L, hL⟩ : ∃ L, L = long b te dict kn' := ⟨_, rfl⟩
    have hL2 := fun d => long_le b te dict kn' d
    have hl2 := fun d (q1 : d < kn') (q2 : d < dict) (q3 : pairAt b (kn' - 1 - d) = pairAt b kn') => long_two (te := te) h1.small q1 q2 (by omega) q3
    have HST2 := HST.out
    have HCH2 := HCH.out
    have HDC2 := HDC.out
    rw [← HP.out] at hl2
    simp only [← hL] at hL2 hl2 HST2 HCH2 HDC2 ⊢
    have C1 := Lib.hid HST2
    have C2 := Lib.hid HCH2
    have C3 := Lib.hid HDC2
    have C4 := Lib.hid hL2
    have C5 := Lib.hid hl2
    have HL := Lib.hid hL
    clear HST2 HCH2 HDC2 hL2 hl2 hL HST HCH HDC hl0 hpl
    have hdi : (kn' : Int) < 1099511627776 := by omega
    obtain ⟨nq0, hnq0⟩ : ∃ y, y = nq := ⟨_, rfl⟩
    rw [← hnq0]
    clear hnq0
    go_loopw [6, 7, 8] (fun x y j wr => ∃ k m u v : Nat, k ≤ kn' ∧ j = .int .i64 (k : Nat) ∧ x = .int .i64 (u : Nat) ∧ y = .int .i64 (v : Nat) ∧ Hid (bestGo L (kn' - k) = (u, v)) ∧ Hid (0 < k → pairAt b (k - 1) = p) ∧ wr = w1.drewN m) (fun _ _ j _ => (intOf j).toNat)
    case atStart => exact ⟨_, _, 0, 0, prev_le b p kn', rfl, rfl, rfl, C1.out, HPP.out kn', rfl⟩
    case round =>
      obtain ⟨k, m, u, v, hkk, rfl, rfl, rfl, hb, hp, rfl⟩ := hrel
      have hu : (u : Int) ≤ 273 := by have := bestGo_le L (fun d => (C4.out d).1) (kn' - k); rw [hb.out] at this; dsimp only at this; omega
      by_cases hk0 : 0 < k
      · have d1 : decide ((0 : Int) < (k : Int)) = true := decide_eq_true (by omega)
        have d2 : decide (0 < k) = true := decide_eq_true hk0
        obtain ⟨d, hd⟩ : ∃ d, d = kn' - k := ⟨_, rfl⟩
        have hdI : (kn' : Int) - (k : Int) = (d : Int) := by omega
        have HD := Lib.hid hd
        have c2 := h1.f2.1
        have hkb : (k : Int) < 1099511627776 := by omega
        clear hd
        by_cases hdd : d < dict
        · have d3 : decide ((d : Int) < (dict : Int)) = true := decide_eq_true (by omega)
          have d4 : decide (d < dict) = true := decide_eq_true hdd
          have hdb : (d : Int) < 1099511627776 := by omega
          have hch := C2.out k hk0 hkk (hp.out hk0)
          rw [← HD.out, show bestGo L d = (u, v) from by rw [HD.out]; exact hb.out] at hch
          have h2 := C5.out d (by have := HD.out; omega) hdd (by rw [show kn' - 1 - d = k - 1 from by have := HD.out; omega]; exact hp.out hk0)
          have h273 := (C4.out d).1
          obtain ⟨z, hz⟩ : ∃ z, z = L d := ⟨_, rfl⟩
          rw [← hz] at hch h2 h273
          have hzi : (z : Int) ≤ 273 := by omega
          have hlen2 := parse_length (w := w1.drewN m) (h1.kept (kept_drewN w1 m) (by simp)) (i := kn') (d := d) (by omega) hdb rfl
          rw [← HL.out, ← hz] at hlen2
          have HCC := Lib.hid hch
          have HLE := Lib.hid hlen2
          have HZ := Lib.hid hz
          obtain ⟨xa, hxa, hxb⟩ := h1.ahead (k - 1) (by omega)
          have hxa1 := hxa.1
          have hxe : xa = prev b p (k - 1) := by rw [hxb (by omega), hp.out hk0]
          obtain ⟨k1, hk1⟩ : ∃ k1, k1 = k - 1 := ⟨_, rfl⟩
          have hk1I : (k : Int) - 1 = (k1 : Int) := by omega
          rw [← hk1] at hxa1 hxe
          have hxl : xa ≤ k1 := by rw [hxe]; exact prev_le b p k1
          have HXE := Lib.hid hxe
          have HK1 := Lib.hid hk1
          have c8 := h1.f8.1
          have hk1b : (k1 : Int) < (b.length : Int) := by omega
          clear hch hlen2 hz hxa hxb hxe hk1
          by_cases huz : u < z
          · have d5 : decide ((u : Int) < (z : Int)) = true := decide_eq_true (by omega)
            have d6 : decide (u < z) = true := decide_eq_true huz
            have HUZ := Lib.hid huz
            clear huz
            go_wp2_with fail
            refine HLE.out.mono ?_
            rintro e w2 ⟨rfl, n', rfl⟩
            have hnew : bestGo L (kn' - xa) = (z, d) := by
              rw [HXE.out, HK1.out, HCC.out]
              rw [if_pos ⟨HUZ.out, h2⟩]
            have HN := Lib.hid hnew
            clear hnew
            by_cases h7 : z = 273
            · have d7 : ((z : Int) == 273) = true := by simp [h7]
              have H7 := Lib.hid h7
              clear h7
              go_wp2_with fail
              go_ret2
              have e := bestGo_full (L := L) (k := kn' - xa) (m := 273) (fun d => (C4.out d).1) (by rw [HN.out]; exact H7.out) (n := kn') (by omega)
              refine ⟨?_, kn', Nat.le_refl _, h1.kept (kept_drewN _ _) (by simp), K1.drewN _⟩
              rw [← HL.out, e, HN.out]
              rfl
            · have d7 : ((z : Int) == 273) = false := by simp; omega
              have H7 := Lib.hid h7
              clear h7
              go_wp2_with fail
              skip
              go_roundw
              case rel => exact ⟨xa, _, z, d, by omega, rfl, rfl, rfl, HN.out, (fun h0 => by rw [HXE.out] at h0 ⊢; exact prev_pos h0), rfl⟩
              case measure => simp [intOf]; omega
          · have d5 : decide ((u : Int) < (z : Int)) = false := decide_eq_false (by omega)
            have d6 : decide (u < z) = false := decide_eq_false huz
            have HUZ := Lib.hid huz
            clear huz
            go_wp2_with fail
            refine HLE.out.mono ?_
            rintro e w2 ⟨rfl, n', rfl⟩
            have hnew : bestGo L (kn' - xa) = (u, v) := by
              rw [HXE.out, HK1.out, HCC.out]
              rw [if_neg (fun q => HUZ.out q.1)]
            have HN := Lib.hid hnew
            clear hnew
            by_cases h7 : u = 273
            · have d7 : ((u : Int) == 273) = true := by simp [h7]
              have H7 := Lib.hid h7
              clear h7
              go_wp2_with fail
              go_ret2
              have e := bestGo_full (L := L) (k := kn' - xa) (m := 273) (fun d => (C4.out d).1) (by rw [HN.out]; exact H7.out) (n := kn') (by omega)
              refine ⟨?_, kn', Nat.le_refl _, h1.kept (kept_drewN _ _) (by simp), K1.drewN _⟩
              rw [← HL.out, e, HN.out]
              rfl
            · have d7 : ((u : Int) == 273) = false := by simp; omega
              have H7 := Lib.hid h7
              clear h7
              go_wp2_with fail
              skip
              go_roundw
              case rel => exact ⟨xa, _, u, v, by omega, rfl, rfl, rfl, HN.out, (fun h0 => by rw [HXE.out] at h0 ⊢; exact prev_pos h0), rfl⟩
              case measure => simp [intOf]; omega
        · have d3 : decide ((d : Int) < (dict : Int)) = false := decide_eq_false (by omega)
          have d4 : decide (d < dict) = false := decide_eq_false hdd
          go_wp2_with fail
          go_ret2
          have e := C3.out d (by omega) (by have := HD.out; omega)
          refine ⟨?_, kn', Nat.le_refl _, h1.kept (kept_drewN _ _) (by simp), K1.drewN _⟩
          rw [← HL.out, e, HD.out, hb.out]
          rfl
      · obtain rfl : k = 0 := by omega
        go_wp2_with fail
        go_ret2
        refine ⟨?_, kn', Nat.le_refl _, h1.kept (kept_drewN _ _) (by simp), K1.drewN _⟩
        have e := hb.out
        rw [Nat.sub_zero] at e
        rw [← HL.out, e]
        rfl

end Go.Proofs.Ytahhcaooiahleaa
