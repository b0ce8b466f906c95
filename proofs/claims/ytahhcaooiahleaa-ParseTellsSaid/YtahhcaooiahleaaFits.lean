/- The coder of LZMA: which packets fit; the state behind. -/
import Derived.Test.YtahhcaooiahleaaBack
namespace Go.Proofs.Ytahhcaooiahleaa
open Go Go.RowKit

/-- A packet's value. -/
def pktv (k : Int) (b : Nat) (l : Int) (d : Nat) : Value := .agg #[.int .i64 k, .int .u8 (b : Nat), .int .i64 l, .int .u32 (d : Nat)]

def CO.reach (c : CO) (k : Int) (d : Nat) : Nat := if k = 1 then d else if k = 2 ∨ k = 6 then c.r0 else if k = 3 then c.r1 else if k = 4 then c.r2 else c.r3

def CO.fits (c : CO) (k l : Int) (d : Nat) : Bool :=
  !c.ended && (decide (k = 0) || decide (k = 7) || (decide (1 ≤ k) && decide (k ≤ 6) && (decide (k = 6) || (decide (2 ≤ l) && decide (l ≤ 273))) && c.is (c.reach k d)))

theorem CO.reach_lt {c : CO} (h : CoMay c) {k : Int} {d : Nat} (hd : (d : Int) < 4294967296) : (c.reach k d : Int) < 4294967296 := by
  have := h.r0
  have := h.r1
  have := h.r2
  have := h.r3
  unfold CO.reach
  repeat' split
  all_goals omega

set_option maxRecDepth 100000 in
set_option maxHeartbeats 400000 in
theorem lzmac_reach {w : World} {A : CA} {ov tv : Value} {c : CO} (h : CoderW w A ov tv c) {k l : Int} {b d : Nat} (hk : 1 ≤ k ∧ k ≤ 6) :
    Calls Try.prog 45 #[.pointer (some ⟨A.cb, 0, none⟩), pktv k b l d] w fun e w' =>
      e = .returned (.int .u32 (c.reach k d : Nat)) ∧ Kept (fun _ _ => False) w w' := by
  have c7 := h.a7.1
  have c8 := h.a8.1
  have c9 := h.a9.1
  have c10 := h.a10.1
  have hcb := h.a7.lt
  unfold pktv
  obtain rfl | rfl | rfl | rfl | rfl | rfl : k = 1 ∨ k = 2 ∨ k = 3 ∨ k = 4 ∨ k = 5 ∨ k = 6 := by omega
  case inl =>
    go_enter Try.func45, Try.ntmps45
    go_wp2_with fail
    go_ret
    exact ⟨rfl, by (repeat (first | exact Kept.refl _ _ | refine Kept.drewN ?_ _ | refine Kept.drew ?_ | refine Kept.setCell ?_ (by simp) _ | refine Kept.alloc ?_ _))⟩
  case inr.inr.inr.inr.inr =>
    go_enter Try.func45, Try.ntmps45
    go_wp2_with fail
    go_ret
    exact ⟨rfl, by (repeat (first | exact Kept.refl _ _ | refine Kept.drewN ?_ _ | refine Kept.drew ?_ | refine Kept.setCell ?_ (by simp) _ | refine Kept.alloc ?_ _))⟩
  all_goals
    go_enter Try.func45, Try.ntmps45
    go_wp2_with fail
    go_region
    go_wp2_with fail
    go_ret
    exact ⟨rfl, by (repeat (first | exact Kept.refl _ _ | refine Kept.drewN ?_ _ | refine Kept.drew ?_ | refine Kept.setCell ?_ (by simp) _ | refine Kept.alloc ?_ _))⟩





set_option maxRecDepth 100000 in
set_option maxHeartbeats 1000000 in
theorem lzmac_Fits_k {w : World} {A : CA} {ov tv : Value} {c : CO} (h : CoderW w A ov tv c) {k l : Int} {b d : Nat} (hd : (d : Int) < 4294967296) (hlen : c.told.length < 1099511627776) (hk : c.ended = true ∨ k < 0 ∨ 7 < k) :
    Calls Try.prog 17 #[.pointer (some ⟨A.cb, 0, none⟩), pktv k b l d] w fun e w' =>
      e = .returned (.bool (c.fits k l d)) ∧ Kept (fun _ _ => False) w w' := by
  have c12 := h.a12.1
  have hcb := h.a12.lt
  by_cases he : c.ended = true
  · rw [he] at c12
    go_enter Try.func17, Try.ntmps17
    unfold pktv
    go_wp2_with fail
    go_ret
    exact ⟨ret_bool (by simp [CO.fits, he]), by (repeat (first | exact Kept.refl _ _ | refine Kept.drewN ?_ _ | refine Kept.drew ?_ | refine Kept.setCell ?_ (by simp) _ | refine Kept.alloc ?_ _))⟩
  · have he' : c.ended = false := by simpa using he
    rw [he'] at c12
    have hk := hk.resolve_left he
    clear he
    by_cases hk0 : k < 0
    · have t0 : decide (k < 0) = true := decide_eq_true hk0
      have hq : CO.fits c k l d = false := by simp [CO.fits, he']; omega
      rw [hq]
      clear hk0 hq
      go_enter Try.func17, Try.ntmps17
      unfold pktv
      go_wp2_with fail
      go_ret
      exact ⟨rfl, by (repeat (first | exact Kept.refl _ _ | refine Kept.drewN ?_ _ | refine Kept.drew ?_ | refine Kept.setCell ?_ (by simp) _ | refine Kept.alloc ?_ _))⟩
    · have hk7 := hk.resolve_left hk0
      have t0 : decide (k < 0) = false := decide_eq_false hk0
      have t7 : decide (7 < k) = true := decide_eq_true hk7
      have hq : CO.fits c k l d = false := by simp [CO.fits, he']; omega
      rw [hq]
      clear hk0 hk7 hq
      go_enter Try.func17, Try.ntmps17
      unfold pktv
      go_wp2_with fail
      go_ret
      exact ⟨rfl, by (repeat (first | exact Kept.refl _ _ | refine Kept.drewN ?_ _ | refine Kept.drew ?_ | refine Kept.setCell ?_ (by simp) _ | refine Kept.alloc ?_ _))⟩

set_option maxRecDepth 100000 in
set_option maxHeartbeats 1000000 in
theorem lzmac_Fits_0 {w : World} {A : CA} {ov tv : Value} {c : CO} (h : CoderW w A ov tv c) { l : Int} {b d : Nat} (hd : (d : Int) < 4294967296) (hlen : c.told.length < 1099511627776) (he' : c.ended = false) :
    Calls Try.prog 17 #[.pointer (some ⟨A.cb, 0, none⟩), pktv 0 b l d] w fun e w' =>
      e = .returned (.bool (c.fits 0 l d)) ∧ Kept (fun _ _ => False) w w' := by
  have c12 := h.a12.1
  have hcb := h.a12.lt
  rw [he'] at c12
  go_enter Try.func17, Try.ntmps17
  unfold pktv
  go_wp2_with fail
  go_ret
  exact ⟨ret_bool (by simp [CO.fits, he']), by (repeat (first | exact Kept.refl _ _ | refine Kept.drewN ?_ _ | refine Kept.drew ?_ | refine Kept.setCell ?_ (by simp) _ | refine Kept.alloc ?_ _))⟩

set_option maxRecDepth 100000 in
set_option maxHeartbeats 1000000 in
theorem lzmac_Fits_7 {w : World} {A : CA} {ov tv : Value} {c : CO} (h : CoderW w A ov tv c) { l : Int} {b d : Nat} (hd : (d : Int) < 4294967296) (hlen : c.told.length < 1099511627776) (he' : c.ended = false) :
    Calls Try.prog 17 #[.pointer (some ⟨A.cb, 0, none⟩), pktv 7 b l d] w fun e w' =>
      e = .returned (.bool (c.fits 7 l d)) ∧ Kept (fun _ _ => False) w w' := by
  have c12 := h.a12.1
  have hcb := h.a12.lt
  rw [he'] at c12
  go_enter Try.func17, Try.ntmps17
  unfold pktv
  go_wp2_with fail
  go_ret
  exact ⟨ret_bool (by simp [CO.fits, he']), by (repeat (first | exact Kept.refl _ _ | refine Kept.drewN ?_ _ | refine Kept.drew ?_ | refine Kept.setCell ?_ (by simp) _ | refine Kept.alloc ?_ _))⟩

set_option maxRecDepth 100000 in
set_option maxHeartbeats 1000000 in
theorem lzmac_Fits_6 {w : World} {A : CA} {ov tv : Value} {c : CO} (h : CoderW w A ov tv c) { l : Int} {b d : Nat} (hd : (d : Int) < 4294967296) (hlen : c.told.length < 1099511627776) (he' : c.ended = false) :
    Calls Try.prog 17 #[.pointer (some ⟨A.cb, 0, none⟩), pktv 6 b l d] w fun e w' =>
      e = .returned (.bool (c.fits 6 l d)) ∧ Kept (fun _ _ => False) w w' := by
  have c12 := h.a12.1
  have hcb := h.a12.lt
  rw [he'] at c12
  go_enter Try.func17, Try.ntmps17
  unfold pktv
  go_wp2_with fail
  have K0 : Kept (fun _ _ => False) w (w.alloc (.cells #[.int .i64 6, .int .u8 (b : Nat), .int .i64 l, .int .u32 (d : Nat)] 26)) := Kept.of_alloc _ _ _
  have H0 := h.kept K0 (by simp)
  refine (lzmac_reach (k := 6) (l := l) (b := b) (d := d) H0 (by omega)).mono ?_
  rintro e w1 ⟨rfl, K1⟩
  have H1 := H0.kept K1 (by simp)
  have hrl := CO.reach_lt h.may (k := 6) hd
  obtain ⟨r, hr⟩ : ∃ r, r = c.reach 6 d := ⟨_, rfl⟩
  rw [← hr] at hrl
  rw [← hr]
  have HR := Lib.hid hr
  clear hr
  go_wp2_with fail
  refine (lzmac_back H1 (d := r) rfl hrl hlen).mono ?_
  rintro e w2 ⟨rfl, rfl⟩
  go_wp2_with fail
  go_ret
  exact ⟨ret_bool (by simp [CO.fits, he', ← HR.out]), K0.trans K1⟩

set_option maxRecDepth 100000 in
set_option maxHeartbeats 1000000 in
theorem lzmac_Fits_1 {w : World} {A : CA} {ov tv : Value} {c : CO} (h : CoderW w A ov tv c) { l : Int} {b d : Nat} (hd : (d : Int) < 4294967296) (hlen : c.told.length < 1099511627776) (he' : c.ended = false) :
    Calls Try.prog 17 #[.pointer (some ⟨A.cb, 0, none⟩), pktv 1 b l d] w fun e w' =>
      e = .returned (.bool (c.fits 1 l d)) ∧ Kept (fun _ _ => False) w w' := by
  have c12 := h.a12.1
  have hcb := h.a12.lt
  rw [he'] at c12
  by_cases h2 : l < 2
  · have t2 : decide (l < 2) = true := decide_eq_true h2
    have hq : CO.fits c 1 l d = false := by simp [CO.fits, he']; omega
    rw [hq]
    clear hq h2
    go_enter Try.func17, Try.ntmps17
    unfold pktv
    go_wp2_with fail
    go_ret
    exact ⟨rfl, by (repeat (first | exact Kept.refl _ _ | refine Kept.drewN ?_ _ | refine Kept.drew ?_ | refine Kept.setCell ?_ (by simp) _ | refine Kept.alloc ?_ _))⟩
  · by_cases h3 : 273 < l
    · have t2 : decide (l < 2) = false := decide_eq_false h2
      have t3 : decide (273 < l) = true := decide_eq_true h3
      have hq : CO.fits c 1 l d = false := by simp [CO.fits, he']; omega
      rw [hq]
      clear hq h2 h3
      go_enter Try.func17, Try.ntmps17
      unfold pktv
      go_wp2_with fail
      go_ret
      exact ⟨rfl, by (repeat (first | exact Kept.refl _ _ | refine Kept.drewN ?_ _ | refine Kept.drew ?_ | refine Kept.setCell ?_ (by simp) _ | refine Kept.alloc ?_ _))⟩
    · have t2 : decide (l < 2) = false := decide_eq_false h2
      have t3 : decide (273 < l) = false := decide_eq_false h3
      have L2 := Lib.hid h2
      have L3 := Lib.hid h3
      clear h2 h3
      go_enter Try.func17, Try.ntmps17
      unfold pktv
      go_wp2_with fail
      have K0 : Kept (fun _ _ => False) w (w.alloc (.cells #[.int .i64 1, .int .u8 (b : Nat), .int .i64 l, .int .u32 (d : Nat)] 26)) := Kept.of_alloc _ _ _
      have H0 := h.kept K0 (by simp)
      refine (lzmac_reach (k := 1) (l := l) (b := b) (d := d) H0 (by omega)).mono ?_
      rintro e w1 ⟨rfl, K1⟩
      have H1 := H0.kept K1 (by simp)
      have hrl := CO.reach_lt h.may (k := 1) hd
      obtain ⟨r, hr⟩ : ∃ r, r = c.reach 1 d := ⟨_, rfl⟩
      rw [← hr] at hrl
      rw [← hr]
      have HR := Lib.hid hr
      clear hr
      go_wp2_with fail
      refine (lzmac_back H1 (d := r) rfl hrl hlen).mono ?_
      rintro e w2 ⟨rfl, rfl⟩
      go_wp2_with fail
      go_ret
      exact ⟨ret_bool (by simp [CO.fits, he', ← HR.out, L2.out, L3.out]), K0.trans K1⟩

set_option maxRecDepth 100000 in
set_option maxHeartbeats 1000000 in
theorem lzmac_Fits_2 {w : World} {A : CA} {ov tv : Value} {c : CO} (h : CoderW w A ov tv c) { l : Int} {b d : Nat} (hd : (d : Int) < 4294967296) (hlen : c.told.length < 1099511627776) (he' : c.ended = false) :
    Calls Try.prog 17 #[.pointer (some ⟨A.cb, 0, none⟩), pktv 2 b l d] w fun e w' =>
      e = .returned (.bool (c.fits 2 l d)) ∧ Kept (fun _ _ => False) w w' := by
  have c12 := h.a12.1
  have hcb := h.a12.lt
  rw [he'] at c12
  by_cases h2 : l < 2
  · have t2 : decide (l < 2) = true := decide_eq_true h2
    have hq : CO.fits c 2 l d = false := by simp [CO.fits, he']; omega
    rw [hq]
    clear hq h2
    go_enter Try.func17, Try.ntmps17
    unfold pktv
    go_wp2_with fail
    go_ret
    exact ⟨rfl, by (repeat (first | exact Kept.refl _ _ | refine Kept.drewN ?_ _ | refine Kept.drew ?_ | refine Kept.setCell ?_ (by simp) _ | refine Kept.alloc ?_ _))⟩
  · by_cases h3 : 273 < l
    · have t2 : decide (l < 2) = false := decide_eq_false h2
      have t3 : decide (273 < l) = true := decide_eq_true h3
      have hq : CO.fits c 2 l d = false := by simp [CO.fits, he']; omega
      rw [hq]
      clear hq h2 h3
      go_enter Try.func17, Try.ntmps17
      unfold pktv
      go_wp2_with fail
      go_ret
      exact ⟨rfl, by (repeat (first | exact Kept.refl _ _ | refine Kept.drewN ?_ _ | refine Kept.drew ?_ | refine Kept.setCell ?_ (by simp) _ | refine Kept.alloc ?_ _))⟩
    · have t2 : decide (l < 2) = false := decide_eq_false h2
      have t3 : decide (273 < l) = false := decide_eq_false h3
      have L2 := Lib.hid h2
      have L3 := Lib.hid h3
      clear h2 h3
      go_enter Try.func17, Try.ntmps17
      unfold pktv
      go_wp2_with fail
      have K0 : Kept (fun _ _ => False) w (w.alloc (.cells #[.int .i64 2, .int .u8 (b : Nat), .int .i64 l, .int .u32 (d : Nat)] 26)) := Kept.of_alloc _ _ _
      have H0 := h.kept K0 (by simp)
      refine (lzmac_reach (k := 2) (l := l) (b := b) (d := d) H0 (by omega)).mono ?_
      rintro e w1 ⟨rfl, K1⟩
      have H1 := H0.kept K1 (by simp)
      have hrl := CO.reach_lt h.may (k := 2) hd
      obtain ⟨r, hr⟩ : ∃ r, r = c.reach 2 d := ⟨_, rfl⟩
      rw [← hr] at hrl
      rw [← hr]
      have HR := Lib.hid hr
      clear hr
      go_wp2_with fail
      refine (lzmac_back H1 (d := r) rfl hrl hlen).mono ?_
      rintro e w2 ⟨rfl, rfl⟩
      go_wp2_with fail
      go_ret
      exact ⟨ret_bool (by simp [CO.fits, he', ← HR.out, L2.out, L3.out]), K0.trans K1⟩

set_option maxRecDepth 100000 in
set_option maxHeartbeats 1000000 in
theorem lzmac_Fits_3 {w : World} {A : CA} {ov tv : Value} {c : CO} (h : CoderW w A ov tv c) { l : Int} {b d : Nat} (hd : (d : Int) < 4294967296) (hlen : c.told.length < 1099511627776) (he' : c.ended = false) :
    Calls Try.prog 17 #[.pointer (some ⟨A.cb, 0, none⟩), pktv 3 b l d] w fun e w' =>
      e = .returned (.bool (c.fits 3 l d)) ∧ Kept (fun _ _ => False) w w' := by
  have c12 := h.a12.1
  have hcb := h.a12.lt
  rw [he'] at c12
  by_cases h2 : l < 2
  · have t2 : decide (l < 2) = true := decide_eq_true h2
    have hq : CO.fits c 3 l d = false := by simp [CO.fits, he']; omega
    rw [hq]
    clear hq h2
    go_enter Try.func17, Try.ntmps17
    unfold pktv
    go_wp2_with fail
    go_ret
    exact ⟨rfl, by (repeat (first | exact Kept.refl _ _ | refine Kept.drewN ?_ _ | refine Kept.drew ?_ | refine Kept.setCell ?_ (by simp) _ | refine Kept.alloc ?_ _))⟩
  · by_cases h3 : 273 < l
    · have t2 : decide (l < 2) = false := decide_eq_false h2
      have t3 : decide (273 < l) = true := decide_eq_true h3
      have hq : CO.fits c 3 l d = false := by simp [CO.fits, he']; omega
      rw [hq]
      clear hq h2 h3
      go_enter Try.func17, Try.ntmps17
      unfold pktv
      go_wp2_with fail
      go_ret
      exact ⟨rfl, by (repeat (first | exact Kept.refl _ _ | refine Kept.drewN ?_ _ | refine Kept.drew ?_ | refine Kept.setCell ?_ (by simp) _ | refine Kept.alloc ?_ _))⟩
    · have t2 : decide (l < 2) = false := decide_eq_false h2
      have t3 : decide (273 < l) = false := decide_eq_false h3
      have L2 := Lib.hid h2
      have L3 := Lib.hid h3
      clear h2 h3
      go_enter Try.func17, Try.ntmps17
      unfold pktv
      go_wp2_with fail
      have K0 : Kept (fun _ _ => False) w (w.alloc (.cells #[.int .i64 3, .int .u8 (b : Nat), .int .i64 l, .int .u32 (d : Nat)] 26)) := Kept.of_alloc _ _ _
      have H0 := h.kept K0 (by simp)
      refine (lzmac_reach (k := 3) (l := l) (b := b) (d := d) H0 (by omega)).mono ?_
      rintro e w1 ⟨rfl, K1⟩
      have H1 := H0.kept K1 (by simp)
      have hrl := CO.reach_lt h.may (k := 3) hd
      obtain ⟨r, hr⟩ : ∃ r, r = c.reach 3 d := ⟨_, rfl⟩
      rw [← hr] at hrl
      rw [← hr]
      have HR := Lib.hid hr
      clear hr
      go_wp2_with fail
      refine (lzmac_back H1 (d := r) rfl hrl hlen).mono ?_
      rintro e w2 ⟨rfl, rfl⟩
      go_wp2_with fail
      go_ret
      exact ⟨ret_bool (by simp [CO.fits, he', ← HR.out, L2.out, L3.out]), K0.trans K1⟩

set_option maxRecDepth 100000 in
set_option maxHeartbeats 1000000 in
theorem lzmac_Fits_4 {w : World} {A : CA} {ov tv : Value} {c : CO} (h : CoderW w A ov tv c) { l : Int} {b d : Nat} (hd : (d : Int) < 4294967296) (hlen : c.told.length < 1099511627776) (he' : c.ended = false) :
    Calls Try.prog 17 #[.pointer (some ⟨A.cb, 0, none⟩), pktv 4 b l d] w fun e w' =>
      e = .returned (.bool (c.fits 4 l d)) ∧ Kept (fun _ _ => False) w w' := by
  have c12 := h.a12.1
  have hcb := h.a12.lt
  rw [he'] at c12
  by_cases h2 : l < 2
  · have t2 : decide (l < 2) = true := decide_eq_true h2
    have hq : CO.fits c 4 l d = false := by simp [CO.fits, he']; omega
    rw [hq]
    clear hq h2
    go_enter Try.func17, Try.ntmps17
    unfold pktv
    go_wp2_with fail
    go_ret
    exact ⟨rfl, by (repeat (first | exact Kept.refl _ _ | refine Kept.drewN ?_ _ | refine Kept.drew ?_ | refine Kept.setCell ?_ (by simp) _ | refine Kept.alloc ?_ _))⟩
  · by_cases h3 : 273 < l
    · have t2 : decide (l < 2) = false := decide_eq_false h2
      have t3 : decide (273 < l) = true := decide_eq_true h3
      have hq : CO.fits c 4 l d = false := by simp [CO.fits, he']; omega
      rw [hq]
      clear hq h2 h3
      go_enter Try.func17, Try.ntmps17
      unfold pktv
      go_wp2_with fail
      go_ret
      exact ⟨rfl, by (repeat (first | exact Kept.refl _ _ | refine Kept.drewN ?_ _ | refine Kept.drew ?_ | refine Kept.setCell ?_ (by simp) _ | refine Kept.alloc ?_ _))⟩
    · have t2 : decide (l < 2) = false := decide_eq_false h2
      have t3 : decide (273 < l) = false := decide_eq_false h3
      have L2 := Lib.hid h2
      have L3 := Lib.hid h3
      clear h2 h3
      go_enter Try.func17, Try.ntmps17
      unfold pktv
      go_wp2_with fail
      have K0 : Kept (fun _ _ => False) w (w.alloc (.cells #[.int .i64 4, .int .u8 (b : Nat), .int .i64 l, .int .u32 (d : Nat)] 26)) := Kept.of_alloc _ _ _
      have H0 := h.kept K0 (by simp)
      refine (lzmac_reach (k := 4) (l := l) (b := b) (d := d) H0 (by omega)).mono ?_
      rintro e w1 ⟨rfl, K1⟩
      have H1 := H0.kept K1 (by simp)
      have hrl := CO.reach_lt h.may (k := 4) hd
      obtain ⟨r, hr⟩ : ∃ r, r = c.reach 4 d := ⟨_, rfl⟩
      rw [← hr] at hrl
      rw [← hr]
      have HR := Lib.hid hr
      clear hr
      go_wp2_with fail
      refine (lzmac_back H1 (d := r) rfl hrl hlen).mono ?_
      rintro e w2 ⟨rfl, rfl⟩
      go_wp2_with fail
      go_ret
      exact ⟨ret_bool (by simp [CO.fits, he', ← HR.out, L2.out, L3.out]), K0.trans K1⟩

set_option maxRecDepth 100000 in
set_option maxHeartbeats 1000000 in
theorem lzmac_Fits_5 {w : World} {A : CA} {ov tv : Value} {c : CO} (h : CoderW w A ov tv c) { l : Int} {b d : Nat} (hd : (d : Int) < 4294967296) (hlen : c.told.length < 1099511627776) (he' : c.ended = false) :
    Calls Try.prog 17 #[.pointer (some ⟨A.cb, 0, none⟩), pktv 5 b l d] w fun e w' =>
      e = .returned (.bool (c.fits 5 l d)) ∧ Kept (fun _ _ => False) w w' := by
  have c12 := h.a12.1
  have hcb := h.a12.lt
  rw [he'] at c12
  by_cases h2 : l < 2
  · have t2 : decide (l < 2) = true := decide_eq_true h2
    have hq : CO.fits c 5 l d = false := by simp [CO.fits, he']; omega
    rw [hq]
    clear hq h2
    go_enter Try.func17, Try.ntmps17
    unfold pktv
    go_wp2_with fail
    go_ret
    exact ⟨rfl, by (repeat (first | exact Kept.refl _ _ | refine Kept.drewN ?_ _ | refine Kept.drew ?_ | refine Kept.setCell ?_ (by simp) _ | refine Kept.alloc ?_ _))⟩
  · by_cases h3 : 273 < l
    · have t2 : decide (l < 2) = false := decide_eq_false h2
      have t3 : decide (273 < l) = true := decide_eq_true h3
      have hq : CO.fits c 5 l d = false := by simp [CO.fits, he']; omega
      rw [hq]
      clear hq h2 h3
      go_enter Try.func17, Try.ntmps17
      unfold pktv
      go_wp2_with fail
      go_ret
      exact ⟨rfl, by (repeat (first | exact Kept.refl _ _ | refine Kept.drewN ?_ _ | refine Kept.drew ?_ | refine Kept.setCell ?_ (by simp) _ | refine Kept.alloc ?_ _))⟩
    · have t2 : decide (l < 2) = false := decide_eq_false h2
      have t3 : decide (273 < l) = false := decide_eq_false h3
      have L2 := Lib.hid h2
      have L3 := Lib.hid h3
      clear h2 h3
      go_enter Try.func17, Try.ntmps17
      unfold pktv
      go_wp2_with fail
      have K0 : Kept (fun _ _ => False) w (w.alloc (.cells #[.int .i64 5, .int .u8 (b : Nat), .int .i64 l, .int .u32 (d : Nat)] 26)) := Kept.of_alloc _ _ _
      have H0 := h.kept K0 (by simp)
      refine (lzmac_reach (k := 5) (l := l) (b := b) (d := d) H0 (by omega)).mono ?_
      rintro e w1 ⟨rfl, K1⟩
      have H1 := H0.kept K1 (by simp)
      have hrl := CO.reach_lt h.may (k := 5) hd
      obtain ⟨r, hr⟩ : ∃ r, r = c.reach 5 d := ⟨_, rfl⟩
      rw [← hr] at hrl
      rw [← hr]
      have HR := Lib.hid hr
      clear hr
      go_wp2_with fail
      refine (lzmac_back H1 (d := r) rfl hrl hlen).mono ?_
      rintro e w2 ⟨rfl, rfl⟩
      go_wp2_with fail
      go_ret
      exact ⟨ret_bool (by simp [CO.fits, he', ← HR.out, L2.out, L3.out]), K0.trans K1⟩

theorem lzmac_Fits {w : World} {A : CA} {ov tv : Value} {c : CO} (h : CoderW w A ov tv c) {k l : Int} {b d : Nat} (hd : (d : Int) < 4294967296) (hlen : c.told.length < 1099511627776) :
    Calls Try.prog 17 #[.pointer (some ⟨A.cb, 0, none⟩), pktv k b l d] w fun e w' =>
      e = .returned (.bool (c.fits k l d)) ∧ Kept (fun _ _ => False) w w' := by
  by_cases hk : c.ended = true ∨ k < 0 ∨ 7 < k
  · exact lzmac_Fits_k h hd hlen hk
  · have he : c.ended = false := by simpa using fun h => hk (.inl h)
    obtain rfl | rfl | rfl | rfl | rfl | rfl | rfl | rfl : k = 0 ∨ k = 7 ∨ k = 6 ∨ k = 1 ∨ k = 2 ∨ k = 3 ∨ k = 4 ∨ k = 5 := by omega
    · exact lzmac_Fits_0 h hd hlen he
    · exact lzmac_Fits_7 h hd hlen he
    · exact lzmac_Fits_6 h hd hlen he
    · exact lzmac_Fits_1 h hd hlen he
    · exact lzmac_Fits_2 h hd hlen he
    · exact lzmac_Fits_3 h hd hlen he
    · exact lzmac_Fits_4 h hd hlen he
    · exact lzmac_Fits_5 h hd hlen he

end Go.Proofs.Ytahhcaooiahleaa
