/- Which packets tell bytes: the finder in memory; a pair; how far a copy goes; what is known. -/
import Derived.Test.YtahhcaooiahleaaParse0
import Derived.Test.YtahhcaooiahleaaTold
namespace Go.Proofs.Ytahhcaooiahleaa
open Go Go.RowKit

/-- Where a finder lies: its block, the last places', the ones ahead. -/
structure FA where
  fb : Nat
  lb : Nat
  ab : Nat
  bv : Value

structure FindW (w : World) (F : FA) (b : List Nat) (te dict : Nat) (r : R4) (kn : Nat) : Prop where
  f0 : At w F.fb 0 F.bv
  f1 : At w F.fb 1 (.int .i64 (te : Nat))
  f2 : At w F.fb 2 (.int .i64 (dict : Nat))
  f3 : At w F.fb 3 (.int .u32 (r.a : Nat))
  f4 : At w F.fb 4 (.int .u32 (r.b : Nat))
  f5 : At w F.fb 5 (.int .u32 (r.c : Nat))
  f6 : At w F.fb 6 (.int .u32 (r.d : Nat))
  f7 : At w F.fb 7 (.slice (some ⟨F.lb, 0, none⟩) 65536 65536)
  f8 : At w F.fb 8 (.slice (some ⟨F.ab, 0, none⟩) b.length b.length)
  f9 : At w F.fb 9 (.int .i64 (kn : Nat))
  bytes : BRow w F.bv b
  last : ∀ p, p < 65536 → At w F.lb p (.int .i64 (prev b p kn : Nat))
  ahead : ∀ j, j < b.length → ∃ x : Nat, At w F.ab j (.int .i64 x) ∧ (j < kn → x = prev b (pairAt b j) j)
  n1 : F.fb ≠ F.lb
  n2 : F.fb ≠ F.ab
  n3 : F.lb ≠ F.ab
  own : ∀ g, F.bv.ownBlock = some g → g ≠ F.fb ∧ g ≠ F.lb ∧ g ≠ F.ab
  small : ∀ x ∈ b, x < 256
  len : (b.length : Int) < 1099511627776
  to_le : te ≤ b.length
  d1 : 1 ≤ dict
  d2 : (dict : Int) < 4294967296
  kn_le : kn ≤ b.length
  ra : (r.a : Int) < 4294967296
  rb : (r.b : Int) < 4294967296
  rc : (r.c : Int) < 4294967296
  rd : (r.d : Int) < 4294967296

/-- A finder where nothing of it was written. -/
theorem FindW.kept {S : Nat → Nat → Prop} {w w' : World} {F : FA} {b : List Nat} {te dict : Nat} {r : R4} {kn : Nat} (h : FindW w F b te dict r kn) (k : Kept S w w') (hs : ∀ x, (x = F.fb ∨ x = F.lb ∨ x = F.ab ∨ F.bv.ownBlock = some x) → ∀ o, ¬ S x o) : FindW w' F b te dict r kn := by
  have h0 := hs F.fb (.inl rfl)
  exact ⟨k.at_ _ _ _ (h0 _) h.f0, k.at_ _ _ _ (h0 _) h.f1, k.at_ _ _ _ (h0 _) h.f2, k.at_ _ _ _ (h0 _) h.f3, k.at_ _ _ _ (h0 _) h.f4, k.at_ _ _ _ (h0 _) h.f5, k.at_ _ _ _ (h0 _) h.f6, k.at_ _ _ _ (h0 _) h.f7, k.at_ _ _ _ (h0 _) h.f8, k.at_ _ _ _ (h0 _) h.f9,
    h.bytes.kept k (fun g hg => hs g (.inr (.inr (.inr hg)))), fun p hp => k.at_ _ _ _ (hs _ (.inr (.inl rfl)) _) (h.last p hp), fun j hj => (h.ahead j hj).imp fun x hx => ⟨k.at_ _ _ _ (hs _ (.inr (.inr (.inl rfl))) _) hx.1, hx.2⟩,
    h.n1, h.n2, h.n3, h.own, h.small, h.len, h.to_le, h.d1, h.d2, h.kn_le, h.ra, h.rb, h.rc, h.rd⟩

theorem ret_int {k : IntKind} {a b : Int} (h : a = b) : Ending.returned (.int k a) = .returned (.int k b) := by rw [h]

theorem kept_drewN (w : World) (n : Nat) : Kept (fun _ _ => False) w (w.drewN n) := (Kept.refl _ _).drewN n

theorem pair_or (x y : Nat) (hx : x < 256) (hy : y < 256) : bits .or .i64 ((x : Int) * 256) (y : Int) = ((x * 256 + y : Nat) : Int) := by
  have h := i64_or_nat (x * 256) y (by omega) (by omega)
  have e : x * 256 ||| y = x * 256 + y := by
    have := Nat.shiftLeft_add_eq_or_of_lt (i := 8) (b := y) (by omega) x
    rw [Nat.shiftLeft_eq] at this
    exact this.symm
  rw [e] at h
  rw [← h]
  rw [show ((x * 256 : Nat) : Int) = (x : Int) * 256 from by omega]

theorem BRow.get {w : World} {v : Value} {l : List Nat} (h : BRow w v l) {i : Nat} (hi : i < l.length) : ∃ g o cap, v = .slice (some ⟨g, o, none⟩) l.length cap ∧ w.cell? ⟨g, o + i, none⟩ = some (.int .u8 (l.getD i 0 : Nat)) := by
  obtain ⟨ao, cap, hv, hc⟩ := h.form
  obtain ⟨g, o, rfl, hq⟩ := hc i _ (List.getElem?_eq_getElem hi)
  refine ⟨g, o, cap, hv, ?_⟩
  rw [hq]
  simp [List.getD, hi]

theorem getD_lt {l : List Nat} (h : ∀ x ∈ l, x < 256) (i : Nat) : l.getD i 0 < 256 := by
  rw [List.getD_eq_getElem?_getD]
  cases hx : l[i]? with
  | none => simp
  | some x => exact h x (List.mem_of_getElem? hx)

set_option maxRecDepth 100000 in
set_option maxHeartbeats 400000 in
theorem parse_pair {w : World} {F : FA} {b : List Nat} {te dict : Nat} {r : R4} {kn : Nat} (h : FindW w F b te dict r kn) {i : Nat} (hi : i + 1 < b.length) :
    Calls Try.prog 129 #[.pointer (some ⟨F.fb, 0, none⟩), .int .i64 (i : Nat)] w fun e w' => e = .returned (.int .i64 (pairAt b i : Nat)) ∧ ∃ n, w' = w.drewN n := by
  have c0 := h.f0.1
  obtain ⟨g, o, cap, hv, q0⟩ := h.bytes.get (i := i) (by omega)
  obtain ⟨g', o', cap', hv', q1⟩ := h.bytes.get (i := i + 1) (by omega)
  rw [hv] at hv' c0
  have hlen := h.len
  injection hv' with e1 e2 e3
  injection e1 with e1
  injection e1 with e4 e5
  subst e4 e5 e3
  have hx := getD_lt h.small i
  have hy := getD_lt h.small (i + 1)
  have hp : pairAt b i = b.getD i 0 * 256 + b.getD (i + 1) 0 := rfl
  obtain ⟨x, hx1⟩ : ∃ x, x = b.getD i 0 := ⟨_, rfl⟩
  obtain ⟨y, hy1⟩ : ∃ y, y = b.getD (i + 1) 0 := ⟨_, rfl⟩
  obtain ⟨n, hn⟩ : ∃ n, n = b.length := ⟨_, rfl⟩
  rw [← hn] at hlen c0 hi
  rw [← hx1] at hx hp q0
  rw [← hy1] at hy hp q1
  rw [hp]
  have hor := pair_or x y hx hy
  have t1 : (i : Int) + 1 < (n : Int) := by omega
  have t2 : (i : Int) < (n : Int) := by omega
  have q1' : w.cell? ⟨g, o + (i + 1), none⟩ = some (.int .u8 (y : Nat)) := q1
  have ew : IntKind.i64.wrap ((i : Int) + 1) = (i : Int) + 1 := IntWalk.i64_in _ (by omega)
  have hx' : (x : Int) < 256 := by omega
  have hy' : (y : Int) < 256 := by omega
  have e0 : (0 : Int) ≤ (i : Int) + 1 := by omega
  have en : ((i : Int) + 1).toNat = i + 1 := by omega
  clear hv hx1 hy1 hn hp hx hy q1 h e2
  go_enter Try.func129, Try.ntmps129
  go_wp2_with fail
  go_quiet (fail)
  go_wp2_with fail
  go_ret
  exact ⟨ret_int (by omega), _, rfl⟩


set_option maxRecDepth 100000 in
set_option maxHeartbeats 400000 in
theorem parse_length_no {w : World} {F : FA} {b : List Nat} {te dict : Nat} {r : R4} {kn : Nat} (h : FindW w F b te dict r kn) {i d : Nat} (hi : i ≤ te) (hd : (d : Int) < 1099511627776) (hn : i ≤ d ∨ dict ≤ d) :
    Calls Try.prog 94 #[.pointer (some ⟨F.fb, 0, none⟩), .int .i64 (i : Nat), .int .i64 (d : Nat)] w fun e w' => e = .returned (.int .i64 0) ∧ w' = w := by
  have c2 := h.f2.1
  have hlen := h.len
  have hto := h.to_le
  have hd2 := h.d2
  by_cases h1 : i ≤ d
  · have t1 : decide ((i : Int) ≤ (d : Int)) = true := decide_eq_true (by omega)
    have t2 : decide (i ≤ d) = true := decide_eq_true h1
    clear h1 hn
    go_enter Try.func94, Try.ntmps94
    go_wp2_with fail
    go_ret
    exact ⟨rfl, rfl⟩
  · have h2 : dict ≤ d := by omega
    have t1 : decide ((i : Int) ≤ (d : Int)) = false := decide_eq_false (by omega)
    have t2 : decide (i ≤ d) = false := decide_eq_false h1
    have t3 : decide ((dict : Int) ≤ (d : Int)) = true := decide_eq_true (by omega)
    have t4 : decide (dict ≤ d) = true := decide_eq_true h2
    clear h1 h2 hn
    go_enter Try.func94, Try.ntmps94
    go_wp2_with fail
    go_ret
    exact ⟨rfl, rfl⟩

set_option maxRecDepth 100000 in
set_option maxHeartbeats 1000000 in
theorem parse_length_yes {w : World} {F : FA} {b : List Nat} {te dict : Nat} {r : R4} {kn : Nat} (h : FindW w F b te dict r kn) {i d : Nat} (hi : i ≤ te) (h1 : d < i) (h2 : d < dict) :
    Calls Try.prog 94 #[.pointer (some ⟨F.fb, 0, none⟩), .int .i64 (i : Nat), .int .i64 (d : Nat)] w fun e w' => e = .returned (.int .i64 (mlen b i d (min 273 (te - i)) 0 : Nat)) ∧ ∃ n, w' = w.drewN n := by
  have c0 := h.f0.1
  have c1 := h.f1.1
  have c2 := h.f2.1
  have hlen := h.len
  have hto := h.to_le
  have hd2 := h.d2
  have t1 : decide ((i : Int) ≤ (d : Int)) = false := decide_eq_false (by omega)
  have t2 : decide (i ≤ d) = false := decide_eq_false (by omega)
  have t3 : decide ((dict : Int) ≤ (d : Int)) = false := decide_eq_false (by omega)
  have t4 : decide (dict ≤ d) = false := decide_eq_false (by omega)
  have HB := h.bytes
  have HS := h.small
  obtain ⟨N, hN⟩ : ∃ N, N = b.length := ⟨_, rfl⟩
  obtain ⟨M, hM⟩ : ∃ M, M = min 273 (te - i) := ⟨_, rfl⟩
  obtain ⟨T, hT⟩ : ∃ T, T = mlen b i d M 0 := ⟨_, rfl⟩
  rw [← hN] at hto hlen
  rw [← hM, ← hT]
  have hM1 : M ≤ te - i := by omega
  have hMI : (if (te : Int) - (i : Int) < 273 then (te : Int) - (i : Int) else 273) = (M : Int) := by split <;> omega
  have hMw : IntKind.i64.wrap ((te : Int) - (i : Int)) = (te : Int) - (i : Int) := IntWalk.i64_in _ (by omega)
  have HT := Lib.hid hT
  have HN := Lib.hid hN
  obtain ⟨ao, cap, hv, hrow⟩ := HB.form
  rw [hv, ← hN] at c0
  have hM0 : mlen b i d (M - 0) 0 = T := by rw [Nat.sub_zero]; exact hT.symm
  have hM2 : (M : Int) ≤ 273 := by omega
  have HR := Lib.hid hrow
  have HS2 := Lib.hid HS
  have HM0 := Lib.hid hM0
  clear hrow hN hM hT h HB HS hv hM0
  go_enter Try.func94, Try.ntmps94
  go_wp2_with fail
  go_quiet (fail)
  go_wp2_with fail
  clear hMI hMw
  obtain ⟨nq0, hnq0⟩ : ∃ y, y = nq := ⟨_, rfl⟩
  rw [← hnq0]
  clear hnq0
  go_loopw [7] (fun n wr => ∃ k m : Nat, k ≤ M ∧ n = .int .i64 (k : Nat) ∧ Hid (mlen b i d (M - k) k = T) ∧ wr = w.drewN m) (fun n _ => M - (intOf n).toNat)
  case atStart => exact ⟨0, _, Nat.zero_le _, rfl, HM0, rfl⟩
  case round =>
    obtain ⟨k, m, hk, rfl, HK, rfl⟩ := hrel
    by_cases hlt : k < M
    · have d1 : decide ((k : Int) < (M : Int)) = true := decide_eq_true (by omega)
      have d2 : decide (k < M) = true := decide_eq_true hlt
      have hmm : mlen b i d (M - k) k = if b.getD (i + k) 0 = b.getD (i + k - 1 - d) 0 then mlen b i d (M - (k + 1)) (k + 1) else k := by
        rw [show M - k = M - (k + 1) + 1 from by omega]
        rfl
      obtain ⟨p, hp⟩ : ∃ p, p = i + k := ⟨_, rfl⟩
      obtain ⟨q, hq⟩ : ∃ q, q = p - 1 - d := ⟨_, rfl⟩
      have hb1 : p < b.length := by rw [← HN.out]; omega
      have hb2 : q < b.length := by rw [← HN.out]; omega
      have ex := List.getElem?_eq_getElem hb1
      have ey := List.getElem?_eq_getElem hb2
      rw [← hp, ← hq] at hmm
      have gx : b[p] = b.getD p 0 := by simp [List.getD, hb1]
      have gy : b[q] = b.getD q 0 := by simp [List.getD, hb2]
      obtain ⟨x, hx⟩ : ∃ x, x = b.getD p 0 := ⟨_, rfl⟩
      obtain ⟨y, hy⟩ : ∃ y, y = b.getD q 0 := ⟨_, rfl⟩
      rw [gx, ← hx] at ex
      rw [gy, ← hy] at ey
      rw [← hx, ← hy] at hmm
      have hx6 : (x : Int) < 256 := by have := getD_lt HS2.out p; omega
      have hy6 : (y : Int) < 256 := by have := getD_lt HS2.out q; omega
      obtain ⟨g, o, rfl, q0⟩ := HR.out p x ex
      obtain ⟨g', o', ho', q1⟩ := HR.out q y ey
      injection ho' with ho'
      injection ho' with e4 e5
      subst e4 e5
      have HMM := Lib.hid hmm
      have HP := Lib.hid hp
      have HQ := Lib.hid hq
      have w1 : IntKind.i64.wrap ((i : Int) + (k : Int)) = (p : Int) := by rw [IntWalk.i64_in _ (by omega)]; omega
      have w2 : IntKind.i64.wrap ((p : Int) - 1) = (p : Int) - 1 := IntWalk.i64_in _ (by omega)
      have w3 : IntKind.i64.wrap ((p : Int) - 1 - (d : Int)) = (q : Int) := by rw [IntWalk.i64_in _ (by omega)]; omega
      have pn : (p : Int) < (N : Int) := by omega
      have qn : (q : Int) < (N : Int) := by omega
      clear hmm hp hq hb1 hb2 ex ey gx gy hx hy
      by_cases hxy : x = y
      · have hne : ((x : Int) != (y : Int)) = false := by simp [hxy]
        have HXY := Lib.hid hxy
        clear hxy
        go_wp2_with fail
        go_quiet (fail)
        go_wp2_with fail
        go_roundw
        case rel => exact ⟨k + 1, _, by omega, by go_num, by show mlen b i d (M - (k + 1)) (k + 1) = T; rw [← HK.out, HMM.out, if_pos HXY.out], rfl⟩
        case measure => simp [intOf]; omega
      · have hne : ((x : Int) != (y : Int)) = true := by simp; omega
        have HXY := Lib.hid hxy
        clear hxy
        go_wp2_with fail
        go_quiet (fail)
        go_wp2_with fail
        go_ret
        exact ⟨ret_int (by rw [← HK.out, HMM.out, if_neg HXY.out]), _, World.drewN_drewN _ _ _⟩
    · have d1 : decide ((k : Int) < (M : Int)) = false := decide_eq_false (by omega)
      have d2 : decide (k < M) = false := decide_eq_false hlt
      obtain rfl : k = M := by omega
      go_wp2_with fail
      go_ret
      exact ⟨ret_int (by have := HK.out; rw [Nat.sub_self] at this; rw [← this]; rfl), _, rfl⟩

end Go.Proofs.Ytahhcaooiahleaa
