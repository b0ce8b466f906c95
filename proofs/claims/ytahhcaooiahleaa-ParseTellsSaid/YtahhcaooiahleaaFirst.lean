/- garblerlaw09.LzmacFirst: the walk. -/
import Derived.Test.YtahhcaooiahleaaAwake9
namespace Go.Proofs.Ytahhcaooiahleaa
open Go Go.RowKit

/-- What a coder's state keeps. -/
structure CSOk (s : CS) (n : Nat) : Prop where
  e : s.e.Ok
  p : POk s.P
  c : s.e.count ≤ n

theorem CSOk.bit {s : CS} {n : Nat} (h : CSOk s n) (j b : Nat) : CSOk (s.bit j b) (n + 1) := by
  have h1 := RE.bit_ok h.e (h.p j) b
  have h2 := turn_ok (h.p j) b
  exact ⟨h1.1, h.p.upd j h2.1 h2.2, Nat.le_trans h1.2 (by have := h.c; omega)⟩

theorem CSOk.litGo {base v o : Nat} (k : Nat) : ∀ {m : Nat} {same : Bool} {s : CS} {n : Nat}, CSOk s n → CSOk (s.litGo base v o k m same) (n + k) := by
  induction k with
  | zero => intro m same s n h; exact h
  | succ k ih =>
    intro m same s n h
    unfold CS.litGo
    have e : n + (k + 1) = n + 1 + k := by omega
    rw [e]
    split
    · exact ih (h.bit _ _)
    · exact ih (h.bit _ _)

theorem CO.codeLit_ok {c : CO} {n : Nat} (h : CSOk c.enc n) (b : Nat) : CSOk (c.codeLit b).enc (n + 9) := by
  have := CSOk.litGo (base := 1847 + 768 * c.litAt) (v := b) (o := c.at_ c.r0) 8 (m := 1) (same := decide (7 ≤ c.state)) (h.bit (16 * c.state + c.ctx) 0)
  exact this

/-- The coder behind n literals. -/
def CO.lits (c : CO) : Nat → CO
  | 0 => c
  | k + 1 => (CO.lits c k).codeLit k

theorem CO.lits_told (c : CO) (k : Nat) : (c.lits k).told.length = c.told.length + k := by
  induction k with
  | zero => rfl
  | succ k ih => show ((c.lits k).told ++ [k]).length = _; rw [List.length_append, ih]; simp; omega
theorem CO.lits_same (c : CO) (k : Nat) : (c.lits k).ended = c.ended ∧ (c.lits k).dict = c.dict ∧ (c.lits k).n = c.n := by
  induction k with
  | zero => exact ⟨rfl, rfl, rfl⟩
  | succ k ih => exact ih
theorem CO.lits_ok {c : CO} (h : CSOk c.enc 5) (k : Nat) : CSOk (c.lits k).enc (5 + 9 * k) := by
  induction k with
  | zero => exact h
  | succ k ih => have := CO.codeLit_ok ih k; rw [show 5 + 9 * (k + 1) = 5 + 9 * k + 9 from by omega]; exact this

theorem fits_new {lc lp pb dict : Nat} (z : Int) : (CO.new lc lp pb dict).fits z 2 0 = (decide (z = 0) || decide (z = 7)) := by
  simp [CO.fits, CO.new, CO.is]

theorem fits_lits {lc lp pb dict : Nat} (n : Nat) (l : Int) (d : Nat) : ((CO.new lc lp pb dict).lits n).fits 1 l d = (decide (2 ≤ l) && decide (l ≤ 273) && decide (d < n) && decide (d < dict)) := by
  have h1 := CO.lits_told (CO.new lc lp pb dict) n
  obtain ⟨h2, h3, _⟩ := CO.lits_same (CO.new lc lp pb dict) n
  have h4 : (CO.new lc lp pb dict).told.length = 0 := rfl
  have h5 : (CO.new lc lp pb dict).ended = false := rfl
  have h6 : (CO.new lc lp pb dict).dict = dict := rfl
  simp [CO.fits, CO.reach, CO.is, h1, h2, h3, h4, h5, h6, Bool.and_assoc]

theorem new_ok {lc lp pb dict : Nat} : CSOk (CO.new lc lp pb dict).enc 5 := ⟨RE.new_ok, fun j => by simp [CO.new], by show (5 : Nat) ≤ 5; decide⟩


set_option maxRecDepth 100000 in
set_option maxHeartbeats 1000000 in
theorem law09_First_no {a b c d : Int} {n : Nat} {k l : Int} {x dist : Nat} (w : World) (hM : mayB a b c d = false) :
    Calls Try.prog 3 #[.agg #[.int .i64 a, .int .i64 b, .int .i64 c, .int .i64 d], .int .u8 (n : Nat), pktv k x l dist] w fun e w' => e = .returned (.bool true) ∧ Kept (fun _ _ => False) w w' := by
  unfold pktv
  go_enter Try.func3, Try.ntmps3
  go_wp2_with fail
  refine law09_awake.mono ?_
  rintro e w1 ⟨rfl, hK⟩
  obtain ⟨bx, hbx⟩ : ∃ bx, bx = w.heap.size := ⟨_, rfl⟩
  have c0 : w1.cell? ⟨bx, 0, none⟩ = some (.int .i64 a) := by rw [hbx]; exact hK.cellF (by simp)
  have c1 : w1.cell? ⟨bx, 1, none⟩ = some (.int .i64 b) := by rw [hbx]; exact hK.cellF (by simp)
  have c2 : w1.cell? ⟨bx, 2, none⟩ = some (.int .i64 c) := by rw [hbx]; exact hK.cellF (by simp)
  have c3 : w1.cell? ⟨bx, 3, none⟩ = some (.int .i64 d) := by rw [hbx]; exact hK.cellF (by simp)
  have p2 : w1.cell? ⟨bx + 1, 2, none⟩ = some (.int .i64 l) := by rw [hbx]; exact hK.cellF (by simp)
  have p3 : w1.cell? ⟨bx + 1, 3, none⟩ = some (.int .u32 (dist : Nat)) := by rw [hbx]; exact hK.cellF (by simp)
  have K1 : Kept (fun _ _ => False) w w1 := (((Kept.refl _ _).alloc _).alloc _).trans hK
  rw [← hbx]
  clear hbx hK
  go_wp2_with fail
  refine (law09_light_no _ hM).mono ?_
  rintro e w2 ⟨rfl, K2⟩
  have d0 := K2.cellF c0
  have d1 := K2.cellF c1
  have d2 := K2.cellF c2
  have d3 := K2.cellF c3
  go_wp2_with fail
  refine (ref08_May a b c d _).mono ?_
  rintro e w3 ⟨rfl, K3⟩
  rw [hM]
  go_wp2_with fail
  go_ret
  exact ⟨rfl, K1.trans (K2.trans K3)⟩

set_option maxRecDepth 100000 in
set_option maxHeartbeats 1000000 in
theorem law09_First_heavy {a b c d : Int} {n : Nat} {k l : Int} {x dist : Nat} (w : World) (hM : mayB a b c d = true) (h5 : ¬ a + b ≤ 5) :
    Calls Try.prog 3 #[.agg #[.int .i64 a, .int .i64 b, .int .i64 c, .int .i64 d], .int .u8 (n : Nat), pktv k x l dist] w fun e w' => e = .returned (.bool true) ∧ Kept (fun _ _ => False) w w' := by
  unfold pktv
  go_enter Try.func3, Try.ntmps3
  go_wp2_with fail
  refine law09_awake.mono ?_
  rintro e w1 ⟨rfl, hK⟩
  obtain ⟨bx, hbx⟩ : ∃ bx, bx = w.heap.size := ⟨_, rfl⟩
  have c0 : w1.cell? ⟨bx, 0, none⟩ = some (.int .i64 a) := by rw [hbx]; exact hK.cellF (by simp)
  have c1 : w1.cell? ⟨bx, 1, none⟩ = some (.int .i64 b) := by rw [hbx]; exact hK.cellF (by simp)
  have c2 : w1.cell? ⟨bx, 2, none⟩ = some (.int .i64 c) := by rw [hbx]; exact hK.cellF (by simp)
  have c3 : w1.cell? ⟨bx, 3, none⟩ = some (.int .i64 d) := by rw [hbx]; exact hK.cellF (by simp)
  have p2 : w1.cell? ⟨bx + 1, 2, none⟩ = some (.int .i64 l) := by rw [hbx]; exact hK.cellF (by simp)
  have p3 : w1.cell? ⟨bx + 1, 3, none⟩ = some (.int .u32 (dist : Nat)) := by rw [hbx]; exact hK.cellF (by simp)
  have K1 : Kept (fun _ _ => False) w w1 := (((Kept.refl _ _).alloc _).alloc _).trans hK
  rw [← hbx]
  clear hbx hK
  go_wp2_with fail
  refine (law09_light _ hM).mono ?_
  rintro e w2 ⟨rfl, K2⟩
  rw [decide_eq_false (Int.not_le.2 (by omega))]
  go_wp2_with fail
  go_ret
  exact ⟨rfl, K1.trans K2⟩

set_option maxRecDepth 100000 in
set_option maxHeartbeats 2000000 in
theorem law09_First_yes {lc lp pb dict : Nat} {n : Nat} {k l : Int} {x dist : Nat} (w : World) (hM : mayB lc lp pb dict = true) (h5 : (lc : Int) + lp ≤ 5) (hn : n < 256) (hd : (dist : Int) < 4294967296) :
    Calls Try.prog 3 #[.agg #[.int .i64 lc, .int .i64 lp, .int .i64 pb, .int .i64 dict], .int .u8 (n : Nat), pktv k x l dist] w fun e w' => e = .returned (.bool true) ∧ Kept (fun _ _ => False) w w' := by
  obtain ⟨a, ha⟩ : ∃ a, a = (lc : Int) := ⟨_, rfl⟩
  obtain ⟨b, hb⟩ : ∃ b, b = (lp : Int) := ⟨_, rfl⟩
  obtain ⟨c, hc⟩ : ∃ c, c = (pb : Int) := ⟨_, rfl⟩
  obtain ⟨d, hdd⟩ : ∃ d, d = (dict : Int) := ⟨_, rfl⟩
  rw [← ha, ← hb, ← hc, ← hdd]
  rw [← ha, ← hb, ← hc, ← hdd] at hM
  rw [← ha, ← hb] at h5
  have HA := Lib.hid ha
  have HB := Lib.hid hb
  have HC := Lib.hid hc
  have HD := Lib.hid hdd
  clear ha hb hc hdd
  unfold pktv
  go_enter Try.func3, Try.ntmps3
  go_wp2_with fail
  refine law09_awake.mono ?_
  rintro e w1 ⟨rfl, hK⟩
  obtain ⟨bx, hbx⟩ : ∃ bx, bx = w.heap.size := ⟨_, rfl⟩
  have c0 : w1.cell? ⟨bx, 0, none⟩ = some (.int .i64 a) := by rw [hbx]; exact hK.cellF (by simp)
  have c1 : w1.cell? ⟨bx, 1, none⟩ = some (.int .i64 b) := by rw [hbx]; exact hK.cellF (by simp)
  have c2 : w1.cell? ⟨bx, 2, none⟩ = some (.int .i64 c) := by rw [hbx]; exact hK.cellF (by simp)
  have c3 : w1.cell? ⟨bx, 3, none⟩ = some (.int .i64 d) := by rw [hbx]; exact hK.cellF (by simp)
  have p2 : w1.cell? ⟨bx + 1, 2, none⟩ = some (.int .i64 l) := by rw [hbx]; exact hK.cellF (by simp)
  have p3 : w1.cell? ⟨bx + 1, 3, none⟩ = some (.int .u32 (dist : Nat)) := by rw [hbx]; exact hK.cellF (by simp)
  have K1 : Kept (fun _ _ => False) w w1 := (((Kept.refl _ _).alloc _).alloc _).trans hK
  rw [← hbx]
  clear hbx hK
  go_wp2_with fail
  refine (law09_light _ hM).mono ?_
  rintro e w2 ⟨rfl, K2⟩
  rw [decide_eq_true h5]
  have d0 := K2.cellF c0
  have d1 := K2.cellF c1
  have d2 := K2.cellF c2
  have d3 := K2.cellF c3
  go_wp2_with fail
  refine (ref08_May a b c d _).mono ?_
  rintro e w3 ⟨rfl, K3⟩
  rw [hM]
  have e0 := K3.cellF d0
  have e1 := K3.cellF d1
  have e2 := K3.cellF d2
  have e3 := K3.cellF d3
  have K13 := K1.trans (K2.trans K3)
  clear c0 c1 c2 d0 d1 d2 d3
  go_wp2_with fail
  have hN := lzmac_New_yes (w := w3) (lc := lc) (lp := lp) (pb := pb) (dict := dict) (by rw [← HA.out, ← HB.out, ← HC.out, ← HD.out]; exact hM)
  unfold setv at hN
  rw [← HA.out, ← HB.out, ← HC.out, ← HD.out] at hN
  refine hN.mono ?_
  rintro e w4 ⟨A, rfl, hCo, K4, hF⟩
  have f3 := K4.cellF e3
  clear hN e0 e1 e2 e3
  have K14 := K13.trans K4
  have hF2 : ∀ b o, CoderS A (.slice none 0 0) (.slice none 0 0) (CO.new lc lp pb dict).n b o → w3.heap.size ≤ b := by
    intro b o hb
    refine hF b ?_
    rcases hb with hb | hb | hb | hb | hb
    · exact .inl (.inl hb)
    · simp [Value.ownBlock] at hb
    · exact .inr (.inl hb)
    · simp [Value.ownBlock] at hb
    · exact .inr (.inr hb)
  clear hF
  go_wp2_with fail
  go_loopw [11] (fun i wr => ∃ z : Int, -1 ≤ z ∧ z ≤ 10 ∧ i = .int .i64 z ∧ Kept (fun _ _ => False) w4 wr) (fun i _ => (10 - intOf i).toNat)
  case atStart => exact ⟨-1, by omega, by omega, rfl, Kept.refl _ _⟩
  case round =>
    obtain ⟨z, hz1, hz2, rfl, hK⟩ := hrel
    by_cases hlt : z ≤ 9
    · have hdd : decide (z ≤ 9) = true := decide_eq_true hlt
      go_wp2_with fail
      refine (lzmac_Fits (k := z) (l := 2) (b := 0) (d := 0) (hCo.kept hK (by simp)) (by decide) (by show (0 : Nat) < _; decide)).mono ?_
      rintro e w5 ⟨rfl, K5⟩
      rw [fits_new]
      have K45 := hK.trans K5
      by_cases hz0 : z = 0
      · subst hz0
        go_wp2_with fail
        go_roundw
        case rel => exact ⟨1, by omega, by omega, by go_num, K45⟩
        case measure => simp [intOf]
      · by_cases hz7 : z = 7
        · subst hz7
          go_wp2_with fail
          go_roundw
          case rel => exact ⟨8, by omega, by omega, by go_num, K45⟩
          case measure => simp [intOf]
        · have q0 : (z == 0) = false := beq_eq_false_iff_ne.2 hz0
          have q7 : (z == 7) = false := beq_eq_false_iff_ne.2 hz7
          rw [decide_eq_false hz0, decide_eq_false hz7]
          have Z0 := Lib.hid hz0
          have Z7 := Lib.hid hz7
          clear hz0 hz7
          go_wp2_with fail
          go_roundw
          case rel => exact ⟨z + 1, by omega, by omega, by go_num, K45⟩
          case measure => simp [intOf]; omega
    · obtain rfl : z = 10 := by omega
      go_wp2_with fail
      have hC5 := hCo.kept hK (by simp)
      have K15 := K14.trans hK
      have g3 := hK.cellF f3
      have hF5 : ∀ b o, CoderS A (.slice none 0 0) (.slice none 0 0) (CO.new lc lp pb dict).n b o → w3.heap.size ≤ b := hF2
      have K35 := K4.trans hK
      go_loopw [12] (fun i ww => ∃ (j : Nat) (ov tv : Value), j ≤ n ∧ i = .int .i64 j ∧ CStep wr ww A (.slice none 0 0) ov (.slice none 0 0) tv (CO.new lc lp pb dict).n ((CO.new lc lp pb dict).lits j) ∧ Kept (fun _ _ => False) w3 ww) (fun i _ => n - (intOf i).toNat)
      case atStart => exact ⟨0, _, _, Nat.zero_le _, rfl, CStep.refl hC5, K35⟩
      case round =>
        obtain ⟨j, ov, tv, hj, rfl, hS, hK2⟩ := hrel
        have hto := CO.lits_told (CO.new lc lp pb dict) j
        have hto0 : (CO.new lc lp pb dict).told.length = 0 := rfl
        obtain ⟨hsa, _, hsn⟩ := CO.lits_same (CO.new lc lp pb dict) j
        have hen : (CO.new lc lp pb dict).ended = false := rfl
        have hok := (CO.lits_ok (c := CO.new lc lp pb dict) new_ok j).c
        have HOK := Lib.hid (And.intro (And.intro hto hto0) (And.intro (And.intro hsa hsn) (And.intro hen hok)))
        clear hto hto0 hsa hsn hen hok
        by_cases hlt2 : j < n
        · have hdd2 : decide ((j : Int) < (n : Int)) = true := decide_eq_true (by omega)
          have hdd3 : decide (j < n) = true := decide_eq_true hlt2
          have hjb : (j : Int) < 256 := by omega
          go_wp2_with fail
          obtain ⟨⟨hto, hto0⟩, ⟨hsa, hsn⟩, hen, hok⟩ := HOK.out
          refine (lzmac_Code_lit hS.co (l := 0) (b := j) (d := 0) (by omega) (by decide) (by omega) (by omega) (by rw [hsa, hen])).mono ?_
          rintro e w6 ⟨rfl, ov2, tv2, hS2⟩
          rw [hsn] at hS2
          have hS3 := hS.trans hS2
          have K36 := hS3.fresh K35 hF5
          clear hto hto0 hsa hsn hen hok
          go_wp2_with fail
          go_roundw
          case rel => exact ⟨j + 1, ov2, tv2, by omega, by go_num, hS3, K36⟩
          case measure => simp [intOf]; omega
        · have hdd2 : decide ((j : Int) < (n : Int)) = false := decide_eq_false (by omega)
          have hdd3 : decide (j < n) = false := decide_eq_false hlt2
          obtain rfl : j = n := by omega
          go_wp2_with fail
          have hto := HOK.out.1.1
          have hto0 := HOK.out.1.2
          refine (lzmac_Fits (k := 1) (l := l) (b := 0) (d := dist) hS.co hd (by omega)).mono ?_
          rintro e w6 ⟨rfl, K6⟩
          rw [fits_lits]
          have K36 := hK2.trans K6
          have r6 := K36.cellF (K3.cellF (K2.cellF c3))
          rw [HD.out] at r6
          have KE := K13.trans K36
          clear hto hto0 c3 f3 g3 p2 p3
          by_cases b1 : 2 ≤ l
          · have q1 : decide (2 ≤ l) = true := decide_eq_true b1
            by_cases b2 : l ≤ 273
            · have q2 : decide (l ≤ 273) = true := decide_eq_true b2
              by_cases b3 : dist < j
              · have q3 : decide (dist < j) = true := decide_eq_true b3
                have q3' : decide ((dist : Int) < (j : Int)) = true := decide_eq_true (by omega)
                by_cases b4 : dist < dict
                · have q4 : decide (dist < dict) = true := decide_eq_true b4
                  have q4' : decide ((dist : Int) < (dict : Int)) = true := decide_eq_true (by omega)
                  rw [q1, q2, q3, q4]
                  go_wp2_with fail
                  go_ret
                  exact ⟨rfl, KE⟩
                · have q4 : decide (dist < dict) = false := decide_eq_false b4
                  have q4' : decide ((dist : Int) < (dict : Int)) = false := decide_eq_false (by omega)
                  rw [q1, q2, q3, q4]
                  go_wp2_with fail
                  go_ret
                  exact ⟨rfl, KE⟩
              · have q3 : decide (dist < j) = false := decide_eq_false b3
                have q3' : decide ((dist : Int) < (j : Int)) = false := decide_eq_false (by omega)
                rw [q1, q2, q3]
                go_wp2_with fail
                go_ret
                exact ⟨rfl, KE⟩
            · have q2 : decide (l ≤ 273) = false := decide_eq_false b2
              rw [q1, q2]
              go_wp2_with fail
              go_ret
              exact ⟨rfl, KE⟩
          · have q1 : decide (2 ≤ l) = false := decide_eq_false b1
            rw [q1]
            go_wp2_with fail
            go_ret
            exact ⟨rfl, KE⟩

theorem law09_First {a b c d : Int} {n : Nat} {k l : Int} {x dist : Nat} (w : World) (hn : n < 256) (hd : (dist : Int) < 4294967296) :
    Calls Try.prog 3 #[.agg #[.int .i64 a, .int .i64 b, .int .i64 c, .int .i64 d], .int .u8 (n : Nat), pktv k x l dist] w fun e w' => e = .returned (.bool true) ∧ Kept (fun _ _ => False) w w' := by
  cases hM : mayB a b c d with
  | false => exact law09_First_no w hM
  | true =>
    have hm : 0 ≤ a ∧ 0 ≤ b ∧ 0 ≤ c ∧ 0 ≤ d := by
      have hM2 := hM
      simp only [mayB, Bool.and_eq_true, decide_eq_true_eq] at hM2
      omega
    by_cases h5 : a + b ≤ 5
    · obtain ⟨h1, h2, h3, h4⟩ := hm
      obtain ⟨A, rfl⟩ := Int.eq_ofNat_of_zero_le h1
      obtain ⟨B, rfl⟩ := Int.eq_ofNat_of_zero_le h2
      obtain ⟨C, rfl⟩ := Int.eq_ofNat_of_zero_le h3
      obtain ⟨D, rfl⟩ := Int.eq_ofNat_of_zero_le h4
      exact law09_First_yes w hM h5 hn hd
    · exact law09_First_heavy w hM h5

end Go.Proofs.Ytahhcaooiahleaa
