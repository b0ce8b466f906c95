/- The coder of LZMA: the state behind; lengths. -/
import Derived.Test.YtahhcaooiahleaaCode1
namespace Go.Proofs.Ytahhcaooiahleaa
open Go Go.RowKit

set_option maxRecDepth 100000 in
set_option maxHeartbeats 400000 in
theorem lzmac_next {w : World} {A : CA} {ov tv : Value} {c : CO} (h : CoderW w A ov tv c) {y o : Nat} (hy : y < 12) (ho : o < 12) {zy zo : Int} (hzy : zy = (y : Int)) (hzo : zo = (o : Int)) :
    Calls Try.prog 49 #[.pointer (some ⟨A.cb, 0, none⟩), .int .i64 zy, .int .i64 zo] w fun e w' =>
      e = .returned (.tuple #[]) ∧ CStep w w' A ov ov tv tv c.n { c with state := if c.state < 7 then y else o } := by
  subst hzy hzo
  have c6 := h.a6.1
  have f6 := h.a6.2
  obtain ⟨st, hst⟩ : ∃ st, st = c.state := ⟨_, rfl⟩
  rw [← hst] at c6 ⊢
  clear hst
  by_cases h7 : st < 7
  · have d1 : decide ((st : Int) < 7) = true := decide_eq_true (by omega)
    rw [if_pos h7]
    clear h7
    go_enter Try.func49, Try.ntmps49
    go_wp2_with fail
    go_end0
    exact ⟨rfl, h.setState hy⟩
  · have d1 : decide ((st : Int) < 7) = false := decide_eq_false (by omega)
    rw [if_neg h7]
    clear h7
    go_enter Try.func49, Try.ntmps49
    go_wp2_with fail
    go_end0
    exact ⟨rfl, h.setState ho⟩

/-- A length. -/
def CS.len (s : CS) (base sx v : Nat) : CS :=
  if v < 8 then (s.bit base 0).tree (base + 2 + 8 * sx) 3 v
  else if v < 16 then ((s.bit base 1).bit (base + 1) 0).tree (base + 130 + 8 * sx) 3 (v - 8)
  else ((s.bit base 1).bit (base + 1) 1).tree (base + 258) 8 (v - 16)

theorem CLens.step {w w' : World} {X : Nat → Prop} {lb : Nat} {pa : Nat → Nat × Nat} {base : Nat} {eb : Nat} {ov ov' : Value} {n : Nat} {s : CS} (h : CLens w X lb pa base) (ha : Apart w eb ov pa n X) (k : EncStep w w' eb ov ov' pa n s) : CLens w' X lb pa base :=
  h.kept k.kept (fun _ hb o => ha.not hb o)

theorem EncW.count {w : World} {eb : Nat} {ov : Value} {pa : Nat → Nat × Nat} {n : Nat} {s : CS} {j b : Nat} (h : EncW w eb ov pa n s) : (s.bit j b).e.count ≤ s.e.count + 1 := (RE.bit_ok h.ok (h.pok j) b).2

set_option maxRecDepth 100000 in
set_option maxHeartbeats 1000000 in
theorem lens_tell {w : World} {eb : Nat} {ov : Value} {pa : Nat → Nat × Nat} {n : Nat} {s : CS} (h : EncW w eb ov pa n s) {X : Nat → Prop} {lb base : Nat} (hL : CLens w X lb pa base) (ha : Apart w eb ov pa n X) (hb : base + 514 ≤ n)
    {sx v : Nat} (hsx : sx < 16) (hv : v < 272) {zs zv : Int} (hzs : zs = (sx : Int)) (hzv : zv = (v : Int)) (hn : s.e.count + 20 < 1099511627776) :
    Calls Try.prog 48 #[.pointer (some ⟨lb, 0, none⟩), .pointer (some ⟨eb, 0, none⟩), .int .i64 zs, .int .i64 zv] w fun e w' =>
      e = .returned (.tuple #[]) ∧ ∃ ov', EncStep w w' eb ov ov' pa n (s.len base sx v) := by
  subst hzs hzv
  obtain ⟨gw, hw1, hw2⟩ := hL.which.2
  have p0 := hw1.1
  have hw3 := hw2 0 (by decide)
  have hw4 := hw2 1 (by decide)
  have HW3 := Lib.hid hw3
  have HW4 := Lib.hid hw4
  have isx : (sx : Int) < 16 := by omega
  have iv : (v : Int) < 272 := by omega
  clear hw2 hw3 hw4
  by_cases h8 : v < 8
  · have d8 : decide ((v : Int) < 8) = true := decide_eq_true (by omega)
    have hfin : s.len base sx v = (s.bit base 0).tree (base + 2 + 8 * sx) 3 v := by unfold CS.len; rw [if_pos h8]
    rw [hfin]
    clear h8 hfin
    go_enter Try.func48, Try.ntmps48
    go_wp2_with fail
    refine (renc_Bit h (j := base + 0) (by omega) (by rw [HW3.out]) rfl (by omega)).mono ?_
    rintro e w1 ⟨rfl, ov1, S1⟩
    have hL1 := hL.step ha S1
    have hc1 := EncW.count (j := base + 0) (b := 0) h
    obtain ⟨om, cm, _, hm1, hm2⟩ := hL1.low.2
    obtain ⟨gm, hm3, hm4⟩ := hm2 sx hsx
    have q1 := hm1.1
    have q2 := hm3.1
    have HM4 := Lib.hid hm4
    clear hm2 hm4 p0
    go_wp2_with fail
    refine (renc_Tree S1.enc (nb := 3) (v := v) (base := base + 2 + 8 * sx) ⟨fun i hi => by rw [HM4.out i hi, Nat.zero_add], by omega⟩ (by decide) (by decide) (by decide) (by omega) rfl rfl (by omega)).mono ?_
    rintro e w2 ⟨rfl, ov2, S2⟩
    go_wp2_with fail
    go_end0
    exact ⟨rfl, ov2, S1.trans S2⟩
  · have d8 : decide ((v : Int) < 8) = false := decide_eq_false (by omega)
    by_cases h16 : v < 16
    · have d16 : decide ((v : Int) < 16) = true := decide_eq_true (by omega)
      have hfin : s.len base sx v = ((s.bit base 1).bit (base + 1) 0).tree (base + 130 + 8 * sx) 3 (v - 8) := by unfold CS.len; rw [if_neg h8, if_pos h16]
      rw [hfin]
      have i8 : (8 : Int) ≤ v := by omega
      clear h8 h16 hfin
      go_enter Try.func48, Try.ntmps48
      go_wp2_with fail
      refine (renc_Bit h (j := base + 0) (by omega) (by rw [HW3.out]) rfl (by omega)).mono ?_
      rintro e w1 ⟨rfl, ov1, S1⟩
      have hL1 := hL.step ha S1
      have ha1 := ha.step S1
      have hc1 := EncW.count (j := base + 0) (b := 1) h
      have r0 := (S1.kept.at_ _ _ _ (ha.not hL.which.1 _) hw1).1
      clear p0
      go_wp2_with fail
      refine (renc_Bit S1.enc (j := base + 1) (by omega) (by rw [HW4.out]) rfl (by omega)).mono ?_
      rintro e w2 ⟨rfl, ov2, S2⟩
      have hL2 := hL1.step ha1 S2
      have hc2 := EncW.count (j := base + 1) (b := 0) S1.enc
      obtain ⟨om, cm, _, hm1, hm2⟩ := hL2.mid.2
      obtain ⟨gm, hm3, hm4⟩ := hm2 sx hsx
      have q1 := hm1.1
      have q2 := hm3.1
      have HM4 := Lib.hid hm4
      clear hm2 hm4 r0
      go_wp2_with fail
      refine (renc_Tree S2.enc (nb := 3) (v := v - 8) (base := base + 130 + 8 * sx) ⟨fun i hi => by rw [HM4.out i hi, Nat.zero_add], by omega⟩ (by decide) (by decide) (by decide) (by omega) rfl (by omega) (by omega)).mono ?_
      rintro e w3 ⟨rfl, ov3, S3⟩
      go_wp2_with fail
      go_end0
      exact ⟨rfl, ov3, (S1.trans S2).trans S3⟩
    · have d16 : decide ((v : Int) < 16) = false := decide_eq_false (by omega)
      have hfin : s.len base sx v = ((s.bit base 1).bit (base + 1) 1).tree (base + 258) 8 (v - 16) := by unfold CS.len; rw [if_neg h8, if_neg h16]
      rw [hfin]
      have i8 : (16 : Int) ≤ v := by omega
      clear h8 h16 hfin
      go_enter Try.func48, Try.ntmps48
      go_wp2_with fail
      refine (renc_Bit h (j := base + 0) (by omega) (by rw [HW3.out]) rfl (by omega)).mono ?_
      rintro e w1 ⟨rfl, ov1, S1⟩
      have hL1 := hL.step ha S1
      have ha1 := ha.step S1
      have hc1 := EncW.count (j := base + 0) (b := 1) h
      have r0 := (S1.kept.at_ _ _ _ (ha.not hL.which.1 _) hw1).1
      clear p0
      go_wp2_with fail
      refine (renc_Bit S1.enc (j := base + 1) (by omega) (by rw [HW4.out]) rfl (by omega)).mono ?_
      rintro e w2 ⟨rfl, ov2, S2⟩
      have hL2 := hL1.step ha1 S2
      have hc2 := EncW.count (j := base + 1) (b := 1) S1.enc
      obtain ⟨gm, hm3, hm4⟩ := hL2.high.2
      have q2 := hm3.1
      have HM4 := Lib.hid hm4
      clear hm4 r0
      go_wp2_with fail
      refine (renc_Tree S2.enc (nb := 8) (v := v - 16) (base := base + 258) ⟨fun i hi => by rw [HM4.out i hi, Nat.zero_add], by omega⟩ (by decide) (by decide) (by decide) (by omega) rfl (by omega) (by omega)).mono ?_
      rintro e w3 ⟨rfl, ov3, S3⟩
      go_wp2_with fail
      go_end0
      exact ⟨rfl, ov3, (S1.trans S2).trans S3⟩

end Go.Proofs.Ytahhcaooiahleaa
