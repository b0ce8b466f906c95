/- The coder of LZMA: a literal. -/
import Derived.Test.YtahhcaooiahleaaFits
import Derived.Test.YtahhcaooiahleaaNum
import Derived.StillTailTactics
namespace Go.Proofs.Ytahhcaooiahleaa
open Go Go.RowKit

/-- A literal's bits: k of them are left, m is where we are; 'same': so far they are those of the other byte. -/
def CS.litGo (base v o : Nat) : Nat → Nat → Bool → CS → CS
  | 0, _, _, s => s
  | k + 1, m, same, s =>
    if same then CS.litGo base v o k (2 * m + v / 2 ^ k % 2) (decide (v / 2 ^ k % 2 = o / 2 ^ k % 2)) (s.bit (base + (256 * (1 + o / 2 ^ k % 2) + m)) (v / 2 ^ k % 2))
    else CS.litGo base v o k (2 * m + v / 2 ^ k % 2) false (s.bit (base + m) (v / 2 ^ k % 2))

theorem EncW.drew {w : World} {eb : Nat} {ov : Value} {pa : Nat → Nat × Nat} {n : Nat} {s : CS} (h : EncW w eb ov pa n s) : EncW w.drew eb ov pa n s := ⟨h.renc.drew, h.pm.drew, h.sep, h.ok, h.pok⟩

theorem EncStep.ofDrew {w w' : World} {eb : Nat} {ov ov' : Value} {pa : Nat → Nat × Nat} {n : Nat} {s : CS} (h : EncStep w.drew w' eb ov ov' pa n s) : EncStep w w' eb ov ov' pa n s :=
  ⟨h.enc, h.new, ⟨h.kept.os, h.kept.tape, h.kept.output, h.kept.size, h.kept.block, h.kept.at_, h.kept.free⟩⟩

theorem CStep.ofKept {w w' : World} {A : CA} {ov tv : Value} {c : CO} (h : CoderW w A ov tv c) (k : Kept (fun _ _ => False) w w') : CStep w w' A ov ov tv tv c.n c :=
  ⟨h.kept k (by simp), NewOr.refl _ _, NewOr.refl _ _, k.mono (by simp)⟩

def CO.litAt (c : CO) : Nat := c.told.length % 2 ^ c.lp * 2 ^ c.lc + c.at_ 0 / 2 ^ (8 - c.lc)

def litState (s : Nat) : Nat := if s < 4 then 0 else if s < 10 then s - 3 else s - 6

theorem lit_tab {st : Nat} (h : st < 12) : ∃ t : Nat, (∀ h, ([Value.int .i64 0, .int .i64 1, .int .i64 2, .int .i64 3, .int .i64 3, .int .i64 3, .int .i64 3, .int .i64 3, .int .i64 3, .int .i64 3, .int .i64 6, .int .i64 6] : List Value)[st]'h = .int .i64 (t : Nat)) ∧ t ≤ st ∧ st - t = litState st := by
  obtain rfl | rfl | rfl | rfl | rfl | rfl | rfl | rfl | rfl | rfl | rfl | rfl : st = 0 ∨ st = 1 ∨ st = 2 ∨ st = 3 ∨ st = 4 ∨ st = 5 ∨ st = 6 ∨ st = 7 ∨ st = 8 ∨ st = 9 ∨ st = 10 ∨ st = 11 := by omega
  · exact ⟨0, fun _ => rfl, by decide, by decide⟩
  · exact ⟨1, fun _ => rfl, by decide, by decide⟩
  · exact ⟨2, fun _ => rfl, by decide, by decide⟩
  · exact ⟨3, fun _ => rfl, by decide, by decide⟩
  · exact ⟨3, fun _ => rfl, by decide, by decide⟩
  · exact ⟨3, fun _ => rfl, by decide, by decide⟩
  · exact ⟨3, fun _ => rfl, by decide, by decide⟩
  · exact ⟨3, fun _ => rfl, by decide, by decide⟩
  · exact ⟨3, fun _ => rfl, by decide, by decide⟩
  · exact ⟨3, fun _ => rfl, by decide, by decide⟩
  · exact ⟨6, fun _ => rfl, by decide, by decide⟩
  · exact ⟨6, fun _ => rfl, by decide, by decide⟩

set_option maxRecDepth 100000 in
set_option maxHeartbeats 1000000 in
theorem lzmac_literal {w : World} {A : CA} {ov tv : Value} {c : CO} (h : CoderW w A ov tv c) {b : Nat} (hb : b < 256) (hlen : c.told.length < 1099511627776) (hn : c.enc.e.count + 12 < 1099511627776) :
    Calls Try.prog 47 #[.pointer (some ⟨A.cb, 0, none⟩), .int .u8 (b : Nat)] w fun e w' =>
      e = .returned (.tuple #[]) ∧ ∃ ov', CStep w w' A ov ov' tv tv c.n { c with enc := c.enc.litGo (1847 + 768 * c.litAt) b (c.at_ c.r0) 8 1 (decide (7 ≤ c.state)), state := litState c.state } := by
  have c11 := h.a11.1
  have c0 := h.a0.1
  have c1 := h.a1.1
  obtain ⟨ao, cap, htv, _⟩ := own_shape h.own
  rw [htv] at c11
  have hlc := h.may.lc
  have hlp := h.may.lp
  go_enter Try.func47, Try.ntmps47
  go_wp2_with fail
  refine (lzmac_back h (d := 0) rfl (by omega) hlen).mono ?_
  rintro e w1 ⟨rfl, rfl⟩
  obtain ⟨la, hla⟩ : ∃ la, la = c.at_ 0 := ⟨_, rfl⟩
  have hla2 : la < 256 := by rw [hla]; exact CO.at_lt h.may 0
  obtain ⟨i0, hi0⟩ : ∃ i0, i0 = c.is 0 := ⟨_, rfl⟩
  rw [← hla, ← hi0]
  have HLA := Lib.hid hla
  clear hla hi0
  obtain ⟨n, hn1⟩ : ∃ n, n = c.told.length := ⟨_, rfl⟩
  rw [← hn1] at c11
  have hn2 : (n : Int) < 1099511627776 := by omega
  have HN := Lib.hid hn1
  clear hn1 hlen
  obtain ⟨lc, hlc1⟩ : ∃ lc, lc = c.lc := ⟨_, rfl⟩
  obtain ⟨lp, hlp1⟩ : ∃ lp, lp = c.lp := ⟨_, rfl⟩
  rw [← hlc1] at c0 hlc
  rw [← hlp1] at c1 hlp
  have HLC := Lib.hid hlc1
  have HLP := Lib.hid hlp1
  clear hlc1 hlp1
  go_wp2_with fail
  go_quiet (fail)
  obtain ⟨hq1, hq2⟩ := lit_at hn2 hlp hlc hla2
  obtain ⟨q, hqd⟩ : ∃ q, q = n % 2 ^ lp * 2 ^ lc + la / 2 ^ (8 - lc) := ⟨_, rfl⟩
  rw [← hqd] at hq1 hq2
  rw [hq1]
  obtain ⟨g, hg, hpa⟩ := h.probs.lit.2
  have p11 := hg.1
  have hm := lit_le (k := lc + lp) (by omega)
  obtain ⟨mm, hmm⟩ : ∃ mm, mm = 768 * 2 ^ (lc + lp) := ⟨_, rfl⟩
  have hcm : c.m = mm := by rw [hmm, HLC.out, HLP.out]; rfl
  rw [hcm] at p11 hpa
  have hq3 : 768 * q + 768 ≤ mm := by rw [hmm]; omega
  rw [← hmm] at hm
  have HQ := Lib.hid hqd
  have HM := Lib.hid hmm
  have HPA := Lib.hid hpa
  have a5 := h.a5.1
  have a6 := h.a6.1
  obtain ⟨st, hst⟩ : ∃ st, st = c.state := ⟨_, rfl⟩
  rw [← hst] at a6
  have HST := Lib.hid hst
  clear hqd hmm hq1 hq2 hpa hst c0 c1 c11 hlc hlp
  have hq4 : (q : Int) ≤ 4096 := by omega
  go_upto_if 69 with fail
  rw [show 768 * q + 768 - 768 * q = 768 from by omega]
  obtain ⟨cp, hcp⟩ : ∃ cp, cp = mm - 768 * q := ⟨_, rfl⟩
  rw [← hcp]
  clear hcp
  have H0 := h.drewN nq
  have S0 : CStep w1 (w1.drewN nq) A ov ov tv tv c.n c := ⟨H0, NewOr.refl _ _, NewOr.refl _ _, (Kept.refl _ _).drewN nq⟩
  obtain ⟨wa, hwa⟩ : ∃ wa, wa = w1.drewN nq := ⟨_, rfl⟩
  rw [← hwa] at H0 S0 ⊢
  clear hwa a5 a6 p11
  obtain ⟨fin, hfin⟩ : ∃ fin, fin = c.enc.litGo (1847 + 768 * q) b (c.at_ c.r0) 8 1 (decide (7 ≤ st)) := ⟨_, rfl⟩
  have HF := Lib.hid hfin
  clear hfin
  go_cut [8, 9] (fun mv kv wx => ∃ (k m : Nat) (z : Int) (ov' : Value) (s' : CS), k ≤ 8 ∧ kv = .int .i64 z ∧ z = (k : Int) - 1 ∧ mv = .int .i64 m ∧ m < 2 ^ (9 - k) ∧ EncStep wa wx A.eb ov ov' A.pa c.n s' ∧ s'.e.count + k ≤ c.enc.e.count + 8 ∧ CS.litGo (1847 + 768 * q) b (c.at_ c.r0) k m false s' = fin)
  case first =>
    by_cases h7 : 7 ≤ st
    · have hd7 : decide (7 ≤ st) = true := decide_eq_true h7
      have hd8 : decide ((7 : Int) ≤ (st : Int)) = true := decide_eq_true (by omega)
      rw [hd7] at HF
      clear h7
      have c7 := H0.a7.1
      rw [hd8]
      go_wp2_with fail
      refine (lzmac_back H0 (d := c.r0) rfl h.may.r0 (by rw [← HN.out]; omega)).mono ?_
      rintro e wb ⟨rfl, hwb⟩
      rw [hwb]
      clear hwb
      have ho2 : c.at_ c.r0 < 256 := CO.at_lt h.may _
      obtain ⟨o, ho⟩ : ∃ o, o = c.at_ c.r0 := ⟨_, rfl⟩
      obtain ⟨i1, hi1⟩ : ∃ i1, i1 = c.is c.r0 := ⟨_, rfl⟩
      rw [← ho] at ho2 HF ⊢
      rw [← hi1]
      clear hi1
      have HO := Lib.hid ho
      clear ho
      go_wp2_with fail
      go_loopw [8, 9] (fun mv kv wr => ∃ (k m : Nat) (z : Int) (ov' : Value) (s' : CS), k ≤ 8 ∧ kv = .int .i64 z ∧ z = (k : Int) - 1 ∧ mv = .int .i64 m ∧ m < 2 ^ (9 - k) ∧ EncStep wa wr A.eb ov ov' A.pa c.n s' ∧ s'.e.count + k ≤ c.enc.e.count + 8 ∧ CS.litGo (1847 + 768 * q) b o k m true s' = fin) (fun _ kv _ => (intOf kv + 1).toNat)
      case atStart => exact ⟨8, 1, 7, ov, c.enc, by omega, rfl, by omega, rfl, by decide, EncStep.refl H0.enc, by omega, HF.out.symm⟩
      case round =>
        obtain ⟨k, m, z, ov1, s1, hk, rfl, hz, rfl, hm2, hS, hc, hT⟩ := hrel
        have HT := Lib.hid hT
        have HC := (CoderW.encStep H0 hS).co
        have c4 := HC.a4.1
        clear hT
        cases k with
        | zero =>
          obtain rfl : z = -1 := by omega
          have HZ := Lib.hid hz
          clear hz
          go_wp2_with fail
          go_meet
          exact ⟨0, m, -1, ov1, s1, by omega, rfl, by omega, rfl, hm2, hS, hc, HT.out⟩
        | succ j =>
          obtain rfl : z = (j : Int) := by omega
          clear hz
          have hj : (j : Int) ≤ 7 := by omega
          have hm3 : m < 256 := by
            have : 2 ^ (9 - (j + 1)) ≤ 2 ^ 8 := Nat.pow_le_pow_right (by decide) (by omega)
            omega
          obtain ⟨d, hd⟩ : ∃ d, d = b / 2 ^ j % 2 := ⟨_, rfl⟩
          have hbt := and1_i64 b j hb
          rw [← hd] at hbt
          have hd2 : d < 2 := by omega
          obtain ⟨x, hx⟩ : ∃ x, x = o / 2 ^ j % 2 := ⟨_, rfl⟩
          have hbx := and1_i64 o j ho2
          rw [← hx] at hbx
          have hx2 : x < 2 := by omega
          have hor := or2_i64 m d (by omega) hd2
          have HD := Lib.hid hd
          have HX := Lib.hid hx
          have HM2 := Lib.hid hm2
          clear hd hm2 hx
          obtain ⟨y, hy⟩ : ∃ y : Nat, ((1 : Int) + (x : Int)) * 256 + (m : Int) = (y : Int) ∧ y = 256 * (1 + x) + m := ⟨256 * (1 + x) + m, by omega, rfl⟩
          obtain ⟨hy1, hy2⟩ := hy
          have hm5 : (y : Int) < 768 := by omega
          have hm6 : y < 768 := by omega
          have HY := Lib.hid hy2
          clear hy2
          have hy3 : IntKind.i64.wrap (IntKind.i64.wrap (IntKind.i64.wrap (1 + (x : Int)) * 256) + (m : Int)) = (y : Int) := by
            rw [IntWalk.i64_in (1 + (x : Int)) (by omega), IntWalk.i64_in ((1 + (x : Int)) * 256) (by omega), IntWalk.i64_in ((1 + (x : Int)) * 256 + (m : Int)) (by omega)]; exact hy1
          clear hy1
          go_wp2_with fail
          go_still_tail 12, (by kernel_rfl)
          change wpList _ _ _ _ _ wr.drew
          go_wp2_with fail
          clear hy3
          have hq5 := HPA.out (768 * q + y) (by omega)
          have hnn : 1847 + 768 * q + y < c.n := by unfold CO.n; have := hcm; unfold CO.m at this; omega
          refine (renc_Bit hS.enc.drew (j := 1847 + 768 * q + y) hnn (by rw [Nat.add_assoc, hq5]) rfl (by omega)).mono ?_
          rintro e w2 ⟨rfl, ov2, hS2⟩
          have hcb := (RE.bit_ok hS.enc.ok (hS.enc.pok (1847 + 768 * q + y)) d).2
          have hcb2 : (s1.bit (1847 + 768 * q + y) d).e.count ≤ s1.e.count + 1 := hcb
          have hpw : 2 * m + d < 2 ^ (9 - j) := by
            have hm2 := HM2.out
            rw [show 9 - j = 9 - (j + 1) + 1 from by omega, Nat.pow_succ]; omega
          have HPW := Lib.hid hpw
          have hfe : CS.litGo (1847 + 768 * q) b o j (2 * m + d) (decide (d = x)) (s1.bit (1847 + 768 * q + y) d) = fin := by
            rw [← HT.out, CS.litGo, if_pos rfl, ← HD.out, ← HX.out, ← HY.out]
          have HFE := Lib.hid hfe
          clear hq5 hnn hcb hpw hfe
          by_cases hdx : x = d
          · have hne : ((x : Int) != (d : Int)) = false := by simp [hdx]
            have hfe := HFE.out
            rw [decide_eq_true hdx.symm] at hfe
            have HFE2 := Lib.hid hfe
            have HDX := Lib.hid hdx
            clear hfe hdx
            go_wp2_with fail
            go_roundw
            case rel => exact ⟨j, 2 * m + d, (j : Int) - 1, ov2, _, by omega, by go_num, rfl, by go_num, HPW.out, hS.trans hS2.ofDrew, by omega, HFE2.out⟩
            case measure => simp [intOf]
          · have hne : ((x : Int) != (d : Int)) = true := by simp; omega
            have hfe := HFE.out
            rw [decide_eq_false (fun h => hdx h.symm)] at hfe
            have HFE2 := Lib.hid hfe
            have HDX := Lib.hid hdx
            clear hfe hdx
            go_wp2_with fail
            go_meet
            exact ⟨j, 2 * m + d, (j : Int) - 1, ov2, _, by omega, by go_num, rfl, by go_num, HPW.out, hS.trans hS2.ofDrew, by omega, by rw [← HO.out]; exact HFE2.out⟩
    · have hd7 : decide (7 ≤ st) = false := decide_eq_false h7
      have hd8 : decide ((7 : Int) ≤ (st : Int)) = false := decide_eq_false (by omega)
      rw [hd7] at HF
      clear h7
      rw [hd8]
      go_wp2_with fail
      go_meet
      exact ⟨8, 1, 7, ov, c.enc, by omega, rfl, by omega, rfl, by decide, EncStep.refl H0.enc, by omega, HF.out.symm⟩
  case rest =>
    obtain ⟨k0, m0, z0, ov0, s0, h01, rfl, h02, rfl, h03, h04, h05, h06⟩ := hcut
    go_wp2_with fail
    go_loopw [8, 9] (fun mv kv wr => ∃ (k m : Nat) (z : Int) (ov' : Value) (s' : CS), k ≤ 8 ∧ kv = .int .i64 z ∧ z = (k : Int) - 1 ∧ mv = .int .i64 m ∧ m < 2 ^ (9 - k) ∧ EncStep wa wr A.eb ov ov' A.pa c.n s' ∧ s'.e.count + k ≤ c.enc.e.count + 8 ∧ CS.litGo (1847 + 768 * q) b (c.at_ c.r0) k m false s' = fin) (fun _ kv _ => (intOf kv + 1).toNat)
    case atStart => exact ⟨k0, m0, z0, ov0, s0, h01, rfl, h02, rfl, h03, h04, h05, h06⟩
    case round =>
      obtain ⟨k, m, z, ov1, s1, hk, rfl, hz, rfl, hm2, hS, hc, hT⟩ := hrel
      have HT := Lib.hid hT
      have HC := (CoderW.encStep H0 hS).co
      have c4 := HC.a4.1
      clear hT
      cases k with
      | zero =>
        obtain rfl : z = -1 := by omega
        clear hz
        have d6 := HC.a6.1
        have e6 := HC.a6.2
        have l6 := HC.a6.lt
        have hst12 := h.may.st
        dsimp only at d6
        rw [← HST.out] at d6 hst12
        have HS := Lib.hid HST.out
        clear HST
        obtain ⟨t, htab, ht1, ht2⟩ := lit_tab hst12
        have ht3 : (t : Int) ≤ st := by omega
        have hst13 : (st : Int) < 12 := by omega
        have HT2 := Lib.hid ht2
        clear ht2
        go_wp2_with fail
        go_region
        go_wp2_with fail
        go_end0
        have S1 := CoderW.encStep H0 hS
        have hsn : (st : Int) - (t : Int) = ((st - t : Nat) : Int) := by omega
        rw [hsn]
        have S2 := S1.co.setState (s := st - t) (by omega)
        have S3 := CStep.ofKept S2.co ((Kept.of_alloc _ _ (.cells #[.int .i64 0, .int .i64 1, .int .i64 2, .int .i64 3, .int .i64 3, .int .i64 3, .int .i64 3, .int .i64 3, .int .i64 3, .int .i64 3, .int .i64 6, .int .i64 6] 3)).drew)
        have S4 := (S0.trans S1).trans (S2.trans S3)
        refine ⟨rfl, ov1, ?_⟩
        have hlit : c.litAt = q := by rw [HQ.out, HN.out, HLP.out, HLC.out, HLA.out]; rfl
        rw [hlit, ← HS.out, ← HF.out, ← HT2.out, ← HT.out]
        exact S4
      | succ j =>
        obtain rfl : z = (j : Int) := by omega
        clear hz
        have hj : (j : Int) ≤ 7 := by omega
        have hm3 : m < 256 := by
          have : 2 ^ (9 - (j + 1)) ≤ 2 ^ 8 := Nat.pow_le_pow_right (by decide) (by omega)
          omega
        obtain ⟨d, hd⟩ : ∃ d, d = b / 2 ^ j % 2 := ⟨_, rfl⟩
        have hbt := and1_i64 b j hb
        rw [← hd] at hbt
        have hd2 : d < 2 := by omega
        have hor := or2_i64 m d (by omega) hd2
        have HD := Lib.hid hd
        have HM2 := Lib.hid hm2
        clear hd hm2
        have hm5 : (m : Int) < 768 := by omega
        have hm6 : m < 768 := by omega
        go_wp2_with fail
        go_still_tail 8, (by kernel_rfl)
        change wpList _ _ _ _ _ wr.drew
        go_wp2_with fail
        have hq5 := HPA.out (768 * q + m) (by omega)
        have hnn : 1847 + 768 * q + m < c.n := by unfold CO.n; have := hcm; unfold CO.m at this; omega
        refine (renc_Bit hS.enc.drew (j := 1847 + 768 * q + m) hnn (by rw [Nat.add_assoc, hq5]) rfl (by omega)).mono ?_
        rintro e w2 ⟨rfl, ov2, hS2⟩
        go_wp2_with fail
        go_roundw
        case rel =>
          have hcb := (RE.bit_ok hS.enc.ok (hS.enc.pok (1847 + 768 * q + m)) d).2
          have hm2 := HM2.out
          refine ⟨j, 2 * m + d, (j : Int) - 1, ov2, _, by omega, by go_num, rfl, by go_num, ?_, hS.trans hS2.ofDrew, ?_, ?_⟩
          · rw [show 9 - j = 9 - (j + 1) + 1 from by omega, Nat.pow_succ]; omega
          · have : (s1.bit (1847 + 768 * q + m) d).e.count ≤ s1.e.count + 1 := hcb
            omega
          · rw [← HT.out, CS.litGo, ← HD.out]; rfl
        case measure => simp [intOf]

end Go.Proofs.Ytahhcaooiahleaa
