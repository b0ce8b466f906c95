/- The range coder's trees. -/
import Derived.Test.YtahhcaooiahleaaEnc
namespace Go.Proofs.Ytahhcaooiahleaa
open Go Go.RowKit

theorem EncStep.refl {w : World} {eb : Nat} {ov : Value} {pa : Nat → Nat × Nat} {n : Nat} {s : CS} (h : EncW w eb ov pa n s) : EncStep w w eb ov ov pa n s := ⟨h, NewOr.refl _ _, Kept.refl _ _⟩

/-- A tree's bits, the greatest first: k of them are left, m is where we are. -/
def CS.treeGo (base v : Nat) : Nat → Nat → CS → CS
  | 0, _, s => s
  | k + 1, m, s => CS.treeGo base v k (2 * m + v / 2 ^ k % 2) (s.bit (base + m) (v / 2 ^ k % 2))

def CS.tree (s : CS) (base bits v : Nat) : CS := CS.treeGo base v bits 1 s

theorem and1_u32 (v c : Nat) (h : v < 4294967296) : bits .and .u32 ((v : Int) / 2 ^ c) 1 = ((v / 2 ^ c % 2 : Nat) : Int) := by
  have e : ((v : Int) / 2 ^ c) = ((v / 2 ^ c : Nat) : Int) := by push_cast; rfl
  rw [e]
  have := u32_and_nat (v / 2 ^ c) 1 (Nat.lt_of_le_of_lt (Nat.div_le_self _ _) h) (by decide)
  rw [nat_mask1] at this
  exact this

theorem or2_u32 (m b : Nat) (h : m < 1073741824) (hb : b < 2) : bits .or .u32 ((m : Int) * 2) (b : Int) = ((2 * m + b : Nat) : Int) := by
  have e : ((m : Int) * 2) = ((2 * m : Nat) : Int) := by omega
  rw [e, u32_or_nat (2 * m) b (by omega) (by omega), nat_join 1 (2 * m) b (by omega) (by omega)]

/-- A row of probabilities, as a slice. -/
structure PRow (pa : Nat → Nat × Nat) (n : Nat) (base pb po k : Nat) : Prop where
  at_ : ∀ i, i < k → pa (base + i) = (pb, po + i)
  le : base + k ≤ n

set_option maxRecDepth 100000 in
set_option maxHeartbeats 400000 in
theorem renc_Tree {w : World} {eb : Nat} {ov : Value} {pa : Nat → Nat × Nat} {n : Nat} {s : CS} (h : EncW w eb ov pa n s) {base pb po len cap : Nat} {nb v : Nat} (hp : PRow pa n base pb po (2 ^ nb)) (hl : 2 ^ nb ≤ len) (hl2 : len < 4294967296)
    (hb : nb ≤ 8) (hv : v < 4294967296) {zb zv : Int} (hzb : zb = (nb : Int)) (hzv : zv = (v : Int)) (hn : s.e.count + nb + 4 < 1099511627776) :
    Calls Try.prog 88 #[.pointer (some ⟨eb, 0, none⟩), .slice (some ⟨pb, po, none⟩) len cap, .int .i64 zb, .int .u32 zv] w fun e w' =>
      e = .returned (.tuple #[]) ∧ ∃ ov', EncStep w w' eb ov ov' pa n (s.tree base nb v) := by
  subst hzb hzv
  go_enter Try.func88, Try.ntmps88
  go_wp2_with fail
  go_loopw [8, 12] (fun mv i wr => ∃ (k m : Nat) (ov' : Value) (s' : CS), k ≤ nb ∧ i = .int .i64 k ∧ mv = .int .u32 m ∧ 2 ^ k ≤ m ∧ m < 2 ^ (k + 1) ∧ EncStep w wr eb ov ov' pa n s' ∧ s'.e.count ≤ s.e.count + k ∧ CS.treeGo base v (nb - k) m s' = s.tree base nb v) (fun _ i _ => nb - (intOf i).toNat)
  case atStart => exact ⟨0, 1, ov, s, Nat.zero_le _, rfl, rfl, by simp, by simp, EncStep.refl h, by omega, rfl⟩
  case round =>
    obtain ⟨k, m, ov1, s1, hk, rfl, rfl, hm1, hm2, hS, hc, hT⟩ := hrel
    by_cases hlt : k < nb
    · have hd : decide ((k : Int) < (nb : Int)) = true := decide_eq_true (by omega)
      have HT := Lib.hid hT
      have hpw : 2 ^ (k + 1) ≤ 2 ^ nb := Nat.pow_le_pow_right (by decide) (by omega)
      have hml : m < len := by omega
      have hpw2 : 2 ^ (k + 1) ≤ 256 := Nat.pow_le_pow_right (n := 2) (j := 8) (by decide) (by omega)
      have hm3 : m < 256 := by omega
      obtain ⟨b, hbd⟩ : ∃ b, b = v / 2 ^ (nb - 1 - k) % 2 := ⟨_, rfl⟩
      have hbt := and1_u32 v (nb - 1 - k) hv
      rw [← hbd] at hbt
      have hb2 : b < 2 := by omega
      have hor := or2_u32 m b (by omega) hb2
      have hat := hp.at_ m (by omega)
      have HA := Lib.hid hat
      have HB := Lib.hid hbd
      have hm1' : (2 : Int) ^ k ≤ m := by exact_mod_cast hm1
      have HM1 := Lib.hid hm1
      have HM2 := Lib.hid hm2
      clear hT hat hbd hm1' hm1 hm2 hpw hpw2
      go_wp2_with fail
      refine (renc_Bit hS.enc (j := base + m) (by have := hp.le; have := HM2.out; have : 2 ^ (k + 1) ≤ 2 ^ nb := Nat.pow_le_pow_right (by decide) (by omega); omega) (by rw [HA.out]) rfl (by omega)).mono ?_
      rintro e w1 ⟨rfl, ov2, hS2⟩
      go_wp2_with fail
      go_roundw
      case rel =>
        have hm1 := HM1.out
        have hm2 := HM2.out
        have hcb := (RE.bit_ok hS.enc.ok (hS.enc.pok (base + m)) b).2
        refine ⟨k + 1, 2 * m + b, ov2, _, by omega, by go_num, by go_num, by rw [Nat.pow_succ]; omega, by rw [Nat.pow_succ]; omega, hS.trans hS2, Nat.le_trans hcb (by omega), ?_⟩
        rw [← HT.out, show nb - k = (nb - (k + 1)) + 1 from by omega, CS.treeGo, show nb - (k + 1) = nb - 1 - k from by omega, ← HB.out]
      case measure => simp [intOf]; omega
    · have hd : decide ((k : Int) < (nb : Int)) = false := decide_eq_false (by omega)
      obtain rfl : k = nb := by omega
      have HT := Lib.hid hT
      clear hT
      go_wp2_with fail
      go_end0
      have := HT.out
      rw [Nat.sub_self] at this
      rw [← this]
      exact ⟨rfl, ov1, hS⟩

/-- A reverse tree's bits: i of them are told, k are left. -/
def CS.revGo (base v : Nat) : Nat → Nat → Nat → CS → CS
  | 0, _, _, s => s
  | k + 1, i, m, s => CS.revGo base v k (i + 1) (2 * m + v / 2 ^ i % 2) (s.bit (base + m) (v / 2 ^ i % 2))

def CS.reverse (s : CS) (base bits v : Nat) : CS := CS.revGo base v bits 0 1 s

set_option maxRecDepth 100000 in
set_option maxHeartbeats 400000 in
theorem renc_Reverse {w : World} {eb : Nat} {ov : Value} {pa : Nat → Nat × Nat} {n : Nat} {s : CS} (h : EncW w eb ov pa n s) {base pb po len cap : Nat} {nb v : Nat} (hp : PRow pa n base pb po (2 ^ nb)) (hl : 2 ^ nb ≤ len) (hl2 : len < 4294967296)
    (hb : nb ≤ 8) (hv : v < 4294967296) {zb zv : Int} (hzb : zb = (nb : Int)) (hzv : zv = (v : Int)) (hn : s.e.count + nb + 4 < 1099511627776) :
    Calls Try.prog 90 #[.pointer (some ⟨eb, 0, none⟩), .slice (some ⟨pb, po, none⟩) len cap, .int .i64 zb, .int .u32 zv] w fun e w' =>
      e = .returned (.tuple #[]) ∧ ∃ ov', EncStep w w' eb ov ov' pa n (s.reverse base nb v) := by
  subst hzb hzv
  go_enter Try.func90, Try.ntmps90
  go_wp2_with fail
  go_loopw [8, 12] (fun mv i wr => ∃ (k m : Nat) (ov' : Value) (s' : CS), k ≤ nb ∧ i = .int .i64 k ∧ mv = .int .u32 m ∧ 2 ^ k ≤ m ∧ m < 2 ^ (k + 1) ∧ EncStep w wr eb ov ov' pa n s' ∧ s'.e.count ≤ s.e.count + k ∧ CS.revGo base v (nb - k) k m s' = s.reverse base nb v) (fun _ i _ => nb - (intOf i).toNat)
  case atStart => exact ⟨0, 1, ov, s, Nat.zero_le _, rfl, rfl, by simp, by simp, EncStep.refl h, by omega, rfl⟩
  case round =>
    obtain ⟨k, m, ov1, s1, hk, rfl, rfl, hm1, hm2, hS, hc, hT⟩ := hrel
    by_cases hlt : k < nb
    · have hd : decide ((k : Int) < (nb : Int)) = true := decide_eq_true (by omega)
      have HT := Lib.hid hT
      have hpw : 2 ^ (k + 1) ≤ 2 ^ nb := Nat.pow_le_pow_right (by decide) (by omega)
      have hml : m < len := by omega
      have hpw2 : 2 ^ (k + 1) ≤ 256 := Nat.pow_le_pow_right (n := 2) (j := 8) (by decide) (by omega)
      have hm3 : m < 256 := by omega
      obtain ⟨b, hbd⟩ : ∃ b, b = v / 2 ^ k % 2 := ⟨_, rfl⟩
      have hbt := and1_u32 v k hv
      rw [← hbd] at hbt
      have hb2 : b < 2 := by omega
      have hor := or2_u32 m b (by omega) hb2
      have hat := hp.at_ m (by omega)
      have HA := Lib.hid hat
      have HB := Lib.hid hbd
      have HM1 := Lib.hid hm1
      have HM2 := Lib.hid hm2
      clear hT hat hbd hm1 hm2 hpw hpw2
      go_wp2_with fail
      refine (renc_Bit hS.enc (j := base + m) (by have := hp.le; have := HM2.out; have : 2 ^ (k + 1) ≤ 2 ^ nb := Nat.pow_le_pow_right (by decide) (by omega); omega) (by rw [HA.out]) rfl (by omega)).mono ?_
      rintro e w1 ⟨rfl, ov2, hS2⟩
      go_wp2_with fail
      go_roundw
      case rel =>
        have hm1 := HM1.out
        have hm2 := HM2.out
        have hcb := (RE.bit_ok hS.enc.ok (hS.enc.pok (base + m)) b).2
        refine ⟨k + 1, 2 * m + b, ov2, _, by omega, by go_num, by go_num, by rw [Nat.pow_succ]; omega, by rw [Nat.pow_succ]; omega, hS.trans hS2, Nat.le_trans hcb (by omega), ?_⟩
        rw [← HT.out, show nb - k = (nb - (k + 1)) + 1 from by omega, CS.revGo, ← HB.out]
      case measure => simp [intOf]; omega
    · have hd : decide ((k : Int) < (nb : Int)) = false := decide_eq_false (by omega)
      obtain rfl : k = nb := by omega
      have HT := Lib.hid hT
      clear hT
      go_wp2_with fail
      go_end0
      have := HT.out
      rw [Nat.sub_self] at this
      rw [← this]
      exact ⟨rfl, ov1, hS⟩

/-- A bit told straight. -/
def RE.half (c : RE) (b : Nat) : RE := RE.level { c with low := if b = 1 then c.low + c.rng / 2 else c.low, rng := c.rng / 2 }

def RE.straightGo (v : Nat) : Nat → RE → RE
  | 0, c => c
  | k + 1, c => RE.straightGo v k (c.half (v / 2 ^ k % 2))

def CS.straight (s : CS) (nb v : Nat) : CS := { s with e := RE.straightGo v nb s.e }

theorem RE.half_ok {c : RE} (h : c.Ok) (b : Nat) : (c.half b).Ok ∧ (c.half b).count ≤ c.count + 1 := by
  obtain ⟨h1, h2, h3, h4⟩ := h
  have := RE.level_ok (c := { c with low := if b = 1 then c.low + c.rng / 2 else c.low, rng := c.rng / 2 }) (by simp only; omega) (by simp only; omega) (by simp only; split <;> omega) h4
  exact this

theorem EncW.setE {w w' : World} {eb : Nat} {ov ov' : Value} {pa : Nat → Nat × Nat} {n : Nat} {s : CS} (h : EncW w eb ov pa n s) {c : RE} (hR : Renc w' eb ov' c) (hok : c.Ok) (hn : NewOr w ov ov') (hk : Kept (Renc.own' eb ov) w w') :
    EncStep w w' eb ov ov' pa n { s with e := c } := by
  refine ⟨⟨hR, h.pm.kept hk (fun i hi hs => hs.elim (h.sep i hi).1 (h.sep i hi).2), fun i hi => ⟨(h.sep i hi).1, fun e => ?_⟩, hok, h.pok⟩, hn, hk.mono (fun i o hi => .inl hi)⟩
  rcases hn _ e with h' | h'
  · exact (h.sep i hi).2 h'
  · have := (h.pm.at_ i hi).lt; omega


set_option maxRecDepth 100000 in
set_option maxHeartbeats 400000 in
theorem renc_Straight {w : World} {eb : Nat} {ov : Value} {pa : Nat → Nat × Nat} {n : Nat} {s : CS} (h : EncW w eb ov pa n s) {nb v : Nat} (hb : nb ≤ 32) (hv : v < 4294967296) {zb zv : Int} (hzb : zb = (nb : Int)) (hzv : zv = (v : Int))
    (hn : s.e.count + nb + 4 < 1099511627776) :
    Calls Try.prog 91 #[.pointer (some ⟨eb, 0, none⟩), .int .i64 zb, .int .u32 zv] w fun e w' =>
      e = .returned (.tuple #[]) ∧ ∃ ov', EncStep w w' eb ov ov' pa n (s.straight nb v) := by
  subst hzb hzv
  go_enter Try.func91, Try.ntmps91
  go_wp2_with fail
  go_loopw [8] (fun i wr => ∃ (k : Nat) (ov' : Value) (c : RE), k ≤ nb ∧ i = .int .i64 k ∧ EncStep w wr eb ov ov' pa n { s with e := c } ∧ c.count ≤ s.e.count + k ∧ RE.straightGo v (nb - k) c = RE.straightGo v nb s.e) (fun i _ => nb - (intOf i).toNat)
  case atStart => exact ⟨0, ov, s.e, Nat.zero_le _, rfl, EncStep.refl h, by omega, rfl⟩
  case round =>
    obtain ⟨k, ov1, c, hk, rfl, hS, hc, hT⟩ := hrel
    by_cases hlt : k < nb
    · have hd : decide ((k : Int) < (nb : Int)) = true := decide_eq_true (by omega)
      have HT := Lib.hid hT
      obtain ⟨b, hbd⟩ : ∃ b, b = v / 2 ^ (nb - 1 - k) % 2 := ⟨_, rfl⟩
      have hbt := and1_u32 v (nb - 1 - k) hv
      rw [← hbd] at hbt
      have hb2 : b < 2 := by omega
      have HB := Lib.hid hbd
      have hR := hS.enc.renc
      obtain ⟨k1, k2, k3, k4⟩ := hS.enc.ok
      dsimp only at hR k1 k2 k3 k4
      have c1 := hR.a1.1
      have f1 := hR.a1.2
      have c0 := hR.a0.1
      have f0 := hR.a0.2
      have i1 : (16777216 : Int) ≤ c.rng := by omega
      have i2 : (c.rng : Int) < 4294967296 := by omega
      clear hT hbd
      by_cases hb1 : b = 1
      · have HB1 := Lib.hid hb1
        have hq : ((b : Int) == 1) = true := beq_iff_eq.2 (by omega)
        clear hb1
        go_wp2_with fail
        go_region
        go_wp2_with fail
        rw [show (c.rng : Int) / 2 = ((c.rng / 2 : Nat) : Int) from by omega]
        refine (renc_level (((hR.setRng (c.rng / 2)).setLow (c.low + c.rng / 2)).drew) (by simp only; omega) (by simp only; omega) (by simp only; omega) (by simp only; omega) (by simp only [RE.count] at *; omega)).mono ?_
        rintro e w1 ⟨rfl, ov2, h1, hn1, hk1⟩
        have hn2 : NewOr wr ov1 ov2 := hn1.old (by simp)
        have hk2 : Kept (Renc.own' eb ov1) wr w1 := Kept.trans ((((Kept.refl _ _).setCell (.inl (.inl rfl)) _).setCell (.inl (.inl rfl)) _).drew) hk1
        go_wp2_with fail
        go_roundw
        case rel =>
          have hh : (c.half b).Ok ∧ (c.half b).count ≤ c.count + 1 := RE.half_ok hS.enc.ok b
          have h1' : Renc w1 eb ov2 (c.half b) := by unfold RE.half; rw [if_pos HB1.out]; exact h1
          refine ⟨k + 1, ov2, c.half b, by omega, by go_num, hS.trans (hS.enc.setE h1' hh.1 hn2 hk2), Nat.le_trans hh.2 (by omega), ?_⟩
          rw [← HT.out, show nb - k = (nb - (k + 1)) + 1 from by omega, RE.straightGo, show nb - (k + 1) = nb - 1 - k from by omega, ← HB.out]
        case measure => simp [intOf]; omega
      · have HB1 := Lib.hid hb1
        have hq : ((b : Int) == 1) = false := beq_eq_false_iff_ne.2 (by omega)
        clear hb1
        go_wp2_with fail
        rw [show (c.rng : Int) / 2 = ((c.rng / 2 : Nat) : Int) from by omega]
        refine (renc_level (hR.setRng (c.rng / 2)) (by simp only; omega) (by simp only; omega) (by simp only; omega) (by simp only; omega) (by simp only [RE.count] at *; omega)).mono ?_
        rintro e w1 ⟨rfl, ov2, h1, hn1, hk1⟩
        have hn2 : NewOr wr ov1 ov2 := hn1.old (by simp)
        have hk2 : Kept (Renc.own' eb ov1) wr w1 := Kept.trans ((Kept.refl _ _).setCell (.inl (.inl rfl)) _) hk1
        go_wp2_with fail
        go_roundw
        case rel =>
          have hh : (c.half b).Ok ∧ (c.half b).count ≤ c.count + 1 := RE.half_ok hS.enc.ok b
          have h1' : Renc w1 eb ov2 (c.half b) := by unfold RE.half; rw [if_neg HB1.out]; exact h1
          refine ⟨k + 1, ov2, c.half b, by omega, by go_num, hS.trans (hS.enc.setE h1' hh.1 hn2 hk2), Nat.le_trans hh.2 (by omega), ?_⟩
          rw [← HT.out, show nb - k = (nb - (k + 1)) + 1 from by omega, RE.straightGo, show nb - (k + 1) = nb - 1 - k from by omega, ← HB.out]
        case measure => simp [intOf]; omega
    · have hd : decide ((k : Int) < (nb : Int)) = false := decide_eq_false (by omega)
      obtain rfl : k = nb := by omega
      have HT := Lib.hid hT
      clear hT
      go_wp2_with fail
      go_end0
      have := HT.out
      rw [Nat.sub_self] at this
      unfold CS.straight
      rw [← this]
      exact ⟨rfl, ov1, hS⟩

end Go.Proofs.Ytahhcaooiahleaa
