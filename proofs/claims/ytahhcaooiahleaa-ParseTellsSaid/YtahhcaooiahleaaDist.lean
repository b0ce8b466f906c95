/- bits.Len32; the coder of LZMA: distances. -/
import Derived.Test.YtahhcaooiahleaaLen
import Derived.Laws.MathBits
import Derived.StillTailTactics
namespace Go.Proofs.Ytahhcaooiahleaa
open Go Go.RowKit

theorem bitLen_16 {d : Nat} (h : 65536 ≤ d) : bitLen d = 16 + bitLen (d / 65536) := bitLen_shift d 16 (by show d / 65536 ≠ 0; omega)
theorem bitLen_8 {d : Nat} (h : 256 ≤ d) : bitLen d = 8 + bitLen (d / 256) := bitLen_shift d 8 (by show d / 256 ≠ 0; omega)


set_option maxRecDepth 100000 in
set_option maxHeartbeats 400000 in
theorem bits_Len32 {w : World} {d : Nat} (hd : (d : Int) < 4294967296) :
    Calls Try.prog 89 #[.int .u32 (d : Nat)] w fun e w' => e = .returned (.int .i64 (bitLen d : Nat)) ∧ w' = w := by
  by_cases h1 : (65536 : Int) ≤ d
  · have d1 : decide ((65536 : Int) ≤ (d : Int)) = true := decide_eq_true h1
    obtain ⟨x, hx, hxd⟩ : ∃ x : Nat, (d : Int) / 65536 = (x : Int) ∧ x = d / 65536 := ⟨d / 65536, by omega, rfl⟩
    have hx2 : (x : Int) < 65536 := by omega
    have hr : bitLen d = 16 + bitLen x := by rw [hxd]; exact bitLen_16 (by omega)
    rw [hr]
    have HX := Lib.hid hxd
    clear hxd hr
    by_cases h2 : (256 : Int) ≤ x
    · have d2 : decide ((256 : Int) ≤ (x : Int)) = true := decide_eq_true h2
      obtain ⟨y, hy, hyd⟩ : ∃ y : Nat, (x : Int) / 256 = (y : Int) ∧ y = x / 256 := ⟨x / 256, by omega, rfl⟩
      have hr : bitLen x = 8 + bitLen y := by rw [hyd]; exact bitLen_8 (by omega)
      rw [hr]
      have hy2 : (y : Int) < 256 := by omega
      have hy3 : y < 256 := by omega
      clear hyd hr
      have ht0 := len8tab_get y hy3
      have ht1 := bitLen_le8 y hy3
      obtain ⟨t, ht⟩ : ∃ t, t = bitLen y := ⟨_, rfl⟩
      rw [← ht] at ht0 ht1 ⊢
      have ht2 : (t : Int) ≤ 8 := by omega
      clear ht
      go_enter Try.func89, Try.ntmps89
      go_wp2_with fail
      go_ret
      refine ⟨?_, rfl⟩
      first | rfl | exact congrArg (fun z : Int => Ending.returned (.int .i64 z)) (show (24 + (t : Int)) = ((16 + (8 + t) : Nat) : Int) by omega)
    · have d2 : decide ((256 : Int) ≤ (x : Int)) = false := decide_eq_false h2
      have h3 : (x : Int) < 256 := by omega
      have h4 : x < 256 := by omega
      have ht0 := len8tab_get x h4
      have ht1 := bitLen_le8 x h4
      obtain ⟨t, ht⟩ : ∃ t, t = bitLen x := ⟨_, rfl⟩
      rw [← ht] at ht0 ht1 ⊢
      have ht2 : (t : Int) ≤ 8 := by omega
      clear ht
      go_enter Try.func89, Try.ntmps89
      go_wp2_with fail
      go_ret
      refine ⟨?_, rfl⟩
      first | rfl | exact congrArg (fun z : Int => Ending.returned (.int .i64 z)) (show (24 + (t : Int)) = ((16 + (8 + t) : Nat) : Int) by omega)
  · have d1 : decide ((65536 : Int) ≤ (d : Int)) = false := decide_eq_false h1
    by_cases h2 : (256 : Int) ≤ d
    · have d2 : decide ((256 : Int) ≤ (d : Int)) = true := decide_eq_true h2
      obtain ⟨y, hy, hyd⟩ : ∃ y : Nat, (d : Int) / 256 = (y : Int) ∧ y = d / 256 := ⟨d / 256, by omega, rfl⟩
      have hr : bitLen d = 8 + bitLen y := by rw [hyd]; exact bitLen_8 (by omega)
      rw [hr]
      have hy2 : (y : Int) < 256 := by omega
      have hy3 : y < 256 := by omega
      clear hyd hr
      have ht0 := len8tab_get y hy3
      have ht1 := bitLen_le8 y hy3
      obtain ⟨t, ht⟩ : ∃ t, t = bitLen y := ⟨_, rfl⟩
      rw [← ht] at ht0 ht1 ⊢
      have ht2 : (t : Int) ≤ 8 := by omega
      clear ht
      go_enter Try.func89, Try.ntmps89
      go_wp2_with fail
      go_ret
      refine ⟨?_, rfl⟩
      first | rfl | exact congrArg (fun z : Int => Ending.returned (.int .i64 z)) (show (24 + (t : Int)) = ((16 + (8 + t) : Nat) : Int) by omega)
    · have d2 : decide ((256 : Int) ≤ (d : Int)) = false := decide_eq_false h2
      have h3 : (d : Int) < 256 := by omega
      have h4 : d < 256 := by omega
      have ht0 := len8tab_get d h4
      have ht1 := bitLen_le8 d h4
      obtain ⟨t, ht⟩ : ∃ t, t = bitLen d := ⟨_, rfl⟩
      rw [← ht] at ht0 ht1 ⊢
      have ht2 : (t : Int) ≤ 8 := by omega
      clear ht
      go_enter Try.func89, Try.ntmps89
      go_wp2_with fail
      go_ret
      refine ⟨?_, rfl⟩
      first | rfl | exact congrArg (fun z : Int => Ending.returned (.int .i64 z)) (show (24 + (t : Int)) = ((16 + (8 + t) : Nat) : Int) by omega)

theorem CS.treeGo_count {base v : Nat} (k : Nat) : ∀ {m : Nat} {s : CS} {n : Nat}, s.e.Ok → POk s.P → s.e.count ≤ n → (CS.treeGo base v k m s).e.count ≤ n + k := by
  induction k with
  | zero => intro m s n _ _ h; exact h
  | succ k ih =>
    intro m s n h1 h2 h
    have b1 := RE.bit_ok h1 (h2 (base + m)) (v / 2 ^ k % 2)
    have b2 := turn_ok (h2 (base + m)) (v / 2 ^ k % 2)
    have := ih (m := 2 * m + v / 2 ^ k % 2) (s := s.bit (base + m) (v / 2 ^ k % 2)) (n := n + 1) b1.1 (h2.upd _ b2.1 b2.2) (Nat.le_trans b1.2 (by omega))
    exact Nat.le_trans this (by omega)

theorem EncW.treeCount {w : World} {eb : Nat} {ov : Value} {pa : Nat → Nat × Nat} {n : Nat} {s : CS} (h : EncW w eb ov pa n s) (base nb v : Nat) : (s.tree base nb v).e.count ≤ s.e.count + nb :=
  CS.treeGo_count nb h.ok h.pok (Nat.le_refl _)

theorem RE.straight_count {v : Nat} (k : Nat) : ∀ {c : RE} {n : Nat}, c.Ok → c.count ≤ n → (RE.straightGo v k c).count ≤ n + k := by
  induction k with
  | zero => intro c n _ h; exact h
  | succ k ih =>
    intro c n h1 h
    have b1 := RE.half_ok h1 (v / 2 ^ k % 2)
    have := ih (c := c.half (v / 2 ^ k % 2)) (n := n + 1) b1.1 (by omega)
    exact Nat.le_trans this (by omega)

def dBits (d : Nat) : Nat := if d < 4 then 0 else bitLen d - 2
def dSlot (d : Nat) : Nat := 2 * dBits d + d / 2 ^ dBits d
def dBase (d : Nat) : Nat := d / 2 ^ dBits d * 2 ^ dBits d

/-- A distance, by a length. -/
def CS.dist (s : CS) (l d : Nat) : CS :=
  if dSlot d < 4 then s.tree (432 + 64 * min l 3) 6 (dSlot d)
  else if dSlot d < 14 then (s.tree (432 + 64 * min l 3) 6 (dSlot d)).reverse (688 + (dBase d - dSlot d)) (dBits d) (d - dBase d)
  else ((s.tree (432 + 64 * min l 3) 6 (dSlot d)).straight (dBits d - 4) ((d - dBase d) / 16)).reverse 803 4 (d % 16)

theorem dist_facts {d : Nat} (h4 : 4 ≤ d) (hd : (d : Int) < 4294967296) : ∃ nb q P : Nat, bitLen d = nb + 2 ∧ P = 2 ^ nb ∧ 1 ≤ nb ∧ nb ≤ 30 ∧ (q = 2 ∨ q = 3) ∧ d / 2 ^ nb = q ∧ q * P ≤ d ∧ d < q * P + P ∧ P ≤ 1073741824 ∧ 2 ≤ P := by
  obtain ⟨h1, h2⟩ := bitLen_spec d
  have h2 := h2 (by omega)
  have hb : 3 ≤ bitLen d := by
    rcases Nat.lt_or_ge (bitLen d) 3 with h | h
    · have : 2 ^ bitLen d ≤ 2 ^ 2 := Nat.pow_le_pow_right (by decide) (by omega)
      omega
    · exact h
  have hb2 : bitLen d ≤ 32 := by
    rcases Nat.lt_or_ge 32 (bitLen d) with h | h
    · have : 2 ^ 32 ≤ 2 ^ (bitLen d - 1) := Nat.pow_le_pow_right (by decide) (by omega)
      have e : (2 : Nat) ^ 32 = 4294967296 := by decide
      omega
    · exact h
  obtain ⟨nb, hnb⟩ : ∃ nb, bitLen d = nb + 2 := ⟨bitLen d - 2, by omega⟩
  rw [hnb] at h1 h2
  have hp : 0 < 2 ^ nb := Nat.two_pow_pos nb
  have e1 : 2 ^ (nb + 2) = 4 * 2 ^ nb := by rw [Nat.pow_add]; omega
  have e2 : 2 ^ (nb + 2 - 1) = 2 * 2 ^ nb := by rw [show nb + 2 - 1 = nb + 1 from by omega, Nat.pow_succ]; omega
  rw [e1] at h1
  rw [e2] at h2
  have hq1 : 2 ≤ d / 2 ^ nb := (Nat.le_div_iff_mul_le hp).2 h2
  have hq2 : d / 2 ^ nb < 4 := (Nat.div_lt_iff_lt_mul hp).2 h1
  have hm := Nat.div_add_mod d (2 ^ nb)
  have hm2 := Nat.mod_lt d hp
  have hpm : 2 ^ nb ≤ 2 ^ 30 := Nat.pow_le_pow_right (by decide) (by omega)
  have hpm2 : 2 ^ 1 ≤ 2 ^ nb := Nat.pow_le_pow_right (by decide) (by omega)
  have hc := Nat.mul_comm (2 ^ nb) (d / 2 ^ nb)
  refine ⟨nb, d / 2 ^ nb, 2 ^ nb, hnb, rfl, by omega, by omega, by omega, rfl, by omega, by omega, by omega, by omega⟩

theorem dist_fit {nb q P : Nat} (hP : P = 2 ^ nb) (h1 : 1 ≤ nb) (h5 : nb ≤ 5) (hq : q = 2 ∨ q = 3) : 2 * nb + q ≤ q * P ∧ q * P - (2 * nb + q) + P ≤ 115 ∧ P ≤ 32 := by
  subst hP
  obtain rfl | rfl | rfl | rfl | rfl : nb = 1 ∨ nb = 2 ∨ nb = 3 ∨ nb = 4 ∨ nb = 5 := by omega
  all_goals (rcases hq with rfl | rfl <;> decide)

set_option maxRecDepth 100000 in
set_option maxHeartbeats 1000000 in
theorem lzmac_distance {w : World} {A : CA} {ov tv : Value} {c : CO} (h : CoderW w A ov tv c) {l d : Nat} (hl : l < 272) (hd : (d : Int) < 4294967296) {zl zd : Int} (hzl : zl = (l : Int)) (hzd : zd = (d : Int)) (hn : c.enc.e.count + 60 < 1099511627776) :
    Calls Try.prog 50 #[.pointer (some ⟨A.cb, 0, none⟩), .int .i64 zl, .int .u32 zd] w fun e w' =>
      e = .returned (.tuple #[]) ∧ ∃ ov', CStep w w' A ov ov' tv tv c.n { c with enc := c.enc.dist l d } := by
  subst hzl hzd
  have c4 := h.a4.1
  have c5 := h.a5.1
  obtain ⟨os, cs, _, hs1, hs2⟩ := h.probs.slot.2
  obtain ⟨lm, hlm⟩ : ∃ lm, lm = min l 3 := ⟨_, rfl⟩
  have hlm4 : lm < 4 := by omega
  obtain ⟨gs, hs3, hs4⟩ := hs2 lm hlm4
  have p0 := hs1.1
  have p1 := hs3.1
  have HS4 := Lib.hid hs4
  have hmin : (if (3 : Int) < (l : Int) then (3 : Int) else (l : Int)) = (lm : Int) := by split <;> omega
  have hlm5 : (lm : Int) < 4 := by omega
  have HLM := Lib.hid hlm
  clear hs2 hs4 hlm
  by_cases h4 : d < 4
  · have d4 : decide ((4 : Int) ≤ (d : Int)) = false := decide_eq_false (by omega)
    have e1 : dBits d = 0 := by unfold dBits; rw [if_pos h4]
    have e2 : dSlot d = d := by unfold dSlot; rw [e1]; simp
    have hfin : c.enc.dist l d = c.enc.tree (432 + 64 * lm) 6 d := by unfold CS.dist; rw [e2, if_pos h4, HLM.out]
    rw [hfin]
    have hi4 : (d : Int) < 4 := by omega
    clear h4 e1 e2 hfin
    go_enter Try.func50, Try.ntmps50
    go_wp2_with fail
    go_still_tail 17, (by kernel_rfl)
    change wpList _ _ _ _ _ w.drew
    go_wp2_with fail
    have hnn : 432 + 64 * lm + 64 ≤ c.n := by unfold CO.n; omega
    refine (renc_Tree h.enc.drew (nb := 6) (v := d) (base := 432 + 64 * lm) ⟨fun i hi => by rw [HS4.out i hi, Nat.zero_add], hnn⟩ (by decide) (by decide) (by decide) (by omega) rfl rfl (by omega)).mono ?_
    rintro e w1 ⟨rfl, ov1, S1⟩
    go_wp2_with fail
    go_end0
    exact ⟨rfl, ov1, CoderW.encStep h S1.ofDrew⟩
  · have d4 : decide ((4 : Int) ≤ (d : Int)) = true := decide_eq_true (by omega)
    obtain ⟨nb, q, P, f1, f2, f3, f4, f5, f6, f7, f8, f9, f10⟩ := dist_facts (by omega) hd
    have e1 : dBits d = nb := by unfold dBits; rw [if_neg h4, f1]; omega
    have e2 : dSlot d = 2 * nb + q := by unfold dSlot; rw [e1, f6]
    have e3 : dBase d = q * P := by unfold dBase; rw [e1, f6, f2]
    have hs4 : ¬ dSlot d < 4 := by rw [e2]; omega
    have hsh : (d : Int) / 2 ^ nb = (q : Int) := by rw [pow_cast, ← Int.natCast_ediv, f6]
    have hnb30 : (nb : Int) ≤ 30 := by omega
    have hnb1 : (1 : Int) ≤ nb := by omega
    have hq3 : (q : Int) ≤ 3 := by omega
    have hq2 : (2 : Int) ≤ q := by omega
    obtain ⟨bs, hbs⟩ : ∃ bs, bs = q * P := ⟨_, rfl⟩
    rw [← hbs] at f7 f8 e3
    have hsl : (q : Int) * 2 ^ nb = (bs : Int) := by rw [pow_cast, ← f2, ← Int.natCast_mul, ← hbs]
    have hfin : c.enc.dist l d = if 2 * nb + q < 14 then (c.enc.tree (432 + 64 * lm) 6 (2 * nb + q)).reverse (688 + (bs - (2 * nb + q))) nb (d - bs)
      else ((c.enc.tree (432 + 64 * lm) 6 (2 * nb + q)).straight (nb - 4) ((d - bs) / 16)).reverse 803 4 (d % 16) := by
      unfold CS.dist; rw [if_neg hs4, e2, e1, e3, HLM.out]
    have F := Lib.hid (And.intro f2 (And.intro f3 (And.intro f4 (And.intro f5 (And.intro hbs (And.intro f8 f10))))))
    have HF := Lib.hid hfin
    have hbd : (bs : Int) ≤ d := by omega
    clear h4 e1 e2 e3 hs4 f2 f3 f4 f5 f6 f7 f8 f9 f10 hbs hfin
    go_enter Try.func50, Try.ntmps50
    go_wp2_with fail
    refine (bits_Len32 hd).mono ?_
    rintro e w1 ⟨rfl, rfl⟩
    rw [f1]
    clear f1
    go_wp2_with fail
    go_still_tail 17, (by kernel_rfl)
    change wpList _ _ _ _ _ w1.drew
    go_wp2_with fail
    have hnn : 432 + 64 * lm + 64 ≤ c.n := by unfold CO.n; omega
    refine (renc_Tree h.enc.drew (nb := 6) (v := 2 * nb + q) (base := 432 + 64 * lm) ⟨fun i hi => by rw [HS4.out i hi, Nat.zero_add], hnn⟩ (by decide) (by decide) (by decide) (by omega) rfl (by omega) (by omega)).mono ?_
    rintro e w2 ⟨rfl, ov1, S1⟩
    have T1 := CoderW.encStep h S1.ofDrew
    have hct := h.enc.treeCount (432 + 64 * lm) 6 (2 * nb + q)
    have HC := T1.co
    have q4 := HC.a4.1
    have q5 := HC.a5.1
    clear c4 c5 p0 p1 hmin
    have dd4 : decide (2 * (nb : Int) + (q : Int) < 4) = false := decide_eq_false (by omega)
    obtain ⟨r, hr, hr2⟩ : ∃ r : Nat, IntKind.u32.wrap ((d : Int) - (bs : Int)) = (r : Int) ∧ r = d - bs := ⟨d - bs, by rw [IntKind.wrap_u32']; omega, rfl⟩
    by_cases h14 : 2 * nb + q < 14
    · have dd14 : decide (2 * (nb : Int) + (q : Int) < 14) = true := decide_eq_true (by omega)
      obtain ⟨gp, hp1, hp2⟩ := HC.probs.special.2
      have p7 := hp1.1
      obtain ⟨F1, F2, F3, F4, F5, F6, F7⟩ := F.out
      have hq23 : q = 2 ∨ q = 3 := F4
      obtain ⟨g1, g2, g3⟩ := dist_fit F1 F2 (by omega) hq23
      rw [← F5] at g1 g2
      obtain ⟨off, hoff, hof2⟩ : ∃ off : Nat, IntKind.i64.wrap (IntKind.i64.wrap (bs : Int) - (2 * (nb : Int) + (q : Int))) = (off : Int) ∧ off = bs - (2 * nb + q) := ⟨bs - (2 * nb + q), by rw [IntWalk.i64_in (bs : Int) (by omega), IntWalk.i64_in _ (by omega)]; omega, rfl⟩
      have ho1 : off + P ≤ 115 := by omega
      have ho2 : (off : Int) ≤ 115 := by omega
      have ho3 : ¬ 115 = off := by omega
      have ho4 : off ≤ 115 := by omega
      have hoo := Lib.hid (And.intro hr2 hof2)
      have G := Lib.hid (And.intro F1 (And.intro F6 (And.intro h14 (And.intro g3 hp2))))
      clear F1 F2 F3 F4 F5 F6 F7 hq23 g1 g2 g3 hr2 hof2 h14 hp2
      go_wp2_with fail
      go_still_tail 20, (by kernel_rfl)
      change wpList _ _ _ _ _ w2.drew
      go_wp2_with fail
      clear hoff
      obtain ⟨G1, G2, G3, G4, G5⟩ := G.out
      obtain ⟨G6, G7⟩ := hoo.out
      have hspn : 688 + off + P ≤ c.n := by unfold CO.n; omega
      refine (renc_Reverse HC.enc.drew (nb := nb) (v := r) (base := 688 + off) (pb := gp) (po := off) ⟨fun i hi => by rw [Nat.add_assoc]; exact G5 (off + i) (by rw [← G1] at hi; omega), by rw [← G1]; exact hspn⟩ (by rw [← G1]; omega) (by omega) (by omega) (by omega) rfl rfl (by dsimp only; omega)).mono ?_
      rintro e w3 ⟨rfl, ov2, S2⟩
      go_wp2_with fail
      go_end0
      have T2b := CoderW.encStep HC S2.ofDrew
      have T2 := T1.trans T2b
      rw [HF.out, if_pos G3, ← G7, ← G6]
      exact ⟨rfl, ov2, T2⟩
    · have dd14 : decide (2 * (nb : Int) + (q : Int) < 14) = false := decide_eq_false (by omega)
      obtain ⟨F1, F2, F3, F4, F5, F6, F7⟩ := F.out
      have i14 : (14 : Int) ≤ 2 * nb + q := by omega
      have i5 : (5 : Int) ≤ nb := by omega
      have H14 := Lib.hid (And.intro hr2 h14)
      have hr3 : (r : Int) < 4294967296 := by omega
      clear F1 F2 F3 F4 F5 F6 F7 hr2 h14
      go_wp2_with fail
      refine (renc_Straight HC.enc (nb := nb - 4) (v := r / 16) (by omega) (by omega) (by omega) (by omega) (by dsimp only; omega)).mono ?_
      rintro e w3 ⟨rfl, ov2, S2⟩
      have T2 := CoderW.encStep HC S2
      have hc2 : ((c.enc.tree (432 + 64 * lm) 6 (2 * nb + q)).straight (nb - 4) (r / 16)).e.count ≤ (c.enc.tree (432 + 64 * lm) 6 (2 * nb + q)).e.count + (nb - 4) := RE.straight_count (nb - 4) HC.enc.ok (Nat.le_refl _)
      have HC2 := T2.co
      have r4 := HC2.a4.1
      have r5 := HC2.a5.1
      obtain ⟨ga, ha1, ha2⟩ := HC2.probs.align.2
      have p8 := ha1.1
      have hand : bits .and .u32 (d : Int) 15 = ((d % 16 : Nat) : Int) := by rw [show (15 : Int) = ((15 : Nat) : Int) from rfl, u32_and_nat d 15 (by omega) (by decide), nat_mask4]
      obtain ⟨m16, hm16⟩ : ∃ m16, m16 = d % 16 := ⟨_, rfl⟩
      rw [← hm16] at hand
      have hm17 : m16 < 16 := by omega
      have HM := Lib.hid (And.intro hm16 ha2)
      clear hm16 ha2 q4 q5
      go_wp2_with fail
      go_still_tail 13, (by kernel_rfl)
      change wpList _ _ _ _ _ w3.drew
      go_wp2_with fail
      have hspn : 803 + 16 ≤ c.n := by unfold CO.n; omega
      refine (renc_Reverse HC2.enc.drew (nb := 4) (v := m16) (base := 803) (pb := ga) (po := 0) ⟨fun i hi => by rw [HM.out.2 i hi, Nat.zero_add], hspn⟩ (by decide) (by decide) (by decide) (by omega) rfl rfl (by dsimp only; omega)).mono ?_
      rintro e w4 ⟨rfl, ov3, S3⟩
      go_wp2_with fail
      go_end0
      have T3 := CoderW.encStep HC2 S3.ofDrew
      have T4 := (T1.trans T2).trans T3
      rw [HF.out, if_neg H14.out.2, ← H14.out.1, ← HM.out.1]
      exact ⟨rfl, ov3, T4⟩

end Go.Proofs.Ytahhcaooiahleaa
