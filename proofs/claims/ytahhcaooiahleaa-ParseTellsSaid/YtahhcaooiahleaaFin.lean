/- The range coder's bytes; the coder's stream. -/
import Derived.Test.YtahhcaooiahleaaCode1
namespace Go.Proofs.Ytahhcaooiahleaa
open Go Go.RowKit

def RE.gives : Nat → RE → RE
  | 0, c => c
  | k + 1, c => (RE.gives k c).give

theorem RE.give_low {c : RE} : c.give.low < 4294967296 := by
  unfold RE.give
  split <;> simp only <;> omega
theorem RE.give_waits {c : RE} (h : c.waits < 256) : c.give.waits < 256 := by
  unfold RE.give
  split
  · simp only; omega
  · exact h
theorem RE.gives_ok {c : RE} (h1 : c.low < 8589934592) (h2 : c.waits < 256) (k : Nat) : (RE.gives k c).low < 8589934592 ∧ (RE.gives k c).waits < 256 ∧ (RE.gives k c).count = c.count + k := by
  induction k with
  | zero => exact ⟨h1, h2, rfl⟩
  | succ k ih =>
    obtain ⟨i1, i2, i3⟩ := ih
    have := RE.give_low (c := RE.gives k c)
    refine ⟨by show (RE.gives k c).give.low < _; omega, RE.give_waits i2, ?_⟩
    show (RE.gives k c).give.count = _
    rw [RE.give_count, i3]
    omega

set_option maxRecDepth 100000 in
set_option maxHeartbeats 400000 in
theorem renc_Finish {w : World} {eb : Nat} {ov : Value} {c : RE} (h : Renc w eb ov c) (hlow : c.low < 8589934592) (hwt : c.waits < 256) (hn : c.count + 8 < 1099511627776) :
    Calls Try.prog 83 #[.pointer (some ⟨eb, 0, none⟩)] w fun e w' =>
      ∃ v, e = .returned v ∧ Renc w' eb (.slice none 0 0) RE.new ∧ w'.ownsRow 0 5 1 v c.finish.length (bts c.finish) ∧ v.ownBlock ≠ some eb ∧ NewOr w ov v ∧ Kept (Renc.own' eb ov) w w' := by
  go_enter Try.func83, Try.ntmps83
  go_wp2_with fail
  go_loopw [4] (fun i wr => ∃ (k : Nat) (ov' : Value), k ≤ 5 ∧ i = .int .i64 k ∧ Renc wr eb ov' (RE.gives k c) ∧ NewOr w ov ov' ∧ Kept (Renc.own' eb ov) w wr) (fun i _ => 5 - (intOf i).toNat)
  case atStart => exact ⟨0, ov, by omega, rfl, h, NewOr.refl _ _, Kept.refl _ _⟩
  case round =>
    obtain ⟨k, ov1, hk, rfl, hR, hN, hK⟩ := hrel
    obtain ⟨i1, i2, i3⟩ := RE.gives_ok hlow hwt k
    have HC := Lib.hid i3
    clear i3 i1
    by_cases hlt : k < 5
    · have hd : decide ((k : Int) < 5) = true := decide_eq_true (by omega)
      go_wp2_with fail
      refine (renc_give hR (RE.gives_ok hlow hwt k).1 i2 (by have := HC.out; unfold RE.count at *; omega)).mono ?_
      rintro e w1 ⟨rfl, ov2, hR2, hN2, hK2⟩
      go_wp2_with fail
      go_roundw
      case rel => exact ⟨k + 1, ov2, by omega, by go_num, hR2, hN.trans hN2 hK, hK.trans' hK2 (fun i o hi => hi.elim (fun e => .inl (.inl e)) (fun e => (hN i e).imp .inr id))⟩
      case measure => simp [intOf]; omega
    · have hd : decide ((k : Int) < 5) = false := decide_eq_false (by omega)
      obtain rfl : k = 5 := by omega
      have c4 := hR.a4.1
      have f0 := hR.a0.2
      have f1 := hR.a1.2
      have f2 := hR.a2.2
      have f3 := hR.a3.2
      have f4 := hR.a4.2
      go_wp2_with fail
      refine renc_New.mono ?_
      rintro e w1 ⟨rfl, hE, hs, hk2⟩
      have q0 := hE.a0.1
      have q1 := hE.a1.1
      have q2 := hE.a2.1
      have q3 := hE.a3.1
      have q4 := hE.a4.1
      have R1 := hR.kept hk2 (by simp) (by simp)
      have g0 := R1.a0.2
      have g1 := R1.a1.2
      have g2 := R1.a2.2
      have g3 := R1.a3.2
      have g4 := R1.a4.2
      have d0 := R1.a0.1
      have d1 := R1.a1.1
      have d2 := R1.a2.1
      have d3 := R1.a3.1
      have d4 := R1.a4.1
      go_wp2_with fail
      go_ret
      refine ⟨ov1, rfl, ⟨?_, ?_, ?_, ?_, ?_, World.ownsRow_nil _ _ _ _, by simp [Value.ownBlock]⟩, ?_, hR.ne, hN, ?_⟩
      · exact ((((R1.a0.set _).set_other (by simp) _).set_other (by simp) _).set_other (by simp) _).set_other (by simp) _
      · exact ((((R1.a1.set_other (by simp) _).set _).set_other (by simp) _).set_other (by simp) _).set_other (by simp) _
      · exact ((((R1.a2.set_other (by simp) _).set_other (by simp) _).set _).set_other (by simp) _).set_other (by simp) _
      · exact ((((R1.a3.set_other (by simp) _).set_other (by simp) _).set_other (by simp) _).set _).set_other (by simp) _
      · exact ((((R1.a4.set_other (by simp) _).set_other (by simp) _).set_other (by simp) _).set_other (by simp) _).set _
      · exact ownsRow_setCell_other (ownsRow_setCell_other (ownsRow_setCell_other (ownsRow_setCell_other (ownsRow_setCell_other R1.own hR.ne _) hR.ne _) hR.ne _) hR.ne _) hR.ne _
      · exact (((((hK.trans (hk2.mono (by simp))).setCell (.inl (.inl rfl)) _).setCell (.inl (.inl rfl)) _).setCell (.inl (.inl rfl)) _).setCell (.inl (.inl rfl)) _).setCell (.inl (.inl rfl)) _

/-- The coder behind its stream. -/
def CO.finished (c : CO) : CO := { c with enc := { c.enc with e := RE.new }, ended := false }

theorem RE.finish_len (c : RE) : c.finish.length ≤ c.count + 5 := by
  have h := (show (RE.gives 5 c).count = c.count + 5 from by simp [RE.gives, RE.give_count])
  have : c.finish = (RE.gives 5 c).out := rfl
  rw [this]
  unfold RE.count at *
  omega

set_option maxRecDepth 100000 in
set_option maxHeartbeats 400000 in
theorem lzmac_Finish {w : World} {A : CA} {ov tv : Value} {c : CO} (h : CoderW w A ov tv c) (hn : c.enc.e.count + 8 < 1099511627776) :
    Calls Try.prog 40 #[.pointer (some ⟨A.cb, 0, none⟩)] w fun e w' =>
      ∃ v, e = .returned v ∧ CStep w w' A ov (.slice none 0 0) tv tv c.n c.finished ∧ w'.ownsRow 0 5 1 v c.enc.e.finish.length (bts c.enc.e.finish) ∧ NewOr w ov v ∧ (∀ b, v.ownBlock = some b → ¬ A.Y tv b ∧ b ≠ A.eb ∧ ∀ j, j < c.n → (A.pa j).1 ≠ b) := by
  have c12 := h.a12.1
  have f12 := h.a12.2
  go_enter Try.func40, Try.ntmps40
  have S0 := h.setEnded false
  have H0 := S0.co
  have c4 := H0.a4.1
  go_wp2_with fail
  have ho := H0.enc.ok
  have ho4 := ho.sum
  have ho5 := ho.lo
  refine (renc_Finish H0.enc.renc (by dsimp only at *; omega) ho.waits hn).mono ?_
  rintro e w1 ⟨v, rfl, hE, hO, hne, hN, hK⟩
  go_wp2_with fail
  go_ret
  have hE2 := H0.enc.setE hE RE.new_ok (fun b hb => by simp [Value.ownBlock] at hb) hK
  have S1 := CoderW.encStep H0 hE2
  refine ⟨v, rfl, S0.trans S1, hO, fun b hb => (hN b hb).imp id (fun h' => by simpa using h'), fun b hb => ⟨fun hy => ?_, fun e => hne (by rw [hb, e]), fun j hj e => ?_⟩⟩
  · rcases hN b hb with h' | h'
    · exact H0.apart.ov b hy h'
    · have := H0.apart.lt b hy; omega
  · rcases hN b hb with h' | h'
    · exact (H0.enc.sep j hj).2 (by rw [h', e])
    · have := (H0.enc.pm.at_ j hj).lt; rw [e] at this; omega

end Go.Proofs.Ytahhcaooiahleaa
