/- The range coder's bits, with probabilities that lie wherever they lie. -/
import Derived.Test.YtahhcaooiahleaaRenc
namespace Go.Proofs.Ytahhcaooiahleaa
open Go Go.RowKit

/-- Probabilities in memory: number j lies at pa j. -/
structure PM (w : World) (pa : Nat → Nat × Nat) (n : Nat) (P : Nat → Nat) : Prop where
  at_ : ∀ j, j < n → At w (pa j).1 (pa j).2 (.int .u16 (P j : Nat))
  inj : ∀ i j, i < n → j < n → pa i = pa j → i = j

/-- The probabilities are such as may be. -/
def POk (P : Nat → Nat) : Prop := ∀ j, 31 ≤ P j ∧ P j ≤ 2017

def upd (P : Nat → Nat) (j v : Nat) : Nat → Nat := fun k => if k = j then v else P k

theorem PM.kept {S : Nat → Nat → Prop} {w w' : World} {pa : Nat → Nat × Nat} {n : Nat} {P : Nat → Nat} (h : PM w pa n P) (k : Kept S w w') (hs : ∀ j, j < n → ¬ S (pa j).1 (pa j).2) : PM w' pa n P :=
  ⟨fun j hj => k.at_ _ _ _ (hs j hj) (h.at_ j hj), h.inj⟩

theorem PM.set {w : World} {pa : Nat → Nat × Nat} {n : Nat} {P : Nat → Nat} (h : PM w pa n P) {j : Nat} (hj : j < n) (v : Nat) : PM (w.setCell ⟨(pa j).1, (pa j).2, none⟩ (.int .u16 (v : Nat))) pa n (upd P j v) := by
  refine ⟨fun k hk => ?_, h.inj⟩
  by_cases e : k = j
  · subst e; simpa [upd] using (h.at_ k hk).set _
  · have hne : (⟨(pa j).1, (pa j).2, none⟩ : Addr) ≠ ⟨(pa k).1, (pa k).2, none⟩ := by
      intro e'
      simp at e'
      exact e (h.inj k j hk hj (Prod.ext e'.1.symm e'.2.symm))
    simpa [upd, e] using (h.at_ k hk).set_other hne _

theorem POk.upd {P : Nat → Nat} (h : POk P) (j : Nat) {v : Nat} (h1 : 31 ≤ v) (h2 : v ≤ 2017) : POk (upd P j v) := fun k => by
  unfold Proofs.Ytahhcaooiahleaa.upd; split
  · exact ⟨h1, h2⟩
  · exact h k

theorem turn_ok {p : Nat} (h : 31 ≤ p ∧ p ≤ 2017) (b : Nat) : 31 ≤ turn p b ∧ turn p b ≤ 2017 := by
  unfold turn; split <;> omega

/-- What holds of a range coder between two calls. -/
structure RE.Ok (c : RE) : Prop where
  lo : 16777216 ≤ c.rng
  hi : c.rng < 4294967296
  sum : c.low + c.rng ≤ 8589934592
  waits : c.waits < 256

theorem RE.give_count (c : RE) : c.give.count = c.count + 1 := by
  unfold RE.give RE.count
  split <;> simp <;> omega

theorem RE.level_ok {c : RE} (h1 : 65536 ≤ c.rng) (h2 : c.rng < 4294967296) (h3 : c.low + c.rng ≤ 8589934592) (h4 : c.waits < 256) : c.level.Ok ∧ c.level.count ≤ c.count + 1 := by
  unfold RE.level
  split
  · refine ⟨?_, by rw [RE.give_count]; simp [RE.count]⟩
    unfold RE.give
    split
    · constructor <;> simp <;> omega
    · constructor <;> simp <;> omega
  · exact ⟨⟨by omega, h2, h3, h4⟩, by omega⟩

theorem bound_lo {r p : Nat} (h : 16777216 ≤ r) (hp : 31 ≤ p) : 253952 ≤ r / 2048 * p :=
  calc 253952 = 8192 * 31 := by decide
    _ ≤ r / 2048 * p := Nat.mul_le_mul (by omega) hp
theorem bound_hi {r p : Nat} (hp : p ≤ 2017) : r / 2048 * p ≤ r / 2048 * 2017 := Nat.mul_le_mul_left _ hp

theorem RE.bit_ok {c : RE} (h : c.Ok) {p : Nat} (hp : 31 ≤ p ∧ p ≤ 2017) (b : Nat) : (c.bit p b).Ok ∧ (c.bit p b).count ≤ c.count + 1 := by
  obtain ⟨h1, h2, h3, h4⟩ := h
  have b1 := bound_lo h1 hp.1
  have b2 := bound_hi (r := c.rng) hp.2
  unfold RE.bit
  split
  · have := RE.level_ok (c := { c with rng := c.rng / 2048 * p }) (by simp only; omega) (by simp only; omega) (by simp only; omega) h4
    exact this
  · have := RE.level_ok (c := { c with low := c.low + c.rng / 2048 * p, rng := c.rng - c.rng / 2048 * p }) (by simp only; omega) (by simp only; omega) (by simp only; omega) h4
    exact this

set_option maxRecDepth 100000 in
set_option maxHeartbeats 400000 in
theorem renc_level {w : World} {eb : Nat} {ov : Value} {c : RE} (h : Renc w eb ov c) (h1 : 65536 ≤ c.rng) (h2 : c.rng < 4294967296) (hlow : c.low < 8589934592) (hwt : c.waits < 256) (hn : c.count + 4 < 1099511627776) :
    Calls Try.prog 87 #[.pointer (some ⟨eb, 0, none⟩)] w fun e w' =>
      e = .returned (.tuple #[]) ∧ ∃ ov', Renc w' eb ov' c.level ∧ NewOr w ov ov' ∧ Kept (Renc.own' eb ov) w w' := by
  have h0 := h
  obtain ⟨low, rng, waits, more, out⟩ := c
  obtain ⟨a0, a1, a2, a3, a4, hown, hne⟩ := h
  dsimp only [RE.count] at *
  have c1 := a1.1
  have f1 := a1.2
  have i1 : (65536 : Int) ≤ rng := by omega
  have i2 : (rng : Int) < 4294967296 := by omega
  have i3 : (low : Int) < 8589934592 := by omega
  have i4 : ((out.length + more + 5 + 4 : Nat) : Int) < 1099511627776 := by omega
  clear h1 h2 hlow hn
  by_cases hc : (rng : Int) < 16777216
  · go_enter Try.func87, Try.ntmps87
    go_wp2_with fail
    refine wp_loop_rounds 2 ?_
    rw [rounds_succ]
    go_wp2_with fail
    have hr : Renc (w.setCell ⟨eb, 1, none⟩ (.int .u32 ((rng * 256 : Nat) : Int))) eb ov { low, rng := rng * 256, waits, more, out } :=
      ⟨a0.set_other (by simp) _, a1.set _, a2.set_other (by simp) _, a3.set_other (by simp) _, a4.set_other (by simp) _, ownsRow_setCell_other hown hne _, hne⟩
    refine (renc_give hr (by simp only; omega) hwt (by simp only; omega)).mono ?_
    rintro e w1 ⟨rfl, ov1, h1, hn1, hk1⟩
    obtain ⟨r1, hr1⟩ : ∃ r1, r1 = (RE.give { low, rng := rng * 256, waits, more, out }).rng := ⟨_, rfl⟩
    have d1 := h1.a1.1
    rw [← hr1] at d1
    have hge : (16777216 : Int) ≤ r1 := by
      have : r1 = rng * 256 := by rw [hr1]; unfold RE.give; split <;> rfl
      omega
    clear hr1
    have hd1 : decide ((r1 : Int) < 16777216) = false := decide_eq_false (by omega)
    go_wp2_with fail
    rw [rounds_succ]
    go_wp2_with fail
    go_end0
    refine ⟨rfl, ov1, ?_, hn1.old (by simp), ((Kept.refl _ _).setCell (.inl (.inl rfl)) _).trans hk1⟩
    unfold RE.level; rw [if_pos (by simp only; omega)]; exact h1
  · have hd : decide ((rng : Int) < 16777216) = false := decide_eq_false hc
    go_enter Try.func87, Try.ntmps87
    go_wp2_with fail
    refine wp_loop_rounds 1 ?_
    rw [rounds_succ]
    go_wp2_with fail
    go_end0
    have hl : RE.level { low, rng, waits, more, out } = { low, rng, waits, more, out } := by unfold RE.level; rw [if_neg (by simp only; omega)]
    rw [hl]
    exact ⟨rfl, ov, h0, NewOr.refl _ _, Kept.refl _ _⟩

/-- A coder and its probabilities. -/
structure CS where
  e : RE
  P : Nat → Nat

def CS.bit (s : CS) (j b : Nat) : CS := { e := s.e.bit (s.P j) b, P := upd s.P j (turn (s.P j) b) }

structure EncW (w : World) (eb : Nat) (ov : Value) (pa : Nat → Nat × Nat) (n : Nat) (s : CS) : Prop where
  renc : Renc w eb ov s.e
  pm : PM w pa n s.P
  sep : ∀ j, j < n → (pa j).1 ≠ eb ∧ ov.ownBlock ≠ some (pa j).1
  ok : s.e.Ok
  pok : POk s.P

/-- What a coder writes: its own block, its bytes, probabilities. -/
def EncS (eb : Nat) (ov : Value) (pa : Nat → Nat × Nat) (n : Nat) (b o : Nat) : Prop := (b = eb ∨ ov.ownBlock = some b) ∨ ∃ j, j < n ∧ pa j = (b, o)

/-- A step from a coder's state to another one. -/
structure EncStep (w w' : World) (eb : Nat) (ov ov' : Value) (pa : Nat → Nat × Nat) (n : Nat) (s' : CS) : Prop where
  enc : EncW w' eb ov' pa n s'
  new : NewOr w ov ov'
  kept : Kept (EncS eb ov pa n) w w'

theorem EncStep.trans {w w1 w2 : World} {eb : Nat} {a b c : Value} {pa : Nat → Nat × Nat} {n : Nat} {s s' : CS} (h : EncStep w w1 eb a b pa n s) (k : EncStep w1 w2 eb b c pa n s') : EncStep w w2 eb a c pa n s' := by
  refine ⟨k.enc, h.new.trans k.new h.kept, h.kept.trans' k.kept (fun i o hi => ?_)⟩
  rcases hi with (hi | hi) | hi
  · exact .inl (.inl (.inl hi))
  · exact (h.new i hi).imp (fun e => .inl (.inr e)) id
  · exact .inl (.inr hi)

theorem turn_0 {p : Nat} (h1 : 31 ≤ p) (h2 : p ≤ 2017) : (p : Int) + (2048 - (p : Int)) / 32 = ((turn p 0 : Nat) : Int) := by
  simp only [turn, if_true]; omega
theorem turn_1 {p b : Nat} (h1 : 31 ≤ p) (h2 : p ≤ 2017) (hb : b ≠ 0) : (p : Int) - (p : Int) / 32 = ((turn p b : Nat) : Int) := by
  simp only [turn, if_neg hb]; omega

theorem PM.drewN {w : World} {pa : Nat → Nat × Nat} {n : Nat} {P : Nat → Nat} (h : PM w pa n P) (k : Nat) : PM (w.drewN k) pa n P := ⟨h.at_, h.inj⟩
theorem PM.drew {w : World} {pa : Nat → Nat × Nat} {n : Nat} {P : Nat → Nat} (h : PM w pa n P) : PM w.drew pa n P := ⟨h.at_, h.inj⟩
theorem PM.setOther {w : World} {pa : Nat → Nat × Nat} {n : Nat} {P : Nat → Nat} (h : PM w pa n P) {b o : Nat} (hs : ∀ j, j < n → (pa j).1 ≠ b) (v : Value) : PM (w.setCell ⟨b, o, none⟩ v) pa n P :=
  ⟨fun j hj => (h.at_ j hj).set_other (by simp; intro e; exact absurd e.symm (hs j hj)) _, h.inj⟩


set_option maxRecDepth 100000 in
set_option maxHeartbeats 400000 in
theorem renc_Bit {w : World} {eb : Nat} {ov : Value} {pa : Nat → Nat × Nat} {n : Nat} {s : CS} (h : EncW w eb ov pa n s) {j : Nat} (hj : j < n) {a : Addr} (ha : (⟨(pa j).1, (pa j).2, none⟩ : Addr) = a)
    {z : Int} {b : Nat} (hz : z = (b : Int)) (hn : s.e.count + 4 < 1099511627776) :
    Calls Try.prog 46 #[.pointer (some ⟨eb, 0, none⟩), .pointer (some a), .int .i64 z] w fun e w' =>
      e = .returned (.tuple #[]) ∧ ∃ ov', EncStep w w' eb ov ov' pa n (s.bit j b) := by
  subst ha
  obtain ⟨⟨low, rng, waits, more, out⟩, P⟩ := s
  obtain ⟨hR, hP, hsep, hok, hpok⟩ := h
  obtain ⟨k1, k2, k3, k4⟩ := hok
  dsimp only [RE.count] at *
  obtain ⟨p, hp⟩ : ∃ p, p = P j := ⟨_, rfl⟩
  obtain ⟨hp1, hp2⟩ := hpok j
  rw [← hp] at hp1 hp2
  obtain ⟨bd, hbd⟩ : ∃ bd, bd = rng / 2048 * p := ⟨_, rfl⟩
  have b1 := bound_lo k1 hp1
  have b2 := bound_hi (r := rng) hp2
  rw [← hbd] at b1 b2
  have hok : RE.Ok { low, rng, waits, more, out } := ⟨k1, k2, k3, k4⟩
  have hpm : (p : Int) % 4294967296 = (p : Int) := by omega
  have hx : (rng : Int) / 2048 * (p : Int) % 4294967296 = (bd : Int) := by
    have : (rng : Int) / 2048 * (p : Int) = (bd : Int) := by rw [hbd]; push_cast; rfl
    rw [this]; omega
  have c1 := hR.a1.1
  have f1 := hR.a1.2
  have c0 := hR.a0.1
  have f0 := hR.a0.2
  have aj := hP.at_ j hj
  have cj := aj.1
  have fj := aj.2
  obtain ⟨s1, s2⟩ := hsep j hj
  dsimp only at c1 f1 c0 f0 cj fj
  rw [← hp] at cj
  have HB := Lib.hid hbd
  have HP := Lib.hid hp
  have i1 : (16777216 : Int) ≤ rng := by omega
  have i2 : (rng : Int) < 4294967296 := by omega
  clear hbd hp
  by_cases hb : b = 0
  · have hq : (z == 0) = true := beq_iff_eq.2 (by omega)
    have HZ := Lib.hid hz
    clear hz
    go_enter Try.func46, Try.ntmps46
    go_wp2_with fail
    go_quiet (fail)
    rw [hx]
    clear hx
    go_wp2_with fail
    go_region
    rw [turn_0 hp1 hp2]
    go_wp2_with fail
    refine (renc_level ((((hR.drewN _).setRng bd).setOther s1 s2 _).drew) (by simp only; omega) (by simp only; omega) (by simp only; omega) (by simp only; omega) (by simp only [RE.count]; omega)).mono ?_
    rintro e w1 ⟨rfl, ov1, h1, hn1, hk1⟩
    go_wp2_with fail
    go_end0
    subst hb
    have hbe : RE.bit { low, rng, waits, more, out } (P j) 0 = RE.level { low, rng := bd, waits, more, out } := by unfold RE.bit; rw [if_pos rfl]; simp only [HB.out, HP.out]
    have hok' := RE.bit_ok hok (hpok j) 0
    refine ⟨rfl, ov1, ⟨⟨?_, ?_, fun i hi => ⟨(hsep i hi).1, fun e => ?_⟩, hok'.1, hpok.upd j (turn_ok (hpok j) 0).1 (turn_ok (hpok j) 0).2⟩, hn1.old (by simp), ?_⟩⟩
    · dsimp only [CS.bit]; rw [hbe]; exact h1
    · dsimp only [CS.bit]; rw [← HP.out]
      exact ((((hP.drewN _).setOther (fun i hi => (hsep i hi).1) _).set hj _).drew).kept hk1 (fun i hi hs => hs.elim (hsep i hi).1 (hsep i hi).2)
    · have hl := (hP.at_ i hi).lt
      rcases hn1 _ e with h' | h'
      · exact (hsep i hi).2 h'
      · simp at h'; omega
    · refine Kept.trans' (S' := Renc.own' eb ov) ?_ hk1 (fun i o hi => .inl (.inl hi))
      exact (((((Kept.refl _ _).drewN _).setCell (.inl (.inl (.inl rfl))) _).setCell (.inl (.inr ⟨j, hj, rfl⟩)) _).drew)
  · have hq : (z == 0) = false := beq_eq_false_iff_ne.2 (by omega)
    have HZ := Lib.hid hz
    clear hz
    go_enter Try.func46, Try.ntmps46
    go_wp2_with fail
    go_quiet (fail)
    rw [hx]
    clear hx
    go_wp2_with fail
    go_region
    rw [turn_1 hp1 hp2 hb]
    go_wp2_with fail
    rw [show (rng : Int) - (bd : Int) = ((rng - bd : Nat) : Int) from by omega]
    refine (renc_level (((((hR.drewN _).setLow (low + bd)).setRng (rng - bd)).setOther s1 s2 _).drew) (by simp only; omega) (by simp only; omega) (by simp only; omega) (by simp only; omega) (by simp only [RE.count]; omega)).mono ?_
    rintro e w1 ⟨rfl, ov1, h1, hn1, hk1⟩
    go_wp2_with fail
    go_end0
    have hbe : RE.bit { low, rng, waits, more, out } (P j) b = RE.level { low := low + bd, rng := rng - bd, waits, more, out } := by unfold RE.bit; rw [if_neg hb]; simp only [HB.out, HP.out]
    have hok' := RE.bit_ok hok (hpok j) b
    refine ⟨rfl, ov1, ⟨⟨?_, ?_, fun i hi => ⟨(hsep i hi).1, fun e => ?_⟩, hok'.1, hpok.upd j (turn_ok (hpok j) b).1 (turn_ok (hpok j) b).2⟩, hn1.old (by simp), ?_⟩⟩
    · dsimp only [CS.bit]; rw [hbe]; exact h1
    · dsimp only [CS.bit]; rw [← HP.out]
      exact (((((hP.drewN _).setOther (fun i hi => (hsep i hi).1) _).setOther (fun i hi => (hsep i hi).1) _).set hj _).drew).kept hk1 (fun i hi hs => hs.elim (hsep i hi).1 (hsep i hi).2)
    · have hl := (hP.at_ i hi).lt
      rcases hn1 _ e with h' | h'
      · exact (hsep i hi).2 h'
      · simp at h'; omega
    · refine Kept.trans' (S' := Renc.own' eb ov) ?_ hk1 (fun i o hi => .inl (.inl hi))
      exact ((((((Kept.refl _ _).drewN _).setCell (.inl (.inl (.inl rfl))) _).setCell (.inl (.inl (.inl rfl))) _).setCell (.inl (.inr ⟨j, hj, rfl⟩)) _).drew)

end Go.Proofs.Ytahhcaooiahleaa
