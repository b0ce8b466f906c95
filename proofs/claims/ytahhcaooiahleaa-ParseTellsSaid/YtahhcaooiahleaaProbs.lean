/- The coder's probabilities: where they lie, and how they are made. -/
import Derived.Test.YtahhcaooiahleaaFresh
namespace Go.Proofs.Ytahhcaooiahleaa
open Go Go.RowKit

/-- Fresh probabilities, number i at f i; all of them at places of D. -/
structure FReg (w : World) (f : Nat → Nat × Nat) (D : Nat → Prop) (n : Nat) : Prop where
  at_ : ∀ i, i < n → At w (f i).1 (f i).2 (.int .u16 1024)
  dom : ∀ i, i < n → D (f i).1
  inj : ∀ i j, i < n → j < n → f i = f j → i = j

def cat (n : Nat) (f g : Nat → Nat × Nat) : Nat → Nat × Nat := fun j => if j < n then f j else g (j - n)

theorem cat_lo {n : Nat} {f g : Nat → Nat × Nat} {j : Nat} (h : j < n) : cat n f g j = f j := if_pos h
theorem cat_hi {n : Nat} {f g : Nat → Nat × Nat} {j k : Nat} (h : j = n + k) : cat n f g j = g k := by
  subst h; unfold cat; rw [if_neg (by omega)]; congr 1; omega

theorem FReg.cat {w : World} {f g : Nat → Nat × Nat} {D E : Nat → Prop} {n m : Nat} (h : FReg w f D n) (k : FReg w g E m) (hd : ∀ b, D b → ¬ E b) : FReg w (cat n f g) (fun b => D b ∨ E b) (n + m) := by
  refine ⟨fun i hi => ?_, fun i hi => ?_, fun i j hi hj e => ?_⟩
  · by_cases hc : i < n
    · rw [cat_lo hc]; exact h.at_ i hc
    · rw [cat_hi (k := i - n) (by omega)]; exact k.at_ _ (by omega)
  · by_cases hc : i < n
    · rw [cat_lo hc]; exact .inl (h.dom i hc)
    · rw [cat_hi (k := i - n) (by omega)]; exact .inr (k.dom _ (by omega))
  · by_cases h1 : i < n <;> by_cases h2 : j < n
    · rw [cat_lo h1, cat_lo h2] at e; exact h.inj i j h1 h2 e
    · rw [cat_lo h1, cat_hi (k := j - n) (by omega)] at e
      exact absurd (e ▸ k.dom (j - n) (by omega)) (hd _ (h.dom i h1))
    · rw [cat_lo h2, cat_hi (k := i - n) (by omega)] at e
      exact absurd (e.symm ▸ k.dom (i - n) (by omega)) (hd _ (h.dom j h2))
    · rw [cat_hi (k := i - n) (by omega), cat_hi (k := j - n) (by omega)] at e
      have := k.inj _ _ (by omega) (by omega) e
      omega

theorem FReg.kept {S : Nat → Nat → Prop} {w w' : World} {f : Nat → Nat × Nat} {D : Nat → Prop} {n : Nat} (h : FReg w f D n) (k : Kept S w w') (hs : ∀ i, i < n → ¬ S (f i).1 (f i).2) : FReg w' f D n :=
  ⟨fun i hi => k.at_ _ _ _ (hs i hi) (h.at_ i hi), h.dom, h.inj⟩

/-- The blocks from lo to hi. -/
def Btw (lo hi b : Nat) : Prop := lo ≤ b ∧ b < hi

theorem FreshRow.reg {w w' : World} {g n : Nat} (h : FreshRow w w' g n) : FReg w' (fun i => (g, i)) (Btw w.heap.size w'.heap.size) n :=
  ⟨h.at_, fun _ _ => ⟨h.new, h.lt⟩, fun i j _ _ e => by simpa using e⟩

theorem FreshRows.reg {w w' : World} {v : Value} {ob : Nat} {g : Nat → Nat} {n m : Nat} (hm : 0 < m) (h : FreshRows w w' v ob g n m) : FReg w' (fun i => (g (i / m), i % m)) (Btw w.heap.size w'.heap.size) (n * m) := by
  have hd : ∀ i, i < n * m → i / m < n := fun i hi => Nat.div_lt_of_lt_mul (by rw [Nat.mul_comm]; exact hi)
  refine ⟨fun i hi => (h.at_ (i / m) (hd i hi)).2.2.2 _ (Nat.mod_lt _ hm), fun i hi => ⟨(h.at_ (i / m) (hd i hi)).1, (h.at_ (i / m) (hd i hi)).2.1⟩, fun i j hi hj e => ?_⟩
  simp only [Prod.mk.injEq] at e
  have e1 := h.inj _ _ (hd i hi) (hd j hj) e.1
  rw [← Nat.div_add_mod i m, ← Nat.div_add_mod j m, e1, e.2]

/-- Cell o of block pb holds a row of m probabilities, from number base on. -/
def Vec (w : World) (X : Nat → Prop) (pb o : Nat) (pa : Nat → Nat × Nat) (base m : Nat) : Prop :=
  X pb ∧ ∃ g, At w pb o (.slice (some ⟨g, 0, none⟩) m m) ∧ ∀ s, s < m → pa (base + s) = (g, s)

/-- Cell o of block pb holds n rows of m probabilities each, from number base on. -/
def Tab (w : World) (X : Nat → Prop) (pb o : Nat) (pa : Nat → Nat × Nat) (base n m : Nat) : Prop :=
  X pb ∧ ∃ ob cap, X ob ∧ At w pb o (.slice (some ⟨ob, 0, none⟩) n cap) ∧ ∀ i, i < n → ∃ g, At w ob i (.slice (some ⟨g, 0, none⟩) m m) ∧ ∀ s, s < m → pa (base + m * i + s) = (g, s)

theorem Vec.kept {S : Nat → Nat → Prop} {w w' : World} {X : Nat → Prop} {pb o : Nat} {pa : Nat → Nat × Nat} {base m : Nat} (h : Vec w X pb o pa base m) (k : Kept S w w') (hs : ∀ b, X b → ∀ o, ¬ S b o) : Vec w' X pb o pa base m := by
  obtain ⟨hx, g, a, e⟩ := h
  exact ⟨hx, g, k.at_ _ _ _ (hs _ hx _) a, e⟩

theorem Tab.kept {S : Nat → Nat → Prop} {w w' : World} {X : Nat → Prop} {pb o : Nat} {pa : Nat → Nat × Nat} {base n m : Nat} (h : Tab w X pb o pa base n m) (k : Kept S w w') (hs : ∀ b, X b → ∀ o, ¬ S b o) : Tab w' X pb o pa base n m := by
  obtain ⟨hx, ob, cap, hx2, a, e⟩ := h
  refine ⟨hx, ob, cap, hx2, k.at_ _ _ _ (hs _ hx _) a, fun i hi => ?_⟩
  obtain ⟨g, a2, e2⟩ := e i hi
  exact ⟨g, k.at_ _ _ _ (hs _ hx2 _) a2, e2⟩

/-- The probabilities of lengths, from number base on. -/
structure CLens (w : World) (X : Nat → Prop) (lb : Nat) (pa : Nat → Nat × Nat) (base : Nat) : Prop where
  which : Vec w X lb 0 pa base 2
  low : Tab w X lb 1 pa (base + 2) 16 8
  mid : Tab w X lb 2 pa (base + 130) 16 8
  high : Vec w X lb 3 pa (base + 258) 256

theorem CLens.kept {S : Nat → Nat → Prop} {w w' : World} {X : Nat → Prop} {lb : Nat} {pa : Nat → Nat × Nat} {base : Nat} (h : CLens w X lb pa base) (k : Kept S w w') (hs : ∀ b, X b → ∀ o, ¬ S b o) : CLens w' X lb pa base :=
  ⟨h.which.kept k hs, h.low.kept k hs, h.mid.kept k hs, h.high.kept k hs⟩

/-- All probabilities: m of them are those of literals. -/
structure CProbs (w : World) (X : Nat → Prop) (pb : Nat) (pa : Nat → Nat × Nat) (m : Nat) : Prop where
  isMatch : Tab w X pb 0 pa 0 12 16
  long : Tab w X pb 1 pa 240 12 16
  rep : Vec w X pb 2 pa 192 12
  rep0 : Vec w X pb 3 pa 204 12
  rep1 : Vec w X pb 4 pa 216 12
  rep2 : Vec w X pb 5 pa 228 12
  slot : Tab w X pb 6 pa 432 4 64
  special : Vec w X pb 7 pa 688 115
  align : Vec w X pb 8 pa 803 16
  len : ∃ lb, At w pb 9 (.pointer (some ⟨lb, 0, none⟩)) ∧ CLens w X lb pa 819
  repLen : ∃ lb, At w pb 10 (.pointer (some ⟨lb, 0, none⟩)) ∧ CLens w X lb pa 1333
  lit : Vec w X pb 11 pa 1847 m

theorem CProbs.kept {S : Nat → Nat → Prop} {w w' : World} {X : Nat → Prop} {pb : Nat} {pa : Nat → Nat × Nat} {m : Nat} (h : CProbs w X pb pa m) (k : Kept S w w') (hs : ∀ b, X b → ∀ o, ¬ S b o) : CProbs w' X pb pa m := by
  have hx := h.rep.1
  obtain ⟨lb, a, hl⟩ := h.len
  obtain ⟨lb2, a2, hl2⟩ := h.repLen
  exact ⟨h.isMatch.kept k hs, h.long.kept k hs, h.rep.kept k hs, h.rep0.kept k hs, h.rep1.kept k hs, h.rep2.kept k hs, h.slot.kept k hs, h.special.kept k hs, h.align.kept k hs,
    ⟨lb, k.at_ _ _ _ (hs _ hx _) a, hl.kept k hs⟩, ⟨lb2, k.at_ _ _ _ (hs _ hx _) a2, hl2.kept k hs⟩, h.lit.kept k hs⟩

/-- Where a coder's lengths lie. -/
structure LenA where
  wh : Nat
  lo : Nat → Nat
  mi : Nat → Nat
  hi : Nat

def LenA.pa (A : LenA) : Nat → Nat × Nat := cat 2 (fun i => (A.wh, i)) (cat 128 (fun i => (A.lo (i / 8), i % 8)) (cat 128 (fun i => (A.mi (i / 8), i % 8)) (fun i => (A.hi, i))))

/-- Lengths that were just made: their block, and all that they hold. -/
structure FreshLens (w w' : World) (lb : Nat) (A : LenA) : Prop where
  kept : Kept (fun _ _ => False) w w'
  lt : lb < w'.heap.size
  new : w.heap.size ≤ lb
  lens : ∀ pa base X, (∀ i, i < 514 → pa (base + i) = A.pa i) → (∀ b, w.heap.size ≤ b → b < w'.heap.size → (∀ i, i < 514 → (A.pa i).1 ≠ b) → X b) → CLens w' X lb pa base
  reg : FReg w' A.pa (fun b => Btw w.heap.size w'.heap.size b ∧ b ≠ lb) 514

theorem FReg.weaken {w : World} {f : Nat → Nat × Nat} {D E : Nat → Prop} {n : Nat} (h : FReg w f D n) (hd : ∀ i, i < n → D (f i).1 → E (f i).1) : FReg w f E n :=
  ⟨h.at_, fun i hi => hd i hi (h.dom i hi), h.inj⟩

theorem LenA.pa_which (A : LenA) {s : Nat} (h : s < 2) : A.pa s = (A.wh, s) := cat_lo h
theorem LenA.pa_low (A : LenA) {i s : Nat} (hi : i < 16) (h : s < 8) : A.pa (2 + 8 * i + s) = (A.lo i, s) := by
  unfold LenA.pa
  rw [cat_hi (k := 8 * i + s) (by omega), cat_lo (by omega), show (8 * i + s) / 8 = i from by omega, show (8 * i + s) % 8 = s from by omega]
theorem LenA.pa_mid (A : LenA) {i s : Nat} (hi : i < 16) (h : s < 8) : A.pa (130 + 8 * i + s) = (A.mi i, s) := by
  unfold LenA.pa
  rw [cat_hi (k := 128 + (8 * i + s)) (by omega), cat_hi (k := 8 * i + s) (by omega), cat_lo (by omega), show (8 * i + s) / 8 = i from by omega, show (8 * i + s) % 8 = s from by omega]
theorem LenA.pa_high (A : LenA) {s : Nat} : A.pa (258 + s) = (A.hi, s) := by
  unfold LenA.pa
  rw [cat_hi (k := 256 + s) (by omega), cat_hi (k := 128 + s) (by omega), cat_hi (k := s) (by omega)]

theorem LenA.pa_block (A : LenA) {i : Nat} (h : i < 514) : (A.pa i).1 = A.wh ∨ (∃ k, k < 16 ∧ (A.pa i).1 = A.lo k) ∨ (∃ k, k < 16 ∧ (A.pa i).1 = A.mi k) ∨ (A.pa i).1 = A.hi := by
  by_cases h1 : i < 2
  · rw [A.pa_which h1]; exact .inl rfl
  · by_cases h2 : i < 130
    · rw [show i = 2 + 8 * ((i - 2) / 8) + (i - 2) % 8 from by omega, A.pa_low (by omega) (by omega)]; exact .inr (.inl ⟨_, by omega, rfl⟩)
    · by_cases h3 : i < 258
      · rw [show i = 130 + 8 * ((i - 130) / 8) + (i - 130) % 8 from by omega, A.pa_mid (by omega) (by omega)]; exact .inr (.inr (.inl ⟨_, by omega, rfl⟩))
      · rw [show i = 258 + (i - 258) from by omega, A.pa_high]; exact .inr (.inr (.inr rfl))

set_option maxRecDepth 100000 in
set_option maxHeartbeats 400000 in
theorem lzmac_newLengths {w : World} :
    Calls Try.prog 86 #[] w fun e w' => ∃ lb A, e = .returned (.pointer (some ⟨lb, 0, none⟩)) ∧ FreshLens w w' lb A := by
  go_enter Try.func86, Try.ntmps86
  go_wp2_with fail
  refine (rdec_Fresh (n := 2) (by omega) rfl).mono ?_
  rintro e w1 ⟨g1, rfl, h1⟩
  go_wp2_with fail
  refine (lzmac_rows (n := 16) (m := 8) (by omega) (by omega) (by omega) rfl rfl).mono ?_
  rintro e w2 ⟨v2, o2, g2, rfl, h2⟩
  go_wp2_with fail
  refine (lzmac_rows (n := 16) (m := 8) (by omega) (by omega) (by omega) rfl rfl).mono ?_
  rintro e w3 ⟨v3, o3, g3, rfl, h3⟩
  go_wp2_with fail
  refine (rdec_Fresh (n := 256) (by omega) rfl).mono ?_
  rintro e w4 ⟨g4, rfl, h4⟩
  obtain ⟨c2, rfl⟩ := h2.form
  obtain ⟨c3, rfl⟩ := h3.form
  go_wp2_with fail
  go_ret
  have s1 := h1.kept.size
  have s2 := h2.kept.size
  have s3 := h3.kept.size
  have s4 := h4.kept.size
  have n1 := h1.new
  have l1 := h1.lt
  have n2 := h2.new
  have l2 := h2.lt
  have n3 := h3.new
  have l3 := h3.lt
  have n4 := h4.new
  have l4 := h4.lt
  obtain ⟨w5, hw5⟩ : ∃ w5, w5 = w4.alloc (.cells #[.slice (some ⟨g1, 0, none⟩) 2 2, .slice (some ⟨o2, 0, none⟩) 16 c2, .slice (some ⟨o3, 0, none⟩) 16 c3, .slice (some ⟨g4, 0, none⟩) 256 256] 150) := ⟨_, rfl⟩
  have k5 : Kept (fun _ _ => False) w4 w5 := by rw [hw5]; exact Kept.of_alloc _ _ _
  have b0 : At w5 w4.heap.size 0 (.slice (some ⟨g1, 0, none⟩) 2 2) := by rw [hw5]; exact At.alloc_new _ _ _ _ _ rfl
  have b1 : At w5 w4.heap.size 1 (.slice (some ⟨o2, 0, none⟩) 16 c2) := by rw [hw5]; exact At.alloc_new _ _ _ _ _ rfl
  have b2 : At w5 w4.heap.size 2 (.slice (some ⟨o3, 0, none⟩) 16 c3) := by rw [hw5]; exact At.alloc_new _ _ _ _ _ rfl
  have b3 : At w5 w4.heap.size 3 (.slice (some ⟨g4, 0, none⟩) 256 256) := by rw [hw5]; exact At.alloc_new _ _ _ _ _ rfl
  have s5 : w5.heap.size = w4.heap.size + 1 := by rw [hw5]; simp
  have k45 := h4.kept.trans k5
  have k35 := h3.kept.trans k45
  have k25 := h2.kept.trans k35
  have k15 := h1.kept.trans k25
  refine ⟨w4.heap.size, ⟨g1, g2, g3, g4⟩, rfl, ?_⟩
  rw [← hw5]
  have q2 := fun k hk => h2.at_ k hk
  have q3 := fun k hk => h3.at_ k hk
  refine ⟨k15, by omega, by omega, fun pa base X hpa hX => ?_, ?_⟩
  · have xl : X w4.heap.size := hX _ (by omega) (by omega) (fun i hi e => by
      rcases LenA.pa_block ⟨g1, g2, g3, g4⟩ hi with h | ⟨k, hk, h⟩ | ⟨k, hk, h⟩ | h <;> rw [h] at e <;> dsimp only at e
      · omega
      · have := q2 k hk; omega
      · have := q3 k hk; omega
      · omega)
    have x2 : X o2 := hX _ (by omega) (by omega) (fun i hi e => by
      rcases LenA.pa_block ⟨g1, g2, g3, g4⟩ hi with h | ⟨k, hk, h⟩ | ⟨k, hk, h⟩ | h <;> rw [h] at e <;> dsimp only at e
      · omega
      · exact (q2 k hk).2.2.1 e
      · have := q3 k hk; omega
      · omega)
    have x3 : X o3 := hX _ (by omega) (by omega) (fun i hi e => by
      rcases LenA.pa_block ⟨g1, g2, g3, g4⟩ hi with h | ⟨k, hk, h⟩ | ⟨k, hk, h⟩ | h <;> rw [h] at e <;> dsimp only at e
      · omega
      · have := q2 k hk; omega
      · exact (q3 k hk).2.2.1 e
      · omega)
    refine ⟨⟨xl, g1, b0, fun s hs => ?_⟩, ⟨xl, o2, c2, x2, b1, fun i hi => ⟨g2 i, k35.at_ _ _ _ (by simp) (h2.rows i hi), fun s hs => ?_⟩⟩, ⟨xl, o3, c3, x3, b2, fun i hi => ⟨g3 i, k45.at_ _ _ _ (by simp) (h3.rows i hi), fun s hs => ?_⟩⟩, ⟨xl, g4, b3, fun s hs => ?_⟩⟩
    · rw [hpa s (by omega), LenA.pa_which _ hs]
    · rw [show base + 2 + 8 * i + s = base + (2 + 8 * i + s) from by omega, hpa _ (by omega), LenA.pa_low _ hi hs]
    · rw [show base + 130 + 8 * i + s = base + (130 + 8 * i + s) from by omega, hpa _ (by omega), LenA.pa_mid _ hi hs]
    · rw [show base + 258 + s = base + (258 + s) from by omega, hpa _ (by omega), LenA.pa_high]
  · have r1 := h1.reg.kept k25 (by simp)
    have r2 := (h2.reg (by decide)).kept k35 (by simp)
    have r3 := (h3.reg (by decide)).kept k45 (by simp)
    have r4 := h4.reg.kept k5 (by simp)
    have r := r1.cat (r2.cat (r3.cat r4 (fun b x y => by unfold Btw at *; omega)) (fun b x y => by unfold Btw at *; omega)) (fun b x y => by unfold Btw at *; omega)
    exact FReg.weaken r (fun i hi x => by unfold Btw at *; omega)

end Go.Proofs.Ytahhcaooiahleaa
