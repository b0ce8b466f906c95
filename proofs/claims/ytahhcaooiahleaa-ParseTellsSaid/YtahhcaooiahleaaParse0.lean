/- Which packets tell bytes: plain functions and their laws. No program in sight. -/
import Derived.Test.YtahhcaooiahleaaPack
namespace Go.Proofs.Ytahhcaooiahleaa

/-- The elder distances. -/
structure R4 where
  a : Nat
  b : Nat
  c : Nat
  d : Nat

def R4.get (r : R4) : Nat → Nat
  | 0 => r.a
  | 1 => r.b
  | 2 => r.c
  | _ => r.d

def R4.front (r : R4) : Nat → R4
  | 0 => r
  | 1 => ⟨r.b, r.a, r.c, r.d⟩
  | 2 => ⟨r.c, r.a, r.b, r.d⟩
  | _ => ⟨r.d, r.a, r.b, r.c⟩

def R4.push (r : R4) (x : Nat) : R4 := ⟨x, r.a, r.b, r.c⟩

/-- How far a copy goes, from n on. -/
def mlen (b : List Nat) (i d : Nat) : Nat → Nat → Nat
  | 0, n => n
  | k + 1, n => if b.getD (i + n) 0 = b.getD (i + n - 1 - d) 0 then mlen b i d k (n + 1) else n

/-- How far the copy at a distance goes at a place. -/
def long (b : List Nat) (te dict i d : Nat) : Nat := if i ≤ d ∨ dict ≤ d then 0 else mlen b i d (min 273 (te - i)) 0

theorem mlen_ge (b : List Nat) (i d k : Nat) : ∀ n, n ≤ mlen b i d k n := by
  induction k with
  | zero => intro n; exact Nat.le_refl _
  | succ k ih => intro n; unfold mlen; split; exact Nat.le_trans (Nat.le_succ n) (ih (n + 1)); exact Nat.le_refl _

theorem mlen_le (b : List Nat) (i d k : Nat) : ∀ n, mlen b i d k n ≤ n + k := by
  induction k with
  | zero => intro n; exact Nat.le_refl _
  | succ k ih => intro n; unfold mlen; split; exact Nat.le_trans (ih (n + 1)) (by omega); omega

theorem mlen_eq (b : List Nat) (i d k : Nat) : ∀ n j, n ≤ j → j < mlen b i d k n → b.getD (i + j) 0 = b.getD (i + j - 1 - d) 0 := by
  induction k with
  | zero => intro n j h1 h2; unfold mlen at h2; omega
  | succ k ih =>
    intro n j h1 h2
    unfold mlen at h2
    split at h2
    · rename_i he
      by_cases e : j = n
      · rw [e]; exact he
      · exact ih (n + 1) j (by omega) h2
    · omega

theorem mlen_first {b : List Nat} {i d k n : Nat} (h : n < mlen b i d k n) : b.getD (i + n) 0 = b.getD (i + n - 1 - d) 0 := mlen_eq b i d k n n (Nat.le_refl _) h

theorem long_le (b : List Nat) (te dict i d : Nat) : long b te dict i d ≤ 273 ∧ long b te dict i d ≤ te - i := by
  unfold long
  split
  · omega
  · have := mlen_le b i d (min 273 (te - i)) 0
    omega

theorem long_pos {b : List Nat} {te dict i d : Nat} (h : 0 < long b te dict i d) : d < i ∧ d < dict := by
  unfold long at h
  split at h
  · omega
  · omega

theorem long_eq {b : List Nat} {te dict i d j : Nat} (h : j < long b te dict i d) : b.getD (i + j) 0 = b.getD (i + j - 1 - d) 0 := by
  unfold long at h
  split at h
  · omega
  · exact mlen_eq b i d _ 0 j (Nat.zero_le _) h

/-- The longest copy at one of the elder distances, and at which. -/
def eldGo (L : Nat → Nat) (r : R4) : Nat → Nat × Nat
  | 0 => (0, 0)
  | k + 1 => if (eldGo L r k).1 < L (r.get k) then (L (r.get k), k) else eldGo L r k

theorem eldGo_spec (L : Nat → Nat) (r : R4) (k : Nat) : (0 < (eldGo L r k).1 → L (r.get (eldGo L r k).2) = (eldGo L r k).1) ∧ ((eldGo L r k).2 < k ∨ (eldGo L r k).2 = 0) := by
  induction k with
  | zero => exact ⟨fun h => by simp [eldGo] at h, .inr rfl⟩
  | succ k ih =>
    unfold eldGo
    split
    · exact ⟨fun _ => rfl, .inl (Nat.lt_succ_self k)⟩
    · exact ⟨ih.1, ih.2.imp (fun h => by omega) id⟩

/-- The longest copy of two bytes or more at a distance below one, and at which. -/
def bestGo (L : Nat → Nat) : Nat → Nat × Nat
  | 0 => (0, 0)
  | k + 1 => if (bestGo L k).1 < L k ∧ 2 ≤ L k then (L k, k) else bestGo L k

theorem bestGo_skip {L : Nat → Nat} {k : Nat} : ∀ {n : Nat}, k ≤ n → (∀ d, k ≤ d → d < n → L d < 2) → bestGo L n = bestGo L k := by
  intro n
  induction n with
  | zero => intro h _; rw [Nat.le_zero.1 h]
  | succ n ih =>
    intro h hd
    by_cases e : k = n + 1
    · rw [e]
    · have h1 := hd n (by omega) (by omega)
      rw [← ih (by omega) (fun d h1 h2 => hd d h1 (by omega))]
      show (if (bestGo L n).1 < L n ∧ 2 ≤ L n then (L n, n) else bestGo L n) = _
      rw [if_neg (by omega)]

theorem bestGo_full {L : Nat → Nat} {k m : Nat} (hL : ∀ d, L d ≤ m) (h : (bestGo L k).1 = m) : ∀ {n : Nat}, k ≤ n → bestGo L n = bestGo L k := by
  intro n
  induction n with
  | zero => intro h; rw [Nat.le_zero.1 h]
  | succ n ih =>
    intro hn
    by_cases e : k = n + 1
    · rw [e]
    · have e1 := ih (by omega)
      have h1 := hL n
      show (if (bestGo L n).1 < L n ∧ 2 ≤ L n then (L n, n) else bestGo L n) = _
      rw [e1, if_neg (by omega)]

theorem bestGo_spec (L : Nat → Nat) (k : Nat) : ((bestGo L k).1 = 0 ∧ (bestGo L k).2 = 0) ∨ (2 ≤ (bestGo L k).1 ∧ (bestGo L k).2 < k ∧ L (bestGo L k).2 = (bestGo L k).1) := by
  induction k with
  | zero => exact .inl ⟨rfl, rfl⟩
  | succ k ih =>
    unfold bestGo
    split
    · rename_i h; exact .inr ⟨h.2, Nat.lt_succ_self k, rfl⟩
    · exact ih.imp id (fun h => ⟨h.1, by omega, h.2.2⟩)

/-- The two bytes at a place, as a number. -/
def pairAt (b : List Nat) (i : Nat) : Nat := b.getD i 0 * 256 + b.getD (i + 1) 0

/-- The newest place below n (and 1) at which a pair stands; 0, if there is none. -/
def prev (b : List Nat) (p : Nat) : Nat → Nat
  | 0 => 0
  | n + 1 => if pairAt b n = p then n + 1 else prev b p n

theorem prev_le (b : List Nat) (p n : Nat) : prev b p n ≤ n := by
  induction n with
  | zero => exact Nat.le_refl _
  | succ n ih => unfold prev; split <;> omega

theorem prev_pos {b : List Nat} {p n : Nat} (h : 0 < prev b p n) : pairAt b (prev b p n - 1) = p := by
  induction n with
  | zero => simp [prev] at h
  | succ n ih =>
    unfold prev at h ⊢
    split
    · rename_i e; exact e
    · rename_i e; rw [if_neg e] at h; exact ih h

theorem prev_none {b : List Nat} {p n j : Nat} (h1 : prev b p n ≤ j) (h2 : j < n) : pairAt b j ≠ p := by
  induction n with
  | zero => omega
  | succ n ih =>
    unfold prev at h1
    split at h1
    · omega
    · rename_i e
      by_cases e2 : j = n
      · rw [e2]; exact e
      · exact ih h1 (by omega)

/-- A copy of two bytes begins with the same pair. -/
theorem long_pair {b : List Nat} {te dict i d : Nat} (h : 2 ≤ long b te dict i d) : pairAt b (i - 1 - d) = pairAt b i := by
  have h0 := long_eq (j := 0) (Nat.lt_of_lt_of_le (by decide) h)
  have h1 := long_eq (j := 1) (Nat.lt_of_lt_of_le (by decide) h)
  have hd := long_pos (Nat.lt_of_lt_of_le (by decide) h)
  unfold pairAt
  rw [show i + 0 - 1 - d = i - 1 - d from by omega, Nat.add_zero] at h0
  rw [show i + 1 - 1 - d = i - 1 - d + 1 from by omega] at h1
  rw [h0, h1]

/-- From one place of the chain to the next nothing is missed. -/
theorem best_chain {b : List Nat} {te dict i at_ : Nat} (h0 : 0 < at_) (h1 : at_ ≤ i) (hp : pairAt b (at_ - 1) = pairAt b i) :
    bestGo (long b te dict i) (i - prev b (pairAt b i) (at_ - 1)) = if (bestGo (long b te dict i) (i - at_)).1 < long b te dict i (i - at_) ∧ 2 ≤ long b te dict i (i - at_) then (long b te dict i (i - at_), i - at_) else bestGo (long b te dict i) (i - at_) := by
  have hle := prev_le b (pairAt b i) (at_ - 1)
  have e : bestGo (long b te dict i) (i - prev b (pairAt b i) (at_ - 1)) = bestGo (long b te dict i) (i - at_ + 1) := by
    refine bestGo_skip (by omega) (fun d h2 h3 => ?_)
    refine Nat.lt_of_not_le (fun h => ?_)
    have hq := long_pair h
    have hd := (long_pos (Nat.lt_of_lt_of_le (by decide) h)).1
    exact prev_none (b := b) (p := pairAt b i) (n := at_ - 1) (j := i - 1 - d) (by omega) (by omega) hq
  rw [e]
  rfl

theorem best_start {b : List Nat} {te dict i n : Nat} (hn : n = i) : bestGo (long b te dict i) (i - prev b (pairAt b i) n) = (0, 0) := by
  subst hn
  have hle := prev_le b (pairAt b n) n
  have e : bestGo (long b te dict n) (n - prev b (pairAt b n) n) = bestGo (long b te dict n) 0 := by
    refine bestGo_skip (by omega) (fun d h2 h3 => ?_)
    refine Nat.lt_of_not_le (fun h => ?_)
    have hq := long_pair h
    have hd := (long_pos (Nat.lt_of_lt_of_le (by decide) h)).1
    exact prev_none (b := b) (p := pairAt b n) (n := n) (j := n - 1 - d) (by omega) (by omega) hq
  rw [e]
  rfl

/-- Behind the dictionary there is nothing. -/
theorem best_dict {b : List Nat} {te dict i k : Nat} (h : dict ≤ k) (hk : k ≤ i) : bestGo (long b te dict i) i = bestGo (long b te dict i) k :=
  bestGo_skip hk (fun d h1 _ => by unfold long; rw [if_pos (.inr (by omega))]; decide)

theorem best_short {b : List Nat} {te dict i : Nat} (h : te ≤ i + 1) : bestGo (long b te dict i) i = (0, 0) :=
  (bestGo_skip (k := 0) (Nat.zero_le _) (fun d _ _ => by have := (long_le b te dict i d).2; omega)).trans rfl

/-- A packet at a place, how many bytes it tells, and the distances behind it. -/
def pick (b : List Nat) (te dict i : Nat) (r : R4) : Pkt × Nat × R4 :=
  let e := eldGo (long b te dict i) r 4
  let m := bestGo (long b te dict i) i
  if 2 ≤ e.1 ∧ m.1 ≤ e.1 + 1 then (⟨(2 + e.2 : Nat), 0, (e.1 : Nat), 0⟩, e.1, r.front e.2)
  else if 3 ≤ m.1 ∨ (m.1 = 2 ∧ m.2 < 128) then (⟨1, 0, (m.1 : Nat), m.2⟩, m.1, r.push m.2)
  else if 0 < long b te dict i r.a then (⟨6, 0, 0, 0⟩, 1, r)
  else (⟨0, b.getD i 0, 0, 0⟩, 1, r)

theorem pick_len (b : List Nat) {te dict i : Nat} (r : R4) (h : i < te) : 1 ≤ (pick b te dict i r).2.1 ∧ (pick b te dict i r).2.1 ≤ te - i := by
  have h1 := eldGo_spec (long b te dict i) r 4
  have h2 := bestGo_spec (long b te dict i) i
  unfold pick
  dsimp only
  split
  · rename_i hc
    have := (long_le b te dict i (r.get (eldGo (long b te dict i) r 4).2)).2
    have := h1.1 (by omega)
    exact ⟨by dsimp only; omega, by dsimp only; omega⟩
  · split
    · have := (long_le b te dict i (bestGo (long b te dict i) i).2).2
      exact ⟨by dsimp only; omega, by dsimp only; omega⟩
    · split
      · exact ⟨Nat.le_refl _, by dsimp only; omega⟩
      · exact ⟨Nat.le_refl _, by dsimp only; omega⟩

/-- The packets from a place on. -/
def findGo (b : List Nat) (te dict : Nat) : Nat → Nat → R4 → List Pkt × R4
  | 0, _, r => ([], r)
  | f + 1, i, r => if i < te then ((pick b te dict i r).1 :: (findGo b te dict f (i + (pick b te dict i r).2.1) (pick b te dict i r).2.2).1, (findGo b te dict f (i + (pick b te dict i r).2.1) (pick b te dict i r).2.2).2) else ([], r)

def find (b : List Nat) (te dict i : Nat) (r : R4) : List Pkt × R4 := findGo b te dict (te - i) i r

theorem findGo_fuel (b : List Nat) (te dict : Nat) : ∀ (f g i : Nat) (r : R4), te - i ≤ f → te - i ≤ g → findGo b te dict f i r = findGo b te dict g i r := by
  intro f
  induction f with
  | zero =>
    intro g i r h1 h2
    cases g with
    | zero => rfl
    | succ g => unfold findGo; rw [if_neg (by omega)]
  | succ f ih =>
    intro g i r h1 h2
    cases g with
    | zero => unfold findGo; rw [if_neg (by omega)]
    | succ g =>
      unfold findGo
      by_cases h : i < te
      · rw [if_pos h, if_pos h]
        have := pick_len b (dict := dict) r h
        rw [ih g (i + (pick b te dict i r).2.1) (pick b te dict i r).2.2 (by omega) (by omega)]
      · rw [if_neg h, if_neg h]

theorem find_step (b : List Nat) {te dict i : Nat} (r : R4) (h : i < te) : find b te dict i r = ((pick b te dict i r).1 :: (find b te dict (i + (pick b te dict i r).2.1) (pick b te dict i r).2.2).1, (find b te dict (i + (pick b te dict i r).2.1) (pick b te dict i r).2.2).2) := by
  have hl := pick_len b (dict := dict) r h
  have e : find b te dict i r = findGo b te dict (te - i - 1 + 1) i r := findGo_fuel b te dict _ _ i r (by omega) (by omega)
  rw [e]
  unfold findGo
  rw [if_pos h]
  unfold find
  rw [findGo_fuel b te dict (te - i - 1) (te - (i + (pick b te dict i r).2.1)) _ _ (by omega) (by omega)]

theorem find_end (b : List Nat) {te dict i : Nat} (r : R4) (h : te ≤ i) : find b te dict i r = ([], r) := by
  unfold find
  rw [show te - i = 0 from by omega]
  rfl

end Go.Proofs.Ytahhcaooiahleaa
