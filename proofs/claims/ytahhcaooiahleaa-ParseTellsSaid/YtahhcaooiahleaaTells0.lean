/- The packets that are found fit, one behind the other, and tell the bytes: in plain Lean. -/
import Derived.Test.YtahhcaooiahleaaStep
import Derived.Test.YtahhcaooiahleaaParse0
namespace Go.Proofs.Ytahhcaooiahleaa

def CO.reps (c : CO) : R4 := ⟨c.r0, c.r1, c.r2, c.r3⟩

theorem CO.copyN_reps (c : CO) (k : Nat) : (c.copyN k).reps = c.reps ∧ (c.copyN k).dict = c.dict := by
  induction k with
  | zero => exact ⟨rfl, rfl⟩
  | succ k ih => exact ih

theorem take_snoc {b : List Nat} {i : Nat} (h : i < b.length) : b.take i ++ [b.getD i 0] = b.take (i + 1) := by
  rw [List.take_succ_eq_append_getElem h]
  simp [List.getD, h]

theorem take_getD {b : List Nat} {i j : Nat} (h : j < i) : (b.take i).getD j 0 = b.getD j 0 := by
  simp [List.getD, List.getElem?_take, h]

theorem CO.copyN_told {c : CO} {b : List Nat} {i k : Nat} (ht : c.told = b.take i) (hk : i + k ≤ b.length) (h1 : c.r0 < i) (h2 : c.r0 < c.dict) (h : ∀ j, j < k → b.getD (i + j) 0 = b.getD (i + j - 1 - c.r0) 0) : (c.copyN k).told = b.take (i + k) := by
  induction k with
  | zero => exact ht
  | succ k ih =>
    have e := ih (by omega) (fun j hj => h j (by omega))
    have hr : (c.copyN k).r0 = c.r0 := congrArg R4.a (CO.copyN_reps c k).1
    have hd := (CO.copyN_reps c k).2
    have hl : (c.copyN k).told.length = i + k := by rw [e, List.length_take]; omega
    show (c.copyN k).told ++ [(c.copyN k).at_ (c.copyN k).r0] = _
    have ha : (c.copyN k).at_ (c.copyN k).r0 = b.getD (i + k) 0 := by
      have hi : (c.copyN k).is (c.copyN k).r0 = true := by unfold CO.is; rw [hl, hr, hd]; simp; omega
      unfold CO.at_
      rw [if_pos hi, hl, hr, e, take_getD (by omega), h k (by omega)]
    rw [ha, e, show i + (k + 1) = i + k + 1 from by omega]
    exact take_snoc (by omega)

/-- What a coder keeps while it codes packets that are found. -/
structure Tells (b : List Nat) (dict i : Nat) (r : R4) (c : CO) : Prop where
  told : c.told = b.take i
  reps : c.reps = r
  dict : c.dict = dict
  ended : c.ended = false

theorem CO.again_reps (c : CO) {k : Nat} (h : k < 4) (sx : Nat) : (c.again k sx).reps = c.reps.front k := by
  obtain rfl | rfl | rfl | rfl : k = 0 ∨ k = 1 ∨ k = 2 ∨ k = 3 := by omega
  all_goals rfl

theorem CO.codeAgain_reps (c : CO) {k : Nat} (h : k < 4) (l : Nat) : (c.codeAgain k l).reps = c.reps.front k :=
  CO.again_reps { c with enc := (c.enc.bit (0 + 16 * c.state + c.ctx) 1).bit (192 + c.state) 1 } h c.ctx

theorem CO.codeAgain_same (c : CO) (k l : Nat) : (c.codeAgain k l).told = c.told ∧ (c.codeAgain k l).dict = c.dict ∧ (c.codeAgain k l).ended = c.ended := by
  have h := CO.again_facts { c with enc := (c.enc.bit (0 + 16 * c.state + c.ctx) 1).bit (192 + c.state) 1 } k c.ctx
  exact ⟨h.1, h.2.2.2.2.2.2.2, h.2.2.1⟩

theorem R4.front_a (r : R4) (k : Nat) : (r.front k).a = r.get k := by
  match k with
  | 0 => rfl
  | 1 => rfl
  | 2 => rfl
  | _ + 3 => rfl

theorem reach_again (c : CO) {k : Nat} (h : k < 4) (d : Nat) : c.reach ((2 + k : Nat) : Int) d = c.reps.get k := by
  obtain rfl | rfl | rfl | rfl : k = 0 ∨ k = 1 ∨ k = 2 ∨ k = 3 := by omega
  all_goals rfl

theorem Tells.step {b : List Nat} {te dict i : Nat} {r : R4} {c : CO} (h : Tells b dict i r c) (hi : i < te) (ht : te ≤ b.length) :
    c.fits (pick b te dict i r).1.k (pick b te dict i r).1.l (pick b te dict i r).1.d = true ∧ Tells b dict (i + (pick b te dict i r).2.1) (pick b te dict i r).2.2 (c.step (pick b te dict i r).1) := by
  obtain ⟨h1, h2, h3, h4⟩ := h
  have hl : c.told.length = i := by rw [h1, List.length_take]; omega
  have s1 := eldGo_spec (long b te dict i) r 4
  have s2 := bestGo_spec (long b te dict i) i
  -- whatever packet: if it fits, the step is its code
  have key : ∀ (p : Pkt) (n : Nat) (r' : R4), c.fits p.k p.l p.d = true → Tells b dict (i + n) r' (c.code p) → c.fits p.k p.l p.d = true ∧ Tells b dict (i + n) r' (c.step p) := fun p n r' hf hT => ⟨hf, by unfold CO.step; rw [if_pos hf]; exact hT⟩
  unfold pick
  dsimp only
  split
  · rename_i hc
    obtain ⟨n, hn⟩ : ∃ n, n = (eldGo (long b te dict i) r 4).1 := ⟨_, rfl⟩
    obtain ⟨k, hk⟩ : ∃ k, k = (eldGo (long b te dict i) r 4).2 := ⟨_, rfl⟩
    rw [← hn, ← hk] at s1
    rw [← hn] at hc
    rw [← hn, ← hk]
    have hk4 : k < 4 := by omega
    have hL := s1.1 (by omega)
    have hle := long_le b te dict i (r.get k)
    have hpos := long_pos (b := b) (te := te) (dict := dict) (i := i) (d := r.get k) (by omega)
    refine key ⟨(2 + k : Nat), 0, (n : Nat), 0⟩ n (r.front k) ?_ ?_
    · have hr := reach_again c hk4 0
      simp only [CO.fits, h4, hr, h2, CO.is, hl, h3]
      simp
      omega
    · have e : c.code ⟨(2 + k : Nat), 0, (n : Nat), 0⟩ = (c.codeAgain k n).copyN n := by
        unfold CO.code
        rw [if_neg (by dsimp only; omega), if_neg (by dsimp only; omega), if_neg (by dsimp only; omega), if_neg (by dsimp only; omega)]
        rw [show ((2 + k : Nat) : Int) - 2 = (k : Nat) from by omega]
        rfl
      rw [e]
      obtain ⟨e1, e2, e3⟩ := CO.codeAgain_same c k n
      have e4 := CO.codeAgain_reps c hk4 n
      have er0 : (c.codeAgain k n).r0 = r.get k := by
        have := congrArg R4.a e4
        rw [R4.front_a, h2] at this
        exact this
      refine ⟨CO.copyN_told (e1.trans h1) (by omega) (by rw [er0]; omega) (by rw [er0, e2, h3]; omega) (fun j hj => ?_), ?_, (CO.copyN_reps _ _).2.trans (e2.trans h3), (CO.copyN_facts _ _).2.2.2.1.trans (e3.trans h4)⟩
      · rw [er0]; exact long_eq (te := te) (dict := dict) (by omega)
      · rw [(CO.copyN_reps _ _).1, e4, h2]
  · split
    · rename_i hc
      obtain ⟨n, hn⟩ : ∃ n, n = (bestGo (long b te dict i) i).1 := ⟨_, rfl⟩
      obtain ⟨x, hx⟩ : ∃ x, x = (bestGo (long b te dict i) i).2 := ⟨_, rfl⟩
      rw [← hn, ← hx] at s2 hc
      rw [← hn, ← hx]
      have hL := (s2.resolve_left (by omega)).2.2
      have hle := long_le b te dict i x
      have hpos := long_pos (b := b) (te := te) (dict := dict) (i := i) (d := x) (by omega)
      refine key ⟨1, 0, (n : Nat), x⟩ n (r.push x) ?_ ?_
      · simp only [CO.fits, h4, CO.reach, CO.is, hl, h3]
        simp
        omega
      · have e : c.code ⟨1, 0, (n : Nat), x⟩ = (c.codeMatch n x).copyN n := rfl
        rw [e]
        refine ⟨CO.copyN_told h1 (by omega) (by show x < i; omega) (by show x < c.dict; omega) (fun j hj => long_eq (te := te) (dict := dict) (d := x) (by omega)), ?_, (CO.copyN_reps _ _).2.trans h3, (CO.copyN_facts _ _).2.2.2.1.trans h4⟩
        rw [(CO.copyN_reps _ _).1]
        subst h2
        rfl
    · split
      · rename_i hc
        have hle := long_le b te dict i r.a
        have hpos := long_pos hc
        have e0 : c.r0 = r.a := congrArg R4.a h2
        refine key ⟨6, 0, 0, 0⟩ 1 r ?_ ?_
        · simp only [CO.fits, h4, CO.reach, CO.is, hl, h3, e0]
          simp
          omega
        · have e : c.code ⟨6, 0, 0, 0⟩ = c.codeSingle.copyN 1 := rfl
          rw [e]
          refine ⟨CO.copyN_told (c := c.codeSingle) h1 (by omega) (by show c.r0 < i; omega) (by show c.r0 < c.dict; omega) (fun j hj => ?_), ?_, (CO.copyN_reps _ _).2.trans h3, (CO.copyN_facts _ _).2.2.2.1.trans h4⟩
          · show _ = b.getD (i + j - 1 - c.r0) 0
            rw [e0]; exact long_eq (te := te) (dict := dict) (by omega)
          · rw [(CO.copyN_reps _ _).1]; exact h2
      · refine key ⟨0, b.getD i 0, 0, 0⟩ 1 r ?_ ?_
        · simp [CO.fits, h4]
        · refine ⟨?_, h2, h3, h4⟩
          show c.told ++ [b.getD i 0] = _
          rw [h1]
          exact take_snoc (by omega)

theorem Tells.all {b : List Nat} {te dict : Nat} (ht : te ≤ b.length) : ∀ (n i : Nat) (r : R4) (c : CO), te - i ≤ n → i ≤ te → Tells b dict i r c →
    Tells b dict te (find b te dict i r).2 ((find b te dict i r).1.foldl CO.step c) ∧ ∀ k, k < (find b te dict i r).1.length → ∀ p, (find b te dict i r).1[k]? = some p → (((find b te dict i r).1.take k).foldl CO.step c).fits p.k p.l p.d = true := by
  intro n
  induction n with
  | zero =>
    intro i r c h1 h2 hT
    obtain rfl : i = te := by omega
    rw [find_end b r (Nat.le_refl _)]
    exact ⟨hT, fun k hk => by simp at hk⟩
  | succ n ih =>
    intro i r c h1 h2 hT
    by_cases hlt : i < te
    · have hl := pick_len b (dict := dict) r hlt
      obtain ⟨hf, hS⟩ := hT.step hlt ht
      obtain ⟨q1, q2⟩ := ih _ _ _ (by omega) (by omega) hS
      rw [find_step b r hlt]
      refine ⟨q1, fun k hk p hp => ?_⟩
      cases k with
      | zero => simp at hp; subst hp; exact hf
      | succ k =>
        simp at hk hp
        rw [List.take_succ_cons, List.foldl_cons]
        exact q2 k hk p hp
    · obtain rfl : i = te := by omega
      rw [find_end b r (Nat.le_refl _)]
      exact ⟨hT, fun k hk => by simp at hk⟩

/-- A packet's numbers are small. -/
theorem find_small {b : List Nat} {te dict : Nat} (hb : ∀ x ∈ b, x < 256) (hd : dict ≤ 4294967296) : ∀ (n i : Nat) (r : R4), te - i ≤ n → ∀ p ∈ (find b te dict i r).1, p.b < 256 ∧ (p.d : Int) < 4294967296 := by
  intro n
  induction n with
  | zero => intro i r h p hp; rw [find_end b r (by omega)] at hp; simp at hp
  | succ n ih =>
    intro i r h p hp
    by_cases hlt : i < te
    · rw [find_step b r hlt] at hp
      have hl := pick_len b (dict := dict) r hlt
      rcases List.mem_cons.1 hp with rfl | hp
      · have s2 := bestGo_spec (long b te dict i) i
        unfold pick
        dsimp only
        split
        · exact ⟨by show (0 : Nat) < 256; decide, by show ((0 : Nat) : Int) < 4294967296; decide⟩
        · split
          · rename_i hc
            have hL := (s2.resolve_left (by omega)).2.2
            have hpos := long_pos (b := b) (te := te) (dict := dict) (i := i) (d := (bestGo (long b te dict i) i).2) (by omega)
            exact ⟨by show (0 : Nat) < 256; decide, by dsimp only; omega⟩
          · split
            · exact ⟨by show (0 : Nat) < 256; decide, by show ((0 : Nat) : Int) < 4294967296; decide⟩
            · refine ⟨?_, by show ((0 : Nat) : Int) < 4294967296; decide⟩
              show b.getD i 0 < 256
              rw [List.getD_eq_getElem?_getD]
              cases hx : b[i]? with
              | none => simp
              | some x => exact hb x (List.mem_of_getElem? hx)
      · exact ih _ _ (by omega) p hp
    · rw [find_end b r (by omega)] at hp; simp at hp

theorem find_count {b : List Nat} {te dict : Nat} : ∀ (n i : Nat) (r : R4), te - i ≤ n → (find b te dict i r).1.length ≤ te - i := by
  intro n
  induction n with
  | zero => intro i r h; rw [find_end b r (by omega)]; simp
  | succ n ih =>
    intro i r h
    by_cases hlt : i < te
    · rw [find_step b r hlt]
      have hl := pick_len b (dict := dict) r hlt
      have := ih (i + (pick b te dict i r).2.1) (pick b te dict i r).2.2 (by omega)
      rw [List.length_cons]
      omega
    · rw [find_end b r (by omega)]; simp

end Go.Proofs.Ytahhcaooiahleaa
