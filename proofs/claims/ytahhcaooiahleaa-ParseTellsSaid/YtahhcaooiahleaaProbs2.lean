/- All probabilities of a coder, made. -/
import Derived.Test.YtahhcaooiahleaaProbs
namespace Go.Proofs.Ytahhcaooiahleaa
open Go Go.RowKit

theorem Kept.cellF {w w' : World} (k : Kept (fun _ _ => False) w w') {a : Addr} {v : Value} (h : w.cell? a = some v) : w'.cell? a = some v :=
  (World.cell?_of_block (w := w) (k.block a.block (World.block_lt_of_cell? w a h) (by simp))).trans h

theorem Kept.cellF2 {w w' : World} (k : Kept (fun _ _ => False) w w') {a b : Addr} {v u : Value} (h : w.cell? a = some v ∧ w.cell? b = some u) : w'.cell? a = some v ∧ w'.cell? b = some u := ⟨k.cellF h.1, k.cellF h.2⟩

theorem lit_le {k : Nat} (h : k ≤ 12) : 768 * 2 ^ k ≤ 3145728 := by
  have : 2 ^ k ≤ 2 ^ 12 := Nat.pow_le_pow_right (by decide) h
  omega

theorem lit_count {lc lp : Nat} (h : lc + lp ≤ 12) : IntKind.i64.wrap (768 * 2 ^ min (IntKind.u64.wrap (IntKind.i64.wrap ((lc : Int) + (lp : Int)))).toNat 64) = ((768 * 2 ^ (lc + lp) : Nat) : Int) := by
  have h2 := lit_le h
  rw [IntWalk.i64_in ((lc : Int) + lp) (by omega), IntWalk.u64_in ((lc : Int) + lp) (by omega), show ((lc : Int) + lp).toNat = lc + lp from by omega, show min (lc + lp) 64 = lc + lp from by omega]
  have e : ((768 * 2 ^ (lc + lp) : Nat) : Int) = 768 * 2 ^ (lc + lp) := by rw [Int.natCast_mul, Int.natCast_pow]; rfl
  rw [← e]
  exact IntWalk.i64_in _ (by omega)

/-- A setting, as a value. -/
def setv (lc lp pb dict : Nat) : Value := .agg #[.int .i64 lc, .int .i64 lp, .int .i64 pb, .int .i64 dict]

/-- Where a coder's probabilities lie. -/
structure ProA where
  ma : Nat → Nat
  rep : Nat
  rep0 : Nat
  rep1 : Nat
  rep2 : Nat
  lo : Nat → Nat
  sl : Nat → Nat
  sp : Nat
  al : Nat
  le : LenA
  re : LenA
  li : Nat

def ProA.pa (A : ProA) : Nat → Nat × Nat :=
  cat 192 (fun i => (A.ma (i / 16), i % 16)) (cat 12 (fun i => (A.rep, i)) (cat 12 (fun i => (A.rep0, i)) (cat 12 (fun i => (A.rep1, i)) (cat 12 (fun i => (A.rep2, i))
    (cat 192 (fun i => (A.lo (i / 16), i % 16)) (cat 256 (fun i => (A.sl (i / 64), i % 64)) (cat 115 (fun i => (A.sp, i)) (cat 16 (fun i => (A.al, i)) (cat 514 A.le.pa (cat 514 A.re.pa (fun i => (A.li, i))))))))))))

theorem ProA.pa_match (A : ProA) {i s : Nat} (hi : i < 12) (h : s < 16) : A.pa (0 + 16 * i + s) = (A.ma i, s) := by
  unfold ProA.pa; rw [Nat.zero_add, cat_lo (by omega), show (16 * i + s) / 16 = i from by omega, show (16 * i + s) % 16 = s from by omega]
theorem ProA.pa_rep (A : ProA) {s : Nat} (h : s < 12) : A.pa (192 + s) = (A.rep, s) := by
  unfold ProA.pa; rw [cat_hi (k := s) (by omega), cat_lo (by omega)]
theorem ProA.pa_rep0 (A : ProA) {s : Nat} (h : s < 12) : A.pa (204 + s) = (A.rep0, s) := by
  unfold ProA.pa; rw [cat_hi (k := 12 + (s)) (by omega), cat_hi (k := s) (by omega), cat_lo (by omega)]
theorem ProA.pa_rep1 (A : ProA) {s : Nat} (h : s < 12) : A.pa (216 + s) = (A.rep1, s) := by
  unfold ProA.pa; rw [cat_hi (k := 24 + (s)) (by omega), cat_hi (k := 12 + (s)) (by omega), cat_hi (k := s) (by omega), cat_lo (by omega)]
theorem ProA.pa_rep2 (A : ProA) {s : Nat} (h : s < 12) : A.pa (228 + s) = (A.rep2, s) := by
  unfold ProA.pa; rw [cat_hi (k := 36 + (s)) (by omega), cat_hi (k := 24 + (s)) (by omega), cat_hi (k := 12 + (s)) (by omega), cat_hi (k := s) (by omega), cat_lo (by omega)]
theorem ProA.pa_long (A : ProA) {i s : Nat} (hi : i < 12) (h : s < 16) : A.pa (240 + 16 * i + s) = (A.lo i, s) := by
  unfold ProA.pa; rw [cat_hi (k := 48 + (16 * i + s)) (by omega), cat_hi (k := 36 + (16 * i + s)) (by omega), cat_hi (k := 24 + (16 * i + s)) (by omega), cat_hi (k := 12 + (16 * i + s)) (by omega), cat_hi (k := 16 * i + s) (by omega), cat_lo (by omega), show (16 * i + s) / 16 = i from by omega, show (16 * i + s) % 16 = s from by omega]
theorem ProA.pa_slot (A : ProA) {i s : Nat} (hi : i < 4) (h : s < 64) : A.pa (432 + 64 * i + s) = (A.sl i, s) := by
  unfold ProA.pa; rw [cat_hi (k := 240 + (64 * i + s)) (by omega), cat_hi (k := 228 + (64 * i + s)) (by omega), cat_hi (k := 216 + (64 * i + s)) (by omega), cat_hi (k := 204 + (64 * i + s)) (by omega), cat_hi (k := 192 + (64 * i + s)) (by omega), cat_hi (k := 64 * i + s) (by omega), cat_lo (by omega), show (64 * i + s) / 64 = i from by omega, show (64 * i + s) % 64 = s from by omega]
theorem ProA.pa_special (A : ProA) {s : Nat} (h : s < 115) : A.pa (688 + s) = (A.sp, s) := by
  unfold ProA.pa; rw [cat_hi (k := 496 + (s)) (by omega), cat_hi (k := 484 + (s)) (by omega), cat_hi (k := 472 + (s)) (by omega), cat_hi (k := 460 + (s)) (by omega), cat_hi (k := 448 + (s)) (by omega), cat_hi (k := 256 + (s)) (by omega), cat_hi (k := s) (by omega), cat_lo (by omega)]
theorem ProA.pa_align (A : ProA) {s : Nat} (h : s < 16) : A.pa (803 + s) = (A.al, s) := by
  unfold ProA.pa; rw [cat_hi (k := 611 + (s)) (by omega), cat_hi (k := 599 + (s)) (by omega), cat_hi (k := 587 + (s)) (by omega), cat_hi (k := 575 + (s)) (by omega), cat_hi (k := 563 + (s)) (by omega), cat_hi (k := 371 + (s)) (by omega), cat_hi (k := 115 + (s)) (by omega), cat_hi (k := s) (by omega), cat_lo (by omega)]
theorem ProA.pa_len (A : ProA) {s : Nat} (h : s < 514) : A.pa (819 + s) = A.le.pa s := by
  unfold ProA.pa; rw [cat_hi (k := 627 + (s)) (by omega), cat_hi (k := 615 + (s)) (by omega), cat_hi (k := 603 + (s)) (by omega), cat_hi (k := 591 + (s)) (by omega), cat_hi (k := 579 + (s)) (by omega), cat_hi (k := 387 + (s)) (by omega), cat_hi (k := 131 + (s)) (by omega), cat_hi (k := 16 + (s)) (by omega), cat_hi (k := s) (by omega), cat_lo (by omega)]
theorem ProA.pa_repLen (A : ProA) {s : Nat} (h : s < 514) : A.pa (1333 + s) = A.re.pa s := by
  unfold ProA.pa; rw [cat_hi (k := 1141 + (s)) (by omega), cat_hi (k := 1129 + (s)) (by omega), cat_hi (k := 1117 + (s)) (by omega), cat_hi (k := 1105 + (s)) (by omega), cat_hi (k := 1093 + (s)) (by omega), cat_hi (k := 901 + (s)) (by omega), cat_hi (k := 645 + (s)) (by omega), cat_hi (k := 530 + (s)) (by omega), cat_hi (k := 514 + (s)) (by omega), cat_hi (k := s) (by omega), cat_lo (by omega)]
theorem ProA.pa_lit (A : ProA) {s : Nat} : A.pa (1847 + s) = (A.li, s) := by
  unfold ProA.pa; rw [cat_hi (k := 1655 + (s)) (by omega), cat_hi (k := 1643 + (s)) (by omega), cat_hi (k := 1631 + (s)) (by omega), cat_hi (k := 1619 + (s)) (by omega), cat_hi (k := 1607 + (s)) (by omega), cat_hi (k := 1415 + (s)) (by omega), cat_hi (k := 1159 + (s)) (by omega), cat_hi (k := 1044 + (s)) (by omega), cat_hi (k := 1028 + (s)) (by omega), cat_hi (k := 514 + (s)) (by omega), cat_hi (k := s) (by omega)]

/-- The block of each probability: one of those that were made. -/
theorem ProA.pa_block (A : ProA) (j : Nat) : (∃ k, k < 12 ∧ (A.pa j).1 = A.ma k) ∨ (A.pa j).1 = A.rep ∨ (A.pa j).1 = A.rep0 ∨ (A.pa j).1 = A.rep1 ∨ (A.pa j).1 = A.rep2 ∨ (∃ k, k < 12 ∧ (A.pa j).1 = A.lo k) ∨ (∃ k, k < 4 ∧ (A.pa j).1 = A.sl k) ∨
    (A.pa j).1 = A.sp ∨ (A.pa j).1 = A.al ∨ (∃ k, k < 514 ∧ (A.pa j).1 = (A.le.pa k).1) ∨ (∃ k, k < 514 ∧ (A.pa j).1 = (A.re.pa k).1) ∨ (A.pa j).1 = A.li := by
  by_cases h0 : j < 192
  · rw [show j = 0 + 16 * ((j - 0) / 16) + (j - 0) % 16 from by omega, A.pa_match (by omega) (by omega)]; exact .inl (⟨_, by omega, rfl⟩)
  by_cases h1 : j < 204
  · rw [show j = 192 + (j - 192) from by omega, A.pa_rep (by omega)]; exact .inr (.inl (rfl))
  by_cases h2 : j < 216
  · rw [show j = 204 + (j - 204) from by omega, A.pa_rep0 (by omega)]; exact .inr (.inr (.inl (rfl)))
  by_cases h3 : j < 228
  · rw [show j = 216 + (j - 216) from by omega, A.pa_rep1 (by omega)]; exact .inr (.inr (.inr (.inl (rfl))))
  by_cases h4 : j < 240
  · rw [show j = 228 + (j - 228) from by omega, A.pa_rep2 (by omega)]; exact .inr (.inr (.inr (.inr (.inl (rfl)))))
  by_cases h5 : j < 432
  · rw [show j = 240 + 16 * ((j - 240) / 16) + (j - 240) % 16 from by omega, A.pa_long (by omega) (by omega)]; exact .inr (.inr (.inr (.inr (.inr (.inl (⟨_, by omega, rfl⟩))))))
  by_cases h6 : j < 688
  · rw [show j = 432 + 64 * ((j - 432) / 64) + (j - 432) % 64 from by omega, A.pa_slot (by omega) (by omega)]; exact .inr (.inr (.inr (.inr (.inr (.inr (.inl (⟨_, by omega, rfl⟩)))))))
  by_cases h7 : j < 803
  · rw [show j = 688 + (j - 688) from by omega, A.pa_special (by omega)]; exact .inr (.inr (.inr (.inr (.inr (.inr (.inr (.inl (rfl))))))))
  by_cases h8 : j < 819
  · rw [show j = 803 + (j - 803) from by omega, A.pa_align (by omega)]; exact .inr (.inr (.inr (.inr (.inr (.inr (.inr (.inr (.inl (rfl)))))))))
  by_cases h9 : j < 1333
  · rw [show j = 819 + (j - 819) from by omega, A.pa_len (by omega)]; exact .inr (.inr (.inr (.inr (.inr (.inr (.inr (.inr (.inr (.inl (⟨_, by omega, rfl⟩))))))))))
  by_cases h10 : j < 1847
  · rw [show j = 1333 + (j - 1333) from by omega, A.pa_repLen (by omega)]; exact .inr (.inr (.inr (.inr (.inr (.inr (.inr (.inr (.inr (.inr (.inl (⟨_, by omega, rfl⟩)))))))))))
  rw [show j = 1847 + (j - 1847) from by omega, A.pa_lit]; exact .inr (.inr (.inr (.inr (.inr (.inr (.inr (.inr (.inr (.inr (.inr (rfl)))))))))))

/-- Probabilities that were just made. -/
structure FreshProbs (w w' : World) (pb m : Nat) (X : Nat → Prop) (pa : Nat → Nat × Nat) : Prop where
  kept : Kept (fun _ _ => False) w w'
  probs : CProbs w' X pb pa m
  reg : FReg w' pa (Btw w.heap.size w'.heap.size) (1847 + m)
  X_new : ∀ b, X b → Btw w.heap.size w'.heap.size b
  X_pa : ∀ b, X b → ∀ j, j < 1847 + m → (pa j).1 ≠ b

set_option maxRecDepth 100000 in
set_option maxHeartbeats 1000000 in
theorem lzmac_newProbs {w : World} {lc lp pb dict : Nat} (h : lc + lp ≤ 12) :
    Calls Try.prog 43 #[setv lc lp pb dict] w fun e w' => ∃ x X pa, e = .returned (.pointer (some ⟨x, 0, none⟩)) ∧ FreshProbs w w' x (768 * 2 ^ (lc + lp)) X pa := by
  unfold setv
  go_enter Try.func43, Try.ntmps43
  go_wp2_with fail
  go_region_held3 (fun w' => w'.cell? ⟨w.heap.size, 0, none⟩ = some (.int .i64 lc) ∧ w'.cell? ⟨w.heap.size, 1, none⟩ = some (.int .i64 lp))
    (first | exact ⟨by simp, by simp⟩ | exact Kept.cellF2 (Kept.of_alloc _ _ _) (by assumption) | exact Kept.cellF2 (by assumption) (by assumption))
    (first
      | (go_at_call_of 84 (Value.int .i64 12); refine (lzmac_rows (n := 12) (m := 16) (by omega) (by omega) (by omega) rfl rfl).mono ?_; rintro e w1 ⟨v, ob, g, rfl, hr⟩; have hk := hr.kept; obtain ⟨cap, hv⟩ := hr.form; subst hv)
      | (go_at_call_of 84 (Value.int .i64 4); refine (lzmac_rows (n := 4) (m := 64) (by omega) (by omega) (by omega) rfl rfl).mono ?_; rintro e w1 ⟨v, ob, g, rfl, hr⟩; have hk := hr.kept; obtain ⟨cap, hv⟩ := hr.form; subst hv)
      | (go_at_call_of 85 (Value.int .i64 12); refine (rdec_Fresh (n := 12) (by omega) rfl).mono ?_; rintro e w1 ⟨g, rfl, hr⟩; have hk := hr.kept)
      | (go_at_call_of 85 (Value.int .i64 115); refine (rdec_Fresh (n := 115) (by omega) rfl).mono ?_; rintro e w1 ⟨g, rfl, hr⟩; have hk := hr.kept)
      | (go_at_call_of 85 (Value.int .i64 16); refine (rdec_Fresh (n := 16) (by omega) rfl).mono ?_; rintro e w1 ⟨g, rfl, hr⟩; have hk := hr.kept)
      | (go_at_call 86; refine lzmac_newLengths.mono ?_; rintro e w1 ⟨g, L, rfl, hr⟩; have hk := hr.kept)
      | (go_at_call 85; refine (rdec_Fresh (n := 768 * 2 ^ (lc + lp)) (Nat.le_trans (lit_le h) (by decide)) (lit_count h)).mono ?_; rintro e w1 ⟨g, rfl, hr⟩; have hk := hr.kept))
  rename_i wa oa ga ka ca ra wb ob' gb kb cb rb wc gc rc kc wd gd rd kd we ge re ke wf gf rf kf wg gg kg rg wh gh rh kh wi gi ri ki wj gj Lj rj kj wk gk rk kk hH
  clear hH
  go_wp2_with fail
  go_ret
  obtain ⟨w2, hw2⟩ : ∃ w2, w2 = w1.alloc (.cells #[.slice (some ⟨oa, 0, none⟩) 12 ca, .slice (some ⟨ob', 0, none⟩) 12 cb, .slice (some ⟨gc, 0, none⟩) 12 12, .slice (some ⟨gd, 0, none⟩) 12 12, .slice (some ⟨ge, 0, none⟩) 12 12, .slice (some ⟨gf, 0, none⟩) 12 12, .slice (some ⟨ob, 0, none⟩) 4 cap, .slice (some ⟨gh, 0, none⟩) 115 115, .slice (some ⟨gi, 0, none⟩) 16 16, .pointer (some ⟨gj, 0, none⟩), .pointer (some ⟨gk, 0, none⟩), .slice (some ⟨g, 0, none⟩) (768 * 2 ^ (lc + lp)) (768 * 2 ^ (lc + lp))] 84) := ⟨_, rfl⟩
  rw [← hw2]
  have ss : w2.heap.size = w1.heap.size + 1 := by rw [hw2]; simp
  have sa := ka.size
  simp at sa
  have sb := kb.size
  have sc := kc.size
  have sd := kd.size
  have se := ke.size
  have sf := kf.size
  have sg := kg.size
  have sh := kh.size
  have si := ki.size
  have sj := kj.size
  have sk := kk.size
  have sl := hk.size
  have na := ra.new
  simp at na
  have la := ra.lt
  have nb := rb.new
  have lb := rb.lt
  have nc := rc.new
  have lc' := rc.lt
  have nd := rd.new
  have ld := rd.lt
  have ne := re.new
  have le := re.lt
  have nf := rf.new
  have lf := rf.lt
  have ng := rg.new
  have lg := rg.lt
  have nh := rh.new
  have lh := rh.lt
  have ni := ri.new
  have li := ri.lt
  have nj := rj.new
  have lj := rj.lt
  have nk := rk.new
  have lk := rk.lt
  have nl := hr.new
  have ll := hr.lt
  have qa : ∀ k, k < 12 → w.heap.size + 1 ≤ ga k ∧ ga k < wa.heap.size ∧ ga k ≠ oa := fun k hk => by
    have := ra.at_ k hk
    simp at this
    exact ⟨this.1, this.2.1, this.2.2.1⟩
  have qb : ∀ k, k < 12 → wa.heap.size ≤ gb k ∧ gb k < wb.heap.size ∧ gb k ≠ ob' := fun k hk => ⟨(rb.at_ k hk).1, (rb.at_ k hk).2.1, (rb.at_ k hk).2.2.1⟩
  have qg : ∀ k, k < 4 → wf.heap.size ≤ gg k ∧ gg k < wg.heap.size ∧ gg k ≠ ob := fun k hk => ⟨(rg.at_ k hk).1, (rg.at_ k hk).2.1, (rg.at_ k hk).2.2.1⟩
  have qj : ∀ k, k < 514 → wi.heap.size ≤ (Lj.pa k).1 ∧ (Lj.pa k).1 < wj.heap.size ∧ (Lj.pa k).1 ≠ gj := fun k hk => ⟨(rj.reg.dom k hk).1.1, (rj.reg.dom k hk).1.2, (rj.reg.dom k hk).2⟩
  have qk : ∀ k, k < 514 → wj.heap.size ≤ (L.pa k).1 ∧ (L.pa k).1 < wk.heap.size ∧ (L.pa k).1 ≠ gk := fun k hk => ⟨(rk.reg.dom k hk).1.1, (rk.reg.dom k hk).1.2, (rk.reg.dom k hk).2⟩
  have hblk : ∀ b, (∀ k, k < 12 → ga k ≠ b) → gc ≠ b → gd ≠ b → ge ≠ b → gf ≠ b → (∀ k, k < 12 → gb k ≠ b) → (∀ k, k < 4 → gg k ≠ b) → gh ≠ b → gi ≠ b → (∀ k, k < 514 → (Lj.pa k).1 ≠ b) → (∀ k, k < 514 → (L.pa k).1 ≠ b) → g ≠ b →
      ∀ j, (((ProA.mk ga gc gd ge gf gb gg gh gi Lj L g)).pa j).1 ≠ b := by
    intro b h0 h1 h2 h3 h4 h5 h6 h7 h8 h9 h10 h11 j e
    rcases ProA.pa_block (ProA.mk ga gc gd ge gf gb gg gh gi Lj L g) j with ⟨k, hk, h⟩ | h | h | h | h | ⟨k, hk, h⟩ | ⟨k, hk, h⟩ | h | h | ⟨k, hk, h⟩ | ⟨k, hk, h⟩ | h <;> rw [h] at e
    · exact h0 k hk e
    · exact h1 e
    · exact h2 e
    · exact h3 e
    · exact h4 e
    · exact h5 k hk e
    · exact h6 k hk e
    · exact h7 e
    · exact h8 e
    · exact h9 k hk e
    · exact h10 k hk e
    · exact h11 e
  have kz : Kept (fun _ _ => False) w1 w2 := by rw [hw2]; exact Kept.of_alloc _ _ _
  have zk := hk.trans kz
  have zj := kk.trans zk
  have zi := kj.trans zj
  have zh := ki.trans zi
  have zg := kh.trans zh
  have zf := kg.trans zg
  have ze := kf.trans zf
  have zd := ke.trans ze
  have zc := kd.trans zd
  have zb := kc.trans zc
  have za := kb.trans zb
  have z0 := ka.trans za
  have zz : Kept (fun _ _ => False) w w2 := ((Kept.refl _ _).alloc _).drew.trans z0
  refine ⟨w1.heap.size, fun b => Btw w.heap.size w2.heap.size b ∧ ∀ j, (((ProA.mk ga gc gd ge gf gb gg gh gi Lj L g)).pa j).1 ≠ b, ((ProA.mk ga gc gd ge gf gb gg gh gi Lj L g)).pa, rfl, ?_⟩
  have X1 := hblk w1.heap.size (fun k hk => by have := qa k hk; omega) (by omega) (by omega) (by omega) (by omega) (fun k hk => by have := qb k hk; omega) (fun k hk => by have := qg k hk; omega) (by omega) (by omega) (fun k hk => by have := qj k hk; omega) (fun k hk => by have := qk k hk; omega) (by omega)
  have X2 := hblk oa (fun k hk => by have := qa k hk; omega) (by omega) (by omega) (by omega) (by omega) (fun k hk => by have := qb k hk; omega) (fun k hk => by have := qg k hk; omega) (by omega) (by omega) (fun k hk => by have := qj k hk; omega) (fun k hk => by have := qk k hk; omega) (by omega)
  have X3 := hblk ob' (fun k hk => by have := qa k hk; omega) (by omega) (by omega) (by omega) (by omega) (fun k hk => by have := qb k hk; omega) (fun k hk => by have := qg k hk; omega) (by omega) (by omega) (fun k hk => by have := qj k hk; omega) (fun k hk => by have := qk k hk; omega) (by omega)
  have X4 := hblk ob (fun k hk => by have := qa k hk; omega) (by omega) (by omega) (by omega) (by omega) (fun k hk => by have := qb k hk; omega) (fun k hk => by have := qg k hk; omega) (by omega) (by omega) (fun k hk => by have := qj k hk; omega) (fun k hk => by have := qk k hk; omega) (by omega)
  have X5 : ∀ b, wi.heap.size ≤ b → b < wj.heap.size → (∀ i, i < 514 → (Lj.pa i).1 ≠ b) → Btw w.heap.size w2.heap.size b ∧ ∀ j, (((ProA.mk ga gc gd ge gf gb gg gh gi Lj L g)).pa j).1 ≠ b := fun b b1 b2 b3 =>
    ⟨⟨by omega, by omega⟩, hblk b (fun k hk => by have := qa k hk; omega) (by omega) (by omega) (by omega) (by omega) (fun k hk => by have := qb k hk; omega) (fun k hk => by have := qg k hk; omega) (by omega) (by omega) b3 (fun k hk => by have := qk k hk; omega) (by omega)⟩
  have X6 : ∀ b, wj.heap.size ≤ b → b < wk.heap.size → (∀ i, i < 514 → (L.pa i).1 ≠ b) → Btw w.heap.size w2.heap.size b ∧ ∀ j, (((ProA.mk ga gc gd ge gf gb gg gh gi Lj L g)).pa j).1 ≠ b := fun b b1 b2 b3 =>
    ⟨⟨by omega, by omega⟩, hblk b (fun k hk => by have := qa k hk; omega) (by omega) (by omega) (by omega) (by omega) (fun k hk => by have := qb k hk; omega) (fun k hk => by have := qg k hk; omega) (by omega) (by omega) (fun k hk => by have := qj k hk; omega) b3 (by omega)⟩
  have hat : ∀ o v, (#[Value.slice (some ⟨oa, 0, none⟩) 12 ca, .slice (some ⟨ob', 0, none⟩) 12 cb, .slice (some ⟨gc, 0, none⟩) 12 12, .slice (some ⟨gd, 0, none⟩) 12 12, .slice (some ⟨ge, 0, none⟩) 12 12, .slice (some ⟨gf, 0, none⟩) 12 12, .slice (some ⟨ob, 0, none⟩) 4 cap, .slice (some ⟨gh, 0, none⟩) 115 115, .slice (some ⟨gi, 0, none⟩) 16 16, .pointer (some ⟨gj, 0, none⟩), .pointer (some ⟨gk, 0, none⟩), .slice (some ⟨g, 0, none⟩) (768 * 2 ^ (lc + lp)) (768 * 2 ^ (lc + lp))] : Array Value)[o]? = some v → At w2 w1.heap.size o v := fun o v hv => by rw [hw2]; exact At.alloc_new _ _ _ _ _ hv
  refine ⟨zz, ⟨⟨⟨⟨by omega, by omega⟩, X1⟩, oa, ca, ⟨⟨by omega, by omega⟩, X2⟩, hat 0 _ rfl, fun i hi => ⟨ga i, za.at_ _ _ _ (by simp) (ra.rows i hi), fun t ht => ProA.pa_match _ hi ht⟩⟩,
    ⟨⟨⟨by omega, by omega⟩, X1⟩, ob', cb, ⟨⟨by omega, by omega⟩, X3⟩, hat 1 _ rfl, fun i hi => ⟨gb i, zb.at_ _ _ _ (by simp) (rb.rows i hi), fun t ht => ProA.pa_long _ hi ht⟩⟩,
    ⟨⟨⟨by omega, by omega⟩, X1⟩, gc, hat 2 _ rfl, fun t ht => ProA.pa_rep _ ht⟩, ⟨⟨⟨by omega, by omega⟩, X1⟩, gd, hat 3 _ rfl, fun t ht => ProA.pa_rep0 _ ht⟩, ⟨⟨⟨by omega, by omega⟩, X1⟩, ge, hat 4 _ rfl, fun t ht => ProA.pa_rep1 _ ht⟩,
    ⟨⟨⟨by omega, by omega⟩, X1⟩, gf, hat 5 _ rfl, fun t ht => ProA.pa_rep2 _ ht⟩,
    ⟨⟨⟨by omega, by omega⟩, X1⟩, ob, cap, ⟨⟨by omega, by omega⟩, X4⟩, hat 6 _ rfl, fun i hi => ⟨gg i, zg.at_ _ _ _ (by simp) (rg.rows i hi), fun t ht => ProA.pa_slot _ hi ht⟩⟩,
    ⟨⟨⟨by omega, by omega⟩, X1⟩, gh, hat 7 _ rfl, fun t ht => ProA.pa_special _ ht⟩, ⟨⟨⟨by omega, by omega⟩, X1⟩, gi, hat 8 _ rfl, fun t ht => ProA.pa_align _ ht⟩,
    ⟨gj, hat 9 _ rfl, (rj.lens _ 819 _ (fun i hi => by rw [ProA.pa_len _ hi]) X5).kept zj (by simp)⟩, ⟨gk, hat 10 _ rfl, (rk.lens _ 1333 _ (fun i hi => by rw [ProA.pa_repLen _ hi]) X6).kept zk (by simp)⟩,
    ⟨⟨⟨by omega, by omega⟩, X1⟩, g, hat 11 _ rfl, fun t ht => ProA.pa_lit _⟩⟩, ?_, fun b hb => hb.1, fun b hb j _ => hb.2 j⟩
  have r0 := (ra.reg (by decide)).kept za (by simp)
  have r1 := rc.reg.kept zc (by simp)
  have r2 := rd.reg.kept zd (by simp)
  have r3 := re.reg.kept ze (by simp)
  have r4 := rf.reg.kept zf (by simp)
  have r5 := (rb.reg (by decide)).kept zb (by simp)
  have r6 := (rg.reg (by decide)).kept zg (by simp)
  have r7 := rh.reg.kept zh (by simp)
  have r8 := ri.reg.kept zi (by simp)
  have r9 := rj.reg.kept zj (by simp)
  have r10 := rk.reg.kept zk (by simp)
  have r11 := hr.reg.kept kz (by simp)
  have t10 := r10.cat r11 (fun b x y => by unfold Btw at *; omega)
  have t9 := r9.cat t10 (fun b x y => by unfold Btw at *; omega)
  have t8 := r8.cat t9 (fun b x y => by unfold Btw at *; omega)
  have t7 := r7.cat t8 (fun b x y => by unfold Btw at *; omega)
  have t6 := r6.cat t7 (fun b x y => by unfold Btw at *; omega)
  have t5 := r5.cat t6 (fun b x y => by unfold Btw at *; omega)
  have t4 := r4.cat t5 (fun b x y => by unfold Btw at *; omega)
  have t3 := r3.cat t4 (fun b x y => by unfold Btw at *; omega)
  have t2 := r2.cat t3 (fun b x y => by unfold Btw at *; omega)
  have t1 := r1.cat t2 (fun b x y => by unfold Btw at *; omega)
  have t0 := r0.cat t1 (fun b x y => by unfold Btw at *; simp at x; omega)
  have hsum : 12 * 16 + (12 + (12 + (12 + (12 + (12 * 16 + (4 * 64 + (115 + (16 + (514 + (514 + 768 * 2 ^ (lc + lp))))))))))) = 1847 + 768 * 2 ^ (lc + lp) := by omega
  rw [hsum] at t0
  exact FReg.weaken t0 (fun i hi x => by unfold Btw at *; simp at x; omega)

end Go.Proofs.Ytahhcaooiahleaa
