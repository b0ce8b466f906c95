/- The coder of LZMA, made; what it can say of itself. -/
import Derived.Test.YtahhcaooiahleaaCoder
namespace Go.Proofs.Ytahhcaooiahleaa
open Go Go.RowKit

theorem RE.new_ok : RE.new.Ok := ⟨by decide, by decide, by decide, by decide⟩

def CO.new (lc lp pb dict : Nat) : CO := { enc := { e := RE.new, P := fun _ => 1024 }, lc, lp, pb, dict, state := 0, r0 := 0, r1 := 0, r2 := 0, r3 := 0, told := [], ended := false }

set_option maxRecDepth 100000 in
set_option maxHeartbeats 400000 in
theorem lzmac_New_no {w : World} {a b c d : Int} (h : mayB a b c d = false) :
    Calls Try.prog 16 #[.agg #[.int .i64 a, .int .i64 b, .int .i64 c, .int .i64 d]] w fun e w' => e = .returned (.tuple #[.pointer none, .int .i64 11]) ∧ Kept (fun _ _ => False) w w' := by
  go_enter Try.func16, Try.ntmps16
  go_wp2_with fail
  refine (lzma_May a b c d _).mono ?_
  rintro e w1 ⟨rfl, hk⟩
  rw [h]
  go_wp2_with fail
  go_ret2
  exact ⟨rfl, ((Kept.refl _ _).alloc _).trans hk⟩

theorem Kept.cellF4 {w w' : World} (k : Kept (fun _ _ => False) w w') {a b c d : Addr} {v u x y : Value} (h : w.cell? a = some v ∧ w.cell? b = some u ∧ w.cell? c = some x ∧ w.cell? d = some y) : w'.cell? a = some v ∧ w'.cell? b = some u ∧ w'.cell? c = some x ∧ w'.cell? d = some y := ⟨k.cellF h.1, k.cellF h.2.1, k.cellF h.2.2.1, k.cellF h.2.2.2⟩

set_option maxRecDepth 100000 in
set_option maxHeartbeats 1000000 in
theorem lzmac_New_yes {w : World} {lc lp pb dict : Nat} (h : mayB lc lp pb dict = true) :
    Calls Try.prog 16 #[setv lc lp pb dict] w fun e w' => ∃ A, e = .returned (.tuple #[.pointer (some ⟨A.cb, 0, none⟩), .int .i64 0]) ∧
      CoderW w' A (.slice none 0 0) (.slice none 0 0) (CO.new lc lp pb dict) ∧ Kept (fun _ _ => False) w w' ∧ (∀ b, (A.Y (.slice none 0 0) b ∨ b = A.eb ∨ ∃ j, j < (CO.new lc lp pb dict).n ∧ (A.pa j).1 = b) → w.heap.size ≤ b) := by
  have hm : lc ≤ 8 ∧ lp ≤ 4 ∧ pb ≤ 4 ∧ (4096 : Int) ≤ dict ∧ (dict : Int) ≤ 4294967295 := by
    simp only [mayB, Bool.and_eq_true, decide_eq_true_eq] at h
    omega
  unfold setv
  go_enter Try.func16, Try.ntmps16
  go_wp2_with fail
  refine (lzma_May _ _ _ _ _).mono ?_
  rintro e w1 ⟨rfl, hk⟩
  rw [h]
  have c0 : w1.cell? ⟨w.heap.size, 0, none⟩ = some (.int .i64 lc) := hk.cellF (by simp)
  have c1 : w1.cell? ⟨w.heap.size, 1, none⟩ = some (.int .i64 lp) := hk.cellF (by simp)
  have c2 : w1.cell? ⟨w.heap.size, 2, none⟩ = some (.int .i64 pb) := hk.cellF (by simp)
  have c3 : w1.cell? ⟨w.heap.size, 3, none⟩ = some (.int .i64 dict) := hk.cellF (by simp)
  have hk' : Kept (fun _ _ => False) w w1 := ((Kept.refl _ _).alloc _).trans hk
  clear hk
  go_wp2_with fail
  go_region_held3 (fun w' => w'.cell? ⟨w.heap.size, 0, none⟩ = some (.int .i64 lc) ∧ w'.cell? ⟨w.heap.size, 1, none⟩ = some (.int .i64 lp) ∧ w'.cell? ⟨w.heap.size, 2, none⟩ = some (.int .i64 pb) ∧ w'.cell? ⟨w.heap.size, 3, none⟩ = some (.int .i64 dict))
    (first | exact ⟨c0, c1, c2, c3⟩ | exact Kept.cellF4 (Kept.of_alloc _ _ _) (by assumption) | exact Kept.cellF4 (by assumption) (by assumption))
    (first
      | (go_at_call 42; refine renc_New.mono ?_; rintro e w2 ⟨rfl, hE, hs, hk2⟩)
      | (go_at_call 43; refine (lzmac_newProbs (lc := lc) (lp := lp) (pb := pb) (dict := dict) (by omega)).mono ?_; rintro e w3 ⟨x, X, pa, rfl, hP⟩; have hk3 := hP.kept))
  clear c0 c1 c2 c3
  go_wp2_with fail
  go_ret2
  have e1 := hk'.size
  have e2 : w2.heap.size = w1.heap.size + 1 := hs
  have e3 := hk3.size
  have kz := Kept.of_alloc (fun _ _ => False) w3 (.cells #[.int .i64 lc, .int .i64 lp, .int .i64 pb, .int .i64 dict, .pointer (some ⟨w1.heap.size, 0, none⟩), .pointer (some ⟨x, 0, none⟩), .int .i64 0, .int .u32 0, .int .u32 0, .int .u32 0, .int .u32 0, .slice none 0 0, .bool false] 74)
  have hX : ∀ b, X b → w2.heap.size ≤ b ∧ b < w3.heap.size := fun b hb => hP.X_new b hb
  have hpa : ∀ j, j < 1847 + 768 * 2 ^ (lc + lp) → w2.heap.size ≤ (pa j).1 ∧ (pa j).1 < w3.heap.size := fun j hj => hP.reg.dom j hj
  have hn : (CO.new lc lp pb dict).n = 1847 + 768 * 2 ^ (lc + lp) := rfl
  refine ⟨⟨w3.heap.size, w1.heap.size, x, X, pa⟩, rfl, ⟨⟨(hE.kept hk3 (by simp) (by simp)).kept kz (by simp) (by simp), ⟨fun j hj => (hP.reg.at_ j hj).alloc _, hP.reg.inj⟩, fun j hj => ⟨?_, by simp [Value.ownBlock]⟩, RE.new_ok, fun j => by simp [CO.new]⟩,
    hP.probs.kept kz (by simp), At.alloc_new _ _ _ _ _ rfl, At.alloc_new _ _ _ _ _ rfl, At.alloc_new _ _ _ _ _ rfl, At.alloc_new _ _ _ _ _ rfl, At.alloc_new _ _ _ _ _ rfl, At.alloc_new _ _ _ _ _ rfl, At.alloc_new _ _ _ _ _ rfl, At.alloc_new _ _ _ _ _ rfl, At.alloc_new _ _ _ _ _ rfl, At.alloc_new _ _ _ _ _ rfl, At.alloc_new _ _ _ _ _ rfl, At.alloc_new _ _ _ _ _ rfl, At.alloc_new _ _ _ _ _ rfl,
    World.ownsRow_nil _ _ _ _, ⟨hm.1, hm.2.1, hm.2.2.1, hm.2.2.2.1, hm.2.2.2.2, by simp [CO.new], by simp [CO.new], by simp [CO.new], by simp [CO.new], by simp [CO.new], by simp [CO.new]⟩, ⟨fun b hb => ?_, fun b hb => ?_, fun b _ => by simp [Value.ownBlock], fun b hb j hj => ?_⟩, by simp [Value.ownBlock], fun b hb => ⟨by simp [Value.ownBlock], ?_⟩⟩, (hk'.trans ((Kept.refl _ _).drew.trans hk2)).trans (hk3.trans kz), fun b hb => ?_⟩
  · have := hpa j hj; dsimp only; omega
  · rcases hb with h | h | h
    · rw [h]; simp
    · simp [Value.ownBlock] at h
    · have := hX b h; simp; omega
  · rcases hb with h | h | h
    · rw [h]; dsimp only; omega
    · simp [Value.ownBlock] at h
    · have := hX b h; dsimp only; omega
  · rcases hb with h | h | h
    · rw [h]; have := hpa j hj; dsimp only; omega
    · simp [Value.ownBlock] at h
    · exact hP.X_pa b h j hj
  · have := hX b hb; dsimp only; omega
  · rcases hb with (h | h | h) | h | ⟨j, hj, h⟩
    · rw [h]; dsimp only; omega
    · simp [Value.ownBlock] at h
    · have := hX b h; omega
    · rw [h]; exact e1
    · have := hpa j hj; rw [← h]; dsimp only; omega

end Go.Proofs.Ytahhcaooiahleaa
