/- Rows of fresh probabilities. -/
import Derived.Test.YtahhcaooiahleaaTree
namespace Go.Proofs.Ytahhcaooiahleaa
open Go Go.RowKit

theorem Try.info_u16 : (Try.prog.info? 36).map (fun i => (i.zero, i.size, i.bytes)) = some (some (.int .u16 0), 1, 2) := by kernel_rfl

/-- n fresh probabilities lie in the new block g. -/
structure FreshRow (w w' : World) (g n : Nat) : Prop where
  new : w.heap.size ≤ g
  at_ : ∀ i, i < n → At w' g i (.int .u16 1024)
  lt : g < w'.heap.size
  kept : Kept (fun _ _ => False) w w'

theorem own_at {w : World} {base : Nat} {e : TypeId} {g n cap : Nat} {xs : List Value} (h : w.ownsRow base e 1 (.slice (some ⟨g, 0, none⟩) n cap) n xs) {i : Nat} {v : Value} (hv : xs[i]? = some v) : At w g i v := by
  have hi : i < n * 1 := by
    have := (List.getElem?_eq_some_iff.1 hv).1
    have := h.1
    omega
  exact ⟨(h.cellAt i hi).trans hv, h.frozenAt i⟩

set_option maxRecDepth 100000 in
set_option maxHeartbeats 400000 in
theorem rdec_Fresh {w : World} {n : Nat} (hn : n ≤ 16777216) {z : Int} (hz : z = (n : Int)) :
    Calls Try.prog 85 #[.int .i64 z] w fun e w' => ∃ g, e = .returned (.slice (some ⟨g, 0, none⟩) n n) ∧ FreshRow w w' g n := by
  subst hz
  obtain ⟨i0, hi, hz0, hz1, hz2⟩ := info_parts Try.info_u16
  have hb2 : i0.bytes * n ≤ 281474976710656 := by rw [hz2]; omega
  have hb3 : n ≤ maxLen := by unfold maxLen; omega
  go_enter Try.func85, Try.ntmps85
  go_wp2_with (at_make; refine wpList_make_full w rfl (.tmp 5) (.tmp 5) 80 rfl w.heap.size 36 i0 (.int .u16 0) 1 Try.underlying80 hi hz0 hz1 .i64 .i64 n n n (by simp [Act.eval]) (by simp [Act.eval]) rfl rfl hb2 hb3 (Nat.le_refl _) ?_; intro w1 hown hg)
  have hk1 : Kept (fun _ _ => False) w w1 := (Kept.refl _ _).grown hg (by simp)
  have hlt : w.heap.size < w1.heap.size := (hown.lt _ rfl).2
  have hcell : ∀ i, i < n → ∃ v, At w1 w.heap.size i v := fun i hi => by
    have hl : i < (madeCells (Value.int IntKind.u16 0).cells (n * 1)).toList.length := by rw [hown.1]; omega
    exact ⟨_, own_at hown (List.getElem?_eq_getElem hl)⟩
  clear hown hg
  go_wp2_with fail
  go_loopw [9] (fun i wr => ∃ k : Nat, k ≤ n ∧ i = .int .i64 k ∧ (∀ i, i < n → ∃ v, At wr w.heap.size i v) ∧ (∀ i, i < k → At wr w.heap.size i (.int .u16 1024)) ∧ Kept (fun _ _ => False) w wr ∧ w.heap.size < wr.heap.size) (fun i _ => n - (intOf i).toNat)
  case atStart => exact ⟨0, Nat.zero_le _, rfl, hcell, fun i hi => by omega, hk1, hlt⟩
  case round =>
    obtain ⟨k, hk, rfl, hA, hF, hK, hl⟩ := hrel
    by_cases hlt2 : k < n
    · have hd : decide ((k : Int) < (n : Int)) = true := decide_eq_true (by omega)
      obtain ⟨v, hv⟩ := hA k hlt2
      have c1 := hv.1
      have f1 := hv.2
      have HA := Lib.hid hA
      have HF := Lib.hid hF
      clear hA hF hcell
      go_wp2_with fail
      go_roundw
      case rel =>
        refine ⟨k + 1, by omega, by go_num, fun i hi => ?_, fun i hi => ?_, hK.setCell (.inr (Nat.le_refl _)) _, by simpa using hl⟩
        · by_cases e : i = k
          · subst e; exact ⟨_, hv.set _⟩
          · obtain ⟨u, hu⟩ := HA.out i hi
            exact ⟨u, hu.set_other (by simp <;> omega) _⟩
        · by_cases e : i = k
          · subst e; exact hv.set _
          · exact (HF.out i (by omega)).set_other (by simp <;> omega) _
      case measure => simp [intOf]; omega
    · have hd : decide ((k : Int) < (n : Int)) = false := decide_eq_false (by omega)
      obtain rfl : k = n := by omega
      have HF := Lib.hid hF
      clear hA hF hcell
      go_wp2_with fail
      go_ret
      exact ⟨_, rfl, ⟨Nat.le_refl _, HF.out, hl, hK⟩⟩

theorem Try.info_row : (Try.prog.info? 80).map (fun i => (i.zero, i.size, i.bytes)) = some (some (.slice none 0 0), 1, 24) := by kernel_rfl

/-- The row number i of rows of m. -/
def rowv (g : Nat → Nat) (m i : Nat) : Value := .slice (some ⟨g i, 0, none⟩) m m

/-- n rows of m fresh probabilities each lie in new blocks; the slice v holds them. -/
structure FreshRows (w w' : World) (v : Value) (ob : Nat) (g : Nat → Nat) (n m : Nat) : Prop where
  form : ∃ cap, v = .slice (some ⟨ob, 0, none⟩) n cap
  new : w.heap.size ≤ ob
  lt : ob < w'.heap.size
  rows : ∀ i, i < n → At w' ob i (rowv g m i)
  at_ : ∀ i, i < n → w.heap.size ≤ g i ∧ g i < w'.heap.size ∧ g i ≠ ob ∧ ∀ j, j < m → At w' (g i) j (.int .u16 1024)
  inj : ∀ i j, i < n → j < n → g i = g j → i = j
  kept : Kept (fun _ _ => False) w w'

set_option maxRecDepth 100000 in
set_option maxHeartbeats 400000 in
theorem lzmac_rows {w : World} {n m : Nat} (hn0 : 0 < n) (hn : n ≤ 4096) (hm : m ≤ 4096) {zn zm : Int} (hzn : zn = (n : Int)) (hzm : zm = (m : Int)) :
    Calls Try.prog 84 #[.int .i64 zn, .int .i64 zm] w fun e w' => ∃ v ob g, e = .returned v ∧ FreshRows w w' v ob g n m := by
  subst hzn hzm
  obtain ⟨i0, hi, hz0, hz1, hz2⟩ := info_parts Try.info_row
  go_enter Try.func84, Try.ntmps84
  go_wp2_with fail
  go_loopw [5, 7] (fun ov i wr => ∃ (k : Nat) (g : Nat → Nat), k ≤ n ∧ i = .int .i64 k ∧ wr.ownsRow 0 80 1 ov k ((List.range k).map (rowv g m)) ∧ (∀ i, i < k → w.heap.size ≤ g i ∧ g i < wr.heap.size ∧ ov.ownBlock ≠ some (g i) ∧ ∀ j, j < m → At wr (g i) j (.int .u16 1024)) ∧ (∀ i j, i < k → j < k → g i = g j → i = j) ∧ Kept (fun _ _ => False) w wr ∧ (∀ b, ov.ownBlock = some b → w.heap.size ≤ b)) (fun _ i _ => n - (intOf i).toNat)
  case atStart => exact ⟨0, fun _ => 0, Nat.zero_le _, rfl, World.ownsRow_nil _ _ _ _, fun i hi => by omega, fun i j hi => by omega, Kept.refl _ _, by simp [Value.ownBlock]⟩
  case round =>
    obtain ⟨k, g, hk, rfl, hown, hA, hinj, hK, hob⟩ := hrel
    by_cases hlt2 : k < n
    · have hd : decide ((k : Int) < (n : Int)) = true := decide_eq_true (by omega)
      have HA := Lib.hid hA
      have HI := Lib.hid hinj
      have HO := Lib.hid hob
      clear hA hinj hob
      go_wp2_with fail
      refine (rdec_Fresh (by omega) rfl).mono ?_
      rintro e w1 ⟨gn, rfl, hF⟩
      have hown1 : w1.ownsRow 0 80 1 u5 k ((List.range k).map (rowv g m)) := hF.kept.owns hown (by simp)
      go_wp2_with (at_builtin; refine wpList_append_new rfl (.tmp 9) (.tmp 12) 81 rfl 80 i0 (.slice none 0 0) 24 Try.underlying81 hi hz0 hz1 hz2 rfl u5 _ _ (by simp [Act.eval]) (hown1.alloc _) (some ⟨w1.heap.size, 0, none⟩) 1 1 [.slice (some ⟨gn, 0, none⟩) m m] (by simp [Act.eval]) rfl (by simp) (by intro ad h j u hj; match j, hj with | 0, hj => simp at hj h; subst hj; subst h; simp [Addr.add]) (by intro u hu; simp at hu; subst hu; rfl) (by unfold maxLen; omega) (by omega) ?_; intro v' w2 h2 h3 h4 _)
      obtain ⟨ob, cap, rfl, hl⟩ := own_form h2 (by omega)
      have hK12 : Kept (fun b _ => u5.ownBlock = some b) w1 w2 := Kept.grown (by (repeat (first | exact Kept.refl _ _ | refine Kept.drewN ?_ _ | refine Kept.drew ?_ | refine Kept.setCell ?_ (by simp) _ | refine Kept.alloc ?_ _))) h3 (fun k hk => .inl (fun _ => hk))
      have hK2 : Kept (fun _ _ => False) w w2 := (hK.trans hF.kept).trans' hK12 (fun i o hi => .inr (HO.out i hi))
      have hu5 : ∀ b, u5.ownBlock = some b → b < wr.heap.size := fun b hb => (hown.lt b hb).2
      go_roundw
      case rel =>
        have hnw := hF.new
        have hgl := hF.lt
        have hs1 := hF.kept.size
        have hs2 := hK12.size
        have hob : ∀ b, b = ob → u5.ownBlock = some b ∨ w1.heap.size + 1 ≤ b := fun b hb => by
          have := h4 b (by simp [Value.ownBlock, hb])
          simpa using this
        have hw := hK.size
        refine ⟨k + 1, fun i => if i = k then gn else g i, by omega, by go_num, ?_, fun i hi => ?_, fun i j hi hj e => ?_, hK2, fun b hb => ?_⟩
        · have e : (List.range (k + 1)).map (rowv (fun i => if i = k then gn else g i) m) = (List.range k).map (rowv g m) ++ [.slice (some ⟨gn, 0, none⟩) m m] := by
            rw [List.range_succ, List.map_append]
            congr 1
            · apply List.map_congr_left
              intro i hi
              have : i ≠ k := by have := List.mem_range.1 hi; omega
              simp [rowv, this]
            · simp [rowv]
          rw [e]; exact h2
        · dsimp only
          by_cases e : i = k
          · rw [if_pos e]
            refine ⟨by omega, by omega, fun e2 => ?_, fun j hj => hK12.at_ _ _ _ (fun e2 => by have := hu5 _ e2; omega) (hF.at_ j hj)⟩
            simp [Value.ownBlock] at e2
            rcases hob gn e2.symm with h' | h'
            · have := hu5 _ h'; omega
            · omega
          · rw [if_neg e]
            obtain ⟨q1, q2, q3, q4⟩ := HA.out i (by omega)
            refine ⟨q1, by omega, fun e2 => ?_, fun j hj => hK12.at_ _ _ _ q3 (hF.kept.at_ _ _ _ (by simp) (q4 j hj))⟩
            simp [Value.ownBlock] at e2
            rcases hob (g i) e2.symm with h' | h'
            · exact q3 h'
            · omega
        · dsimp only at e
          by_cases e1 : i = k <;> by_cases e2 : j = k
          · omega
          · rw [if_pos e1, if_neg e2] at e
            have := (HA.out j (by omega)).2.1; omega
          · rw [if_neg e1, if_pos e2] at e
            have := (HA.out i (by omega)).2.1; omega
          · rw [if_neg e1, if_neg e2] at e
            exact HI.out i j (by omega) (by omega) e
        · simp [Value.ownBlock] at hb
          rcases hob b hb.symm with h' | h'
          · exact HO.out b h'
          · omega
      case measure => simp [intOf]; omega
    · have hd : decide ((k : Int) < (n : Int)) = false := decide_eq_false (by omega)
      obtain rfl : k = n := by omega
      have HA := Lib.hid hA
      have HI := Lib.hid hinj
      have HO := Lib.hid hob
      clear hA hinj hob
      go_wp2_with fail
      go_ret
      obtain ⟨ob, cap, rfl, hl⟩ := own_form hown hn0
      refine ⟨_, ob, g, rfl, ⟨⟨cap, rfl⟩, HO.out ob rfl, hl, fun i hi => own_at hown (by simp [hi]), fun i hi => ?_, HI.out, hK⟩⟩
      obtain ⟨q1, q2, q3, q4⟩ := HA.out i hi
      exact ⟨q1, q2, fun e => q3 (by simp [Value.ownBlock, e]), q4⟩

end Go.Proofs.Ytahhcaooiahleaa
