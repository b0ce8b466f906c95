/- garblerlaw10: awake. -/
import Derived.Test.YtahhcaooiahleaaSame10
import Derived.Test.YtahhcaooiahleaaFind8
import Derived.Lib.SlBytesConst
namespace Go.Proofs.Ytahhcaooiahleaa
open Go Go.RowKit

theorem find_aaaa : find [97, 97, 97, 97] 4 4096 0 ⟨0, 0, 0, 0⟩ = ([⟨0, 97, 0, 0⟩, ⟨2, 0, 3, 0⟩], ⟨0, 0, 0, 0⟩) := by rfl
theorem find_abab : find [97, 98, 97, 98] 4 4096 0 ⟨0, 0, 0, 0⟩ = ([⟨0, 97, 0, 0⟩, ⟨0, 98, 0, 0⟩, ⟨1, 0, 2, 1⟩], ⟨1, 0, 0, 0⟩) := by rfl

theorem BSrc.new (w : World) (l : List Nat) (cs : Array Value) (n : Nat) (fz : Nat × Nat) (h1 : n = l.length) (h2 : cs = (bts l).toArray) : BSrc (w.alloc (.cells cs 5 fz)) (.slice (some ⟨w.heap.size, 0, none⟩) n n) l := by
  subst h1 h2
  have hn : (some (⟨w.heap.size, 0, none⟩ : Addr)) = none → l.length = 0 := fun h => by cases h
  have hc : ∀ (i x : Nat), l[i]? = some x → ∃ g o, (some (⟨w.heap.size, 0, none⟩ : Addr)) = some ⟨g, o, none⟩ ∧ (w.alloc (.cells (bts l).toArray 5 fz)).cell? ⟨g, o + i, none⟩ = some (.int .u8 (x : Nat)) := fun i x hx => by
    refine ⟨w.heap.size, 0, rfl, ?_⟩
    have hh : (w.alloc (.cells (bts l).toArray 5 fz)).heap[w.heap.size]? = some (.cells (bts l).toArray 5 fz) := by
      show (w.heap.push _)[w.heap.size]? = _
      simp
    unfold World.cell?
    rw [show (⟨w.heap.size, 0 + i, none⟩ : Addr).block = w.heap.size from rfl, hh]
    simp [bts, hx]
  exact ⟨some ⟨w.heap.size, 0, none⟩, l.length, rfl, hn, hc⟩

theorem awake_Find {w : World} {v : Value} {l : List Nat} (hv : BSrc w v l) (h4 : l.length = 4) (h8 : ∀ x ∈ l, x < 256) {ps : List Pkt} {r : R4} (hf : find l 4 4096 0 ⟨0, 0, 0, 0⟩ = (ps, r)) :
    Calls Try.prog 20 #[v, .int .i64 0, .int .i64 4, .int .i64 4096, .agg #[.int .u32 0, .int .u32 0, .int .u32 0, .int .u32 0]] w fun e w' => ∃ pv, e = .returned (.tuple #[pv, r.val]) ∧ PktRow w' pv ps ∧ Kept (fun _ _ => False) w w' := by
  refine (parse_Find hv (by rw [h4]; decide) h8 (fr := 0) (te := 4) (dict := 4096) (r := ⟨0, 0, 0, 0⟩) (by decide) (by rw [h4]; decide) (by decide) (by decide) (by decide) (by decide) (by decide) (by decide)).mono ?_
  rintro e w' ⟨pv, rfl, h1, _, h3⟩
  rw [hf] at h1 ⊢
  exact ⟨pv, rfl, h1, h3⟩

theorem PktRow.kept {w w' : World} {v : Value} {ps : List Pkt} (h : PktRow w v ps) (k : Kept (fun _ _ => False) w w') : PktRow w' v ps := by
  obtain ⟨ao, cap, hv, hc⟩ := h.form
  refine ⟨ao, cap, hv, fun i p hp => ?_⟩
  obtain ⟨g, o, e, hg, q0, q1, q2, q3⟩ := hc i p hp
  exact ⟨g, o, e, Nat.lt_of_lt_of_le hg k.size, k.cellF q0, k.cellF q1, k.cellF q2, k.cellF q3⟩

set_option maxRecDepth 100000 in
set_option maxHeartbeats 1000000 in
theorem law10_awake {w : World} : Calls Try.prog 19 #[] w fun e w' => e = .returned (.bool true) ∧ Kept (fun _ _ => False) w w' := by
  have kc := fun (w : World) (C : Array Value) (n c : Nat) => Lib.run_convert_bytes_const (P := Try.prog) w 35 5 C n c Try.underlying35 Try.underlying5
  have kc2 : ∀ (w : World) (O : Obj) (C : Array Value) (n c : Nat), (convert 35 35 (.slice (some ⟨w.heap.size + 1, 0, none⟩) n c)).run Try.prog ((w.alloc O).alloc (.cells C 5)) = .ok (.slice (some ⟨w.heap.size + 1, 0, none⟩) n c) ((w.alloc O).alloc (.cells C 5 (C.size, C.size + 1))) := fun w O C n c => by
    have h := kc (w.alloc O) C n c
    rw [show (w.alloc O).heap.size = w.heap.size + 1 by simp] at h
    exact h
  go_enter Try.func19, Try.ntmps19
  go_wp2_with fail
  refine (awake_Find (BSrc.new w [97, 97, 97, 97] _ 4 _ rfl rfl) rfl (by decide) find_aaaa).mono ?_
  rintro e w1 ⟨va, rfl, hA, hK⟩
  have K1 : Kept (fun _ _ => False) w w1 := ((Kept.refl _ _).alloc _).trans hK
  clear hK
  unfold R4.val
  go_wp2_with fail
  obtain ⟨wq, hwq⟩ : ∃ wq, wq = w1.alloc (.cells #[.int .u32 0, .int .u32 0, .int .u32 0, .int .u32 0] 38) := ⟨_, rfl⟩
  have KQ : Kept (fun _ _ => False) w1 wq := by rw [hwq]; exact Kept.of_alloc _ _ _
  have hsq : w1.heap.size + 1 = wq.heap.size := by rw [hwq]; simp
  rw [← hwq, hsq]
  clear hsq
  refine (awake_Find (BSrc.new wq [97, 98, 97, 98] _ 4 _ rfl rfl) rfl (by decide) find_abab).mono ?_
  rintro e w2 ⟨vb, rfl, hB, hK⟩
  have K2 : Kept (fun _ _ => False) w1 w2 := (KQ.alloc _).trans hK
  clear hK
  unfold R4.val
  obtain ⟨bo, cb, rfl, hcb⟩ := hB.form
  obtain ⟨g, o, rfl, _, p0, p1, p2, p3⟩ := hcb 2 _ rfl
  clear hcb
  have hq := eqPkt
  have hr := eqRep
  go_wp2_with fail
  obtain ⟨w3, hw3⟩ : ∃ w3, w3 = w2.alloc (.cells #[.int .u32 1, .int .u32 0, .int .u32 0, .int .u32 0] 38) := ⟨_, rfl⟩
  have K3 : Kept (fun _ _ => False) w2 w3 := by rw [hw3]; exact Kept.of_alloc _ _ _
  have hs3 : w2.heap.size + 1 = w3.heap.size := by rw [hw3]; simp
  have A0 : At w3 w2.heap.size 0 (.int .u32 1) := by rw [hw3]; exact At.alloc_new _ _ _ _ _ rfl
  have A1 : At w3 w2.heap.size 1 (.int .u32 0) := by rw [hw3]; exact At.alloc_new _ _ _ _ _ rfl
  have A2 : At w3 w2.heap.size 2 (.int .u32 0) := by rw [hw3]; exact At.alloc_new _ _ _ _ _ rfl
  have A3 : At w3 w2.heap.size 3 (.int .u32 0) := by rw [hw3]; exact At.alloc_new _ _ _ _ _ rfl
  obtain ⟨bz, hbz⟩ : ∃ bz, bz = w2.heap.size := ⟨_, rfl⟩
  rw [← hbz] at A0 A1 A2 A3
  rw [hs3, ← hw3, ← hbz]
  clear hs3 hw3 hbz
  obtain ⟨w4, hw4⟩ : ∃ w4, w4 = w3.alloc (.cells #[.int .i64 0, .int .u8 97, .int .i64 0, .int .u32 0, .int .i64 2, .int .u8 0, .int .i64 3, .int .u32 0] 26) := ⟨_, rfl⟩
  have K4 : Kept (fun _ _ => False) w3 w4 := by rw [hw4]; exact Kept.of_alloc _ _ _
  have hP : PktRow w4 (.slice (some ⟨w3.heap.size, 0, none⟩) 2 2) [⟨0, 97, 0, 0⟩, ⟨2, 0, 3, 0⟩] := by
    rw [hw4]
    refine ⟨some ⟨w3.heap.size, 0, none⟩, 2, rfl, fun i p hp => ⟨w3.heap.size, 0, rfl, by simp, ?_⟩⟩
    match i, hp with
    | 0, hp => simp at hp; subst hp; exact ⟨(At.alloc_new _ _ _ _ _ rfl).1, (At.alloc_new _ _ _ _ _ rfl).1, (At.alloc_new _ _ _ _ _ rfl).1, (At.alloc_new _ _ _ _ _ rfl).1⟩
    | 1, hp => simp at hp; subst hp; exact ⟨(At.alloc_new _ _ _ _ _ rfl).1, (At.alloc_new _ _ _ _ _ rfl).1, (At.alloc_new _ _ _ _ _ rfl).1, (At.alloc_new _ _ _ _ _ rfl).1⟩
  rw [← hw4]
  clear hw4
  refine (ref10_Same (((hA.kept K2).kept K3).kept K4) hP (by decide)).mono ?_
  rintro e w5 ⟨rfl, K5⟩
  have K35 := K4.trans K5
  have K25 := K3.trans K35
  have c0 : w5.cell? ⟨g, o + 8, none⟩ = some (.int .i64 1) := K25.cellF p0
  have c1 : w5.cell? ⟨g, o + 9, none⟩ = some (.int .u8 0) := K25.cellF p1
  have c2 : w5.cell? ⟨g, o + 10, none⟩ = some (.int .i64 2) := K25.cellF p2
  have c3 : w5.cell? ⟨g, o + 11, none⟩ = some (.int .u32 1) := K25.cellF p3
  have d0 := K35.cellF A0.1
  have d1 := K35.cellF A1.1
  have d2 := K35.cellF A2.1
  have d3 := K35.cellF A3.1
  clear p0 p1 p2 p3
  go_wp2_with fail
  go_ret
  exact ⟨rfl, (K1.trans K2).trans K25⟩

end Go.Proofs.Ytahhcaooiahleaa
