/- garblerlaw09: awake, light. -/
import Derived.Test.YtahhcaooiahleaaPack
import Derived.Test.YtahhcaooiahleaaBytes
import Derived.Deep.OwnRows
namespace Go.Proofs.Ytahhcaooiahleaa
open Go Go.RowKit

theorem awake_bytes0 : (CO.new 3 0 2 4096).enc.e.finish = [0, 0, 0, 0, 0] := by rfl
theorem awake_bytes1 : ((CO.new 3 0 2 4096).codeLit 0).enc.e.finish = [0, 0, 0, 0, 0, 0] := by decide +kernel
theorem awake_told1 : ((CO.new 3 0 2 4096).codeLit 0).told = [0] := by rfl

def stepLit (c : CO) (p : Pkt) : CO := if c.fits p.k p.l p.d then c.codeLit p.b else c

theorem setv_awake : setv 3 0 2 4096 = .agg #[.int .i64 3, .int .i64 0, .int .i64 2, .int .i64 4096] := rfl

theorem awake_Pack0 {w : World} : Calls Try.prog 39 #[.agg #[.int .i64 3, .int .i64 0, .int .i64 2, .int .i64 4096], .slice none 0 0] w fun e w' => ∃ a t, e = .returned (.tuple #[a, t, .int .i64 0]) ∧ BRow w' a [0, 0, 0, 0, 0] ∧ (∀ b, a.ownBlock = some b → w.heap.size ≤ b) ∧ Kept (fun _ _ => False) w w' := by
  have H := lzmac_Pack_with (w := w) (lc := 3) (lp := 0) (pb := 2) (dict := 4096) (by decide) (v := .slice none 0 0) (ps := []) ⟨none, 0, rfl, fun i p hp => by simp at hp⟩ (by decide) stepLit (fun _ c => c = CO.new 3 0 2 4096) rfl (fun i p c hp _ => by simp at hp) (fun i c h => by rw [h]) (fun c h => by rw [h]; decide) (fun i p c hp => by simp at hp)
  rw [setv_awake] at H
  refine H.mono ?_
  rintro e w' ⟨a, t, rfl, h1, h2, h3, h4, h5⟩
  simp only [List.foldl_nil] at h1
  rw [awake_bytes0] at h1
  exact ⟨a, t, rfl, BRow.own h1, fun b hb => (h3 b hb).2, h5⟩

theorem awake_Pack1 {w : World} {g : Nat} (q0 : w.cell? ⟨g, 0, none⟩ = some (.int .i64 6)) (q1 : w.cell? ⟨g, 1, none⟩ = some (.int .u8 0)) (q2 : w.cell? ⟨g, 2, none⟩ = some (.int .i64 0)) (q3 : w.cell? ⟨g, 3, none⟩ = some (.int .u32 0))
    (q4 : w.cell? ⟨g, 4, none⟩ = some (.int .i64 0)) (q5 : w.cell? ⟨g, 5, none⟩ = some (.int .u8 0)) (q6 : w.cell? ⟨g, 6, none⟩ = some (.int .i64 0)) (q7 : w.cell? ⟨g, 7, none⟩ = some (.int .u32 0)) :
    Calls Try.prog 39 #[.agg #[.int .i64 3, .int .i64 0, .int .i64 2, .int .i64 4096], .slice (some ⟨g, 0, none⟩) 2 2] w fun e w' => ∃ a t, e = .returned (.tuple #[a, t, .int .i64 0]) ∧ BRow w' a [0, 0, 0, 0, 0, 0] ∧ BRow w' t [0] ∧ (∀ b, a.ownBlock = some b → w.heap.size ≤ b) ∧ (∀ b, t.ownBlock = some b → w.heap.size ≤ b) ∧ Kept (fun _ _ => False) w w' := by
  have hg : g < w.heap.size := World.block_lt_of_cell? w ⟨g, 0, none⟩ q0
  have H := lzmac_Pack_with (w := w) (lc := 3) (lp := 0) (pb := 2) (dict := 4096) (by decide) (v := .slice (some ⟨g, 0, none⟩) 2 2) (ps := [⟨6, 0, 0, 0⟩, ⟨0, 0, 0, 0⟩])
    ⟨some ⟨g, 0, none⟩, 2, rfl, fun i p hp => ⟨g, 0, rfl, hg, by
      match i, hp with
      | 0, hp => simp at hp; subst hp; exact ⟨q0, q1, q2, q3⟩
      | 1, hp => simp at hp; subst hp; exact ⟨q4, q5, q6, q7⟩⟩⟩
    (by decide) stepLit (fun i c => (i ≤ 1 → c = CO.new 3 0 2 4096) ∧ (2 ≤ i → c = (CO.new 3 0 2 4096).codeLit 0)) ⟨fun _ => rfl, fun h => by simp at h⟩
    (fun i p c hp hI => by
      match i, hp with
      | 0, hp => simp at hp; subst hp; obtain rfl := hI.1 (by decide); exact ⟨fun _ => rfl, fun h => by simp at h⟩
      | 1, hp => simp at hp; subst hp; obtain rfl := hI.1 (by decide); exact ⟨fun h => by simp at h, fun _ => rfl⟩)
    (fun i c h => by rcases Nat.lt_or_ge 1 i with hi | hi <;> first | (rw [h.2 hi]; rfl) | rw [h.1 hi]) (fun c h => by rw [h.2 (by decide)]; decide +kernel)
    (fun i p c hp hI w A ov tv hC => by
      match i, hp with
      | 0, hp =>
        simp at hp; subst hp; obtain rfl := hI.1 (by decide)
        refine (lzmac_Code_no hC (k := 6) (l := 0) (b := 0) (d := 0) (by decide) (by decide) (by decide)).mono ?_
        rintro e w1 ⟨rfl, hK⟩
        exact ⟨⟨_, rfl⟩, ov, tv, CStep.ofKept hC hK⟩
      | 1, hp =>
        simp at hp; subst hp; obtain rfl := hI.1 (by decide)
        refine (lzmac_Code_lit hC (l := 0) (b := 0) (d := 0) (by decide) (by decide) (by decide) (by decide) rfl).mono ?_
        rintro e w1 ⟨rfl, ov', tv', hS⟩
        exact ⟨⟨_, rfl⟩, ov', tv', hS⟩)
  rw [setv_awake] at H
  refine H.mono ?_
  rintro e w' ⟨a, t, rfl, h1, h2, h3, h4, h5⟩
  have hf : List.foldl stepLit (CO.new 3 0 2 4096) [⟨6, 0, 0, 0⟩, ⟨0, 0, 0, 0⟩] = (CO.new 3 0 2 4096).codeLit 0 := rfl
  rw [hf, awake_bytes1] at h1
  rw [hf, awake_told1] at h2
  exact ⟨a, t, rfl, BRow.own h1, BRow.own h2, fun b hb => (h3 b hb).2, h4, h5⟩

theorem make5 (w : World) : (Instr.makeSlice 35 (.int .i64 5) (.int .i64 5)).run Try.prog w = .ok (.slice (some ⟨w.heap.size, 0, none⟩) 5 5) (w.alloc (.cells #[.int .u8 0, .int .u8 0, .int .u8 0, .int .u8 0, .int .u8 0] 5)) :=
  by
  have h := run_make_row' (P := Try.prog) 35 5 (.int .u8 0) 1 Try.underlying35 Try.info_u8 rfl .i64 .i64 5 (by decide) (by decide) w
  have e : madeCells #[Value.int .u8 0] 5 = #[.int .u8 0, .int .u8 0, .int .u8 0, .int .u8 0, .int .u8 0] := by kernel_rfl
  rw [e] at h
  exact h
theorem make6 (w : World) : (Instr.makeSlice 35 (.int .i64 6) (.int .i64 6)).run Try.prog w = .ok (.slice (some ⟨w.heap.size, 0, none⟩) 6 6) (w.alloc (.cells #[.int .u8 0, .int .u8 0, .int .u8 0, .int .u8 0, .int .u8 0, .int .u8 0] 5)) :=
  by
  have h := run_make_row' (P := Try.prog) 35 5 (.int .u8 0) 1 Try.underlying35 Try.info_u8 rfl .i64 .i64 6 (by decide) (by decide) w
  have e : madeCells #[Value.int .u8 0] 6 = #[.int .u8 0, .int .u8 0, .int .u8 0, .int .u8 0, .int .u8 0, .int .u8 0] := by kernel_rfl
  rw [e] at h
  exact h

/-- A new block of bytes. -/
theorem BRow.new (w : World) (l : List Nat) (cs : Array Value) (n : Nat) (h1 : n = l.length) (h2 : cs = (bts l).toArray) : BRow (w.alloc (.cells cs 5)) (.slice (some ⟨w.heap.size, 0, none⟩) n n) l := by
  subst h1 h2
  refine ⟨some ⟨w.heap.size, 0, none⟩, l.length, rfl, fun i x hx => ⟨w.heap.size, 0, rfl, ?_⟩⟩
  rw [World.cell?_alloc_new]
  simp [bts, hx]

set_option maxRecDepth 100000 in
set_option maxHeartbeats 400000 in
theorem law09_awake {w : World} : Calls Try.prog 13 #[] w fun e w' => e = .returned (.bool true) ∧ Kept (fun _ _ => False) w w' := by
  go_enter Try.func13, Try.ntmps13
  go_wp2_with fail
  refine awake_Pack0.mono ?_
  rintro e w1 ⟨a, t, rfl, hA, hAb, hK⟩
  obtain ⟨bx, hbx⟩ : ∃ bx, bx = w.heap.size := ⟨_, rfl⟩
  have c0 : w1.cell? ⟨bx, 0, none⟩ = some (.int .i64 3) := by rw [hbx]; exact hK.cellF (by simp)
  have c1 : w1.cell? ⟨bx, 1, none⟩ = some (.int .i64 0) := by rw [hbx]; exact hK.cellF (by simp)
  have c2 : w1.cell? ⟨bx, 2, none⟩ = some (.int .i64 2) := by rw [hbx]; exact hK.cellF (by simp)
  have c3 : w1.cell? ⟨bx, 3, none⟩ = some (.int .i64 4096) := by rw [hbx]; exact hK.cellF (by simp)
  have K1 : Kept (fun _ _ => False) w w1 := ((Kept.refl _ _).alloc _).trans hK
  rw [← hbx]
  clear hbx hK hAb
  go_wp2_with fail
  refine (awake_Pack1 (g := w1.heap.size) (by simp) (by simp) (by simp) (by simp) (by simp) (by simp) (by simp) (by simp)).mono ?_
  rintro e w2 ⟨a2, t2, rfl, hA2, hT2, _, _, hK2⟩
  have K2 : Kept (fun _ _ => False) w1 w2 := ((Kept.refl _ _).alloc _).trans hK2
  clear hK2
  have m5 := make5
  have m6 := make6
  go_wp2_with fail
  refine (ref01_Bytes ((hA.kept K2 (by simp)).kept (Kept.of_alloc (fun _ _ => False) _ _) (by simp)) (BRow.new w2 [0, 0, 0, 0, 0] _ 5 rfl rfl) (by decide) (by decide)).mono ?_
  rintro e w3 ⟨rfl, K3⟩
  have K3' : Kept (fun _ _ => False) w2 w3 := (Kept.of_alloc _ _ _).trans K3
  clear K3
  go_wp2_with fail
  refine (ref01_Bytes ((hA2.kept K3' (by simp)).kept (Kept.of_alloc (fun _ _ => False) _ _) (by simp)) (BRow.new w3 [0, 0, 0, 0, 0, 0] _ 6 rfl rfl) (by decide) (by decide)).mono ?_
  rintro e w4 ⟨rfl, K4⟩
  have K4' : Kept (fun _ _ => False) w3 w4 := (Kept.of_alloc _ _ _).trans K4
  clear K4
  go_wp2_with fail
  refine (ref01_Bytes (((hT2.kept K3' (by simp)).kept K4' (by simp)).kept (Kept.of_alloc (fun _ _ => False) _ _) (by simp)) (BRow.new w4 [0] _ 1 rfl rfl) (by decide) (by decide)).mono ?_
  rintro e w5 ⟨rfl, K5⟩
  have K5' : Kept (fun _ _ => False) w4 w5 := (Kept.of_alloc _ _ _).trans K5
  clear K5
  go_wp2_with fail
  go_ret
  exact ⟨rfl, K1.trans (K2.trans (K3'.trans (K4'.trans K5')))⟩

set_option maxRecDepth 100000 in
set_option maxHeartbeats 400000 in
theorem law09_light {a b c d : Int} (w : World) (hb : mayB a b c d = true) : Calls Try.prog 14 #[.agg #[.int .i64 a, .int .i64 b, .int .i64 c, .int .i64 d]] w fun e w' => e = .returned (.bool (decide (a + b ≤ 5))) ∧ Kept (fun _ _ => False) w w' := by
  have hm : 0 ≤ a ∧ a ≤ 8 ∧ 0 ≤ b ∧ b ≤ 4 := by
    simp only [mayB, Bool.and_eq_true, decide_eq_true_eq] at hb
    omega
  obtain ⟨h1, h2, h3, h4⟩ := hm
  go_enter Try.func14, Try.ntmps14
  go_wp2_with fail
  refine (ref08_May a b c d _).mono ?_
  rintro e w1 ⟨rfl, hk⟩
  have c0 : w1.cell? ⟨w.heap.size, 0, none⟩ = some (.int .i64 a) := hk.cellF (by simp)
  have c1 : w1.cell? ⟨w.heap.size, 1, none⟩ = some (.int .i64 b) := hk.cellF (by simp)
  rw [hb]
  go_wp2_with fail
  go_ret
  exact ⟨rfl, ((Kept.refl _ _).alloc _).trans hk⟩

set_option maxRecDepth 100000 in
set_option maxHeartbeats 400000 in
theorem law09_light_no {a b c d : Int} (w : World) (hb : mayB a b c d = false) : Calls Try.prog 14 #[.agg #[.int .i64 a, .int .i64 b, .int .i64 c, .int .i64 d]] w fun e w' => e = .returned (.bool true) ∧ Kept (fun _ _ => False) w w' := by
  go_enter Try.func14, Try.ntmps14
  go_wp2_with fail
  refine (ref08_May a b c d _).mono ?_
  rintro e w1 ⟨rfl, hk⟩
  rw [hb]
  go_wp2_with fail
  go_ret
  exact ⟨rfl, ((Kept.refl _ _).alloc _).trans hk⟩

end Go.Proofs.Ytahhcaooiahleaa
