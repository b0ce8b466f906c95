/- Which packets tell bytes: a match at a place. -/
import Derived.Test.YtahhcaooiahleaaFind4
namespace Go.Proofs.Ytahhcaooiahleaa
open Go Go.RowKit



set_option maxRecDepth 100000 in
set_option maxHeartbeats 4000000 in
theorem parse_packet_match {w : World} {F : FA} {b : List Nat} {te dict : Nat} {r : R4} {kn : Nat} (h : FindW w F b te dict r kn) {i : Nat} (hi : i < te) (hk : kn ≤ i) (hA0 : ¬ (2 ≤ (eldGo (long b te dict i) r 4).1 ∧ (bestGo (long b te dict i) i).1 ≤ (eldGo (long b te dict i) r 4).1 + 1))
    (hB0 : 3 ≤ (bestGo (long b te dict i) i).1 ∨ ((bestGo (long b te dict i) i).1 = 2 ∧ (bestGo (long b te dict i) i).2 < 128)) :
    Calls Try.prog 54 #[.pointer (some ⟨F.fb, 0, none⟩), .int .i64 (i : Nat)] w fun e w' => e = .returned (.tuple #[(pick b te dict i r).1.val, .int .i64 ((pick b te dict i r).2.1 : Nat)]) ∧ ∃ kn', kn' ≤ i ∧ FindW w' F b te dict (pick b te dict i r).2.2 kn' ∧ Kept (FindS F) w w' := by
  have HA0 := Lib.hid hA0
  have HB0 := Lib.hid hB0
  clear hA0 hB0
  go_enter Try.func54, Try.ntmps54
  go_wp2_with fail
  obtain ⟨w0, hw0⟩ : ∃ w0, w0 = w.alloc (.cells #[.int .i64 0, .int .u8 0, .int .i64 0, .int .u32 0] 26) := ⟨_, rfl⟩
  have K0 : Kept (fun _ _ => False) w w0 := by rw [hw0]; exact Kept.of_alloc _ _ _
  obtain ⟨bx, hbx⟩ : ∃ bx, bx = w.heap.size := ⟨_, rfl⟩
  have hbw : w.heap.size ≤ bx := Nat.le_of_eq hbx.symm
  have B0 : At w0 bx 0 (.int .i64 0) := by rw [hw0, hbx]; exact At.alloc_new _ _ _ _ _ rfl
  have B1 : At w0 bx 1 (.int .u8 0) := by rw [hw0, hbx]; exact At.alloc_new _ _ _ _ _ rfl
  have B2 : At w0 bx 2 (.int .i64 0) := by rw [hw0, hbx]; exact At.alloc_new _ _ _ _ _ rfl
  have B3 : At w0 bx 3 (.int .u32 0) := by rw [hw0, hbx]; exact At.alloc_new _ _ _ _ _ rfl
  have hfb : F.fb ≠ bx := fun e => by have := h.f0.lt; omega
  have hbf : bx ≠ F.fb := fun e => hfb e.symm
  have hlb : F.lb ≠ bx := fun e => by have := (h.last 0 (by decide)).lt; omega
  have hab : ∀ j, j < b.length → F.ab ≠ bx := fun j hj e => by obtain ⟨x, hx, _⟩ := h.ahead j hj; have := hx.lt; omega
  have hab' : F.ab ≠ bx := hab i (by have := h.to_le; omega)
  rw [← hbx]
  rw [← hw0]
  clear hw0 hbx
  refine (parse_elder (h.kept K0 (by simp)) (i := i) (by omega)).mono ?_
  rintro e w1 ⟨rfl, n1, rfl⟩
  have K1 : Kept (fun _ _ => False) w (w0.drewN n1) := K0.drewN n1
  have hX := eldGo_le (long b te dict i) r (fun d => (long_le b te dict i d).1) 4
  have hS := eldGo_spec (long b te dict i) r 4
  obtain ⟨x, hx⟩ : ∃ x, x = (eldGo (long b te dict i) r 4).1 := ⟨_, rfl⟩
  obtain ⟨y, hy⟩ : ∃ y, y = (eldGo (long b te dict i) r 4).2 := ⟨_, rfl⟩
  rw [← hx, ← hy] at hS ⊢
  rw [← hx] at hX
  have hxb : (x : Int) ≤ 273 := by omega
  have hyb : y < 4 := by omega
  have HX := Lib.hid hx
  have HY := Lib.hid hy
  clear hx hy hS hX
  go_wp2_with fail
  refine (parse_longest (h.kept K1 (by simp)) hi hk).mono ?_
  rintro e w2 ⟨rfl, kn', hkn, h2, K2⟩
  have hM := bestGo_le (long b te dict i) (fun d => (long_le b te dict i d).1) i
  have hS := bestGo_spec (long b te dict i) i
  obtain ⟨m, hm⟩ : ∃ m, m = (bestGo (long b te dict i) i).1 := ⟨_, rfl⟩
  obtain ⟨v, hv⟩ : ∃ v, v = (bestGo (long b te dict i) i).2 := ⟨_, rfl⟩
  rw [← hm, ← hv] at hS ⊢
  rw [← hm] at hM
  have hmb : (m : Int) ≤ 273 := by omega
  have hm2 : m = 0 ∨ 2 ≤ m := by omega
  have hvd : v < 4294967296 ∧ (2 ≤ m → v < i ∧ v < dict) := by
    rcases hS with hS | hS
    · omega
    · have hlp := long_pos (b := b) (te := te) (dict := dict) (i := i) (d := v) (by omega)
      have := h.d2
      exact ⟨by omega, fun _ => hlp⟩
  have HM := Lib.hid hm
  have HV := Lib.hid hv
  have HVD := Lib.hid hvd.2
  have hvb : (v : Int) < 4294967296 := by omega
  have K3 : Kept (FindS F) w w2 := (K1.mono (by simp)).trans K2
  have nfs : ∀ o, ¬ FindS F bx o := fun o e => by
    rcases e with e | e | e
    · exact hbf e
    · exact hlb e.symm
    · exact hab' e.symm
  have D0 := K2.at_ _ _ _ (nfs 0) (B0.drewN n1)
  have D1 := K2.at_ _ _ _ (nfs 1) (B1.drewN n1)
  have D2 := K2.at_ _ _ _ (nfs 2) (B2.drewN n1)
  have D3 := K2.at_ _ _ _ (nfs 3) (B3.drewN n1)
  have HM2 := Lib.hid hm2
  have HNF := Lib.hid nfs
  clear hm hv hS hM hvd B0 B1 B2 B3 K0 K1 K2 hm2 hab nfs
  have a0 := D0.1
  have a1 := D1.1
  have a2 := D2.1
  have a3 := D3.1
  have g0 := D0.2
  have g1 := D1.2
  have g2 := D2.2
  have g3 := D3.2
  have c3 := h2.f3.1
  have c4 := h2.f4.1
  have c5 := h2.f5.1
  have c6 := h2.f6.1
  have hbv : F.bv.ownBlock ≠ some bx := fun e => by
    obtain ⟨g, o, cap, hv, q⟩ := h.bytes.get (i := i) (by have := h.to_le; omega)
    have hg : g < w.heap.size := World.block_lt_of_cell? w ⟨g, o + i, none⟩ q
    rw [hv] at e
    have : g = bx := by simpa [Value.ownBlock] using e
    omega
  have q3 := h2.f3.2
  have q4 := h2.f4.2
  have q5 := h2.f5.2
  have q6 := h2.f6.2
  have hA : ¬ (2 ≤ x ∧ m ≤ x + 1) := by rw [HX.out, HM.out]; exact HA0.out
  have HA := Lib.hid hA
  have hM2 := HM2.out
  have hB : 3 ≤ m ∨ (m = 2 ∧ v < 128) := by rw [HM.out, HV.out]; exact HB0.out
  have HB := Lib.hid hB
  by_cases hx2 : 2 ≤ x
  · have d1 : decide ((2 : Int) ≤ (x : Int)) = true := decide_eq_true (by omega)
    have d3 : decide ((m : Int) ≤ (x : Int) + 1) = false := decide_eq_false (by omega)
    have d4 : decide ((3 : Int) ≤ (m : Int)) = true := decide_eq_true (by omega)
    clear hB
    clear hA hM2
    go_wp2_with fail
    have hcp := fun dc sc ty => fr_copy3 (w := w2.drew) h2.f3.drew h2.f4.drew h2.f5.drew h2.f6.drew rfl rfl rfl dc sc ty
    go_region
    clear hcp
    go_wp2_with fail
    obtain ⟨w3, hw3⟩ : ∃ w3, w3 = (((w2.setCell ⟨F.fb, 4, none⟩ (.int .u32 (r.a : Nat))).setCell ⟨F.fb, 5, none⟩ (.int .u32 (r.b : Nat))).setCell ⟨F.fb, 6, none⟩ (.int .u32 (r.c : Nat))).setCell ⟨F.fb, 3, none⟩ (.int .u32 (v : Nat)) := ⟨_, rfl⟩
    have HR := front3 h2.f3 h2.f4 h2.f5 h2.f6 hw3
    have Z0 : At w3 bx 0 _ := HR.2.2.2.2.at_ _ _ _ (fun e => hbf e.1) D0
    have Z1 : At w3 bx 1 _ := HR.2.2.2.2.at_ _ _ _ (fun e => hbf e.1) D1
    have Z2 : At w3 bx 2 _ := HR.2.2.2.2.at_ _ _ _ (fun e => hbf e.1) D2
    have Z3 : At w3 bx 3 _ := HR.2.2.2.2.at_ _ _ _ (fun e => hbf e.1) D3
    obtain ⟨HF, KF0⟩ := h2.reps (r' := r.push v) HR.2.2.2.2 HR.1 HR.2.1 HR.2.2.1 HR.2.2.2.1 hvb h.ra h.rb h.rc
    have KF := K3.trans KF0
    rw [← hw3]
    clear hw3 HR KF0
    obtain ⟨w4, hw4⟩ : ∃ w4, w4 = (((w3.setCell ⟨bx, 0, none⟩ (.int .i64 1)).setCell ⟨bx, 1, none⟩ (.int .u8 0)).setCell ⟨bx, 2, none⟩ (.int .i64 (m : Nat))).setCell ⟨bx, 3, none⟩ (.int .u32 (v : Nat)) := ⟨_, rfl⟩
    have HQ := HF.boxed KF hbw ⟨hfb, hlb, hab', hbv⟩ Z0 Z1 Z2 Z3 hw4
    rw [← hw4]
    clear hw4
    obtain ⟨⟨Y0, Y1, Y2, Y3⟩, F4, K4⟩ := HQ
    have y0 := Y0.1
    have y1 := Y1.1
    have y2 := Y2.1
    have y3 := Y3.1
    clear Y0 Y1 Y2 Y3
    refine bodyPost_ret (v := .tuple #[.agg #[(.int .i64 1), (.int .u8 0), (.int .i64 (m : Nat)), (.int .u32 (v : Nat))], .int .i64 (m : Nat)]) (by simp [results, Try.results54, go_sem, y0, y1, y2, y3]) rfl ?_
    have hp : pick b te dict i r = (⟨1, 0, (m : Nat), v⟩, m, r.push v) := by
      unfold pick
      dsimp only
      rw [← HX.out, ← HM.out, if_neg HA.out, ← HV.out, if_pos HB.out]
    rw [hp]
    exact ⟨rfl, kn', hkn, F4.kept ((Kept.refl (fun _ _ => False) w4).drew) (by simp), K4.drew⟩
  · have d1 : decide ((2 : Int) ≤ (x : Int)) = false := decide_eq_false (by omega)
    by_cases h3 : 3 ≤ m
    · have d4 : decide ((3 : Int) ≤ (m : Int)) = true := decide_eq_true (by omega)
      clear hB
      clear hA hM2
      go_wp2_with fail
      have hcp := fun dc sc ty => fr_copy3 (w := w2.drew) h2.f3.drew h2.f4.drew h2.f5.drew h2.f6.drew rfl rfl rfl dc sc ty
      go_region
      clear hcp
      go_wp2_with fail
      obtain ⟨w3, hw3⟩ : ∃ w3, w3 = (((w2.setCell ⟨F.fb, 4, none⟩ (.int .u32 (r.a : Nat))).setCell ⟨F.fb, 5, none⟩ (.int .u32 (r.b : Nat))).setCell ⟨F.fb, 6, none⟩ (.int .u32 (r.c : Nat))).setCell ⟨F.fb, 3, none⟩ (.int .u32 (v : Nat)) := ⟨_, rfl⟩
      have HR := front3 h2.f3 h2.f4 h2.f5 h2.f6 hw3
      have Z0 : At w3 bx 0 _ := HR.2.2.2.2.at_ _ _ _ (fun e => hbf e.1) D0
      have Z1 : At w3 bx 1 _ := HR.2.2.2.2.at_ _ _ _ (fun e => hbf e.1) D1
      have Z2 : At w3 bx 2 _ := HR.2.2.2.2.at_ _ _ _ (fun e => hbf e.1) D2
      have Z3 : At w3 bx 3 _ := HR.2.2.2.2.at_ _ _ _ (fun e => hbf e.1) D3
      obtain ⟨HF, KF0⟩ := h2.reps (r' := r.push v) HR.2.2.2.2 HR.1 HR.2.1 HR.2.2.1 HR.2.2.2.1 hvb h.ra h.rb h.rc
      have KF := K3.trans KF0
      rw [← hw3]
      clear hw3 HR KF0
      obtain ⟨w4, hw4⟩ : ∃ w4, w4 = (((w3.setCell ⟨bx, 0, none⟩ (.int .i64 1)).setCell ⟨bx, 1, none⟩ (.int .u8 0)).setCell ⟨bx, 2, none⟩ (.int .i64 (m : Nat))).setCell ⟨bx, 3, none⟩ (.int .u32 (v : Nat)) := ⟨_, rfl⟩
      have HQ := HF.boxed KF hbw ⟨hfb, hlb, hab', hbv⟩ Z0 Z1 Z2 Z3 hw4
      rw [← hw4]
      clear hw4
      obtain ⟨⟨Y0, Y1, Y2, Y3⟩, F4, K4⟩ := HQ
      have y0 := Y0.1
      have y1 := Y1.1
      have y2 := Y2.1
      have y3 := Y3.1
      clear Y0 Y1 Y2 Y3
      refine bodyPost_ret (v := .tuple #[.agg #[(.int .i64 1), (.int .u8 0), (.int .i64 (m : Nat)), (.int .u32 (v : Nat))], .int .i64 (m : Nat)]) (by simp [results, Try.results54, go_sem, y0, y1, y2, y3]) rfl ?_
      have hp : pick b te dict i r = (⟨1, 0, (m : Nat), v⟩, m, r.push v) := by
        unfold pick
        dsimp only
        rw [← HX.out, ← HM.out, if_neg HA.out, ← HV.out, if_pos HB.out]
      rw [hp]
      exact ⟨rfl, kn', hkn, F4.kept ((Kept.refl (fun _ _ => False) w4).drew) (by simp), K4.drew⟩
    · have d4 : decide ((3 : Int) ≤ (m : Int)) = false := decide_eq_false (by omega)
      have d5 : ((m : Int) == 2) = true := by simp; omega
      have d6 : decide ((v : Int) < 128) = true := decide_eq_true (by omega)
      clear hB h3
      clear hA hM2
      go_wp2_with fail
      have hcp := fun dc sc ty => fr_copy3 (w := w2.drew) h2.f3.drew h2.f4.drew h2.f5.drew h2.f6.drew rfl rfl rfl dc sc ty
      go_region
      clear hcp
      go_wp2_with fail
      obtain ⟨w3, hw3⟩ : ∃ w3, w3 = (((w2.setCell ⟨F.fb, 4, none⟩ (.int .u32 (r.a : Nat))).setCell ⟨F.fb, 5, none⟩ (.int .u32 (r.b : Nat))).setCell ⟨F.fb, 6, none⟩ (.int .u32 (r.c : Nat))).setCell ⟨F.fb, 3, none⟩ (.int .u32 (v : Nat)) := ⟨_, rfl⟩
      have HR := front3 h2.f3 h2.f4 h2.f5 h2.f6 hw3
      have Z0 : At w3 bx 0 _ := HR.2.2.2.2.at_ _ _ _ (fun e => hbf e.1) D0
      have Z1 : At w3 bx 1 _ := HR.2.2.2.2.at_ _ _ _ (fun e => hbf e.1) D1
      have Z2 : At w3 bx 2 _ := HR.2.2.2.2.at_ _ _ _ (fun e => hbf e.1) D2
      have Z3 : At w3 bx 3 _ := HR.2.2.2.2.at_ _ _ _ (fun e => hbf e.1) D3
      obtain ⟨HF, KF0⟩ := h2.reps (r' := r.push v) HR.2.2.2.2 HR.1 HR.2.1 HR.2.2.1 HR.2.2.2.1 hvb h.ra h.rb h.rc
      have KF := K3.trans KF0
      rw [← hw3]
      clear hw3 HR KF0
      obtain ⟨w4, hw4⟩ : ∃ w4, w4 = (((w3.setCell ⟨bx, 0, none⟩ (.int .i64 1)).setCell ⟨bx, 1, none⟩ (.int .u8 0)).setCell ⟨bx, 2, none⟩ (.int .i64 (m : Nat))).setCell ⟨bx, 3, none⟩ (.int .u32 (v : Nat)) := ⟨_, rfl⟩
      have HQ := HF.boxed KF hbw ⟨hfb, hlb, hab', hbv⟩ Z0 Z1 Z2 Z3 hw4
      rw [← hw4]
      clear hw4
      obtain ⟨⟨Y0, Y1, Y2, Y3⟩, F4, K4⟩ := HQ
      have y0 := Y0.1
      have y1 := Y1.1
      have y2 := Y2.1
      have y3 := Y3.1
      clear Y0 Y1 Y2 Y3
      refine bodyPost_ret (v := .tuple #[.agg #[(.int .i64 1), (.int .u8 0), (.int .i64 (m : Nat)), (.int .u32 (v : Nat))], .int .i64 (m : Nat)]) (by simp [results, Try.results54, go_sem, y0, y1, y2, y3]) rfl ?_
      have hp : pick b te dict i r = (⟨1, 0, (m : Nat), v⟩, m, r.push v) := by
        unfold pick
        dsimp only
        rw [← HX.out, ← HM.out, if_neg HA.out, ← HV.out, if_pos HB.out]
      rw [hp]
      exact ⟨rfl, kn', hkn, F4.kept ((Kept.refl (fun _ _ => False) w4).drew) (by simp), K4.drew⟩

end Go.Proofs.Ytahhcaooiahleaa
