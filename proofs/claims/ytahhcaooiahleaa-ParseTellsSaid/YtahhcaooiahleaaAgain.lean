/- The coder of LZMA: the elder distances. -/
import Derived.Test.YtahhcaooiahleaaDist
import Derived.Laws.IdiomCopy
import Derived.Handy
namespace Go.Proofs.Ytahhcaooiahleaa
open Go Go.RowKit

theorem CoderW.setR0 {w : World} {A : CA} {ov tv : Value} {c : CO} (h : CoderW w A ov tv c) {s : Nat} (hs : (s : Int) < 4294967296) : CStep w (w.setCell ⟨A.cb, 7, none⟩ (.int .u32 (s : Nat))) A ov ov tv tv c.n { c with r0 := s } := by
  obtain ⟨e1, e2, e3, e4⟩ := h.away 7 (.int .u32 (s : Nat))
  exact ⟨⟨e1, e2, h.a0.set_other (by simp) _, h.a1.set_other (by simp) _, h.a2.set_other (by simp) _, h.a3.set_other (by simp) _, h.a4.set_other (by simp) _, h.a5.set_other (by simp) _, h.a6.set_other (by simp) _, h.a7.set _, h.a8.set_other (by simp) _, h.a9.set_other (by simp) _, h.a10.set_other (by simp) _, h.a11.set_other (by simp) _, h.a12.set_other (by simp) _,
    e3, ⟨h.may.lc, h.may.lp, h.may.pb, h.may.d1, h.may.d2, h.may.st, hs, h.may.r1, h.may.r2, h.may.r3, h.may.told⟩, e4, h.tcb, h.tX⟩, NewOr.refl _ _, NewOr.refl _ _, (Kept.refl _ _).setCell (.inl (.inl rfl)) _⟩

theorem CoderW.setR1 {w : World} {A : CA} {ov tv : Value} {c : CO} (h : CoderW w A ov tv c) {s : Nat} (hs : (s : Int) < 4294967296) : CStep w (w.setCell ⟨A.cb, 8, none⟩ (.int .u32 (s : Nat))) A ov ov tv tv c.n { c with r1 := s } := by
  obtain ⟨e1, e2, e3, e4⟩ := h.away 8 (.int .u32 (s : Nat))
  exact ⟨⟨e1, e2, h.a0.set_other (by simp) _, h.a1.set_other (by simp) _, h.a2.set_other (by simp) _, h.a3.set_other (by simp) _, h.a4.set_other (by simp) _, h.a5.set_other (by simp) _, h.a6.set_other (by simp) _, h.a7.set_other (by simp) _, h.a8.set _, h.a9.set_other (by simp) _, h.a10.set_other (by simp) _, h.a11.set_other (by simp) _, h.a12.set_other (by simp) _,
    e3, ⟨h.may.lc, h.may.lp, h.may.pb, h.may.d1, h.may.d2, h.may.st, h.may.r0, hs, h.may.r2, h.may.r3, h.may.told⟩, e4, h.tcb, h.tX⟩, NewOr.refl _ _, NewOr.refl _ _, (Kept.refl _ _).setCell (.inl (.inl rfl)) _⟩

theorem CoderW.setR2 {w : World} {A : CA} {ov tv : Value} {c : CO} (h : CoderW w A ov tv c) {s : Nat} (hs : (s : Int) < 4294967296) : CStep w (w.setCell ⟨A.cb, 9, none⟩ (.int .u32 (s : Nat))) A ov ov tv tv c.n { c with r2 := s } := by
  obtain ⟨e1, e2, e3, e4⟩ := h.away 9 (.int .u32 (s : Nat))
  exact ⟨⟨e1, e2, h.a0.set_other (by simp) _, h.a1.set_other (by simp) _, h.a2.set_other (by simp) _, h.a3.set_other (by simp) _, h.a4.set_other (by simp) _, h.a5.set_other (by simp) _, h.a6.set_other (by simp) _, h.a7.set_other (by simp) _, h.a8.set_other (by simp) _, h.a9.set _, h.a10.set_other (by simp) _, h.a11.set_other (by simp) _, h.a12.set_other (by simp) _,
    e3, ⟨h.may.lc, h.may.lp, h.may.pb, h.may.d1, h.may.d2, h.may.st, h.may.r0, h.may.r1, hs, h.may.r3, h.may.told⟩, e4, h.tcb, h.tX⟩, NewOr.refl _ _, NewOr.refl _ _, (Kept.refl _ _).setCell (.inl (.inl rfl)) _⟩

theorem CoderW.setR3 {w : World} {A : CA} {ov tv : Value} {c : CO} (h : CoderW w A ov tv c) {s : Nat} (hs : (s : Int) < 4294967296) : CStep w (w.setCell ⟨A.cb, 10, none⟩ (.int .u32 (s : Nat))) A ov ov tv tv c.n { c with r3 := s } := by
  obtain ⟨e1, e2, e3, e4⟩ := h.away 10 (.int .u32 (s : Nat))
  exact ⟨⟨e1, e2, h.a0.set_other (by simp) _, h.a1.set_other (by simp) _, h.a2.set_other (by simp) _, h.a3.set_other (by simp) _, h.a4.set_other (by simp) _, h.a5.set_other (by simp) _, h.a6.set_other (by simp) _, h.a7.set_other (by simp) _, h.a8.set_other (by simp) _, h.a9.set_other (by simp) _, h.a10.set _, h.a11.set_other (by simp) _, h.a12.set_other (by simp) _,
    e3, ⟨h.may.lc, h.may.lp, h.may.pb, h.may.d1, h.may.d2, h.may.st, h.may.r0, h.may.r1, h.may.r2, hs, h.may.told⟩, e4, h.tcb, h.tX⟩, NewOr.refl _ _, NewOr.refl _ _, (Kept.refl _ _).setCell (.inl (.inl rfl)) _⟩

theorem Try.info_u32 : (Try.prog.info? 24).map (fun i => (i.zero, i.size, i.bytes)) = some (some (.int .u32 0), 1, 4) := by kernel_rfl
theorem Try.size_u32 : (Try.prog.info? 24).map (·.size) = some 1 := by
  obtain ⟨i, hi, _, h, _⟩ := info_parts Try.info_u32
  rw [hi]; simp [h]

/-- The elder distances' shift by one place, k of them. -/
theorem reps_copy1 {w : World} {b : Nat} {x y : Value} (h7 : At w b 7 x) (h8 : At w b 8 y) (o1 : x.oneCell' = true) (dc sc : Nat) (ty : TypeId) :
    (Builtin.copy_ #[87, 87] ty #[.slice (some ⟨b, 8, none⟩) 1 dc, .slice (some ⟨b, 7, none⟩) 1 sc]).run Try.prog w = .ok (goInt 1) (w.setCell ⟨b, 8, none⟩ x) :=
  run_copy_cells w 87 87 ty 24 b 8 1 dc ⟨b, 7, none⟩ 1 sc [x] Try.underlying87 Try.size_u32 rfl
    (fun j v hv => by match j, hv with | 0, hv => simp at hv; subst hv; exact h7.1) (fun j hj => by match j, hj with | 0, _ => rw [show 8 + 0 = 8 from rfl, h8.1]; rfl) (fun j hj => by match j, hj with | 0, _ => exact h8.2) (fun v hv => by simp at hv; subst hv; exact o1)

theorem reps_copy2 {w : World} {b : Nat} {x y z : Value} (h7 : At w b 7 x) (h8 : At w b 8 y) (h9 : At w b 9 z) (o1 : x.oneCell' = true) (o2 : y.oneCell' = true) (dc sc : Nat) (ty : TypeId) :
    (Builtin.copy_ #[87, 87] ty #[.slice (some ⟨b, 8, none⟩) 2 dc, .slice (some ⟨b, 7, none⟩) 2 sc]).run Try.prog w = .ok (goInt 2) ((w.setCell ⟨b, 8, none⟩ x).setCell ⟨b, 9, none⟩ y) :=
  run_copy_cells w 87 87 ty 24 b 8 2 dc ⟨b, 7, none⟩ 2 sc [x, y] Try.underlying87 Try.size_u32 rfl
    (fun j v hv => by match j, hv with | 0, hv => simp at hv; subst hv; exact h7.1 | 1, hv => simp at hv; subst hv; exact h8.1)
    (fun j hj => by match j, hj with | 0, _ => rw [show 8 + 0 = 8 from rfl, h8.1]; rfl | 1, _ => rw [show 8 + 1 = 9 from rfl, h9.1]; rfl)
    (fun j hj => by match j, hj with | 0, _ => exact h8.2 | 1, _ => exact h9.2) (fun v hv => by simp at hv; rcases hv with rfl | rfl; exact o1; exact o2)

theorem reps_copy3 {w : World} {b : Nat} {x y z u : Value} (h7 : At w b 7 x) (h8 : At w b 8 y) (h9 : At w b 9 z) (h10 : At w b 10 u) (o1 : x.oneCell' = true) (o2 : y.oneCell' = true) (o3 : z.oneCell' = true) (dc sc : Nat) (ty : TypeId) :
    (Builtin.copy_ #[87, 87] ty #[.slice (some ⟨b, 8, none⟩) 3 dc, .slice (some ⟨b, 7, none⟩) 3 sc]).run Try.prog w = .ok (goInt 3) (((w.setCell ⟨b, 8, none⟩ x).setCell ⟨b, 9, none⟩ y).setCell ⟨b, 10, none⟩ z) :=
  run_copy_cells w 87 87 ty 24 b 8 3 dc ⟨b, 7, none⟩ 3 sc [x, y, z] Try.underlying87 Try.size_u32 rfl
    (fun j v hv => by match j, hv with | 0, hv => simp at hv; subst hv; exact h7.1 | 1, hv => simp at hv; subst hv; exact h8.1 | 2, hv => simp at hv; subst hv; exact h9.1)
    (fun j hj => by match j, hj with | 0, _ => rw [show 8 + 0 = 8 from rfl, h8.1]; rfl | 1, _ => rw [show 8 + 1 = 9 from rfl, h9.1]; rfl | 2, _ => rw [show 8 + 2 = 10 from rfl, h10.1]; rfl)
    (fun j hj => by match j, hj with | 0, _ => exact h8.2 | 1, _ => exact h9.2 | 2, _ => exact h10.2) (fun v hv => by simp at hv; rcases hv with rfl | rfl | rfl; exact o1; exact o2; exact o3)

set_option maxRecDepth 100000 in
set_option maxHeartbeats 1000000 in
theorem lzmac_again_0 {w : World} {A : CA} {ov tv : Value} {c : CO} (h : CoderW w A ov tv c) {sx : Nat} (hsx : sx < 16) {zs : Int} (hzs : zs = (sx : Int)) (hn : c.enc.e.count + 20 < 1099511627776) :
    Calls Try.prog 51 #[.pointer (some ⟨A.cb, 0, none⟩), .int .i64 0, .int .i64 zs] w fun e w' =>
      e = .returned (.tuple #[]) ∧ ∃ ov', CStep w w' A ov ov' tv tv c.n { c with enc := (c.enc.bit (204 + c.state) 0).bit (240 + (16 * c.state + sx)) 1 } := by
  subst hzs
  have hmy := h.may
  have hst12 := h.may.st
  obtain ⟨st, hst⟩ : ∃ st, st = c.state := ⟨_, rfl⟩
  have hst13 : (st : Int) < 12 := by omega
  have hsx13 : (sx : Int) < 16 := by omega
  have c4 := h.a4.1
  have c5 := h.a5.1
  have c6 := h.a6.1
  rw [← hst] at c6 hst12
  have HST := Lib.hid hst
  clear hst
  obtain ⟨g0, hg1, hg2⟩ := h.probs.rep0.2
  have p3 := hg1.1
  have HG2 := Lib.hid hg2
  clear hg2
  go_enter Try.func51, Try.ntmps51
  go_wp2_with fail
  go_still_tail 18, (by kernel_rfl)
  change wpList _ _ _ _ _ w.drew
  go_wp2_with fail
  refine (renc_Bit h.enc.drew (j := 204 + st) (by unfold CO.n; omega) (by rw [HG2.out st (by omega)]) rfl (by omega)).mono ?_
  rintro e w1 ⟨rfl, ov1, S1⟩
  have T1 := CoderW.encStep h S1.ofDrew
  have hc1 := EncW.count (j := 204 + st) (b := 0) h.enc
  have HC := T1.co
  have q4 := HC.a4.1
  have q5 := HC.a5.1
  have q6 := HC.a6.1
  dsimp only at q6
  rw [← HST.out] at q6
  obtain ⟨om, cm, _, hm1, hm2⟩ := HC.probs.long.2
  obtain ⟨gm, hm3, hm4⟩ := hm2 st hst12
  have p4 := hm1.1
  have p5 := hm3.1
  have HG4 := Lib.hid hm4
  clear hm2 hm4 c4 c5 c6 p3
  go_wp2_with fail
  go_still_tail 19, (by kernel_rfl)
  change wpList _ _ _ _ _ w1.drew
  go_wp2_with fail
  refine (renc_Bit HC.enc.drew (j := 240 + (16 * st + sx)) (by unfold CO.n; omega) (by rw [← Nat.add_assoc, HG4.out sx hsx]) rfl (by dsimp only; omega)).mono ?_
  rintro e w2 ⟨rfl, ov2, S2⟩
  have T2 := CoderW.encStep HC S2.ofDrew
  go_wp2_with fail
  go_returns
  have T := T1.trans T2
  have hs := HST.out
  subst hs
  exact ⟨rfl, ov2, T⟩

set_option maxRecDepth 100000 in
set_option maxHeartbeats 1000000 in
theorem lzmac_again_1 {w : World} {A : CA} {ov tv : Value} {c : CO} (h : CoderW w A ov tv c) {sx : Nat} (hsx : sx < 16) {zs : Int} (hzs : zs = (sx : Int)) (hn : c.enc.e.count + 20 < 1099511627776) :
    Calls Try.prog 51 #[.pointer (some ⟨A.cb, 0, none⟩), .int .i64 1, .int .i64 zs] w fun e w' =>
      e = .returned (.tuple #[]) ∧ ∃ ov', CStep w w' A ov ov' tv tv c.n { c with enc := (c.enc.bit (204 + c.state) 1).bit (216 + c.state) 0, r0 := c.r1, r1 := c.r0 } := by
  subst hzs
  have hmy := h.may
  have hst12 := h.may.st
  obtain ⟨st, hst⟩ : ∃ st, st = c.state := ⟨_, rfl⟩
  have hst13 : (st : Int) < 12 := by omega
  have hsx13 : (sx : Int) < 16 := by omega
  have c4 := h.a4.1
  have c5 := h.a5.1
  have c6 := h.a6.1
  rw [← hst] at c6 hst12
  have HST := Lib.hid hst
  clear hst
  obtain ⟨g0, hg1, hg2⟩ := h.probs.rep0.2
  have p3 := hg1.1
  have HG2 := Lib.hid hg2
  clear hg2
  go_enter Try.func51, Try.ntmps51
  go_wp2_with fail
  go_still_tail 18, (by kernel_rfl)
  change wpList _ _ _ _ _ w.drew
  go_wp2_with fail
  refine (renc_Bit h.enc.drew (j := 204 + st) (by unfold CO.n; omega) (by rw [HG2.out st (by omega)]) rfl (by omega)).mono ?_
  rintro e w1 ⟨rfl, ov1, S1⟩
  have T1 := CoderW.encStep h S1.ofDrew
  have hc1 := EncW.count (j := 204 + st) (b := 1) h.enc
  have HC := T1.co
  have q4 := HC.a4.1
  have q5 := HC.a5.1
  have q6 := HC.a6.1
  dsimp only at q6
  rw [← HST.out] at q6
  obtain ⟨g1, hg3, hg4⟩ := HC.probs.rep1.2
  have p4 := hg3.1
  have HG4 := Lib.hid hg4
  clear hg4 c4 c5 c6 p3
  go_wp2_with fail
  go_still_tail 19, (by kernel_rfl)
  change wpList _ _ _ _ _ w1.drew
  go_wp2_with fail
  refine (renc_Bit HC.enc.drew (j := 216 + st) (by unfold CO.n; omega) (by rw [HG4.out st (by omega)]) rfl (by dsimp only; omega)).mono ?_
  rintro e w2 ⟨rfl, ov2, S2⟩
  have T2s := CoderW.encStep HC S2.ofDrew
  have T2 := T1.trans T2s
  have hc2 := EncW.count (j := 216 + st) (b := 0) HC.enc
  have HC2 := T2.co
  clear q4 q5 q6 p4
  have r7 := HC2.a7.1
  have f7 := HC2.a7.2
  have r8 := HC2.a8.1
  have f8 := HC2.a8.2
  go_wp2_with fail
  have hcp := fun dc sc ty => reps_copy1 (w := w2.drew) HC2.a7.drew HC2.a8.drew rfl dc sc ty
  go_region
  clear hcp
  go_wp2_with fail
  go_end0
  have U1 := HC2.setR1 (s := c.r0) hmy.r0
  have U0 := U1.co.setR0 (s := c.r1) hmy.r1
  have V := CStep.ofKept U0.co ((Kept.refl _ _).drew)
  have T := (((T2).trans U1).trans U0).trans V
  have hs := HST.out
  subst hs
  exact ⟨rfl, ov2, T⟩

set_option maxRecDepth 100000 in
set_option maxHeartbeats 1000000 in
theorem lzmac_again_2 {w : World} {A : CA} {ov tv : Value} {c : CO} (h : CoderW w A ov tv c) {sx : Nat} (hsx : sx < 16) {zs : Int} (hzs : zs = (sx : Int)) (hn : c.enc.e.count + 20 < 1099511627776) :
    Calls Try.prog 51 #[.pointer (some ⟨A.cb, 0, none⟩), .int .i64 2, .int .i64 zs] w fun e w' =>
      e = .returned (.tuple #[]) ∧ ∃ ov', CStep w w' A ov ov' tv tv c.n { c with enc := ((c.enc.bit (204 + c.state) 1).bit (216 + c.state) 1).bit (228 + c.state) 0, r0 := c.r2, r1 := c.r0, r2 := c.r1 } := by
  subst hzs
  have hmy := h.may
  have hst12 := h.may.st
  obtain ⟨st, hst⟩ : ∃ st, st = c.state := ⟨_, rfl⟩
  have hst13 : (st : Int) < 12 := by omega
  have hsx13 : (sx : Int) < 16 := by omega
  have c4 := h.a4.1
  have c5 := h.a5.1
  have c6 := h.a6.1
  rw [← hst] at c6 hst12
  have HST := Lib.hid hst
  clear hst
  obtain ⟨g0, hg1, hg2⟩ := h.probs.rep0.2
  have p3 := hg1.1
  have HG2 := Lib.hid hg2
  clear hg2
  go_enter Try.func51, Try.ntmps51
  go_wp2_with fail
  go_still_tail 18, (by kernel_rfl)
  change wpList _ _ _ _ _ w.drew
  go_wp2_with fail
  refine (renc_Bit h.enc.drew (j := 204 + st) (by unfold CO.n; omega) (by rw [HG2.out st (by omega)]) rfl (by omega)).mono ?_
  rintro e w1 ⟨rfl, ov1, S1⟩
  have T1 := CoderW.encStep h S1.ofDrew
  have hc1 := EncW.count (j := 204 + st) (b := 1) h.enc
  have HC := T1.co
  have q4 := HC.a4.1
  have q5 := HC.a5.1
  have q6 := HC.a6.1
  dsimp only at q6
  rw [← HST.out] at q6
  obtain ⟨g1, hg3, hg4⟩ := HC.probs.rep1.2
  have p4 := hg3.1
  have HG4 := Lib.hid hg4
  clear hg4 c4 c5 c6 p3
  go_wp2_with fail
  go_still_tail 19, (by kernel_rfl)
  change wpList _ _ _ _ _ w1.drew
  go_wp2_with fail
  refine (renc_Bit HC.enc.drew (j := 216 + st) (by unfold CO.n; omega) (by rw [HG4.out st (by omega)]) rfl (by dsimp only; omega)).mono ?_
  rintro e w2 ⟨rfl, ov2, S2⟩
  have T2s := CoderW.encStep HC S2.ofDrew
  have T2 := T1.trans T2s
  have hc2 := EncW.count (j := 216 + st) (b := 1) HC.enc
  have HC2 := T2.co
  clear q4 q5 q6 p4
  have q4 := HC2.a4.1
  have q5 := HC2.a5.1
  have q6 := HC2.a6.1
  dsimp only at q6
  rw [← HST.out] at q6
  obtain ⟨g2, hg5, hg6⟩ := HC2.probs.rep2.2
  have p5 := hg5.1
  have HG6 := Lib.hid hg6
  clear hg6
  go_wp2_with fail
  go_still_tail 18, (by kernel_rfl)
  change wpList _ _ _ _ _ w2.drew
  go_wp2_with fail
  refine (renc_Bit HC2.enc.drew (j := 228 + st) (by unfold CO.n; omega) (by rw [HG6.out st (by omega)]) rfl (by dsimp only at *; omega)).mono ?_
  rintro e w3 ⟨rfl, ov3, S3⟩
  have T3s := CoderW.encStep HC2 S3.ofDrew
  have T3 := T2.trans T3s
  have HC3 := T3.co
  clear q4 q5 q6 p5
  have r7 := HC3.a7.1
  have f7 := HC3.a7.2
  have r8 := HC3.a8.1
  have f8 := HC3.a8.2
  have r9 := HC3.a9.1
  have f9 := HC3.a9.2
  go_wp2_with fail
  have hcp := fun dc sc ty => reps_copy2 (w := w3.drew) HC3.a7.drew HC3.a8.drew HC3.a9.drew rfl rfl dc sc ty
  go_region
  clear hcp
  go_wp2_with fail
  go_end0
  have U1 := HC3.setR1 (s := c.r0) hmy.r0
  have U2 := U1.co.setR2 (s := c.r1) hmy.r1
  have U0 := U2.co.setR0 (s := c.r2) hmy.r2
  have V := CStep.ofKept U0.co ((Kept.refl _ _).drew)
  have T := ((((T3).trans U1).trans U2).trans U0).trans V
  have hs := HST.out
  subst hs
  exact ⟨rfl, ov3, T⟩

set_option maxRecDepth 100000 in
set_option maxHeartbeats 1000000 in
theorem lzmac_again_3 {w : World} {A : CA} {ov tv : Value} {c : CO} (h : CoderW w A ov tv c) {sx : Nat} (hsx : sx < 16) {zs : Int} (hzs : zs = (sx : Int)) (hn : c.enc.e.count + 20 < 1099511627776) :
    Calls Try.prog 51 #[.pointer (some ⟨A.cb, 0, none⟩), .int .i64 3, .int .i64 zs] w fun e w' =>
      e = .returned (.tuple #[]) ∧ ∃ ov', CStep w w' A ov ov' tv tv c.n { c with enc := ((c.enc.bit (204 + c.state) 1).bit (216 + c.state) 1).bit (228 + c.state) 1, r0 := c.r3, r1 := c.r0, r2 := c.r1, r3 := c.r2 } := by
  subst hzs
  have hmy := h.may
  have hst12 := h.may.st
  obtain ⟨st, hst⟩ : ∃ st, st = c.state := ⟨_, rfl⟩
  have hst13 : (st : Int) < 12 := by omega
  have hsx13 : (sx : Int) < 16 := by omega
  have c4 := h.a4.1
  have c5 := h.a5.1
  have c6 := h.a6.1
  rw [← hst] at c6 hst12
  have HST := Lib.hid hst
  clear hst
  obtain ⟨g0, hg1, hg2⟩ := h.probs.rep0.2
  have p3 := hg1.1
  have HG2 := Lib.hid hg2
  clear hg2
  go_enter Try.func51, Try.ntmps51
  go_wp2_with fail
  go_still_tail 18, (by kernel_rfl)
  change wpList _ _ _ _ _ w.drew
  go_wp2_with fail
  refine (renc_Bit h.enc.drew (j := 204 + st) (by unfold CO.n; omega) (by rw [HG2.out st (by omega)]) rfl (by omega)).mono ?_
  rintro e w1 ⟨rfl, ov1, S1⟩
  have T1 := CoderW.encStep h S1.ofDrew
  have hc1 := EncW.count (j := 204 + st) (b := 1) h.enc
  have HC := T1.co
  have q4 := HC.a4.1
  have q5 := HC.a5.1
  have q6 := HC.a6.1
  dsimp only at q6
  rw [← HST.out] at q6
  obtain ⟨g1, hg3, hg4⟩ := HC.probs.rep1.2
  have p4 := hg3.1
  have HG4 := Lib.hid hg4
  clear hg4 c4 c5 c6 p3
  go_wp2_with fail
  go_still_tail 19, (by kernel_rfl)
  change wpList _ _ _ _ _ w1.drew
  go_wp2_with fail
  refine (renc_Bit HC.enc.drew (j := 216 + st) (by unfold CO.n; omega) (by rw [HG4.out st (by omega)]) rfl (by dsimp only; omega)).mono ?_
  rintro e w2 ⟨rfl, ov2, S2⟩
  have T2s := CoderW.encStep HC S2.ofDrew
  have T2 := T1.trans T2s
  have hc2 := EncW.count (j := 216 + st) (b := 1) HC.enc
  have HC2 := T2.co
  clear q4 q5 q6 p4
  have q4 := HC2.a4.1
  have q5 := HC2.a5.1
  have q6 := HC2.a6.1
  dsimp only at q6
  rw [← HST.out] at q6
  obtain ⟨g2, hg5, hg6⟩ := HC2.probs.rep2.2
  have p5 := hg5.1
  have HG6 := Lib.hid hg6
  clear hg6
  go_wp2_with fail
  go_still_tail 18, (by kernel_rfl)
  change wpList _ _ _ _ _ w2.drew
  go_wp2_with fail
  refine (renc_Bit HC2.enc.drew (j := 228 + st) (by unfold CO.n; omega) (by rw [HG6.out st (by omega)]) rfl (by dsimp only at *; omega)).mono ?_
  rintro e w3 ⟨rfl, ov3, S3⟩
  have T3s := CoderW.encStep HC2 S3.ofDrew
  have T3 := T2.trans T3s
  have HC3 := T3.co
  clear q4 q5 q6 p5
  have r7 := HC3.a7.1
  have f7 := HC3.a7.2
  have r8 := HC3.a8.1
  have f8 := HC3.a8.2
  have r9 := HC3.a9.1
  have f9 := HC3.a9.2
  have r10 := HC3.a10.1
  have f10 := HC3.a10.2
  go_wp2_with fail
  have hcp := fun dc sc ty => reps_copy3 (w := w3.drew) HC3.a7.drew HC3.a8.drew HC3.a9.drew HC3.a10.drew rfl rfl rfl dc sc ty
  go_region
  clear hcp
  go_wp2_with fail
  go_end0
  have U1 := HC3.setR1 (s := c.r0) hmy.r0
  have U2 := U1.co.setR2 (s := c.r1) hmy.r1
  have U3 := U2.co.setR3 (s := c.r2) hmy.r2
  have U0 := U3.co.setR0 (s := c.r3) hmy.r3
  have V := CStep.ofKept U0.co ((Kept.refl _ _).drew)
  have T := (((((T3).trans U1).trans U2).trans U3).trans U0).trans V
  have hs := HST.out
  subst hs
  exact ⟨rfl, ov3, T⟩

end Go.Proofs.Ytahhcaooiahleaa
