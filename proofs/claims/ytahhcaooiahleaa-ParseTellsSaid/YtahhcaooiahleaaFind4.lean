/- Which packets tell bytes: the packet at a place. -/
import Derived.Test.YtahhcaooiahleaaFind3
import Derived.Test.YtahhcaooiahleaaAgain
namespace Go.Proofs.Ytahhcaooiahleaa
open Go Go.RowKit

def RepS (b x o : Nat) : Prop := x = b ∧ 3 ≤ o ∧ o ≤ 6

/-- The elder distances turned. -/
theorem FindW.reps {w w' : World} {F : FA} {b : List Nat} {te dict : Nat} {r : R4} {kn : Nat} (h : FindW w F b te dict r kn) (K : Kept (RepS F.fb) w w') {r' : R4}
    (g3 : At w' F.fb 3 (.int .u32 (r'.a : Nat))) (g4 : At w' F.fb 4 (.int .u32 (r'.b : Nat))) (g5 : At w' F.fb 5 (.int .u32 (r'.c : Nat))) (g6 : At w' F.fb 6 (.int .u32 (r'.d : Nat)))
    (b3 : (r'.a : Int) < 4294967296) (b4 : (r'.b : Int) < 4294967296) (b5 : (r'.c : Int) < 4294967296) (b6 : (r'.d : Int) < 4294967296) : FindW w' F b te dict r' kn ∧ Kept (FindS F) w w' := by
  have key : ∀ o v, (o < 3 ∨ 6 < o) → At w F.fb o v → At w' F.fb o v := fun o v ho ha => K.at_ _ _ _ (fun e => by have := e.2; omega) ha
  exact ⟨⟨key _ _ (by omega) h.f0, key _ _ (by omega) h.f1, key _ _ (by omega) h.f2, g3, g4, g5, g6, key _ _ (by omega) h.f7, key _ _ (by omega) h.f8, key _ _ (by omega) h.f9,
    h.bytes.kept K (fun g hg o hs => (h.own g hg).1 hs.1), fun p hp => K.at_ _ _ _ (fun e => h.n1 e.1.symm) (h.last p hp), fun j hj => (h.ahead j hj).imp fun x hx => ⟨K.at_ _ _ _ (fun e => h.n2 e.1.symm) hx.1, hx.2⟩,
    h.n1, h.n2, h.n3, h.own, h.small, h.len, h.to_le, h.d1, h.d2, h.kn_le, b3, b4, b5, b6⟩, K.mono (fun _ _ e => .inl e.1)⟩

theorem fr_copy0 {w : World} {b : Nat} (dc sc : Nat) (ty : TypeId) :
    (Builtin.copy_ #[87, 87] ty #[.slice (some ⟨b, 4, none⟩) 0 dc, .slice (some ⟨b, 3, none⟩) 0 sc]).run Try.prog w = .ok (goInt 0) w :=
  run_copy_cells w 87 87 ty 24 b 4 0 dc ⟨b, 3, none⟩ 0 sc [] Try.underlying87 Try.size_u32 rfl
    (fun j v hv => by simp at hv) (fun j hj => by simp at hj) (fun j hj => by simp at hj) (fun v hv => by simp at hv)

theorem fr_copy1 {w : World} {b : Nat} {x y : Value} (h7 : At w b 3 x) (h8 : At w b 4 y) (o1 : x.oneCell' = true) (dc sc : Nat) (ty : TypeId) :
    (Builtin.copy_ #[87, 87] ty #[.slice (some ⟨b, 4, none⟩) 1 dc, .slice (some ⟨b, 3, none⟩) 1 sc]).run Try.prog w = .ok (goInt 1) (w.setCell ⟨b, 4, none⟩ x) :=
  run_copy_cells w 87 87 ty 24 b 4 1 dc ⟨b, 3, none⟩ 1 sc [x] Try.underlying87 Try.size_u32 rfl
    (fun j v hv => by match j, hv with | 0, hv => simp at hv; subst hv; exact h7.1) (fun j hj => by match j, hj with | 0, _ => rw [show 4 + 0 = 4 from rfl, h8.1]; rfl) (fun j hj => by match j, hj with | 0, _ => exact h8.2) (fun v hv => by simp at hv; subst hv; exact o1)

theorem fr_copy2 {w : World} {b : Nat} {x y z : Value} (h7 : At w b 3 x) (h8 : At w b 4 y) (h9 : At w b 5 z) (o1 : x.oneCell' = true) (o2 : y.oneCell' = true) (dc sc : Nat) (ty : TypeId) :
    (Builtin.copy_ #[87, 87] ty #[.slice (some ⟨b, 4, none⟩) 2 dc, .slice (some ⟨b, 3, none⟩) 2 sc]).run Try.prog w = .ok (goInt 2) ((w.setCell ⟨b, 4, none⟩ x).setCell ⟨b, 5, none⟩ y) :=
  run_copy_cells w 87 87 ty 24 b 4 2 dc ⟨b, 3, none⟩ 2 sc [x, y] Try.underlying87 Try.size_u32 rfl
    (fun j v hv => by match j, hv with | 0, hv => simp at hv; subst hv; exact h7.1 | 1, hv => simp at hv; subst hv; exact h8.1)
    (fun j hj => by match j, hj with | 0, _ => rw [show 4 + 0 = 4 from rfl, h8.1]; rfl | 1, _ => rw [show 4 + 1 = 5 from rfl, h9.1]; rfl)
    (fun j hj => by match j, hj with | 0, _ => exact h8.2 | 1, _ => exact h9.2) (fun v hv => by simp at hv; rcases hv with rfl | rfl; exact o1; exact o2)

theorem fr_copy3 {w : World} {b : Nat} {x y z u : Value} (h7 : At w b 3 x) (h8 : At w b 4 y) (h9 : At w b 5 z) (h10 : At w b 6 u) (o1 : x.oneCell' = true) (o2 : y.oneCell' = true) (o3 : z.oneCell' = true) (dc sc : Nat) (ty : TypeId) :
    (Builtin.copy_ #[87, 87] ty #[.slice (some ⟨b, 4, none⟩) 3 dc, .slice (some ⟨b, 3, none⟩) 3 sc]).run Try.prog w = .ok (goInt 3) (((w.setCell ⟨b, 4, none⟩ x).setCell ⟨b, 5, none⟩ y).setCell ⟨b, 6, none⟩ z) :=
  run_copy_cells w 87 87 ty 24 b 4 3 dc ⟨b, 3, none⟩ 3 sc [x, y, z] Try.underlying87 Try.size_u32 rfl
    (fun j v hv => by match j, hv with | 0, hv => simp at hv; subst hv; exact h7.1 | 1, hv => simp at hv; subst hv; exact h8.1 | 2, hv => simp at hv; subst hv; exact h9.1)
    (fun j hj => by match j, hj with | 0, _ => rw [show 4 + 0 = 4 from rfl, h8.1]; rfl | 1, _ => rw [show 4 + 1 = 5 from rfl, h9.1]; rfl | 2, _ => rw [show 4 + 2 = 6 from rfl, h10.1]; rfl)
    (fun j hj => by match j, hj with | 0, _ => exact h8.2 | 1, _ => exact h9.2 | 2, _ => exact h10.2) (fun v hv => by simp at hv; rcases hv with rfl | rfl | rfl; exact o1; exact o2; exact o3)

theorem front0 {w : World} {b : Nat} {x y z u : Value} (h3 : At w b 3 x) (h4 : At w b 4 y) (h5 : At w b 5 z) (h6 : At w b 6 u) {w' : World} (hw : w' = w.setCell ⟨b, 3, none⟩ x) :
    At w' b 3 x ∧ At w' b 4 y ∧ At w' b 5 z ∧ At w' b 6 u ∧ Kept (RepS b) w w' := by
  subst hw
  exact ⟨h3.set _, h4.set_other (by simp) _, h5.set_other (by simp) _, h6.set_other (by simp) _, (Kept.refl _ _).setCell (.inl ⟨rfl, by omega, by omega⟩) _⟩

theorem front1 {w : World} {b : Nat} {x y z u : Value} (h3 : At w b 3 x) (h4 : At w b 4 y) (h5 : At w b 5 z) (h6 : At w b 6 u) {w' : World} (hw : w' = (w.setCell ⟨b, 4, none⟩ x).setCell ⟨b, 3, none⟩ y) :
    At w' b 3 y ∧ At w' b 4 x ∧ At w' b 5 z ∧ At w' b 6 u ∧ Kept (RepS b) w w' := by
  subst hw
  exact ⟨(h3.set_other (by simp) _).set _, (h4.set _).set_other (by simp) _, (h5.set_other (by simp) _).set_other (by simp) _, (h6.set_other (by simp) _).set_other (by simp) _, ((Kept.refl _ _).setCell (.inl ⟨rfl, by omega, by omega⟩) _).setCell (.inl ⟨rfl, by omega, by omega⟩) _⟩

theorem front2 {w : World} {b : Nat} {x y z u : Value} (h3 : At w b 3 x) (h4 : At w b 4 y) (h5 : At w b 5 z) (h6 : At w b 6 u) {w' : World} (hw : w' = ((w.setCell ⟨b, 4, none⟩ x).setCell ⟨b, 5, none⟩ y).setCell ⟨b, 3, none⟩ z) :
    At w' b 3 z ∧ At w' b 4 x ∧ At w' b 5 y ∧ At w' b 6 u ∧ Kept (RepS b) w w' := by
  subst hw
  exact ⟨((h3.set_other (by simp) _).set_other (by simp) _).set _, ((h4.set _).set_other (by simp) _).set_other (by simp) _, ((h5.set_other (by simp) _).set _).set_other (by simp) _, ((h6.set_other (by simp) _).set_other (by simp) _).set_other (by simp) _,
    (((Kept.refl _ _).setCell (.inl ⟨rfl, by omega, by omega⟩) _).setCell (.inl ⟨rfl, by omega, by omega⟩) _).setCell (.inl ⟨rfl, by omega, by omega⟩) _⟩

theorem front3 {w : World} {b : Nat} {x y z u v : Value} (h3 : At w b 3 x) (h4 : At w b 4 y) (h5 : At w b 5 z) (h6 : At w b 6 u) {w' : World} (hw : w' = (((w.setCell ⟨b, 4, none⟩ x).setCell ⟨b, 5, none⟩ y).setCell ⟨b, 6, none⟩ z).setCell ⟨b, 3, none⟩ v) :
    At w' b 3 v ∧ At w' b 4 x ∧ At w' b 5 y ∧ At w' b 6 z ∧ Kept (RepS b) w w' := by
  subst hw
  exact ⟨(((h3.set_other (by simp) _).set_other (by simp) _).set_other (by simp) _).set _, (((h4.set _).set_other (by simp) _).set_other (by simp) _).set_other (by simp) _, (((h5.set_other (by simp) _).set _).set_other (by simp) _).set_other (by simp) _, (((h6.set_other (by simp) _).set_other (by simp) _).set _).set_other (by simp) _,
    ((((Kept.refl _ _).setCell (.inl ⟨rfl, by omega, by omega⟩) _).setCell (.inl ⟨rfl, by omega, by omega⟩) _).setCell (.inl ⟨rfl, by omega, by omega⟩) _).setCell (.inl ⟨rfl, by omega, by omega⟩) _⟩

/-- The packet's own block is written last. -/
theorem FindW.boxed {w w3 : World} {F : FA} {b : List Nat} {te dict : Nat} {r : R4} {kn bx : Nat} (h : FindW w3 F b te dict r kn) (K : Kept (FindS F) w w3) (hb : w.heap.size ≤ bx) (hn : F.fb ≠ bx ∧ F.lb ≠ bx ∧ F.ab ≠ bx ∧ F.bv.ownBlock ≠ some bx) {x0 x1 x2 x3 : Value}
    (D0 : At w3 bx 0 x0) (D1 : At w3 bx 1 x1) (D2 : At w3 bx 2 x2) (D3 : At w3 bx 3 x3) {v0 v1 v2 v3 : Value} {w4 : World} (hw : w4 = (((w3.setCell ⟨bx, 0, none⟩ v0).setCell ⟨bx, 1, none⟩ v1).setCell ⟨bx, 2, none⟩ v2).setCell ⟨bx, 3, none⟩ v3) :
    (At w4 bx 0 v0 ∧ At w4 bx 1 v1 ∧ At w4 bx 2 v2 ∧ At w4 bx 3 v3) ∧ FindW w4 F b te dict r kn ∧ Kept (FindS F) w w4 := by
  subst hw
  have Kb : Kept (fun x _ => x = bx) w3 ((((w3.setCell ⟨bx, 0, none⟩ v0).setCell ⟨bx, 1, none⟩ v1).setCell ⟨bx, 2, none⟩ v2).setCell ⟨bx, 3, none⟩ v3) :=
    ((((Kept.refl (fun x _ => x = bx) w3).setCell (.inl rfl) v0).setCell (.inl rfl) v1).setCell (.inl rfl) v2).setCell (.inl rfl) v3
  refine ⟨⟨(((D0.set _).set_other (by simp) _).set_other (by simp) _).set_other (by simp) _, (((D1.set_other (by simp) _).set _).set_other (by simp) _).set_other (by simp) _, (((D2.set_other (by simp) _).set_other (by simp) _).set _).set_other (by simp) _, (((D3.set_other (by simp) _).set_other (by simp) _).set_other (by simp) _).set _⟩,
    h.kept Kb (fun x hx _ e => ?_), (((K.setCell (.inr hb) _).setCell (.inr hb) _).setCell (.inr hb) _).setCell (.inr hb) _⟩
  subst e
  rcases hx with e | e | e | e
  · exact hn.1 e.symm
  · exact hn.2.1 e.symm
  · exact hn.2.2.1 e.symm
  · exact hn.2.2.2 e


set_option maxRecDepth 100000 in
set_option maxHeartbeats 4000000 in
theorem parse_packet_again {w : World} {F : FA} {b : List Nat} {te dict : Nat} {r : R4} {kn : Nat} (h : FindW w F b te dict r kn) {i : Nat} (hi : i < te) (hk : kn ≤ i) (hA0 : 2 ≤ (eldGo (long b te dict i) r 4).1 ∧ (bestGo (long b te dict i) i).1 ≤ (eldGo (long b te dict i) r 4).1 + 1) :
    Calls Try.prog 54 #[.pointer (some ⟨F.fb, 0, none⟩), .int .i64 (i : Nat)] w fun e w' => e = .returned (.tuple #[(pick b te dict i r).1.val, .int .i64 ((pick b te dict i r).2.1 : Nat)]) ∧ ∃ kn', kn' ≤ i ∧ FindW w' F b te dict (pick b te dict i r).2.2 kn' ∧ Kept (FindS F) w w' := by
  have HA0 := Lib.hid hA0
  clear hA0
  go_enter Try.func54, Try.ntmps54
  go_wp2_with fail
  obtain ⟨w0, hw0⟩ : ∃ w0, w0 = w.alloc (.cells #[.int .i64 0, .int .u8 0, .int .i64 0, .int .u32 0] 26) := ⟨_, rfl⟩
  have K0 : Kept (fun _ _ => False) w w0 := by rw [hw0]; exact Kept.of_alloc _ _ _
  obtain ⟨bx, hbx⟩ : ∃ bx, bx = w.heap.size := ⟨_, rfl⟩
  have hbw : w.heap.size ≤ bx := Nat.le_of_eq hbx.symm
  have B0 : At w0 bx 0 (.int .i64 0) := by rw [hw0, hbx]; exact At.alloc_new _ _ _ _ _ rfl
  have B1 : At w0 bx 1 (.int .u8 0) := by rw [hw0, hbx]; exact At.alloc_new _ _ _ _ _ rfl
  have B2 : At w0 bx 2 (.int .i64 0) := by rw [hw0, hbx]; exact At.alloc_new _ _ _ _ _ rfl
  have B3 : At w0 bx 3 (.int .u32 0) := by rw [hw0, hbx]; exact At.alloc_new _ _ _ _ _ rfl
  have hfb : F.fb ≠ bx := fun e => by have := h.f0.lt; omega
  have hbf : bx ≠ F.fb := fun e => hfb e.symm
  have hlb : F.lb ≠ bx := fun e => by have := (h.last 0 (by decide)).lt; omega
  have hab : ∀ j, j < b.length → F.ab ≠ bx := fun j hj e => by obtain ⟨x, hx, _⟩ := h.ahead j hj; have := hx.lt; omega
  have hab' : F.ab ≠ bx := hab i (by have := h.to_le; omega)
  rw [← hbx]
  rw [← hw0]
  clear hw0 hbx
  refine (parse_elder (h.kept K0 (by simp)) (i := i) (by omega)).mono ?_
  rintro e w1 ⟨rfl, n1, rfl⟩
  have K1 : Kept (fun _ _ => False) w (w0.drewN n1) := K0.drewN n1
  have hX := eldGo_le (long b te dict i) r (fun d => (long_le b te dict i d).1) 4
  have hS := eldGo_spec (long b te dict i) r 4
  obtain ⟨x, hx⟩ : ∃ x, x = (eldGo (long b te dict i) r 4).1 := ⟨_, rfl⟩
  obtain ⟨y, hy⟩ : ∃ y, y = (eldGo (long b te dict i) r 4).2 := ⟨_, rfl⟩
  rw [← hx, ← hy] at hS ⊢
  rw [← hx] at hX
  have hxb : (x : Int) ≤ 273 := by omega
  have hyb : y < 4 := by omega
  have HX := Lib.hid hx
  have HY := Lib.hid hy
  clear hx hy hS hX
  go_wp2_with fail
  refine (parse_longest (h.kept K1 (by simp)) hi hk).mono ?_
  rintro e w2 ⟨rfl, kn', hkn, h2, K2⟩
  have hM := bestGo_le (long b te dict i) (fun d => (long_le b te dict i d).1) i
  have hS := bestGo_spec (long b te dict i) i
  obtain ⟨m, hm⟩ : ∃ m, m = (bestGo (long b te dict i) i).1 := ⟨_, rfl⟩
  obtain ⟨v, hv⟩ : ∃ v, v = (bestGo (long b te dict i) i).2 := ⟨_, rfl⟩
  rw [← hm, ← hv] at hS ⊢
  rw [← hm] at hM
  have hmb : (m : Int) ≤ 273 := by omega
  have hm2 : m = 0 ∨ 2 ≤ m := by omega
  have hvd : v < 4294967296 ∧ (2 ≤ m → v < i ∧ v < dict) := by
    rcases hS with hS | hS
    · omega
    · have hlp := long_pos (b := b) (te := te) (dict := dict) (i := i) (d := v) (by omega)
      have := h.d2
      exact ⟨by omega, fun _ => hlp⟩
  have HM := Lib.hid hm
  have HV := Lib.hid hv
  have HVD := Lib.hid hvd.2
  have hvb : (v : Int) < 4294967296 := by omega
  have K3 : Kept (FindS F) w w2 := (K1.mono (by simp)).trans K2
  have nfs : ∀ o, ¬ FindS F bx o := fun o e => by
    rcases e with e | e | e
    · exact hbf e
    · exact hlb e.symm
    · exact hab' e.symm
  have D0 := K2.at_ _ _ _ (nfs 0) (B0.drewN n1)
  have D1 := K2.at_ _ _ _ (nfs 1) (B1.drewN n1)
  have D2 := K2.at_ _ _ _ (nfs 2) (B2.drewN n1)
  have D3 := K2.at_ _ _ _ (nfs 3) (B3.drewN n1)
  have HM2 := Lib.hid hm2
  have HNF := Lib.hid nfs
  clear hm hv hS hM hvd B0 B1 B2 B3 K0 K1 K2 hm2 hab nfs
  have a0 := D0.1
  have a1 := D1.1
  have a2 := D2.1
  have a3 := D3.1
  have g0 := D0.2
  have g1 := D1.2
  have g2 := D2.2
  have g3 := D3.2
  have c3 := h2.f3.1
  have c4 := h2.f4.1
  have c5 := h2.f5.1
  have c6 := h2.f6.1
  have hbv : F.bv.ownBlock ≠ some bx := fun e => by
    obtain ⟨g, o, cap, hv, q⟩ := h.bytes.get (i := i) (by have := h.to_le; omega)
    have hg : g < w.heap.size := World.block_lt_of_cell? w ⟨g, o + i, none⟩ q
    rw [hv] at e
    have : g = bx := by simpa [Value.ownBlock] using e
    omega
  have q3 := h2.f3.2
  have q4 := h2.f4.2
  have q5 := h2.f5.2
  have q6 := h2.f6.2
  have hA : 2 ≤ x ∧ m ≤ x + 1 := by rw [HX.out, HM.out]; exact HA0.out
  have d1 : decide ((2 : Int) ≤ (x : Int)) = true := decide_eq_true (by omega)
  have d2 : decide (2 ≤ x) = true := decide_eq_true (by omega)
  have d3 : decide ((m : Int) ≤ (x : Int) + 1) = true := decide_eq_true (by omega)
  have d4 : decide (m ≤ x + 1) = true := decide_eq_true (by omega)
  have HA := Lib.hid hA
  clear hA
  obtain rfl | rfl | rfl | rfl : y = 0 ∨ y = 1 ∨ y = 2 ∨ y = 3 := by omega
  · go_wp2_with fail
    have hcp := fun dc sc ty => fr_copy0 (w := w2.drew) (b := F.fb) dc sc ty
    go_region
    clear hcp
    go_wp2_with fail
    obtain ⟨w3, hw3⟩ : ∃ w3, w3 = w2.setCell ⟨F.fb, 3, none⟩ (.int .u32 (r.a : Nat)) := ⟨_, rfl⟩
    have HR := front0 h2.f3 h2.f4 h2.f5 h2.f6 hw3
    have Z0 : At w3 bx 0 _ := HR.2.2.2.2.at_ _ _ _ (fun e => hbf e.1) D0
    have Z1 : At w3 bx 1 _ := HR.2.2.2.2.at_ _ _ _ (fun e => hbf e.1) D1
    have Z2 : At w3 bx 2 _ := HR.2.2.2.2.at_ _ _ _ (fun e => hbf e.1) D2
    have Z3 : At w3 bx 3 _ := HR.2.2.2.2.at_ _ _ _ (fun e => hbf e.1) D3
    obtain ⟨HF, KF0⟩ := h2.reps (r' := r.front 0) HR.2.2.2.2 HR.1 HR.2.1 HR.2.2.1 HR.2.2.2.1 h.ra h.rb h.rc h.rd
    have KF := K3.trans KF0
    rw [← hw3]
    clear hw3 HR KF0
    obtain ⟨w4, hw4⟩ : ∃ w4, w4 = (((w3.setCell ⟨bx, 0, none⟩ (.int .i64 2)).setCell ⟨bx, 1, none⟩ (.int .u8 0)).setCell ⟨bx, 2, none⟩ (.int .i64 (x : Nat))).setCell ⟨bx, 3, none⟩ (.int .u32 0) := ⟨_, rfl⟩
    have HQ := HF.boxed KF hbw ⟨hfb, hlb, hab', hbv⟩ Z0 Z1 Z2 Z3 hw4
    rw [← hw4]
    clear hw4
    obtain ⟨⟨Y0, Y1, Y2, Y3⟩, F4, K4⟩ := HQ
    have y0 := Y0.1
    have y1 := Y1.1
    have y2 := Y2.1
    have y3 := Y3.1
    clear Y0 Y1 Y2 Y3
    refine bodyPost_ret (v := .tuple #[.agg #[(.int .i64 2), (.int .u8 0), (.int .i64 (x : Nat)), (.int .u32 0)], .int .i64 (x : Nat)]) (by simp [results, Try.results54, go_sem, y0, y1, y2, y3]) rfl ?_
    have hp : pick b te dict i r = (⟨((2 + 0 : Nat) : Int), 0, (x : Nat), 0⟩, x, r.front 0) := by
      unfold pick
      dsimp only
      rw [← HX.out, ← HM.out, if_pos HA.out, ← HY.out]
    rw [hp]
    exact ⟨rfl, kn', hkn, F4.kept ((Kept.refl (fun _ _ => False) w4).drew) (by simp), K4.drew⟩
  · go_wp2_with fail
    have hcp := fun dc sc ty => fr_copy1 (w := w2.drew) h2.f3.drew h2.f4.drew rfl dc sc ty
    go_region
    clear hcp
    go_wp2_with fail
    obtain ⟨w3, hw3⟩ : ∃ w3, w3 = (w2.setCell ⟨F.fb, 4, none⟩ (.int .u32 (r.a : Nat))).setCell ⟨F.fb, 3, none⟩ (.int .u32 (r.b : Nat)) := ⟨_, rfl⟩
    have HR := front1 h2.f3 h2.f4 h2.f5 h2.f6 hw3
    have Z0 : At w3 bx 0 _ := HR.2.2.2.2.at_ _ _ _ (fun e => hbf e.1) D0
    have Z1 : At w3 bx 1 _ := HR.2.2.2.2.at_ _ _ _ (fun e => hbf e.1) D1
    have Z2 : At w3 bx 2 _ := HR.2.2.2.2.at_ _ _ _ (fun e => hbf e.1) D2
    have Z3 : At w3 bx 3 _ := HR.2.2.2.2.at_ _ _ _ (fun e => hbf e.1) D3
    obtain ⟨HF, KF0⟩ := h2.reps (r' := r.front 1) HR.2.2.2.2 HR.1 HR.2.1 HR.2.2.1 HR.2.2.2.1 h.rb h.ra h.rc h.rd
    have KF := K3.trans KF0
    rw [← hw3]
    clear hw3 HR KF0
    obtain ⟨w4, hw4⟩ : ∃ w4, w4 = (((w3.setCell ⟨bx, 0, none⟩ (.int .i64 3)).setCell ⟨bx, 1, none⟩ (.int .u8 0)).setCell ⟨bx, 2, none⟩ (.int .i64 (x : Nat))).setCell ⟨bx, 3, none⟩ (.int .u32 0) := ⟨_, rfl⟩
    have HQ := HF.boxed KF hbw ⟨hfb, hlb, hab', hbv⟩ Z0 Z1 Z2 Z3 hw4
    rw [← hw4]
    clear hw4
    obtain ⟨⟨Y0, Y1, Y2, Y3⟩, F4, K4⟩ := HQ
    have y0 := Y0.1
    have y1 := Y1.1
    have y2 := Y2.1
    have y3 := Y3.1
    clear Y0 Y1 Y2 Y3
    refine bodyPost_ret (v := .tuple #[.agg #[(.int .i64 3), (.int .u8 0), (.int .i64 (x : Nat)), (.int .u32 0)], .int .i64 (x : Nat)]) (by simp [results, Try.results54, go_sem, y0, y1, y2, y3]) rfl ?_
    have hp : pick b te dict i r = (⟨((2 + 1 : Nat) : Int), 0, (x : Nat), 0⟩, x, r.front 1) := by
      unfold pick
      dsimp only
      rw [← HX.out, ← HM.out, if_pos HA.out, ← HY.out]
    rw [hp]
    exact ⟨rfl, kn', hkn, F4.kept ((Kept.refl (fun _ _ => False) w4).drew) (by simp), K4.drew⟩
  · go_wp2_with fail
    have hcp := fun dc sc ty => fr_copy2 (w := w2.drew) h2.f3.drew h2.f4.drew h2.f5.drew rfl rfl dc sc ty
    go_region
    clear hcp
    go_wp2_with fail
    obtain ⟨w3, hw3⟩ : ∃ w3, w3 = ((w2.setCell ⟨F.fb, 4, none⟩ (.int .u32 (r.a : Nat))).setCell ⟨F.fb, 5, none⟩ (.int .u32 (r.b : Nat))).setCell ⟨F.fb, 3, none⟩ (.int .u32 (r.c : Nat)) := ⟨_, rfl⟩
    have HR := front2 h2.f3 h2.f4 h2.f5 h2.f6 hw3
    have Z0 : At w3 bx 0 _ := HR.2.2.2.2.at_ _ _ _ (fun e => hbf e.1) D0
    have Z1 : At w3 bx 1 _ := HR.2.2.2.2.at_ _ _ _ (fun e => hbf e.1) D1
    have Z2 : At w3 bx 2 _ := HR.2.2.2.2.at_ _ _ _ (fun e => hbf e.1) D2
    have Z3 : At w3 bx 3 _ := HR.2.2.2.2.at_ _ _ _ (fun e => hbf e.1) D3
    obtain ⟨HF, KF0⟩ := h2.reps (r' := r.front 2) HR.2.2.2.2 HR.1 HR.2.1 HR.2.2.1 HR.2.2.2.1 h.rc h.ra h.rb h.rd
    have KF := K3.trans KF0
    rw [← hw3]
    clear hw3 HR KF0
    obtain ⟨w4, hw4⟩ : ∃ w4, w4 = (((w3.setCell ⟨bx, 0, none⟩ (.int .i64 4)).setCell ⟨bx, 1, none⟩ (.int .u8 0)).setCell ⟨bx, 2, none⟩ (.int .i64 (x : Nat))).setCell ⟨bx, 3, none⟩ (.int .u32 0) := ⟨_, rfl⟩
    have HQ := HF.boxed KF hbw ⟨hfb, hlb, hab', hbv⟩ Z0 Z1 Z2 Z3 hw4
    rw [← hw4]
    clear hw4
    obtain ⟨⟨Y0, Y1, Y2, Y3⟩, F4, K4⟩ := HQ
    have y0 := Y0.1
    have y1 := Y1.1
    have y2 := Y2.1
    have y3 := Y3.1
    clear Y0 Y1 Y2 Y3
    refine bodyPost_ret (v := .tuple #[.agg #[(.int .i64 4), (.int .u8 0), (.int .i64 (x : Nat)), (.int .u32 0)], .int .i64 (x : Nat)]) (by simp [results, Try.results54, go_sem, y0, y1, y2, y3]) rfl ?_
    have hp : pick b te dict i r = (⟨((2 + 2 : Nat) : Int), 0, (x : Nat), 0⟩, x, r.front 2) := by
      unfold pick
      dsimp only
      rw [← HX.out, ← HM.out, if_pos HA.out, ← HY.out]
    rw [hp]
    exact ⟨rfl, kn', hkn, F4.kept ((Kept.refl (fun _ _ => False) w4).drew) (by simp), K4.drew⟩
  · go_wp2_with fail
    have hcp := fun dc sc ty => fr_copy3 (w := w2.drew) h2.f3.drew h2.f4.drew h2.f5.drew h2.f6.drew rfl rfl rfl dc sc ty
    go_region
    clear hcp
    go_wp2_with fail
    obtain ⟨w3, hw3⟩ : ∃ w3, w3 = (((w2.setCell ⟨F.fb, 4, none⟩ (.int .u32 (r.a : Nat))).setCell ⟨F.fb, 5, none⟩ (.int .u32 (r.b : Nat))).setCell ⟨F.fb, 6, none⟩ (.int .u32 (r.c : Nat))).setCell ⟨F.fb, 3, none⟩ (.int .u32 (r.d : Nat)) := ⟨_, rfl⟩
    have HR := front3 h2.f3 h2.f4 h2.f5 h2.f6 hw3
    have Z0 : At w3 bx 0 _ := HR.2.2.2.2.at_ _ _ _ (fun e => hbf e.1) D0
    have Z1 : At w3 bx 1 _ := HR.2.2.2.2.at_ _ _ _ (fun e => hbf e.1) D1
    have Z2 : At w3 bx 2 _ := HR.2.2.2.2.at_ _ _ _ (fun e => hbf e.1) D2
    have Z3 : At w3 bx 3 _ := HR.2.2.2.2.at_ _ _ _ (fun e => hbf e.1) D3
    obtain ⟨HF, KF0⟩ := h2.reps (r' := r.front 3) HR.2.2.2.2 HR.1 HR.2.1 HR.2.2.1 HR.2.2.2.1 h.rd h.ra h.rb h.rc
    have KF := K3.trans KF0
    rw [← hw3]
    clear hw3 HR KF0
    obtain ⟨w4, hw4⟩ : ∃ w4, w4 = (((w3.setCell ⟨bx, 0, none⟩ (.int .i64 5)).setCell ⟨bx, 1, none⟩ (.int .u8 0)).setCell ⟨bx, 2, none⟩ (.int .i64 (x : Nat))).setCell ⟨bx, 3, none⟩ (.int .u32 0) := ⟨_, rfl⟩
    have HQ := HF.boxed KF hbw ⟨hfb, hlb, hab', hbv⟩ Z0 Z1 Z2 Z3 hw4
    rw [← hw4]
    clear hw4
    obtain ⟨⟨Y0, Y1, Y2, Y3⟩, F4, K4⟩ := HQ
    have y0 := Y0.1
    have y1 := Y1.1
    have y2 := Y2.1
    have y3 := Y3.1
    clear Y0 Y1 Y2 Y3
    refine bodyPost_ret (v := .tuple #[.agg #[(.int .i64 5), (.int .u8 0), (.int .i64 (x : Nat)), (.int .u32 0)], .int .i64 (x : Nat)]) (by simp [results, Try.results54, go_sem, y0, y1, y2, y3]) rfl ?_
    have hp : pick b te dict i r = (⟨((2 + 3 : Nat) : Int), 0, (x : Nat), 0⟩, x, r.front 3) := by
      unfold pick
      dsimp only
      rw [← HX.out, ← HM.out, if_pos HA.out, ← HY.out]
    rw [hp]
    exact ⟨rfl, kn', hkn, F4.kept ((Kept.refl (fun _ _ => False) w4).drew) (by simp), K4.drew⟩
end Go.Proofs.Ytahhcaooiahleaa
