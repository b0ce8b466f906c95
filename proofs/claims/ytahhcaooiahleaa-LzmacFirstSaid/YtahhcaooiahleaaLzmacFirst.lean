/- For every setting, every number and every packet, garblerlaw09.LzmacFirst returns true and leaves its arguments as they were. No condition. -/
import Derived.Test.YtahhcaooiahleaaRows
import Derived.Test.YtahhcaooiahleaaFirst
import Derived.ProofKit
import Derived.Lib.SmallJoins
import Derived.OpenShut
namespace Go.Proofs.Ytahhcaooiahleaa
open Go Go.ChangeShapes Go.WideShapes Go.ChangeAt Go.RowKit Go.Joins

theorem Try.own : ownKnob Try.prog.godebug = none := by kernel_rfl
theorem Try.laidOut : laidOutB Try.prog = true := by kernel_rfl
theorem Try.cellsLzma : Try.prog.cellsOf 23 = 4 := by kernel_rfl
theorem Try.cellsPacket : Try.prog.cellsOf 26 = 4 := by kernel_rfl

set_option maxRecDepth 100000 in
theorem lzmacFirst_lifted (os : Os) (started : os.Started) (H : Type) (enc : TypeId × Value → H) :
    ReturnsInHanded {} Try.checked os 3 .any (Rows.lzmacFirstSpec.pre6 enc Try.prog Try.f3 Rows.lzmacFirstRow.domain false) (Rows.lzmacFirstSpec.post enc Try.prog Try.f3 false true false false) := by
  refine returnsInHanded_of_change (C := Try.checked) Try.own started (by kernel_rfl) Try.func3
    (ChangeSpec.witness6 (enc := enc) (C := Try.checked) false ⟨#[], #[.agg #[.int .i64 0, .int .i64 0, .int .i64 0, .int .i64 0], .int .u8 0, .agg #[.int .i64 0, .int .u8 0, .int .i64 0, .int .u32 0]], []⟩ 8 (by kernel_rfl) (by kernel_rfl) (by kernel_rfl) (by kernel_rfl)) ?_
  intro W base args ds gs before hval0 hW hcnd _
  have hval : ∀ (j : Nat) t v, Try.f3.params[j]? = some t → args[j]? = some v → Value.okWide Try.prog W .any base t v := hval0
  have hW' := hW
  obtain ⟨p, q, hA0, hV, rfl, hfz, hnd⟩ := hW
  have hA : DataW.TrodAll enc Try.prog W 0 (fun _ => true) true Try.f3.params.toList args.toList ds p := hA0
  rw [Try.params3] at hA hval
  obtain ⟨v0, v1, v2, d0, d1, d2, p0, p1, p2, rfl, rfl, rfl, h0, h1, h2⟩ := trodAll_three hA
  obtain ⟨rfl, rfl⟩ := trodVars_none hV
  obtain ⟨c0, c1, c2, c3, y0, y1, y2, y3, m, rfl, rfl, rfl, k0, k1, k2, k3⟩ := open_agg4 Try.underlying23 (by kernel_rfl) Try.cellsLzma (hval 0 _ v0 rfl rfl) h0
  obtain ⟨a, e0, rfl, wa⟩ := DataW.trod_int Try.underlying3 k0
  obtain ⟨b, e1, rfl, wb⟩ := DataW.trod_int Try.underlying3 k1
  obtain ⟨c, e2, rfl, wc⟩ := DataW.trod_int Try.underlying3 k2
  obtain ⟨d, e3, rfl, wd⟩ := DataW.trod_int Try.underlying3 k3
  simp at e0 e1 e2 e3
  subst e0 e1 e2 e3
  obtain ⟨n, rfl, rfl, rfl, wn⟩ := open_int Try.underlying5 (hval 1 _ v1 rfl rfl) h1
  obtain ⟨g0, g1, g2, g3, z0, z1, z2, z3, m2, rfl, rfl, rfl, l0, l1, l2, l3⟩ := open_agg4 Try.underlying26 (by kernel_rfl) Try.cellsPacket (hval 2 _ v2 rfl rfl) h2
  obtain ⟨kk, i0, rfl, wk⟩ := DataW.trod_int Try.underlying3 l0
  obtain ⟨xx, i1, rfl, wx⟩ := DataW.trod_int Try.underlying5 l1
  obtain ⟨ll, i2, rfl, wl⟩ := DataW.trod_int Try.underlying3 l2
  obtain ⟨dd, i3, rfl, wdd⟩ := DataW.trod_int Try.underlying24 l3
  simp at i0 i1 i2 i3
  subst i0 i1 i2 i3
  clear hA0 hval0
  have bn := bounds_u8 wn
  have bx := bounds_u8 wx
  have bd := bounds_u32 wdd
  obtain ⟨nn, rfl⟩ := Int.eq_ofNat_of_zero_le bn.1
  obtain ⟨nx, rfl⟩ := Int.eq_ofNat_of_zero_le bx.1
  obtain ⟨nd, rfl⟩ := Int.eq_ofNat_of_zero_le bd.1
  have lzmaReads : ∀ (W' : World) (sp : Nat → Bool), DataW.Trod enc Try.prog W' 0 sp true 23 (.agg #[.int .i64 a, .int .i64 b, .int .i64 c, .int .i64 d]) (.agg [.lit (.int .i64 a), .lit (.int .i64 b), .lit (.int .i64 c), .lit (.int .i64 d)]) [] := fun W' sp =>
    shut_agg4 (y0 := (.lit (.int .i64 a), [])) (y1 := (.lit (.int .i64 b), [])) (y2 := (.lit (.int .i64 c), [])) (y3 := (.lit (.int .i64 d), [])) Try.underlying23 (by kernel_rfl) Try.cellsLzma ⟨1, by simp [DataW.trod, Try.underlying3, wa]⟩ ⟨1, by simp [DataW.trod, Try.underlying3, wb]⟩ ⟨1, by simp [DataW.trod, Try.underlying3, wc]⟩ ⟨1, by simp [DataW.trod, Try.underlying3, wd]⟩
  have packetReads : ∀ (W' : World) (sp : Nat → Bool), DataW.Trod enc Try.prog W' 0 sp true 26 (.agg #[.int .i64 kk, .int .u8 (nx : Nat), .int .i64 ll, .int .u32 (nd : Nat)]) (.agg [.lit (.int .i64 kk), .lit (.int .u8 (nx : Nat)), .lit (.int .i64 ll), .lit (.int .u32 (nd : Nat))]) [] := fun W' sp =>
    shut_agg4 (y0 := (.lit (.int .i64 kk), [])) (y1 := (.lit (.int .u8 (nx : Nat)), [])) (y2 := (.lit (.int .i64 ll), [])) (y3 := (.lit (.int .u32 (nd : Nat)), [])) Try.underlying26 (by kernel_rfl) Try.cellsPacket ⟨1, by simp [DataW.trod, Try.underlying3, wk]⟩ ⟨1, by simp [DataW.trod, Try.underlying5, wx]⟩ ⟨1, by simp [DataW.trod, Try.underlying3, wl]⟩ ⟨1, by simp [DataW.trod, Try.underlying24, wdd]⟩
  refine (law09_First (a := a) (b := b) (c := c) (d := d) (n := nn) (k := kk) (l := ll) (x := nx) (dist := nd) W (by omega) (by omega)).mono fun e W' hh => ?_
  obtain ⟨rfl, kept⟩ := hh
  have bel : Below W.heap.size W W' := kept.below _ (Nat.le_refl _) (fun _ _ h => h.elim)
  exact ⟨_, rfl, _, _, _, [], _, [], hW', trodAll_mk1 (shut_bool Try.underlying4 _), trodAll_cons_mk (lzmaReads _ _) (trodAll_cons_mk (shut_int Try.underlying5 wn) (trodAll_cons_mk (packetReads _ _) trodAll_mk0)), rfl, bel.frame _, fun h => by cases h⟩

theorem lzmacFirst_holds : Rows.LzmacFirstSaid :=
  OpenClaim.holds_of_wide 3 Try.f3 rfl rfl rfl rfl rfl rfl rfl ⟨rfl, rfl, rfl, rfl, rfl⟩ rfl rfl rfl rfl rfl (by kernel_rfl) Try.func3 (by kernel_rfl)
    (of_decide_eq_true (by kernel_rfl)) (by unfold Func.isWrapper; first | (rw [if_pos (by decide +kernel)]; kernel_rfl) | (rw [if_neg (by decide +kernel)]; exact ⟨rfl, rfl⟩))
    (fun os started H enc _ => lzmacFirst_lifted os started H enc)

#print axioms lzmacFirst_holds

end Go.Proofs.Ytahhcaooiahleaa
