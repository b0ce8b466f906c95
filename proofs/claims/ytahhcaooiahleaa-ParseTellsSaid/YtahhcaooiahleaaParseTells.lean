/- For every row of bytes and every two numbers, garblerlaw10.ParseTells returns true and leaves its arguments as they were. No condition. -/
import Derived.Test.YtahhcaooiahleaaRows
import Derived.Test.YtahhcaooiahleaaTells
import Derived.Test.YtahhcaooiahleaaOpenB
namespace Go.Proofs.Ytahhcaooiahleaa
open Go Go.ChangeShapes Go.WideShapes Go.ChangeAt Go.RowKit Go.Joins

theorem law10_Tells {W : World} {ao : Option Addr} {n cap : Nat} {l : List Nat} (hv : BSrc W (.slice ao n cap) l) (hn : n = l.length) (hcap : n ≤ cap) (h8 : ∀ x ∈ l, x < 256) (hm : cap ≤ maxLen) {f t : Nat} (hf : f < 65536) (ht : t < 65536) :
    Calls Try.prog 4 #[.slice ao n cap, .int .u16 (f : Nat), .int .u16 (t : Nat)] W fun e w' => e = .returned (.bool true) ∧ Kept (fun _ _ => False) W w' := by
  by_cases h4 : 4000 < n
  · exact law10_Tells_long (by unfold maxLen at hm; omega) h4
  · exact law10_Tells_in hv hn hcap hf ht rfl rfl rfl (ps := (find l (min (max t (min f n)) n) 4096 (min f n) ⟨0, 0, 0, 0⟩).1) (r := (find l (min (max t (min f n)) n) 4096 (min f n) ⟨0, 0, 0, 0⟩).2) ⟨rfl, by omega, by omega, by omega, h8⟩

set_option maxRecDepth 100000 in
theorem parseTells_lifted (os : Os) (started : os.Started) (H : Type) (enc : TypeId × Value → H) :
    ReturnsInHanded {} Try.checked os 4 .any (Rows.parseTellsSpec.pre6 enc Try.prog Try.f4 Rows.parseTellsRow.domain false) (Rows.parseTellsSpec.post enc Try.prog Try.f4 false true false false) := by
  refine returnsInHanded_of_change (C := Try.checked) Try.own started (by kernel_rfl) Try.func4
    (ChangeSpec.witness6 (enc := enc) (C := Try.checked) false ⟨#[], #[.slice none 0 0, .int .u16 0, .int .u16 0], []⟩ 8 (by kernel_rfl) (by kernel_rfl) (by kernel_rfl) (by kernel_rfl)) ?_
  intro W base args ds gs before hval0 hW hcnd _
  have hval : ∀ (j : Nat) t v, Try.f4.params[j]? = some t → args[j]? = some v → Value.okWide Try.prog W .any base t v := hval0
  have hW' := hW
  obtain ⟨p, q, hA0, hV, rfl, hfz, hnd⟩ := hW
  have hA : DataW.TrodAll enc Try.prog W 0 (fun _ => true) true Try.f4.params.toList args.toList ds p := hA0
  rw [Try.params4] at hA hval
  obtain ⟨v0, v1, v2, d0, d1, d2, p0, p1, p2, rfl, rfl, rfl, h0, h1, h2⟩ := trodAll_three hA
  obtain ⟨rfl, rfl⟩ := trodVars_none hV
  obtain ⟨ao, n, cap, l, rfl, hv, hn, hcap, h8, hm⟩ := open_bytes (hval 0 _ v0 rfl rfl) h0
  obtain ⟨f, rfl, rfl, rfl, wf⟩ := open_int Try.underlying36 (hval 1 _ v1 rfl rfl) h1
  obtain ⟨t, rfl, rfl, rfl, wt⟩ := open_int Try.underlying36 (hval 2 _ v2 rfl rfl) h2
  clear hA0 hval0
  have bf := bounds_u16 wf
  have bt := bounds_u16 wt
  obtain ⟨nf, rfl⟩ := Int.eq_ofNat_of_zero_le bf.1
  obtain ⟨nt, rfl⟩ := Int.eq_ofNat_of_zero_le bt.1
  refine (law10_Tells hv hn hcap h8 hm (f := nf) (t := nt) (by omega) (by omega)).mono fun e W' hh => ?_
  obtain ⟨rfl, kept⟩ := hh
  have bel : Below W.heap.size W W' := kept.below _ (Nat.le_refl _) (fun _ _ h => h.elim)
  have hlt : ∀ x ∈ p0, x.block < W.heap.size := fun x hx => hW'.lt x (by simp [hx])
  have r0 := bel.trod Try.laidOut (by kernel_rfl) (of_decide_eq_true (by kernel_rfl)) h0 hlt
  exact ⟨_, rfl, _, _, _, [], _, [], hW', trodAll_mk1 (shut_bool Try.underlying4 _), trodAll_cons_mk r0 (trodAll_cons_mk (shut_int Try.underlying36 wf) (trodAll_cons_mk (shut_int Try.underlying36 wt) trodAll_mk0)), rfl, bel.frame _, fun h => by cases h⟩

theorem parseTells_holds : Rows.ParseTellsSaid :=
  OpenClaim.holds_of_wide 4 Try.f4 rfl rfl rfl rfl rfl rfl rfl ⟨rfl, rfl, rfl, rfl, rfl⟩ rfl rfl rfl rfl rfl (by kernel_rfl) Try.func4 (by kernel_rfl)
    (of_decide_eq_true (by kernel_rfl)) (by unfold Func.isWrapper; first | (rw [if_pos (by decide +kernel)]; kernel_rfl) | (rw [if_neg (by decide +kernel)]; exact ⟨rfl, rfl⟩))
    (fun os started H enc _ => parseTells_lifted os started H enc)

#print axioms parseTells_holds

end Go.Proofs.Ytahhcaooiahleaa
