/- A slice of bytes that came in: what it holds. -/
import Derived.Test.YtahhcaooiahleaaTold
import Derived.ProofKit
import Derived.Lib.SmallJoins
import Derived.OpenShut
import Derived.Carry
namespace Go.Proofs.Ytahhcaooiahleaa
open Go Go.ChangeShapes Go.WideShapes Go.ChangeAt Go.RowKit Go.Joins

theorem Try.own : ownKnob Try.prog.godebug = none := by kernel_rfl
theorem Try.laidOut : laidOutB Try.prog = true := by kernel_rfl
theorem Try.cellsLzma : Try.prog.cellsOf 23 = 4 := by kernel_rfl
theorem Try.cellsPacket : Try.prog.cellsOf 26 = 4 := by kernel_rfl
theorem Try.cellsU8 : Try.prog.cellsOf 5 = 1 := by kernel_rfl

set_option maxRecDepth 100000 in
theorem open_bytes {H : Type} {enc : TypeId × Value → H} {W : World} {base : Nat} {v : Value} {d : DataW H} {p : List MemPlace} (hval : Value.okWide Try.prog W .any base 35 v) (h : DataW.Trod enc Try.prog W 0 (fun _ => true) true 35 v d p) :
    ∃ (ao : Option Addr) (n cap : Nat) (l : List Nat), v = .slice ao n cap ∧ BSrc W (.slice ao n cap) l ∧ n = l.length ∧ n ≤ cap ∧ (∀ x ∈ l, x < 256) ∧ cap ≤ maxLen := by
  obtain ⟨a1, len, cap, rfl⟩ := okWide_slice Try.underlying35 hval
  obtain ⟨fuel, hf⟩ := h
  rcases open_ints Try.underlying35 Try.underlying5 Try.cellsU8 hf with ⟨hcs, hx⟩ | ⟨a, len', cap', zs, hcs, _, hl, hm, hz, hx, hcell, hwz⟩
  · simp [Value.cells] at hcs
    obtain ⟨rfl, rfl, rfl⟩ := hcs
    exact ⟨none, 0, 0, [], rfl, ⟨none, 0, rfl, fun _ => rfl, fun i x hx => by simp at hx⟩, rfl, Nat.le_refl _, fun x hx => by simp at hx, Nat.zero_le _⟩
  · simp [Value.cells] at hcs
    obtain ⟨rfl, rfl, rfl⟩ := hcs
    simp only [if_true] at hz
    have hlen : ((zs.take len).map Int.toNat).length = len := by rw [List.length_map, List.length_take]; omega
    refine ⟨some a, len, cap, (zs.take len).map Int.toNat, rfl, ⟨some a, cap, by rw [hlen], (fun e => by cases e), fun i x hy => ?_⟩, hlen.symm, hl, fun x hy => ?_, hm⟩
    · obtain ⟨ab, ao, spot⟩ := a
      have hi : i < len := by
        have := (List.getElem?_eq_some_iff.1 hy).1
        omega
      have hcj := hcell i (by omega)
      have hspot : spot = none := by simpa [Addr.add] using World.cell?_spot (hcell 0 (by omega))
      subst hspot
      rw [Addr.add_lit] at hcj
      refine ⟨ab, ao, rfl, ?_⟩
      rw [hcj]
      have e : zs.getD i 0 = zs[i]'(by omega) := by simp [List.getD, List.getElem?_eq_getElem (show i < zs.length by omega)]
      have hb := bounds_u8 (hwz (zs[i]'(by omega)) (List.getElem_mem _))
      simp only [List.getElem?_map, List.getElem?_take, hi, if_true, List.getElem?_eq_getElem (show i < zs.length by omega), Option.map_some, Option.some.injEq] at hy
      rw [e, ← hy, Int.toNat_of_nonneg hb.1]
    · obtain ⟨z, hz2, rfl⟩ := List.mem_map.1 hy
      have hb := bounds_u8 (hwz z (List.mem_of_mem_take hz2))
      omega

end Go.Proofs.Ytahhcaooiahleaa
