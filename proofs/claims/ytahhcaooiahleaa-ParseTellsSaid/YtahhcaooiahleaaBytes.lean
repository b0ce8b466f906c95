/- The same bytes? -/
import Derived.Test.YtahhcaooiahleaaBack
import Derived.Handy
namespace Go.Proofs.Ytahhcaooiahleaa
open Go Go.RowKit

/-- A slice of bytes. -/
structure BRow (w : World) (v : Value) (l : List Nat) : Prop where
  form : ∃ ao cap, v = .slice ao l.length cap ∧ ∀ i x, l[i]? = some x → ∃ g o, ao = some ⟨g, o, none⟩ ∧ w.cell? ⟨g, o + i, none⟩ = some (.int .u8 (x : Nat))

theorem BRow.own {w : World} {base : Nat} {v : Value} {l : List Nat} (h : w.ownsRow base 5 1 v l.length (bts l)) : BRow w v l := by
  obtain ⟨ao, cap, hv, hc⟩ := own_shape h
  refine ⟨ao, cap, hv, fun i x hx => ?_⟩
  have hi : i < l.length := (List.getElem?_eq_some_iff.1 hx).1
  obtain ⟨g, hg, ha⟩ := hc i _ (bts_get hi)
  refine ⟨g, 0, hg, ?_⟩
  have : l.getD i 0 = x := by simp [List.getD, hx]
  rw [this] at ha
  rw [Nat.zero_add]
  exact ha.1

theorem BRow.kept {S : Nat → Nat → Prop} {w w' : World} {v : Value} {l : List Nat} (h : BRow w v l) (k : Kept S w w') (hs : ∀ b, v.ownBlock = some b → ∀ o, ¬ S b o) : BRow w' v l := by
  obtain ⟨ao, cap, hv, hc⟩ := h.form
  refine ⟨ao, cap, hv, fun i x hx => ?_⟩
  obtain ⟨g, o, hg, ha⟩ := hc i x hx
  refine ⟨g, o, hg, ?_⟩
  have hb : g < w.heap.size := World.block_lt_of_cell? w ⟨g, o + i, none⟩ ha
  have he := k.block g hb (hs g (by rw [hv, hg]; rfl))
  exact (World.cell?_of_block (w := w) he).trans ha

set_option maxRecDepth 100000 in
set_option maxHeartbeats 400000 in
theorem ref01_Bytes {w : World} {a b : Value} {l r : List Nat} (ha : BRow w a l) (hb : BRow w b r) (hl : (l.length : Int) < 1099511627776) (hr : (r.length : Int) < 1099511627776) :
    Calls Try.prog 22 #[a, b] w fun e w' => e = .returned (.bool (decide (l = r))) ∧ Kept (fun _ _ => False) w w' := by
  obtain ⟨ao, ca, rfl, hca⟩ := ha.form
  obtain ⟨bo, cb, rfl, hcb⟩ := hb.form
  obtain ⟨n, hn⟩ : ∃ n, n = l.length := ⟨_, rfl⟩
  obtain ⟨m, hm⟩ : ∃ m, m = r.length := ⟨_, rfl⟩
  rw [← hn] at hl ⊢
  rw [← hm] at hr ⊢
  have HN := Lib.hid hn
  have HM := Lib.hid hm
  clear hn hm
  by_cases hnm : n = m
  · have hne : ((n : Int) != (m : Int)) = false := by simp [hnm]
    have HE := Lib.hid hnm
    clear hnm
    go_enter Try.func22, Try.ntmps22
    go_wp2_with fail
    go_loopw [5] (fun i wr => ∃ k : Nat, k ≤ n ∧ i = .int .i64 k ∧ l.take k = r.take k ∧ Kept (fun _ _ => False) w wr) (fun i _ => n - (intOf i).toNat)
    case atStart => exact ⟨0, Nat.zero_le _, rfl, by simp, Kept.refl _ _⟩
    case round =>
      obtain ⟨k, hk, rfl, ht, hK⟩ := hrel
      have HT := Lib.hid ht
      clear ht
      by_cases hlt : k < n
      · have hd : decide ((k : Int) < (n : Int)) = true := decide_eq_true (by omega)
        have hl2 : k < l.length := by rw [← HN.out]; exact hlt
        have hr2 : k < r.length := by rw [← HM.out, ← HE.out]; exact hlt
        have hx := List.getElem?_eq_getElem hl2
        have hy := List.getElem?_eq_getElem hr2
        obtain ⟨x, hxx⟩ : ∃ x, x = l[k] := ⟨_, rfl⟩
        obtain ⟨y, hyy⟩ : ∃ y, y = r[k] := ⟨_, rfl⟩
        rw [← hxx] at hx
        rw [← hyy] at hy
        obtain ⟨g1, o1, rfl, q1⟩ := hca k x hx
        obtain ⟨g2, o2, rfl, q2⟩ := hcb k y hy
        have r1 := hK.cellF q1
        have r2 := hK.cellF q2
        have hkm : k < m := by rw [← HE.out]; exact hlt
        have hkn : (k : Int) < 1099511627776 := by omega
        have HX := Lib.hid hx
        have HY := Lib.hid hy
        clear hx hy hxx hyy hl2 hr2 q1 q2
        by_cases hxy : x = y
        · have hne2 : ((x : Int) != (y : Int)) = false := by simp [hxy]
          have HXY := Lib.hid hxy
          clear hxy
          go_wp2_with fail
          go_quiet (fail)
          go_wp2_with fail
          go_roundw
          case rel => exact ⟨k + 1, by omega, by go_num, by rw [List.take_add_one, List.take_add_one, HT.out, HX.out, HY.out, HXY.out], hK.drewN _⟩
          case measure => simp [intOf]; omega
        · have hne2 : ((x : Int) != (y : Int)) = true := by simp; omega
          have hlr : decide (l = r) = false := decide_eq_false (fun e => hxy (by have h1 := HX.out; rw [e, HY.out] at h1; exact (Option.some.inj h1).symm))
          have HLR := Lib.hid hlr
          clear hxy hlr
          go_wp2_with fail
          go_quiet (fail)
          go_wp2_with fail
          go_ret
          exact ⟨ret_bool HLR.out.symm, hK.drewN _⟩
      · have hd : decide ((k : Int) < (n : Int)) = false := decide_eq_false (by omega)
        have hlr : decide (l = r) = true := decide_eq_true (by
          have e1 : l.take k = l := List.take_of_length_le (by rw [← HN.out]; omega)
          have e2 : r.take k = r := List.take_of_length_le (by rw [← HM.out, ← HE.out]; omega)
          rw [← e1, ← e2]; exact HT.out)
        have HLR := Lib.hid hlr
        clear hlr
        go_wp2_with fail
        go_ret
        exact ⟨ret_bool HLR.out.symm, hK⟩
  · have hne : ((n : Int) != (m : Int)) = true := by simp; omega
    have hlr : decide (l = r) = false := decide_eq_false (fun e => hnm (by rw [HN.out, HM.out, e]))
    rw [hlr]
    clear hnm hlr
    go_enter Try.func22, Try.ntmps22
    go_wp2_with fail
    go_ret
    exact ⟨rfl, Kept.refl _ _⟩

end Go.Proofs.Ytahhcaooiahleaa
