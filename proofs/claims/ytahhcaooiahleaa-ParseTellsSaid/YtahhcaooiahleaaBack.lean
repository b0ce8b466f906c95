/- The coder of LZMA: the byte at a distance, which packets fit. -/
import Derived.Test.YtahhcaooiahleaaNew
import Derived.BigGuardPart
namespace Go.Proofs.Ytahhcaooiahleaa
open Go Go.RowKit

/-- A row that is owned is a slice; what it holds. -/
theorem own_shape {w : World} {base : Nat} {e : TypeId} {v : Value} {n : Nat} {xs : List Value} (h : w.ownsRow base e 1 v n xs) :
    ∃ ao cap, v = .slice ao n cap ∧ (∀ (i : Nat) (u : Value), xs[i]? = some u → ∃ g, ao = some ⟨g, 0, none⟩ ∧ At w g i u) := by
  by_cases hn : 0 < n
  · obtain ⟨g, cap, rfl, _⟩ := own_form h hn
    exact ⟨_, cap, rfl, fun i u hu => ⟨g, rfl, own_at h hu⟩⟩
  · obtain rfl : n = 0 := by omega
    have hx : xs = [] := List.eq_nil_of_length_eq_zero (by have := h.1; omega)
    rcases h.2 with ⟨hv, _⟩ | ⟨g, cap, cur, hv, _⟩
    · exact ⟨none, 0, hv, fun i u hu => by rw [hx] at hu; simp at hu⟩
    · exact ⟨_, cap, hv, fun i u hu => by rw [hx] at hu; simp at hu⟩

theorem bts_get {l : List Nat} {i : Nat} (h : i < l.length) : (bts l)[i]? = some (.int .u8 (l.getD i 0 : Nat)) := by
  simp [bts, h]

def CO.is (c : CO) (d : Nat) : Bool := decide (d < c.told.length) && decide (d < c.dict)
def CO.at_ (c : CO) (d : Nat) : Nat := if c.is d then c.told.getD (c.told.length - 1 - d) 0 else 0

theorem CO.at_lt {c : CO} (h : CoMay c) (d : Nat) : c.at_ d < 256 := by
  unfold CO.at_
  split
  · rw [List.getD_eq_getElem?_getD]
    cases hx : c.told[c.told.length - 1 - d]? with
    | none => simp
    | some x => exact h.told x (List.mem_of_getElem? hx)
  · decide

set_option maxRecDepth 100000 in
set_option maxHeartbeats 400000 in
theorem lzmac_back {w : World} {A : CA} {ov tv : Value} {c : CO} (h : CoderW w A ov tv c) {z : Int} {d : Nat} (hz : z = (d : Int)) (hd : (d : Int) < 4294967296) (hlen : c.told.length < 1099511627776) :
    Calls Try.prog 44 #[.pointer (some ⟨A.cb, 0, none⟩), .int .u32 z] w fun e w' =>
      e = .returned (.tuple #[.int .u8 (c.at_ d : Nat), .bool (c.is d)]) ∧ w' = w := by
  subst hz
  obtain ⟨ao, cap, rfl, hat⟩ := own_shape h.own
  have c11 := h.a11.1
  have c3 := h.a3.1
  obtain ⟨n, hn⟩ : ∃ n, n = c.told.length := ⟨_, rfl⟩
  obtain ⟨D, hD⟩ : ∃ D, D = c.dict := ⟨_, rfl⟩
  rw [← hD] at c3
  rw [← hn] at c11 hlen
  have hlen' : (n : Int) < 1099511627776 := by omega
  clear hlen
  have HN := Lib.hid hn
  have HD := Lib.hid hD
  by_cases h1 : d < n
  · obtain ⟨k, hk, hkn⟩ : ∃ k : Nat, (n : Int) - 1 - (d : Int) = (k : Int) ∧ k = n - 1 - d := ⟨n - 1 - d, by omega, rfl⟩
    have HK := Lib.hid hkn
    clear hkn
    by_cases h2 : d < D
    · have d2 : decide ((d : Int) < (D : Int)) = true := decide_eq_true (by omega)
      have d3 : decide ((D : Int) ≤ (d : Int)) = false ∧ decide (D ≤ d) = false ∧ (D : Int) < 4294967296 := ⟨decide_eq_false (by omega), decide_eq_false (by omega), by have := h.may.d2; omega⟩
      obtain ⟨d3, d4, d5⟩ := d3
      obtain ⟨g, rfl, ha⟩ := hat (n - 1 - d) _ (bts_get (by omega))
      obtain ⟨x, hx⟩ : ∃ x, x = c.told.getD (n - 1 - d) 0 := ⟨_, rfl⟩
      have hr : c.is d = true ∧ c.at_ d = x := by
        have hi : c.is d = true := by unfold CO.is; rw [← HN.out, ← HD.out]; simp [h1, h2]
        exact ⟨hi, by unfold CO.at_; rw [if_pos hi, ← HN.out, hx]⟩
      rw [← hx] at ha
      have ca := ha.1
      rw [hr.1, hr.2]
      rw [← HK.out] at ca
      have hlt : k < n := by have := HK.out; omega
      clear hn hD hx hr
      go_enter Try.func44, Try.ntmps44
      go_upto_region 2 with fail
      iterate 6 (first | go_values | go_skip | go_big_skip | go_big_want | go_step | go_upon | go_in | go_back)
      rw [decide_eq_false (show ¬ (k : Int) < 0 by omega)]
      go_wp2_with fail
      go_ret2
      first | exact ⟨rfl, rfl⟩ | simp
    · have d3 : decide ((D : Int) ≤ (d : Int)) = true ∧ decide (D ≤ d) = true ∧ (D : Int) < 4294967296 := ⟨decide_eq_true (by omega), decide_eq_true (by omega), by have := h.may.d2; omega⟩
      obtain ⟨d3, d4, d5⟩ := d3
      have hr : c.is d = false ∧ c.at_ d = 0 := by
        have hi : c.is d = false := by unfold CO.is; rw [← HN.out, ← HD.out]; simp [h1, h2]
        exact ⟨hi, by unfold CO.at_; rw [hi]; rfl⟩
      rw [hr.1, hr.2]
      clear hn hD hr
      go_enter Try.func44, Try.ntmps44
      go_upto_region 2 with fail
      iterate 6 (first | go_values | go_skip | go_big_skip | go_big_want | go_step | go_upon | go_in | go_back)
      rw [decide_eq_false (show ¬ (k : Int) < 0 by omega)]
      go_wp2_with fail
      go_ret2
      first | exact ⟨rfl, rfl⟩ | simp
  · have d1 : decide ((n : Int) - 1 - (d : Int) < 0) = true := decide_eq_true (by omega)
    have hr : c.is d = false ∧ c.at_ d = 0 := by
      have hi : c.is d = false := by unfold CO.is; rw [← HN.out, ← HD.out]; simp [h1]
      exact ⟨hi, by unfold CO.at_; rw [hi]; rfl⟩
    rw [hr.1, hr.2]
    clear hn hD hr
    go_enter Try.func44, Try.ntmps44
    go_wp2_with fail
    go_ret2
    first | exact ⟨rfl, rfl⟩ | simp

end Go.Proofs.Ytahhcaooiahleaa
