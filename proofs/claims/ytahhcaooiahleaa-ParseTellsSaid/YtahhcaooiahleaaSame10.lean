/- garblerref10: the same packets? Of two rows that are the same. Equalities of arrays and structs. -/
import Derived.Test.YtahhcaooiahleaaFind7
import Derived.Laws.StructEq
namespace Go.Proofs.Ytahhcaooiahleaa
open Go Go.RowKit

theorem eqRep (w : World) (a b c d : Int) : (binOp .eql 38 (.agg #[.int .u32 a, .int .u32 b, .int .u32 c, .int .u32 d]) (.agg #[.int .u32 a, .int .u32 b, .int .u32 c, .int .u32 d])).run Try.prog w = .ok (.bool true) w := by
  have hS : Try.prog.underlying 38 = some (.array 4 24) := by kernel_rfl
  have u := Try.underlying24
  rw [run_eql_struct, show (10000 : Nat) = 9998 + 1 + 1 from rfl]
  have z : ∀ w, Sem.run Try.prog (sizeOf 24) w = .ok 1 w := fun w => by kernel_rfl
  have g : ∀ w, Sem.run Try.prog (isAgg 24) w = .ok false w := fun w => by kernel_rfl
  unfold Op.equalIn
  have q : ∀ (x y : Int) w, Sem.run Try.prog (Op.equalIn (9998 + 1) 24 (.int .u32 x) (.int .u32 y)) w = .ok (x == y) w := fun x y w => run_equalIn_int w 9998 24 .u32 .u32 x y u
  simp [run_underlying hS, z, go_sem, part, g, show List.range' 0 4 = [0, 1, 2, 3] from rfl, q]

theorem eqPkt (w : World) (a b c d : Int) : (binOp .eql 26 (.agg #[.int .i64 a, .int .u8 b, .int .i64 c, .int .u32 d]) (.agg #[.int .i64 a, .int .u8 b, .int .i64 c, .int .u32 d])).run Try.prog w = .ok (.bool true) w := by
  have u3 := Try.underlying3
  have u5 := Try.underlying5
  have u24 := Try.underlying24
  have hS : Try.prog.underlying 26 = some (.struct (Try.prog.fieldsOf 26)) := by kernel_rfl
  have hp : Try.prog.stoodInHeld 26 = false := by kernel_rfl
  have z3 : ∀ w, Sem.run Try.prog (sizeOf 3) w = .ok 1 w := fun w => by kernel_rfl
  have g3 : ∀ w, Sem.run Try.prog (isAgg 3) w = .ok false w := fun w => by kernel_rfl
  have z5 : ∀ w, Sem.run Try.prog (sizeOf 5) w = .ok 1 w := fun w => by kernel_rfl
  have g5 : ∀ w, Sem.run Try.prog (isAgg 5) w = .ok false w := fun w => by kernel_rfl
  have z24 : ∀ w, Sem.run Try.prog (sizeOf 24) w = .ok 1 w := fun w => by kernel_rfl
  have g24 : ∀ w, Sem.run Try.prog (isAgg 24) w = .ok false w := fun w => by kernel_rfl
  rw [run_eql_struct, show (10000 : Nat) = 9999 + 1 from rfl, run_equalIn_agg w 9999 26 _ _ hS hp]
  simp only [Program.fieldsOf, Try.underlying26]
  go_simp

theorem neqPkt (w : World) (a b c d : Int) : (binOp .neq 26 (.agg #[.int .i64 a, .int .u8 b, .int .i64 c, .int .u32 d]) (.agg #[.int .i64 a, .int .u8 b, .int .i64 c, .int .u32 d])).run Try.prog w = .ok (.bool false) w := by
  have u3 := Try.underlying3
  have u5 := Try.underlying5
  have u24 := Try.underlying24
  have hS : Try.prog.underlying 26 = some (.struct (Try.prog.fieldsOf 26)) := by kernel_rfl
  have hp : Try.prog.stoodInHeld 26 = false := by kernel_rfl
  have z3 : ∀ w, Sem.run Try.prog (sizeOf 3) w = .ok 1 w := fun w => by kernel_rfl
  have g3 : ∀ w, Sem.run Try.prog (isAgg 3) w = .ok false w := fun w => by kernel_rfl
  have z5 : ∀ w, Sem.run Try.prog (sizeOf 5) w = .ok 1 w := fun w => by kernel_rfl
  have g5 : ∀ w, Sem.run Try.prog (isAgg 5) w = .ok false w := fun w => by kernel_rfl
  have z24 : ∀ w, Sem.run Try.prog (sizeOf 24) w = .ok 1 w := fun w => by kernel_rfl
  have g24 : ∀ w, Sem.run Try.prog (isAgg 24) w = .ok false w := fun w => by kernel_rfl
  rw [run_neq_struct, show (10000 : Nat) = 9999 + 1 from rfl, run_equalIn_agg w 9999 26 _ _ hS hp]
  simp only [Program.fieldsOf, Try.underlying26]
  go_simp

/-- Two rows of the same packets. -/
theorem ref10_Same {w : World} {a b : Value} {ps : List Pkt} (ha : PktRow w a ps) (hb : PktRow w b ps) (hl : (ps.length : Int) < 1099511627776) :
    Calls Try.prog 52 #[a, b] w fun e w' => e = .returned (.bool true) ∧ Kept (fun _ _ => False) w w' := by
  obtain ⟨ao, ca, rfl, hca⟩ := ha.form
  obtain ⟨bo, cb, rfl, hcb⟩ := hb.form
  obtain ⟨n, hn⟩ : ∃ n, n = ps.length := ⟨_, rfl⟩
  rw [← hn] at hl ⊢
  have HN := Lib.hid hn
  have HA := Lib.hid hca
  have HB := Lib.hid hcb
  have hne : ((n : Int) != (n : Int)) = false := by simp
  clear hn hca hcb ha hb
  go_enter Try.func52, Try.ntmps52
  go_wp2_with fail
  go_loopw [5] (fun i wr => ∃ k : Nat, k ≤ n ∧ i = .int .i64 (k : Nat) ∧ Kept (fun _ _ => False) w wr) (fun i _ => n - (intOf i).toNat)
  case atStart => exact ⟨0, Nat.zero_le _, rfl, Kept.refl _ _⟩
  case round =>
    obtain ⟨k, hk, rfl, hK⟩ := hrel
    by_cases hlt : k < n
    · have hd : decide ((k : Int) < (n : Int)) = true := decide_eq_true (by omega)
      have hd2 : decide (k < n) = true := decide_eq_true hlt
      obtain ⟨p, hp⟩ : ∃ p, ps[k]? = some p := ⟨_, List.getElem?_eq_getElem (by rw [← HN.out]; exact hlt)⟩
      obtain ⟨g1, o1, rfl, _, p0, p1, p2, p3⟩ := HA.out k p hp
      obtain ⟨g2, o2, rfl, _, q0, q1, q2, q3⟩ := HB.out k p hp
      have a0 := hK.cellF p0
      have a1 := hK.cellF p1
      have a2 := hK.cellF p2
      have a3 := hK.cellF p3
      have b0 := hK.cellF q0
      have b1 := hK.cellF q1
      have b2 := hK.cellF q2
      have b3 := hK.cellF q3
      have hkn : (k : Int) < 1099511627776 := by omega
      have hkl : (k : Int) < (n : Int) := by omega
      have hq := neqPkt
      clear p0 p1 p2 p3 q0 q1 q2 q3 hp
      go_wp2_with fail
      go_quiet (fail)
      go_wp2_with fail
      go_roundw
      case rel => exact ⟨k + 1, by omega, by go_num, hK.drewN _⟩
      case measure => simp [intOf]; omega
    · have hd : decide ((k : Int) < (n : Int)) = false := decide_eq_false (by omega)
      have hd2 : decide (k < n) = false := decide_eq_false hlt
      go_wp2_with fail
      go_ret
      exact ⟨rfl, hK⟩

end Go.Proofs.Ytahhcaooiahleaa
