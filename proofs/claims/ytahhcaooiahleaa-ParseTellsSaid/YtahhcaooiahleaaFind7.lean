/- Which packets tell bytes: all of them. -/
import Derived.Test.YtahhcaooiahleaaFind5
import Derived.Test.YtahhcaooiahleaaFind6
import Derived.Test.YtahhcaooiahleaaApp4
import Derived.Laws.OwnMore
import Derived.Deep.OwnRows
import Derived.Handy
namespace Go.Proofs.Ytahhcaooiahleaa
open Go Go.RowKit

theorem parse_packet {w : World} {F : FA} {b : List Nat} {te dict : Nat} {r : R4} {kn : Nat} (h : FindW w F b te dict r kn) {i : Nat} (hi : i < te) (hk : kn ≤ i) :
    Calls Try.prog 54 #[.pointer (some ⟨F.fb, 0, none⟩), .int .i64 (i : Nat)] w fun e w' => e = .returned (.tuple #[(pick b te dict i r).1.val, .int .i64 ((pick b te dict i r).2.1 : Nat)]) ∧ ∃ kn', kn' ≤ i ∧ FindW w' F b te dict (pick b te dict i r).2.2 kn' ∧ Kept (FindS F) w w' := by
  by_cases hA : 2 ≤ (eldGo (long b te dict i) r 4).1 ∧ (bestGo (long b te dict i) i).1 ≤ (eldGo (long b te dict i) r 4).1 + 1
  · exact parse_packet_again h hi hk hA
  · by_cases hB : 3 ≤ (bestGo (long b te dict i) i).1 ∨ ((bestGo (long b te dict i) i).1 = 2 ∧ (bestGo (long b te dict i) i).2 < 128)
    · exact parse_packet_match h hi hk hA hB
    · exact parse_packet_one h hi hk hA hB

theorem Try.info_int : (Try.prog.info? 3).map (fun i => (i.zero, i.size, i.bytes)) = some (some (.int .i64 0), 1, 8) := by kernel_rfl
theorem Try.info_pkt : (Try.prog.info? 26).map (fun i => (i.zero, i.size, i.bytes)) = some (some (.agg #[.int .i64 0, .int .u8 0, .int .i64 0, .int .u32 0]), 4, 32) := by kernel_rfl

theorem At.made (w : World) (z : Value) (n : Nat) (T : TypeId) {k : Nat} (h : k < n) : At (w.alloc (.cells (madeCells #[z] n) T)) w.heap.size k z := by
  refine At.alloc_new _ _ _ _ _ ?_
  rw [← Array.getElem?_toList, toList_madeCells_one]
  simp [h]

def R4.val (r : R4) : Value := .agg #[.int .u32 (r.a : Nat), .int .u32 (r.b : Nat), .int .u32 (r.c : Nat), .int .u32 (r.d : Nat)]

/-- A packet's cells, one behind the other. -/
def pktCells (ps : List Pkt) : List Value := ps.flatMap fun p => [.int .i64 p.k, .int .u8 (p.b : Nat), .int .i64 p.l, .int .u32 (p.d : Nat)]

theorem pktCells_len (ps : List Pkt) : (pktCells ps).length = ps.length * 4 := by
  induction ps with
  | nil => rfl
  | cons p ps ih =>
    show ([_, _, _, _] ++ pktCells ps).length = _
    rw [List.length_append, ih, List.length_cons]
    simp
    omega

/-- The element that an append puts behind, in its own block. -/
theorem newCells (w : World) (o : Obj) (T : TypeId) (x0 x1 x2 x3 : Value) : ∀ j u, [x0, x1, x2, x3][j]? = some u → ((w.alloc o).alloc (.cells #[x0, x1, x2, x3] T)).cell? ((⟨w.heap.size + 1, 0, none⟩ : Addr).add j) = some u := by
  intro j u hj
  have e : w.heap.size + 1 = (w.alloc o).heap.size := by simp
  rw [Addr.add_lit, Nat.zero_add, e, World.cell?_alloc_new]
  rw [← Array.getElem?_toList]
  exact hj

theorem keepF4 {w w' : World} {b : Nat} {x0 x1 x2 x3 : Value} (k : Kept (fun _ _ => False) w w') (h0 : At w b 0 x0) (h1 : At w b 1 x1) (h2 : At w b 2 x2) (h3 : At w b 3 x3) :
    w'.cell? ⟨b, 0, none⟩ = some x0 ∧ w'.cell? ⟨b, 1, none⟩ = some x1 ∧ w'.cell? ⟨b, 2, none⟩ = some x2 ∧ w'.cell? ⟨b, 3, none⟩ = some x3 := ⟨k.cellF h0.1, k.cellF h1.1, k.cellF h2.1, k.cellF h3.1⟩

theorem pktCells_append (ps : List Pkt) (p : Pkt) : pktCells (ps ++ [p]) = pktCells ps ++ [.int .i64 p.k, .int .u8 (p.b : Nat), .int .i64 p.l, .int .u32 (p.d : Nat)] := by
  simp [pktCells]

theorem pktCells_get {ps : List Pkt} : ∀ {i : Nat} {p : Pkt}, ps[i]? = some p → (pktCells ps)[i * 4]? = some (.int .i64 p.k) ∧ (pktCells ps)[i * 4 + 1]? = some (.int .u8 (p.b : Nat)) ∧ (pktCells ps)[i * 4 + 2]? = some (.int .i64 p.l) ∧ (pktCells ps)[i * 4 + 3]? = some (.int .u32 (p.d : Nat)) := by
  induction ps with
  | nil => intro i p h; simp at h
  | cons q ps ih =>
    intro i p h
    have e : pktCells (q :: ps) = [.int .i64 q.k, .int .u8 (q.b : Nat), .int .i64 q.l, .int .u32 (q.d : Nat)] ++ pktCells ps := rfl
    cases i with
    | zero => simp at h; subst h; exact ⟨rfl, rfl, rfl, rfl⟩
    | succ i =>
      have h' := ih (i := i) (p := p) (by simpa using h)
      rw [e]
      refine ⟨?_, ?_, ?_, ?_⟩
      · rw [List.getElem?_append_right (by simp; omega), ← h'.1]; congr 1; simp; omega
      · rw [List.getElem?_append_right (by simp; omega), ← h'.2.1]; congr 1; simp; omega
      · rw [List.getElem?_append_right (by simp; omega), ← h'.2.2.1]; congr 1; simp; omega
      · rw [List.getElem?_append_right (by simp; omega), ← h'.2.2.2]; congr 1; simp; omega

theorem PktRow.own {w : World} {v : Value} {ps : List Pkt} (h : w.ownsRow 0 26 4 v ps.length (pktCells ps)) : PktRow w v ps := by
  by_cases hn : 0 < ps.length
  · obtain ⟨g, cap, rfl, hg⟩ := own_form4 h hn
    refine ⟨some ⟨g, 0, none⟩, cap, rfl, fun i p hp => ⟨g, 0, rfl, hg, ?_⟩⟩
    obtain ⟨q0, q1, q2, q3⟩ := pktCells_get hp
    rw [Nat.zero_add]
    exact ⟨(own_at4 h q0).1, (own_at4 h q1).1, (own_at4 h q2).1, (own_at4 h q3).1⟩
  · obtain rfl : ps = [] := List.eq_nil_of_length_eq_zero (by omega)
    rcases h.2 with ⟨hv, _⟩ | ⟨g, cap, cur, hv, _⟩
    · exact ⟨none, 0, hv, fun i p hp => by simp at hp⟩
    · exact ⟨_, cap, hv, fun i p hp => by simp at hp⟩

/-- A finder that begins. -/
theorem FindW.begin {wy : World} {l : List Nat} {te dict : Nat} {r : R4} {lb ab base : Nat} {cv : Value} {z : Int} (hz : z = (dict : Nat)) (hl : (l.length : Int) < 1099511627776) (hl8 : ∀ x ∈ l, x < 256) (htl : te ≤ l.length) (hd1 : 1 ≤ dict) (hd2 : (dict : Int) < 4294967296)
    (ra : (r.a : Int) < 4294967296) (rb : (r.b : Int) < 4294967296) (rc : (r.c : Int) < 4294967296) (rd : (r.d : Int) < 4294967296) {N : Nat} (hN : N = l.length)
    (hO : wy.ownsRow base 5 1 cv l.length (bts l)) (hZ : ∀ p, p < 65536 → At wy lb p (.int .i64 0)) (hY : ∀ j, j < N → At wy ab j (.int .i64 0)) (n1 : lb < wy.heap.size) (n2 : ab < wy.heap.size) (n3 : lb ≠ ab) (n4 : ∀ g, cv.ownBlock = some g → g ≠ lb ∧ g ≠ ab) :
    FindW (wy.alloc (.cells #[cv, .int .i64 (te : Nat), .int .i64 z, .int .u32 (r.a : Nat), .int .u32 (r.b : Nat), .int .u32 (r.c : Nat), .int .u32 (r.d : Nat), .slice (some ⟨lb, 0, none⟩) 65536 65536, .slice (some ⟨ab, 0, none⟩) N N, .int .i64 0] 96)) ⟨wy.heap.size, lb, ab, cv⟩ l te dict r 0 := by
  subst hz hN
  exact ⟨At.alloc_new _ _ _ _ _ rfl, At.alloc_new _ _ _ _ _ rfl, At.alloc_new _ _ _ _ _ rfl, At.alloc_new _ _ _ _ _ rfl, At.alloc_new _ _ _ _ _ rfl, At.alloc_new _ _ _ _ _ rfl, At.alloc_new _ _ _ _ _ rfl, At.alloc_new _ _ _ _ _ rfl, At.alloc_new _ _ _ _ _ rfl, At.alloc_new _ _ _ _ _ rfl,
    BRow.own ((Kept.of_alloc (fun _ _ => False) wy _).owns hO (by simp)), fun p hp => (hZ p hp).alloc _, fun j hj => ⟨0, (hY j hj).alloc _, fun h => by omega⟩, by dsimp only; omega, by dsimp only; omega, n3, fun g hg => ⟨by have := (hO.lt g hg).2; dsimp only; omega, n4 g hg⟩, hl8, hl, htl, hd1, hd2, by omega, ra, rb, rc, rd⟩

/-- What stands behind the making of a finder. -/
structure FMade (w0 : World) (l : List Nat) (te dict : Nat) (r : R4) (F : FA) (wx : World) : Prop where
  find : FindW wx F l te dict r 0
  kept : Kept (fun _ _ => False) w0 wx
  q1 : w0.heap.size ≤ F.fb
  q2 : w0.heap.size ≤ F.lb
  q3 : w0.heap.size ≤ F.ab

structure FPre (l : List Nat) (te dict : Nat) (r : R4) (z : Int) (N : Nat) (Z Y : Array Value) : Prop where
  hz : z = (dict : Nat)
  hl : (l.length : Int) < 1099511627776
  hl8 : ∀ x ∈ l, x < 256
  htl : te ≤ l.length
  hd1 : 1 ≤ dict
  hd2 : (dict : Int) < 4294967296
  ra : (r.a : Int) < 4294967296
  rb : (r.b : Int) < 4294967296
  rc : (r.c : Int) < 4294967296
  rd : (r.d : Int) < 4294967296
  hN : N = l.length
  hZ : Z = madeCells #[Value.int .i64 0] 65536
  hY : Y = madeCells #[Value.int .i64 0] N

theorem FPre.z {l : List Nat} {te dict : Nat} {r : R4} {z : Int} {N : Nat} {Z Y : Array Value} (h : FPre l te dict r z N Z Y) (w : World) {b : Nat} (hb : b = w.heap.size) : ∀ p, p < 65536 → At (w.alloc (.cells Z 3)) b p (.int .i64 0) := fun p hp => by subst hb; rw [h.hZ]; exact At.made _ _ _ _ hp
theorem FPre.y {l : List Nat} {te dict : Nat} {r : R4} {z : Int} {N : Nat} {Z Y : Array Value} (h : FPre l te dict r z N Z Y) (w : World) {b : Nat} (hb : b = w.heap.size) : ∀ p, p < N → At (w.alloc (.cells Y 3)) b p (.int .i64 0) := fun p hp => by subst hb; rw [h.hY]; exact At.made _ _ _ _ hp

theorem FMade.glue {w0 W : World} {l : List Nat} {te dict : Nat} {r : R4} {s : Value} {fb : Nat} (h : ∃ F : FA, F.fb = fb ∧ FMade w0 l te dict r F W) (hs : s = .pointer (some ⟨fb, 0, none⟩)) : ∃ F : FA, s = .pointer (some ⟨F.fb, 0, none⟩) ∧ FMade w0 l te dict r F W := by
  obtain ⟨F, rfl, h⟩ := h
  exact ⟨F, hs, h⟩

theorem owns_alloc {w : World} {base : Nat} {e : TypeId} {sz : Nat} {v : Value} {n : Nat} {xs : List Value} (h : w.ownsRow base e sz v n xs) (o : Obj) : (w.alloc o).ownsRow base e sz v n xs := (Kept.of_alloc (fun _ _ => False) w o).owns h (by simp)

theorem FMade.ofCZY {w0 w1 : World} {l : List Nat} {te dict N : Nat} {r : R4} {z : Int} {Z Y : Array Value} {aoc : Option Addr} {capc : Nat} (P : FPre l te dict r z N Z Y) (hK : Kept (fun _ _ => False) (w0.drew) w1) (hO : w1.ownsRow (w0.drew).heap.size 5 1 (.slice aoc l.length capc) l.length (bts l)) :
    ∃ F : FA, F.fb = w1.heap.size + 1 + 1 ∧ FMade w0 l te dict r F (((w1.alloc (.cells Z 3)).alloc (.cells Y 3)).alloc (.cells #[.slice aoc l.length capc, .int .i64 (te : Nat), .int .i64 z, .int .u32 (r.a : Nat), .int .u32 (r.b : Nat), .int .u32 (r.c : Nat), .int .u32 (r.d : Nat), .slice (some ⟨w1.heap.size, 0, none⟩) 65536 65536, .slice (some ⟨w1.heap.size + 1, 0, none⟩) N N, .int .i64 0] 96)) := by
  have s := hK.size
  have q := fun g hg => hO.lt g hg
  have sd : ∀ v : World, v.drew.heap.size = v.heap.size := fun _ => rfl
  (try simp only [sd, World.size_alloc] at s)
  (try simp only [sd, World.size_alloc] at q)
  have hb := FindW.begin (wy := (w1.alloc (.cells Z 3)).alloc (.cells Y 3)) (lb := w1.heap.size) (ab := w1.heap.size + 1) (base := (w0.drew).heap.size) P.hz P.hl P.hl8 P.htl P.hd1 P.hd2 P.ra P.rb P.rc P.rd P.hN (owns_alloc (owns_alloc hO _) _) (fun p hp => (P.z w1 rfl p hp).alloc _) (P.y _ (by simp)) (by first | omega | (simp; done) | (simp only [World.size_alloc]; omega) | (simp; omega)) (by first | omega | (simp; done) | (simp only [World.size_alloc]; omega) | (simp; omega)) (by omega) (fun g hg => by have := q g hg; omega)
  refine ⟨_, ?_, ⟨hb, Kept.alloc ((((Kept.refl (fun _ _ => False) w0).drew.trans hK).alloc _).alloc _) _, ?_, ?_, ?_⟩⟩
  · show _ = _
    first | omega | (simp; done) | (simp only [World.size_alloc]; omega) | (simp; omega) | (dsimp only; omega)
  · show _ ≤ _
    first | omega | (simp; done) | (simp only [World.size_alloc]; omega) | (simp; omega) | (dsimp only; omega)
  · show _ ≤ _
    first | omega | (simp; done) | (simp only [World.size_alloc]; omega) | (simp; omega) | (dsimp only; omega)
  · show _ ≤ _
    first | omega | (simp; done) | (simp only [World.size_alloc]; omega) | (simp; omega) | (dsimp only; omega)

theorem FMade.ofCYZ {w0 w1 : World} {l : List Nat} {te dict N : Nat} {r : R4} {z : Int} {Z Y : Array Value} {aoc : Option Addr} {capc : Nat} (P : FPre l te dict r z N Z Y) (hK : Kept (fun _ _ => False) (w0.drew) w1) (hO : w1.ownsRow (w0.drew).heap.size 5 1 (.slice aoc l.length capc) l.length (bts l)) :
    ∃ F : FA, F.fb = w1.heap.size + 1 + 1 ∧ FMade w0 l te dict r F (((w1.alloc (.cells Y 3)).alloc (.cells Z 3)).alloc (.cells #[.slice aoc l.length capc, .int .i64 (te : Nat), .int .i64 z, .int .u32 (r.a : Nat), .int .u32 (r.b : Nat), .int .u32 (r.c : Nat), .int .u32 (r.d : Nat), .slice (some ⟨w1.heap.size + 1, 0, none⟩) 65536 65536, .slice (some ⟨w1.heap.size, 0, none⟩) N N, .int .i64 0] 96)) := by
  have s := hK.size
  have q := fun g hg => hO.lt g hg
  have sd : ∀ v : World, v.drew.heap.size = v.heap.size := fun _ => rfl
  (try simp only [sd, World.size_alloc] at s)
  (try simp only [sd, World.size_alloc] at q)
  have hb := FindW.begin (wy := (w1.alloc (.cells Y 3)).alloc (.cells Z 3)) (lb := w1.heap.size + 1) (ab := w1.heap.size) (base := (w0.drew).heap.size) P.hz P.hl P.hl8 P.htl P.hd1 P.hd2 P.ra P.rb P.rc P.rd P.hN (owns_alloc (owns_alloc hO _) _) (P.z _ (by simp)) (fun p hp => (P.y w1 rfl p hp).alloc _) (by first | omega | (simp; done) | (simp only [World.size_alloc]; omega) | (simp; omega)) (by first | omega | (simp; done) | (simp only [World.size_alloc]; omega) | (simp; omega)) (by omega) (fun g hg => by have := q g hg; omega)
  refine ⟨_, ?_, ⟨hb, Kept.alloc ((((Kept.refl (fun _ _ => False) w0).drew.trans hK).alloc _).alloc _) _, ?_, ?_, ?_⟩⟩
  · show _ = _
    first | omega | (simp; done) | (simp only [World.size_alloc]; omega) | (simp; omega) | (dsimp only; omega)
  · show _ ≤ _
    first | omega | (simp; done) | (simp only [World.size_alloc]; omega) | (simp; omega) | (dsimp only; omega)
  · show _ ≤ _
    first | omega | (simp; done) | (simp only [World.size_alloc]; omega) | (simp; omega) | (dsimp only; omega)
  · show _ ≤ _
    first | omega | (simp; done) | (simp only [World.size_alloc]; omega) | (simp; omega) | (dsimp only; omega)

theorem FMade.ofZCY {w0 w1 : World} {l : List Nat} {te dict N : Nat} {r : R4} {z : Int} {Z Y : Array Value} {aoc : Option Addr} {capc : Nat} (P : FPre l te dict r z N Z Y) (hK : Kept (fun _ _ => False) ((w0.alloc (.cells Z 3)).drew) w1) (hO : w1.ownsRow ((w0.alloc (.cells Z 3)).drew).heap.size 5 1 (.slice aoc l.length capc) l.length (bts l)) :
    ∃ F : FA, F.fb = w1.heap.size + 1 ∧ FMade w0 l te dict r F ((w1.alloc (.cells Y 3)).alloc (.cells #[.slice aoc l.length capc, .int .i64 (te : Nat), .int .i64 z, .int .u32 (r.a : Nat), .int .u32 (r.b : Nat), .int .u32 (r.c : Nat), .int .u32 (r.d : Nat), .slice (some ⟨w0.heap.size, 0, none⟩) 65536 65536, .slice (some ⟨w1.heap.size, 0, none⟩) N N, .int .i64 0] 96)) := by
  have s := hK.size
  have q := fun g hg => hO.lt g hg
  have sd : ∀ v : World, v.drew.heap.size = v.heap.size := fun _ => rfl
  (try simp only [sd, World.size_alloc] at s)
  (try simp only [sd, World.size_alloc] at q)
  have hb := FindW.begin (wy := w1.alloc (.cells Y 3)) (lb := w0.heap.size) (ab := w1.heap.size) (base := ((w0.alloc (.cells Z 3)).drew).heap.size) P.hz P.hl P.hl8 P.htl P.hd1 P.hd2 P.ra P.rb P.rc P.rd P.hN (owns_alloc hO _) (fun p hp => (hK.at_ _ _ _ (by simp) (P.z w0 rfl p hp).drew).alloc _) (P.y w1 rfl) (by first | omega | (simp; done) | (simp only [World.size_alloc]; omega) | (simp; omega)) (by first | omega | (simp; done) | (simp only [World.size_alloc]; omega) | (simp; omega)) (by omega) (fun g hg => by have := q g hg; omega)
  refine ⟨_, ?_, ⟨hb, Kept.alloc ((((Kept.refl (fun _ _ => False) w0).alloc _).drew.trans hK).alloc _) _, ?_, ?_, ?_⟩⟩
  · show _ = _
    first | omega | (simp; done) | (simp only [World.size_alloc]; omega) | (simp; omega) | (dsimp only; omega)
  · show _ ≤ _
    first | omega | (simp; done) | (simp only [World.size_alloc]; omega) | (simp; omega) | (dsimp only; omega)
  · show _ ≤ _
    first | omega | (simp; done) | (simp only [World.size_alloc]; omega) | (simp; omega) | (dsimp only; omega)
  · show _ ≤ _
    first | omega | (simp; done) | (simp only [World.size_alloc]; omega) | (simp; omega) | (dsimp only; omega)

theorem FMade.ofYCZ {w0 w1 : World} {l : List Nat} {te dict N : Nat} {r : R4} {z : Int} {Z Y : Array Value} {aoc : Option Addr} {capc : Nat} (P : FPre l te dict r z N Z Y) (hK : Kept (fun _ _ => False) ((w0.alloc (.cells Y 3)).drew) w1) (hO : w1.ownsRow ((w0.alloc (.cells Y 3)).drew).heap.size 5 1 (.slice aoc l.length capc) l.length (bts l)) :
    ∃ F : FA, F.fb = w1.heap.size + 1 ∧ FMade w0 l te dict r F ((w1.alloc (.cells Z 3)).alloc (.cells #[.slice aoc l.length capc, .int .i64 (te : Nat), .int .i64 z, .int .u32 (r.a : Nat), .int .u32 (r.b : Nat), .int .u32 (r.c : Nat), .int .u32 (r.d : Nat), .slice (some ⟨w1.heap.size, 0, none⟩) 65536 65536, .slice (some ⟨w0.heap.size, 0, none⟩) N N, .int .i64 0] 96)) := by
  have s := hK.size
  have q := fun g hg => hO.lt g hg
  have sd : ∀ v : World, v.drew.heap.size = v.heap.size := fun _ => rfl
  (try simp only [sd, World.size_alloc] at s)
  (try simp only [sd, World.size_alloc] at q)
  have hb := FindW.begin (wy := w1.alloc (.cells Z 3)) (lb := w1.heap.size) (ab := w0.heap.size) (base := ((w0.alloc (.cells Y 3)).drew).heap.size) P.hz P.hl P.hl8 P.htl P.hd1 P.hd2 P.ra P.rb P.rc P.rd P.hN (owns_alloc hO _) (P.z w1 rfl) (fun p hp => (hK.at_ _ _ _ (by simp) (P.y w0 rfl p hp).drew).alloc _) (by first | omega | (simp; done) | (simp only [World.size_alloc]; omega) | (simp; omega)) (by first | omega | (simp; done) | (simp only [World.size_alloc]; omega) | (simp; omega)) (by omega) (fun g hg => by have := q g hg; omega)
  refine ⟨_, ?_, ⟨hb, Kept.alloc ((((Kept.refl (fun _ _ => False) w0).alloc _).drew.trans hK).alloc _) _, ?_, ?_, ?_⟩⟩
  · show _ = _
    first | omega | (simp; done) | (simp only [World.size_alloc]; omega) | (simp; omega) | (dsimp only; omega)
  · show _ ≤ _
    first | omega | (simp; done) | (simp only [World.size_alloc]; omega) | (simp; omega) | (dsimp only; omega)
  · show _ ≤ _
    first | omega | (simp; done) | (simp only [World.size_alloc]; omega) | (simp; omega) | (dsimp only; omega)
  · show _ ≤ _
    first | omega | (simp; done) | (simp only [World.size_alloc]; omega) | (simp; omega) | (dsimp only; omega)

theorem FMade.ofZYC {w0 w1 : World} {l : List Nat} {te dict N : Nat} {r : R4} {z : Int} {Z Y : Array Value} {aoc : Option Addr} {capc : Nat} (P : FPre l te dict r z N Z Y) (hK : Kept (fun _ _ => False) (((w0.alloc (.cells Z 3)).alloc (.cells Y 3)).drew) w1) (hO : w1.ownsRow (((w0.alloc (.cells Z 3)).alloc (.cells Y 3)).drew).heap.size 5 1 (.slice aoc l.length capc) l.length (bts l)) :
    ∃ F : FA, F.fb = w1.heap.size ∧ FMade w0 l te dict r F ((w1).alloc (.cells #[.slice aoc l.length capc, .int .i64 (te : Nat), .int .i64 z, .int .u32 (r.a : Nat), .int .u32 (r.b : Nat), .int .u32 (r.c : Nat), .int .u32 (r.d : Nat), .slice (some ⟨w0.heap.size, 0, none⟩) 65536 65536, .slice (some ⟨w0.heap.size + 1, 0, none⟩) N N, .int .i64 0] 96)) := by
  have s := hK.size
  have q := fun g hg => hO.lt g hg
  have sd : ∀ v : World, v.drew.heap.size = v.heap.size := fun _ => rfl
  (try simp only [sd, World.size_alloc] at s)
  (try simp only [sd, World.size_alloc] at q)
  have hb := FindW.begin (wy := w1) (lb := w0.heap.size) (ab := w0.heap.size + 1) (base := (((w0.alloc (.cells Z 3)).alloc (.cells Y 3)).drew).heap.size) P.hz P.hl P.hl8 P.htl P.hd1 P.hd2 P.ra P.rb P.rc P.rd P.hN (hO) (fun p hp => hK.at_ _ _ _ (by simp) ((P.z w0 rfl p hp).alloc _).drew) (fun p hp => hK.at_ _ _ _ (by simp) (P.y (w0.alloc (.cells Z 3)) (by simp) p hp).drew) (by first | omega | (simp; done) | (simp only [World.size_alloc]; omega) | (simp; omega)) (by first | omega | (simp; done) | (simp only [World.size_alloc]; omega) | (simp; omega)) (by omega) (fun g hg => by have := q g hg; omega)
  refine ⟨_, ?_, ⟨hb, Kept.alloc ((((Kept.refl (fun _ _ => False) w0).alloc _).alloc _).drew.trans hK) _, ?_, ?_, ?_⟩⟩
  · show _ = _
    first | omega | (simp; done) | (simp only [World.size_alloc]; omega) | (simp; omega) | (dsimp only; omega)
  · show _ ≤ _
    first | omega | (simp; done) | (simp only [World.size_alloc]; omega) | (simp; omega) | (dsimp only; omega)
  · show _ ≤ _
    first | omega | (simp; done) | (simp only [World.size_alloc]; omega) | (simp; omega) | (dsimp only; omega)
  · show _ ≤ _
    first | omega | (simp; done) | (simp only [World.size_alloc]; omega) | (simp; omega) | (dsimp only; omega)

theorem FMade.ofYZC {w0 w1 : World} {l : List Nat} {te dict N : Nat} {r : R4} {z : Int} {Z Y : Array Value} {aoc : Option Addr} {capc : Nat} (P : FPre l te dict r z N Z Y) (hK : Kept (fun _ _ => False) (((w0.alloc (.cells Y 3)).alloc (.cells Z 3)).drew) w1) (hO : w1.ownsRow (((w0.alloc (.cells Y 3)).alloc (.cells Z 3)).drew).heap.size 5 1 (.slice aoc l.length capc) l.length (bts l)) :
    ∃ F : FA, F.fb = w1.heap.size ∧ FMade w0 l te dict r F ((w1).alloc (.cells #[.slice aoc l.length capc, .int .i64 (te : Nat), .int .i64 z, .int .u32 (r.a : Nat), .int .u32 (r.b : Nat), .int .u32 (r.c : Nat), .int .u32 (r.d : Nat), .slice (some ⟨w0.heap.size + 1, 0, none⟩) 65536 65536, .slice (some ⟨w0.heap.size, 0, none⟩) N N, .int .i64 0] 96)) := by
  have s := hK.size
  have q := fun g hg => hO.lt g hg
  have sd : ∀ v : World, v.drew.heap.size = v.heap.size := fun _ => rfl
  (try simp only [sd, World.size_alloc] at s)
  (try simp only [sd, World.size_alloc] at q)
  have hb := FindW.begin (wy := w1) (lb := w0.heap.size + 1) (ab := w0.heap.size) (base := (((w0.alloc (.cells Y 3)).alloc (.cells Z 3)).drew).heap.size) P.hz P.hl P.hl8 P.htl P.hd1 P.hd2 P.ra P.rb P.rc P.rd P.hN (hO) (fun p hp => hK.at_ _ _ _ (by simp) (P.z (w0.alloc (.cells Y 3)) (by simp) p hp).drew) (fun p hp => hK.at_ _ _ _ (by simp) ((P.y w0 rfl p hp).alloc _).drew) (by first | omega | (simp; done) | (simp only [World.size_alloc]; omega) | (simp; omega)) (by first | omega | (simp; done) | (simp only [World.size_alloc]; omega) | (simp; omega)) (by omega) (fun g hg => by have := q g hg; omega)
  refine ⟨_, ?_, ⟨hb, Kept.alloc ((((Kept.refl (fun _ _ => False) w0).alloc _).alloc _).drew.trans hK) _, ?_, ?_, ?_⟩⟩
  · show _ = _
    first | omega | (simp; done) | (simp only [World.size_alloc]; omega) | (simp; omega) | (dsimp only; omega)
  · show _ ≤ _
    first | omega | (simp; done) | (simp only [World.size_alloc]; omega) | (simp; omega) | (dsimp only; omega)
  · show _ ≤ _
    first | omega | (simp; done) | (simp only [World.size_alloc]; omega) | (simp; omega) | (dsimp only; omega)
  · show _ ≤ _
    first | omega | (simp; done) | (simp only [World.size_alloc]; omega) | (simp; omega) | (dsimp only; omega)

end Go.Proofs.Ytahhcaooiahleaa
