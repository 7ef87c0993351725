/- What is proved: WireCut returns true and leaves its arguments as they were, for every list of numbers and any two numbers. Conditions: the two tables of unicode/utf8 hold what their initialisers lay. -/
import Derived.Test.YtldpjfopgbeiiaaDoorCPC
import Derived.Shelf.Unicode.DecodeAny
import Derived.Test.YtldpjfopgbeiiaaDoorProg
import Derived.Lib.LaidU8T
import Derived.PinnedBridge
import Derived.Test.YtldpjfopgbeiiaaDoorRows
import Derived.Test.YtldpjfopgbeiiaaDoorTie
import Derived.Test.YtldpjfopgbeiiaaDoorCards
import Derived.Lib.LaidIn
import Derived.LaidMore
import Derived.ProofKit
import Derived.OpenShut
import Derived.Stop.Joined
import Derived.SevenTiedAt

namespace Go.AI
open Go.Proofs Go
variable (W0 : World)
set_option maxRecDepth 20000
set_option maxHeartbeats 2000000

theorem c_same06 (a b : Cell) (h : H) : ACalls Tryd.prog W0 47 [.v (.agg a.v), .v (.agg b.v)] h fun r h' => r = .v (V.b (sameCell a b)) ∧ h' = h := by
  obtain ⟨a1, a2, a3, a4⟩ := a
  obtain ⟨b1, b2, b3, b4⟩ := b
  refine ACalls.of (C := CO [] fun _ => ([], [], 0)) (cOkO _ _) hP (fn := Tryd.f47) (by kernel_rfl) (by kernel_rfl) ?_
  exact ⟨rfl, rfl⟩

theorem c_sameCols (l1 l2 : List Col) (hl : l1.length ≤ 2 ^ 60) (h : H) : ACalls Tryd.prog W0 48 [.v (.sl 5 (l1.map (fun c => V.agg c.v))), .v (.sl 5 (l2.map (fun c => V.agg c.v)))] h fun r h' => r = .v (V.b (sameL sameCol l1 l2)) ∧ h' = h := by
  have h1 : (l1.map (fun c => V.agg c.v)).length = l1.length := List.length_map ..
  have h2 : (l2.map (fun c => V.agg c.v)).length = l2.length := List.length_map ..
  have kk : ∀ x : Bool, sameL sameCol l1 l2 = x → A.v (V.b x) = A.v (V.b (sameL sameCol l1 l2)) := by rintro x rfl; rfl
  refine ACalls.of (C := CO [] fun i => match i with | 6 => ([0, 1, 2, 3, 4, 5, 6, 7, 8, 9, 10, 11, 12, 13, 14, 15, 16, 17, 18, 19, 20, 21, 22, 23, 24], [], 1) | _ => ([], [], 0)) (cOkO _ _) hP (fn := Tryd.f48) (by kernel_rfl) (by kernel_rfl) ?_
  refine ⟨fun c1 => ?_, fun c1 => ?_⟩
  · have c2 : (((l1.map (fun c => V.agg c.v)).length : Int) != ((l2.map (fun c => V.agg c.v)).length : Int)) = true := c1
    rw [h1, h2] at c2
    have c3 : l1.length ≠ l2.length := by
      intro e; rw [e] at c2; simp at c2
    exact ⟨kk false (sameL_len c3), rfl⟩
  have c3 : l1.length = l2.length := by
    have c2 : (((l1.map (fun c => V.agg c.v)).length : Int) != ((l2.map (fun c => V.agg c.v)).length : Int)) = false := c1
    rw [h1, h2] at c2
    have : (l1.length : Int) = (l2.length : Int) := by simpa using c2
    omega
  refine ⟨0, [0, 1, 5], 0, fun m xs lo hh => lo = [] ∧ ∃ (d1 r1 d2 r2 : List Col) (k : Int), xs = [.v (.sl 5 (l1.map (fun c => V.agg c.v))), .v (.sl 5 (l2.map (fun c => V.agg c.v))), .v (V.i k)] ∧ hh = h ∧ m = r1.length ∧ l1 = d1 ++ r1 ∧ l2 = d2 ++ r2 ∧ k = d1.length ∧ d1.length = d2.length ∧ sameL sameCol l1 l2 = sameL sameCol r1 r2,
    ⟨l1.length, rfl, [], l1, [], l2, _, rfl, rfl, rfl, rfl, rfl, rfl, rfl, rfl⟩, ?_⟩
  rintro m xs lo hh ⟨rfl, d1, r1, d2, r2, k, rfl, rfl, rfl, e1, e2, rfl, e3, e4⟩
  have e5 : l1.length = d1.length + r1.length := by rw [e1, List.length_append]
  have e6 : l2.length = d2.length + r2.length := by rw [e2, List.length_append]
  refine ⟨fun c6 => ?_, fun c6 => ?_⟩
  · replace c6 : (d1.length : Int) < ((l1.map (fun c => V.agg c.v)).length : Int) := of_decide_eq_true c6
    cases r1 with
    | nil => exact absurd e5 (by simp only [List.length_nil]; omega)
    | cons c r1 =>
    cases r2 with
    | nil => exact absurd e6 (by simp only [List.length_nil, List.length_cons] at e5 ⊢; omega)
    | cons d r2 =>
    simp only [List.length_cons] at e5 e6
    have g1 : (l1.map (fun c => V.agg c.v))[((d1.length : Nat) : Int).toNat]? = some (.agg c.v) := by rw [Int.toNat_natCast, e1]; exact map_get _ d1 c r1
    have g2 : (l2.map (fun c => V.agg c.v))[((d1.length : Nat) : Int).toNat]? = some (.agg d.v) := by rw [Int.toNat_natCast, e2, e3]; exact map_get _ d2 d r2
    have hst : sameL sameCol (c :: r1) (d :: r2) = ((sameCol) c d && sameL sameCol r1 r2) := rfl
    refine ⟨[], fun _ => false, ?_⟩
    refine ⟨.agg c.v, ⟨by show (0:Int) ≤ (d1.length : Int); omega, g1⟩, ?_⟩
    refine ⟨Nat.zero_le _, ?_⟩
    refine ⟨.agg d.v, ⟨by show (0:Int) ≤ (d1.length : Int); omega, g2⟩, ?_⟩
    refine ⟨Nat.zero_le _, ?_⟩
    refine ⟨.agg c.v, fun hg => ⟨by show (0:Int) ≤ (d1.length : Int); omega, g1⟩, ?_⟩
    refine ⟨Nat.le_of_ble_eq_true rfl, ?_⟩
    refine ⟨.agg d.v, fun hg => ⟨by show (0:Int) ≤ (d1.length : Int); omega, g2⟩, ?_⟩
    refine ⟨Nat.le_of_ble_eq_true rfl, ?_⟩
    refine ⟨rfl, V.b (sameCell c.cell d.cell), fun hg => c_same06 W0 c.cell d.cell _, ?_⟩
    have conv : ∀ {x : Bool}, (bif !decide (c.name = d.name) then true else !sameCell c.cell d.cell) = x → (decide (c.name = d.name) && sameCell c.cell d.cell) = !x := by
      intro x hx
      rw [← hx]
      cases decide (c.name = d.name) <;> cases sameCell c.cell d.cell <;> rfl
    have conv2 := @conv false
    replace conv := @conv true

    refine ⟨fun c8 => ?_, fun c8 => ?_⟩
    · have c9 : (sameCol) c d = false := conv c8
      exact ⟨kk false (by rw [e4, hst, c9]; rfl), rfl⟩
    · have c9 : (sameCol) c d = true := conv2 c8
      refine ⟨by show inI64 ((d1.length : Int) + 1); unfold inI64; omega, ?_⟩
      refine ⟨r1.length, by show r1.length < r1.length + 1; omega, rfl, d1 ++ [c], r1, d2 ++ [d], r2, _, rfl, rfl, rfl, by rw [e1]; simp, by rw [e2]; simp, by simp, by simp [e3], ?_⟩
      rw [e4, hst, c9]; rfl
  · replace c6 : ¬ (d1.length : Int) < ((l1.map (fun c => V.agg c.v)).length : Int) := of_decide_eq_false c6
    cases r1 with
    | cons c r1 => exact absurd e5 (by simp only [List.length_cons]; omega)
    | nil =>
    cases r2 with
    | cons d r2 => exact absurd e6 (by simp only [List.length_nil, List.length_cons] at e5 ⊢; omega)
    | nil => exact ⟨kk true (by rw [e4]; rfl), rfl⟩

theorem c_same07 (a b : Row) (hl : a.cols.length ≤ 2 ^ 60) (h : H) : ACalls Tryd.prog W0 46 [.v (.agg a.v), .v (.agg b.v)] h fun r h' => r = .v (V.b (sameRow a b)) ∧ h' = h := by
  obtain ⟨a1, ⟨p1, p2, p3, p4⟩, a3, a4, a5⟩ := a
  obtain ⟨b1, ⟨q1, q2, q3, q4⟩, b3, b4, b5⟩ := b
  refine ACalls.of (C := CO [] fun _ => ([], [], 0)) (cOkO _ _) hP (fn := Tryd.f46) (by kernel_rfl) (by kernel_rfl) ?_
  refine ⟨rfl, V.b (sameCell ⟨p1, p2, p3, p4⟩ ⟨q1, q2, q3, q4⟩), fun hg => c_same06 W0 ⟨p1, p2, p3, p4⟩ ⟨q1, q2, q3, q4⟩ _, ?_⟩
  refine ⟨rfl, V.b (sameL sameCol a5 b5), fun hg => c_sameCols W0 a5 b5 hl _, ?_⟩
  exact ⟨rfl, rfl⟩

theorem c_sameRows (l1 l2 : List Row) (hl : l1.length ≤ 2 ^ 60) (hk : ∀ c ∈ l1, c.cols.length ≤ 2 ^ 60) (h : H) : ACalls Tryd.prog W0 41 [.v (.sl 8 (l1.map (fun c => V.agg c.v))), .v (.sl 8 (l2.map (fun c => V.agg c.v)))] h fun r h' => r = .v (V.b (sameL sameRow l1 l2)) ∧ h' = h := by
  have h1 : (l1.map (fun c => V.agg c.v)).length = l1.length := List.length_map ..
  have h2 : (l2.map (fun c => V.agg c.v)).length = l2.length := List.length_map ..
  have kk : ∀ x : Bool, sameL sameRow l1 l2 = x → A.v (V.b x) = A.v (V.b (sameL sameRow l1 l2)) := by rintro x rfl; rfl
  refine ACalls.of (C := CO [] fun i => match i with | 6 => ([0, 1, 2, 3, 4, 5, 6, 7, 8, 9], [], 1) | _ => ([], [], 0)) (cOkO _ _) hP (fn := Tryd.f41) (by kernel_rfl) (by kernel_rfl) ?_
  refine ⟨fun c1 => ?_, fun c1 => ?_⟩
  · have c2 : (((l1.map (fun c => V.agg c.v)).length : Int) != ((l2.map (fun c => V.agg c.v)).length : Int)) = true := c1
    rw [h1, h2] at c2
    have c3 : l1.length ≠ l2.length := by
      intro e; rw [e] at c2; simp at c2
    exact ⟨kk false (sameL_len c3), rfl⟩
  have c3 : l1.length = l2.length := by
    have c2 : (((l1.map (fun c => V.agg c.v)).length : Int) != ((l2.map (fun c => V.agg c.v)).length : Int)) = false := c1
    rw [h1, h2] at c2
    have : (l1.length : Int) = (l2.length : Int) := by simpa using c2
    omega
  refine ⟨0, [0, 1, 5], 0, fun m xs lo hh => lo = [] ∧ ∃ (d1 r1 d2 r2 : List Row) (k : Int), xs = [.v (.sl 8 (l1.map (fun c => V.agg c.v))), .v (.sl 8 (l2.map (fun c => V.agg c.v))), .v (V.i k)] ∧ hh = h ∧ m = r1.length ∧ l1 = d1 ++ r1 ∧ l2 = d2 ++ r2 ∧ k = d1.length ∧ d1.length = d2.length ∧ sameL sameRow l1 l2 = sameL sameRow r1 r2,
    ⟨l1.length, rfl, [], l1, [], l2, _, rfl, rfl, rfl, rfl, rfl, rfl, rfl, rfl⟩, ?_⟩
  rintro m xs lo hh ⟨rfl, d1, r1, d2, r2, k, rfl, rfl, rfl, e1, e2, rfl, e3, e4⟩
  have e5 : l1.length = d1.length + r1.length := by rw [e1, List.length_append]
  have e6 : l2.length = d2.length + r2.length := by rw [e2, List.length_append]
  refine ⟨fun c6 => ?_, fun c6 => ?_⟩
  · replace c6 : (d1.length : Int) < ((l1.map (fun c => V.agg c.v)).length : Int) := of_decide_eq_true c6
    cases r1 with
    | nil => exact absurd e5 (by simp only [List.length_nil]; omega)
    | cons c r1 =>
    cases r2 with
    | nil => exact absurd e6 (by simp only [List.length_nil, List.length_cons] at e5 ⊢; omega)
    | cons d r2 =>
    simp only [List.length_cons] at e5 e6
    have g1 : (l1.map (fun c => V.agg c.v))[((d1.length : Nat) : Int).toNat]? = some (.agg c.v) := by rw [Int.toNat_natCast, e1]; exact map_get _ d1 c r1
    have g2 : (l2.map (fun c => V.agg c.v))[((d1.length : Nat) : Int).toNat]? = some (.agg d.v) := by rw [Int.toNat_natCast, e2, e3]; exact map_get _ d2 d r2
    have hst : sameL sameRow (c :: r1) (d :: r2) = ((sameRow) c d && sameL sameRow r1 r2) := rfl
    refine ⟨[], fun _ => false, ?_⟩
    refine ⟨.agg c.v, ⟨by show (0:Int) ≤ (d1.length : Int); omega, g1⟩, ?_⟩
    refine ⟨.agg d.v, ⟨by show (0:Int) ≤ (d1.length : Int); omega, g2⟩, ?_⟩
    refine (c_same07 W0 c d (hk c (by rw [e1]; simp)) _).mono ?_
    rintro _ _ ⟨rfl, rfl⟩
    have conv : ∀ {x : Bool}, (!sameRow c d) = x → sameRow c d = !x := by
      intro x hx; rw [← hx]; cases sameRow c d <;> rfl
    have conv2 := @conv false
    replace conv := @conv true

    refine ⟨fun c8 => ?_, fun c8 => ?_⟩
    · have c9 : (sameRow) c d = false := conv c8
      exact ⟨kk false (by rw [e4, hst, c9]; rfl), rfl⟩
    · have c9 : (sameRow) c d = true := conv2 c8
      refine ⟨by show inI64 ((d1.length : Int) + 1); unfold inI64; omega, ?_⟩
      refine ⟨r1.length, by show r1.length < r1.length + 1; omega, rfl, d1 ++ [c], r1, d2 ++ [d], r2, _, rfl, rfl, rfl, by rw [e1]; simp, by rw [e2]; simp, by simp, by simp [e3], ?_⟩
      rw [e4, hst, c9]; rfl
  · replace c6 : ¬ (d1.length : Int) < ((l1.map (fun c => V.agg c.v)).length : Int) := of_decide_eq_false c6
    cases r1 with
    | cons c r1 => exact absurd e5 (by simp only [List.length_cons]; omega)
    | nil =>
    cases r2 with
    | cons d r2 => exact absurd e6 (by simp only [List.length_nil, List.length_cons] at e5 ⊢; omega)
    | nil => exact ⟨kk true (by rw [e4]; rfl), rfl⟩

theorem c_same08 (a b : Part) (ha : a.sized) (h : H) : ACalls Tryd.prog W0 33 [.v (.agg a.v), .v (.agg b.v)] h fun r h' => r = .v (V.b (samePart a b)) ∧ h' = h := by
  obtain ⟨a1, a2, a3⟩ := a
  obtain ⟨b1, b2, b3⟩ := b
  have h1 : a3.length ≤ 2 ^ 45 := ha.1
  have h2 : ∀ c ∈ a3, c.cols.length ≤ 2 ^ 45 := fun c hc => (ha.2 c hc).1
  refine ACalls.of (C := CO [] fun _ => ([], [], 0)) (cOkO _ _) hP (fn := Tryd.f33) (by kernel_rfl) (by kernel_rfl) ?_
  refine ⟨rfl, V.b (sameL sameRow a3 b3), fun hg => c_sameRows W0 a3 b3 (by omega) (fun c hc => by have := h2 c hc; omega) _, ?_⟩
  exact ⟨rfl, rfl⟩

theorem c_sameMuts (l1 l2 : List Mut) (hl : l1.length ≤ 2 ^ 60) (hk : ∀ c ∈ l1, c.sized) (h : H) : ACalls Tryd.prog W0 24 [.v (.sl 4 (l1.map (fun c => V.agg c.v))), .v (.sl 4 (l2.map (fun c => V.agg c.v)))] h fun r h' => r = .v (V.b (sameL sameMut l1 l2)) ∧ h' = h := by
  have h1 : (l1.map (fun c => V.agg c.v)).length = l1.length := List.length_map ..
  have h2 : (l2.map (fun c => V.agg c.v)).length = l2.length := List.length_map ..
  have kk : ∀ x : Bool, sameL sameMut l1 l2 = x → A.v (V.b x) = A.v (V.b (sameL sameMut l1 l2)) := by rintro x rfl; rfl
  refine ACalls.of (C := CO [] fun i => match i with | 6 => ([0, 1, 2, 3, 4, 5, 6, 7, 8, 9, 10, 11, 12, 13, 14, 15, 16, 17, 18, 19, 20, 21, 22, 23, 24], [], 1) | _ => ([], [], 0)) (cOkO _ _) hP (fn := Tryd.f24) (by kernel_rfl) (by kernel_rfl) ?_
  refine ⟨fun c1 => ?_, fun c1 => ?_⟩
  · have c2 : (((l1.map (fun c => V.agg c.v)).length : Int) != ((l2.map (fun c => V.agg c.v)).length : Int)) = true := c1
    rw [h1, h2] at c2
    have c3 : l1.length ≠ l2.length := by
      intro e; rw [e] at c2; simp at c2
    exact ⟨kk false (sameL_len c3), rfl⟩
  have c3 : l1.length = l2.length := by
    have c2 : (((l1.map (fun c => V.agg c.v)).length : Int) != ((l2.map (fun c => V.agg c.v)).length : Int)) = false := c1
    rw [h1, h2] at c2
    have : (l1.length : Int) = (l2.length : Int) := by simpa using c2
    omega
  refine ⟨0, [0, 1, 5], 0, fun m xs lo hh => lo = [] ∧ ∃ (d1 r1 d2 r2 : List Mut) (k : Int), xs = [.v (.sl 4 (l1.map (fun c => V.agg c.v))), .v (.sl 4 (l2.map (fun c => V.agg c.v))), .v (V.i k)] ∧ hh = h ∧ m = r1.length ∧ l1 = d1 ++ r1 ∧ l2 = d2 ++ r2 ∧ k = d1.length ∧ d1.length = d2.length ∧ sameL sameMut l1 l2 = sameL sameMut r1 r2,
    ⟨l1.length, rfl, [], l1, [], l2, _, rfl, rfl, rfl, rfl, rfl, rfl, rfl, rfl⟩, ?_⟩
  rintro m xs lo hh ⟨rfl, d1, r1, d2, r2, k, rfl, rfl, rfl, e1, e2, rfl, e3, e4⟩
  have e5 : l1.length = d1.length + r1.length := by rw [e1, List.length_append]
  have e6 : l2.length = d2.length + r2.length := by rw [e2, List.length_append]
  refine ⟨fun c6 => ?_, fun c6 => ?_⟩
  · replace c6 : (d1.length : Int) < ((l1.map (fun c => V.agg c.v)).length : Int) := of_decide_eq_true c6
    cases r1 with
    | nil => exact absurd e5 (by simp only [List.length_nil]; omega)
    | cons c r1 =>
    cases r2 with
    | nil => exact absurd e6 (by simp only [List.length_nil, List.length_cons] at e5 ⊢; omega)
    | cons d r2 =>
    simp only [List.length_cons] at e5 e6
    have g1 : (l1.map (fun c => V.agg c.v))[((d1.length : Nat) : Int).toNat]? = some (.agg c.v) := by rw [Int.toNat_natCast, e1]; exact map_get _ d1 c r1
    have g2 : (l2.map (fun c => V.agg c.v))[((d1.length : Nat) : Int).toNat]? = some (.agg d.v) := by rw [Int.toNat_natCast, e2, e3]; exact map_get _ d2 d r2
    have hst : sameL sameMut (c :: r1) (d :: r2) = ((sameMut) c d && sameL sameMut r1 r2) := rfl
    refine ⟨[], fun _ => false, ?_⟩
    refine ⟨.agg c.v, ⟨by show (0:Int) ≤ (d1.length : Int); omega, g1⟩, ?_⟩
    refine ⟨Nat.zero_le _, ?_⟩
    refine ⟨.agg d.v, ⟨by show (0:Int) ≤ (d1.length : Int); omega, g2⟩, ?_⟩
    refine ⟨Nat.zero_le _, ?_⟩
    refine ⟨.agg c.v, fun hg => ⟨by show (0:Int) ≤ (d1.length : Int); omega, g1⟩, ?_⟩
    refine ⟨Nat.le_of_ble_eq_true rfl, ?_⟩
    refine ⟨.agg d.v, fun hg => ⟨by show (0:Int) ≤ (d1.length : Int); omega, g2⟩, ?_⟩
    refine ⟨Nat.le_of_ble_eq_true rfl, ?_⟩
    refine ⟨rfl, V.b (samePart c.part d.part), fun hg => c_same08 W0 c.part d.part (hk c (by rw [e1]; simp)).2 _, ?_⟩
    have conv : ∀ {x : Bool}, (bif !decide (c.table = d.table) then true else !samePart c.part d.part) = x → (decide (c.table = d.table) && samePart c.part d.part) = !x := by
      intro x hx
      rw [← hx]
      cases decide (c.table = d.table) <;> cases samePart c.part d.part <;> rfl
    have conv2 := @conv false
    replace conv := @conv true

    refine ⟨fun c8 => ?_, fun c8 => ?_⟩
    · have c9 : (sameMut) c d = false := conv c8
      exact ⟨kk false (by rw [e4, hst, c9]; rfl), rfl⟩
    · have c9 : (sameMut) c d = true := conv2 c8
      refine ⟨by show inI64 ((d1.length : Int) + 1); unfold inI64; omega, ?_⟩
      refine ⟨r1.length, by show r1.length < r1.length + 1; omega, rfl, d1 ++ [c], r1, d2 ++ [d], r2, _, rfl, rfl, rfl, by rw [e1]; simp, by rw [e2]; simp, by simp, by simp [e3], ?_⟩
      rw [e4, hst, c9]; rfl
  · replace c6 : ¬ (d1.length : Int) < ((l1.map (fun c => V.agg c.v)).length : Int) := of_decide_eq_false c6
    cases r1 with
    | cons c r1 => exact absurd e5 (by simp only [List.length_cons]; omega)
    | nil =>
    cases r2 with
    | cons d r2 => exact absurd e6 (by simp only [List.length_nil, List.length_cons] at e5 ⊢; omega)
    | nil => exact ⟨kk true (by rw [e4]; rfl), rfl⟩

theorem c_sameStrs (l1 l2 : List Str) (hl : l1.length ≤ 2 ^ 60) (h : H) : ACalls Tryd.prog W0 25 [.v (.sl 1 (l1.map V.s)), .v (.sl 1 (l2.map V.s))] h fun r h' => r = .v (V.b (sameL (fun s t : Str => decide (s = t)) l1 l2)) ∧ h' = h := by
  have h1 : (l1.map V.s).length = l1.length := List.length_map ..
  have h2 : (l2.map V.s).length = l2.length := List.length_map ..
  have kk : ∀ x : Bool, sameL (fun s t : Str => decide (s = t)) l1 l2 = x → A.v (V.b x) = A.v (V.b (sameL (fun s t : Str => decide (s = t)) l1 l2)) := by rintro x rfl; rfl
  refine ACalls.of (C := CO [] fun i => match i with | 6 => ([0, 1, 2, 3, 4, 5, 6, 7, 8], [], 0) | _ => ([], [], 0)) (cOkO _ _) hP (fn := Tryd.f25) (by kernel_rfl) (by kernel_rfl) ?_
  refine ⟨fun c1 => ?_, fun c1 => ?_⟩
  · have c2 : (((l1.map V.s).length : Int) != ((l2.map V.s).length : Int)) = true := c1
    rw [h1, h2] at c2
    have c3 : l1.length ≠ l2.length := by
      intro e; rw [e] at c2; simp at c2
    exact ⟨kk false (sameL_len c3), rfl⟩
  have c3 : l1.length = l2.length := by
    have c2 : (((l1.map V.s).length : Int) != ((l2.map V.s).length : Int)) = false := c1
    rw [h1, h2] at c2
    have : (l1.length : Int) = (l2.length : Int) := by simpa using c2
    omega
  refine ⟨0, [0, 1, 5], 0, fun m xs lo hh => lo = [] ∧ ∃ (d1 r1 d2 r2 : List Str) (k : Int), xs = [.v (.sl 1 (l1.map V.s)), .v (.sl 1 (l2.map V.s)), .v (V.i k)] ∧ hh = h ∧ m = r1.length ∧ l1 = d1 ++ r1 ∧ l2 = d2 ++ r2 ∧ k = d1.length ∧ d1.length = d2.length ∧ sameL (fun s t : Str => decide (s = t)) l1 l2 = sameL (fun s t : Str => decide (s = t)) r1 r2,
    ⟨l1.length, rfl, [], l1, [], l2, _, rfl, rfl, rfl, rfl, rfl, rfl, rfl, rfl⟩, ?_⟩
  rintro m xs lo hh ⟨rfl, d1, r1, d2, r2, k, rfl, rfl, rfl, e1, e2, rfl, e3, e4⟩
  have e5 : l1.length = d1.length + r1.length := by rw [e1, List.length_append]
  have e6 : l2.length = d2.length + r2.length := by rw [e2, List.length_append]
  refine ⟨fun c6 => ?_, fun c6 => ?_⟩
  · replace c6 : (d1.length : Int) < ((l1.map V.s).length : Int) := of_decide_eq_true c6
    cases r1 with
    | nil => exact absurd e5 (by simp only [List.length_nil]; omega)
    | cons c r1 =>
    cases r2 with
    | nil => exact absurd e6 (by simp only [List.length_nil, List.length_cons] at e5 ⊢; omega)
    | cons d r2 =>
    simp only [List.length_cons] at e5 e6
    have g1 : (l1.map V.s)[((d1.length : Nat) : Int).toNat]? = some (V.s c) := by rw [Int.toNat_natCast, e1]; exact map_get _ d1 c r1
    have g2 : (l2.map V.s)[((d1.length : Nat) : Int).toNat]? = some (V.s d) := by rw [Int.toNat_natCast, e2, e3]; exact map_get _ d2 d r2
    have hst : sameL (fun s t : Str => decide (s = t)) (c :: r1) (d :: r2) = (((fun s t : Str => decide (s = t))) c d && sameL (fun s t : Str => decide (s = t)) r1 r2) := rfl
    refine ⟨V.s c, ⟨by show (0:Int) ≤ (d1.length : Int); omega, g1⟩, ?_⟩
    refine ⟨V.s d, ⟨by show (0:Int) ≤ (d1.length : Int); omega, g2⟩, ?_⟩
    have conv : ∀ {x : Bool}, (!decide (c = d)) = x → decide (c = d) = !x := by
      intro x hx; rw [← hx]; cases decide (c = d) <;> rfl
    have conv2 := @conv false
    replace conv := @conv true

    refine ⟨fun c8 => ?_, fun c8 => ?_⟩
    · have c9 : ((fun s t : Str => decide (s = t))) c d = false := conv c8
      exact ⟨kk false (by rw [e4, hst, c9]; rfl), rfl⟩
    · have c9 : ((fun s t : Str => decide (s = t))) c d = true := conv2 c8
      refine ⟨by show inI64 ((d1.length : Int) + 1); unfold inI64; omega, ?_⟩
      refine ⟨r1.length, by show r1.length < r1.length + 1; omega, rfl, d1 ++ [c], r1, d2 ++ [d], r2, _, rfl, rfl, rfl, by rw [e1]; simp, by rw [e2]; simp, by simp, by simp [e3], ?_⟩
      rw [e4, hst, c9]; rfl
  · replace c6 : ¬ (d1.length : Int) < ((l1.map V.s).length : Int) := of_decide_eq_false c6
    cases r1 with
    | cons c r1 => exact absurd e5 (by simp only [List.length_cons]; omega)
    | nil =>
    cases r2 with
    | cons d r2 => exact absurd e6 (by simp only [List.length_nil, List.length_cons] at e5 ⊢; omega)
    | nil => exact ⟨kk true (by rw [e4]; rfl), rfl⟩

theorem c_sameMsg (a b : Msg) (ha : a.sized) (h1 : a.muts.length ≤ 2 ^ 60) (h2 : a.keys.length ≤ 2 ^ 60) (h : H) : ACalls Tryd.prog W0 12 [.v (.agg a.v), .v (.agg b.v)] h fun r h' => r = .v (V.b (sameMsg a b)) ∧ h' = h := by
  obtain ⟨a1, a2, a3, a4, a5, a6, a7⟩ := a
  obtain ⟨b1, b2, b3, b4, b5, b6, b7⟩ := b
  refine ACalls.of (C := CO [] fun _ => ([], [], 0)) (cOkO _ _) hP (fn := Tryd.f12) (by kernel_rfl) (by kernel_rfl) ?_
  refine ⟨rfl, V.b (sameL sameMut a5 b5), fun hg => c_sameMuts W0 a5 b5 h1 ha _, ?_⟩
  refine ⟨rfl, V.b (sameL (fun s t : Str => decide (s = t)) a6 b6), fun hg => c_sameStrs W0 a6 b6 h2 _, ?_⟩
  exact ⟨rfl, rfl⟩
end Go.AI

namespace Go.AI
open Go.Proofs Go
variable (W0 : World)
set_option maxRecDepth 20000
set_option maxHeartbeats 2000000

theorem all_split {α : Type} {p : α → Bool} {l d r : List α} (hd : l = d ++ r) (h : d.all p = true) : l.all p = r.all p := by rw [hd, List.all_append, h, Bool.true_and]

theorem c_fewRow (r : Row) (h : H) : ACalls Tryd.prog W0 40 [.v (.agg r.v)] h fun x h' => x = .v (V.b (fewRow r)) ∧ h' = h := by
  obtain ⟨key, ⟨val, dead, at_, end_⟩, gone, shade, cols⟩ := r
  have h1 : (cols.map fun c => V.agg c.v).length = cols.length := List.length_map ..
  obtain ⟨p, hp⟩ : ∃ p : Col → Bool, p = fun c => decide (c.name.size ≤ 300) && decide (c.cell.val.size ≤ 300) := ⟨_, rfl⟩
  have hsp : fewRow ⟨key, ⟨val, dead, at_, end_⟩, gone, shade, cols⟩ = ((decide (key.size ≤ 1000) && decide (cols.length ≤ 20) && decide (val.size ≤ 1000)) && cols.all p) := by rw [hp]; rfl
  rw [hsp]
  refine ACalls.of (C := CO [] fun _ => ([], [], 0)) (cOkO _ _) hP (fn := Tryd.f40) (by kernel_rfl) (by kernel_rfl) ?_
  have conv : ∀ x : Bool, x = (bif (bif decide ((1000:Int) < (key.size : Int)) then true else decide ((20:Int) < ((cols.map fun c => V.agg c.v).length : Int))) then true else decide ((1000:Int) < (val.size : Int))) →
      x = !(decide (key.size ≤ 1000) && decide (cols.length ≤ 20) && decide (val.size ≤ 1000)) := by
    rintro x rfl
    rw [h1, dec_lt key.size 1000 1000 rfl, dec_lt cols.length 20 20 rfl, dec_lt val.size 1000 1000 rfl]
    cases decide (key.size ≤ 1000) <;> cases decide (cols.length ≤ 20) <;> cases decide (val.size ≤ 1000) <;> rfl
  refine ⟨fun c4 => ?_, fun c4 => ?_⟩
  · replace c4 := not_t ((conv _ rfl).symm.trans c4)
    rw [c4]
    exact ⟨rfl, rfl⟩
  replace c4 := not_f ((conv _ rfl).symm.trans c4)
  have hl : cols.length ≤ 20 := by
    have := c4
    simp only [Bool.and_eq_true, decide_eq_true_eq] at this
    exact this.1.2
  rw [c4]
  refine ⟨0, [1, 3], 1, fun m xs l h2 => ∃ (d r : List Col) (k : Int), xs = [.lp 0 0, .v (V.i k)] ∧ l = [.cells [.v (V.s key), .v (V.s val), .v (V.b dead), .v (V.i at_), .v (V.i end_), .v (V.i gone), .v (V.i shade), .v (.sl 5 (cols.map fun c => .agg c.v))]] ∧ h2 = h ∧ m = r.length ∧ cols = d ++ r ∧ k = d.length ∧ d.all p = true,
    ⟨cols.length, [], cols, _, rfl, rfl, rfl, rfl, rfl, rfl, rfl⟩, ?_⟩
  rintro m xs l h2 ⟨d, r, k, rfl, rfl, rfl, rfl, hd, rfl, hall⟩
  have hdl : cols.length = d.length + r.length := by rw [hd, List.length_append]
  have hal := all_split hd hall
  refine ⟨fun c6 => ?_, fun c6 => ?_⟩
  · replace c6 : (d.length : Int) < ((cols.map fun c => V.agg c.v).length : Int) := of_decide_eq_true c6
    cases r with
    | nil => exact absurd hdl (by simp only [List.length_nil]; omega)
    | cons c r =>
    simp only [List.length_cons] at hdl
    have g1 : (cols.map fun c => V.agg c.v)[((d.length : Nat) : Int).toNat]? = some (.agg c.v) := by rw [Int.toNat_natCast, hd]; exact map_get _ d c r
    refine ⟨.agg c.v, ⟨by show (0:Int) ≤ (d.length : Int); omega, g1⟩, ?_⟩
    refine ⟨Nat.zero_le _, ?_⟩
    refine ⟨.agg c.v, fun hg => ⟨by show (0:Int) ≤ (d.length : Int); omega, g1⟩, ?_⟩
    refine ⟨Nat.le_of_ble_eq_true rfl, ?_⟩
    refine ⟨Nat.zero_le _, ?_⟩
    have conv : ∀ {x : Bool}, (bif decide ((300:Int) < (c.name.size : Int)) then true else decide ((300:Int) < (c.cell.val.size : Int))) = x → p c = !x := by
      intro x hx
      rw [← hx, hp, dec_lt c.name.size 300 300 rfl, dec_lt c.cell.val.size 300 300 rfl]
      show (decide (c.name.size ≤ 300) && decide (c.cell.val.size ≤ 300)) = _
      cases decide (c.name.size ≤ 300) <;> cases decide (c.cell.val.size ≤ 300) <;> rfl
    refine ⟨fun c8 => ?_, fun c8 => ?_⟩
    · have c9 : p c = false := conv c8
      rw [hal, List.all_cons, c9]
      exact ⟨rfl, rfl⟩
    · have c9 : p c = true := conv c8
      refine ⟨by show inI64 ((d.length : Int) + 1); unfold inI64; omega, ?_⟩
      exact ⟨r.length, by show r.length < r.length + 1; omega, d ++ [c], r, _, rfl, rfl, rfl, rfl, by rw [hd]; simp, by simp, by rw [List.all_append, hall, List.all_cons, c9]; rfl⟩
  · replace c6 : ¬ (d.length : Int) < ((cols.map fun c => V.agg c.v).length : Int) := of_decide_eq_false c6
    cases r with
    | cons c r => exact absurd hdl (by simp only [List.length_cons]; omega)
    | nil =>
    rw [hal]
    exact ⟨rfl, rfl⟩

theorem c_fewPart (p : Part) (most : Int) (hmost : most ≤ 2 ^ 60) (h : H) : ACalls Tryd.prog W0 32 [.v (.agg p.v), .v (V.i most)] h fun x h' => x = .v (V.b (fewPart p most)) ∧ h' = h := by
  obtain ⟨key, gone, rows⟩ := p
  have h1 : (rows.map fun c => V.agg c.v).length = rows.length := List.length_map ..
  have hsp : fewPart ⟨key, gone, rows⟩ most = ((decide (key.size ≤ 300) && decide ((rows.length : Int) ≤ most)) && rows.all fewRow) := rfl
  rw [hsp]
  refine ACalls.of (C := CO [] fun _ => ([], [], 0)) (cOkO _ _) hP (fn := Tryd.f32) (by kernel_rfl) (by kernel_rfl) ?_
  have conv : ∀ x : Bool, x = (bif decide ((300:Int) < (key.size : Int)) then true else decide (most < ((rows.map fun c => V.agg c.v).length : Int))) →
      x = !(decide (key.size ≤ 300) && decide ((rows.length : Int) ≤ most)) := by
    rintro x rfl
    have e : decide (most < (rows.length : Int)) = !decide ((rows.length : Int) ≤ most) := by
      by_cases hh : (rows.length : Int) ≤ most
      · rw [decide_eq_true hh, decide_eq_false (by omega)]; rfl
      · rw [decide_eq_false hh, decide_eq_true (by omega)]; rfl
    rw [h1, dec_lt key.size 300 300 rfl, e]
    cases decide (key.size ≤ 300) <;> cases decide ((rows.length : Int) ≤ most) <;> rfl
  refine ⟨fun c4 => ?_, fun c4 => ?_⟩
  · replace c4 := not_t ((conv _ rfl).symm.trans c4)
    rw [c4]
    exact ⟨rfl, rfl⟩
  replace c4 := not_f ((conv _ rfl).symm.trans c4)
  have hl1 : (rows.length : Int) ≤ most := by
    have := c4
    simp only [Bool.and_eq_true, decide_eq_true_eq] at this
    exact this.2
  rw [c4]
  refine ⟨0, [2, 5], 1, fun m xs l h2 => ∃ (d r : List Row) (k : Int), xs = [.lp 0 0, .v (V.i k)] ∧ l = [.cells [.v (V.s key), .v (V.i gone), .v (.sl 8 (rows.map fun c => .agg c.v))]] ∧ h2 = h ∧ m = r.length ∧ rows = d ++ r ∧ k = d.length ∧ d.all fewRow = true,
    ⟨rows.length, [], rows, _, rfl, rfl, rfl, rfl, rfl, rfl, rfl⟩, ?_⟩
  rintro m xs l h2 ⟨d, r, k, rfl, rfl, rfl, rfl, hd, rfl, hall⟩
  have hdl : rows.length = d.length + r.length := by rw [hd, List.length_append]
  have hal := all_split hd hall
  refine ⟨fun c6 => ?_, fun c6 => ?_⟩
  · replace c6 : (d.length : Int) < ((rows.map fun c => V.agg c.v).length : Int) := of_decide_eq_true c6
    cases r with
    | nil => exact absurd hdl (by simp only [List.length_nil]; omega)
    | cons c r =>
    simp only [List.length_cons] at hdl
    have g1 : (rows.map fun c => V.agg c.v)[((d.length : Nat) : Int).toNat]? = some (.agg c.v) := by rw [Int.toNat_natCast, hd]; exact map_get _ d c r
    refine ⟨.agg c.v, ⟨by show (0:Int) ≤ (d.length : Int); omega, g1⟩, ?_⟩
    refine (c_fewRow W0 c _).mono ?_
    rintro _ _ ⟨rfl, rfl⟩
    refine ⟨fun c8 => ?_, fun c8 => ?_⟩
    · have c9 : fewRow c = false := not_t c8
      rw [hal, List.all_cons, c9]
      exact ⟨rfl, rfl⟩
    · have c9 : fewRow c = true := not_f c8
      refine ⟨by show inI64 ((d.length : Int) + 1); unfold inI64; omega, ?_⟩
      exact ⟨r.length, by show r.length < r.length + 1; omega, d ++ [c], r, _, rfl, rfl, rfl, rfl, by rw [hd]; simp, by simp, by rw [List.all_append, hall, List.all_cons, c9]; rfl⟩
  · replace c6 : ¬ (d.length : Int) < ((rows.map fun c => V.agg c.v).length : Int) := of_decide_eq_false c6
    cases r with
    | cons c r => exact absurd hdl (by simp only [List.length_cons]; omega)
    | nil =>
    rw [hal]
    exact ⟨rfl, rfl⟩

theorem c_fewMuts (l : List Mut) (most rows : Int) (hmost : most ≤ 2 ^ 60) (hrows : rows ≤ 2 ^ 60) (h : H) : ACalls Tryd.prog W0 22 [.v (.sl 4 (l.map fun m => .agg m.v)), .v (V.i most), .v (V.i rows)] h fun x h' => x = .v (V.b (fewMuts l most rows)) ∧ h' = h := by
  have h1 : (l.map fun c => V.agg c.v).length = l.length := List.length_map ..
  obtain ⟨p, hp⟩ : ∃ p : Mut → Bool, p = fun m => decide (m.table.size ≤ 300) && fewPart m.part rows := ⟨_, rfl⟩
  have hsp : fewMuts l most rows = (decide ((l.length : Int) ≤ most) && l.all p) := by rw [hp]; rfl
  rw [hsp]
  refine ACalls.of (C := CO [] fun _ => ([], [], 0)) (cOkO _ _) hP (fn := Tryd.f22) (by kernel_rfl) (by kernel_rfl) ?_
  refine ⟨0, [0, 1, 2, 7], 0, fun m xs lo h2 => lo = [] ∧ ∃ (d r : List Mut) (k : Int), xs = [.v (.sl 4 (l.map fun m => .agg m.v)), .v (V.i most), .v (V.i rows), .v (V.i k)] ∧ h2 = h ∧ m = r.length ∧ l = d ++ r ∧ k = d.length ∧ d.all p = true,
    ⟨l.length, rfl, [], l, _, rfl, rfl, rfl, rfl, rfl, rfl⟩, ?_⟩
  rintro m xs lo h2 ⟨rfl, d, r, k, rfl, rfl, rfl, hd, rfl, hall⟩
  have hdl : l.length = d.length + r.length := by rw [hd, List.length_append]
  have hal := all_split hd hall
  have conv : ∀ {x : Bool}, (bif decide ((d.length : Int) < ((l.map fun c => V.agg c.v).length : Int)) then decide ((d.length : Int) < most) else false) = x → (x = true ↔ (d.length < l.length ∧ (d.length : Int) < most)) := by
    intro x hx
    rw [← hx, h1]
    simp only [Bool.cond_false_right, Bool.and_eq_true, decide_eq_true_eq]
    omega
  refine ⟨fun c6 => ?_, fun c6 => ?_⟩
  · obtain ⟨c6, c7⟩ := (conv c6).1 rfl
    cases r with
    | nil => exact absurd hdl (by simp only [List.length_nil]; omega)
    | cons c r =>
    simp only [List.length_cons] at hdl
    have g1 : (l.map fun c => V.agg c.v)[((d.length : Nat) : Int).toNat]? = some (.agg c.v) := by rw [Int.toNat_natCast, hd]; exact map_get _ d c r
    refine ⟨.agg c.v, ⟨by show (0:Int) ≤ (d.length : Int); omega, g1⟩, ?_⟩
    refine ⟨Nat.zero_le _, ?_⟩
    refine ⟨.agg c.v, fun hg => ⟨by show (0:Int) ≤ (d.length : Int); omega, g1⟩, ?_⟩
    refine ⟨Nat.le_of_ble_eq_true rfl, ?_⟩
    refine ⟨rfl, V.b (fewPart c.part rows), fun hg => c_fewPart W0 c.part rows hrows _, ?_⟩
    have conv : ∀ {x : Bool}, (bif decide ((300:Int) < (c.table.size : Int)) then true else !fewPart c.part rows) = x → p c = !x := by
      intro x hx
      rw [← hx, hp, dec_lt c.table.size 300 300 rfl]
      show (decide (c.table.size ≤ 300) && fewPart c.part rows) = _
      cases decide (c.table.size ≤ 300) <;> cases fewPart c.part rows <;> rfl
    refine ⟨fun c8 => ?_, fun c8 => ?_⟩
    · have c9 : p c = false := conv c8
      rw [hal, List.all_cons, c9]
      exact ⟨congrArg (fun x => A.v (V.b x)) (by simp), rfl⟩
    · have c9 : p c = true := conv c8
      refine ⟨by show inI64 ((d.length : Int) + 1); unfold inI64; omega, ?_⟩
      exact ⟨r.length, by show r.length < r.length + 1; omega, rfl, d ++ [c], r, _, rfl, rfl, rfl, by rw [hd]; simp, by simp, by rw [List.all_append, hall, List.all_cons, c9]; rfl⟩
  · replace c6 : ¬ (d.length < l.length ∧ (d.length : Int) < most) := fun hh => Bool.false_ne_true ((conv c6).2 hh)
    refine ⟨congrArg (fun x => A.v (V.b x)) ?_, rfl⟩
    show decide (((l.map fun c => V.agg c.v).length : Int) ≤ most) = (decide ((l.length : Int) ≤ most) && l.all p)
    rw [h1]
    by_cases hm : (l.length : Int) ≤ most
    · have : r = [] := by
        cases r with
        | nil => rfl
        | cons c r => exact absurd ⟨by simp only [List.length_cons] at hdl; omega, by simp only [List.length_cons] at hdl; omega⟩ c6
      rw [hal, this]; simp
    · simp [hm]

theorem c_few (m : Msg) (h : H) : ACalls Tryd.prog W0 10 [.v (.agg m.v)] h fun x h' => x = .v (V.b (fewMsg m)) ∧ h' = h := by
  obtain ⟨kind, frm, to, id, muts, keys, num⟩ := m
  have e1 : (keys.map V.s).length = keys.length := List.length_map ..
  obtain ⟨p, hp⟩ : ∃ p : Str → Bool, p = fun s => decide (s.size ≤ 300) := ⟨_, rfl⟩
  have hsp : fewMsg ⟨kind, frm, to, id, muts, keys, num⟩ = ((decide (keys.length ≤ 50) && keys.all p) && fewMuts muts 20 10) := by rw [hp]; rfl
  rw [hsp]
  refine ACalls.of (C := CO [] fun _ => ([], [], 0)) (cOkO _ _) hP (fn := Tryd.f10) (by kernel_rfl) (by kernel_rfl) ?_
  refine ⟨0, [1, 3], 1, fun m xs l h2 => ∃ (d r : List Str) (k : Int), xs = [.lp 0 0, .v (V.i k)] ∧ l = [.cells [.v (V.i kind), .v (V.i frm), .v (V.i to), .v (V.i id), .v (.sl 4 (muts.map fun x => .agg x.v)), .v (.sl 1 (keys.map V.s)), .v (V.i num)]] ∧ h2 = h ∧ m = r.length ∧ keys = d ++ r ∧ k = d.length ∧ d.all p = true,
    ⟨keys.length, [], keys, _, rfl, rfl, rfl, rfl, rfl, rfl, rfl⟩, ?_⟩
  rintro m xs lo h2 ⟨d, r, k, rfl, rfl, rfl, rfl, hd, rfl, hall⟩
  have hdl : keys.length = d.length + r.length := by rw [hd, List.length_append]
  have hal := all_split hd hall
  have conv : ∀ {x : Bool}, (bif decide ((d.length : Int) < ((keys.map V.s).length : Int)) then decide ((d.length : Int) < 50) else false) = x → (x = true ↔ (d.length < keys.length ∧ d.length < 50)) := by
    intro x hx
    rw [← hx, e1]
    simp only [Bool.cond_false_right, Bool.and_eq_true, decide_eq_true_eq]
    omega
  refine ⟨fun c6 => ?_, fun c6 => ?_⟩
  · obtain ⟨c6, c7⟩ := (conv c6).1 rfl
    cases r with
    | nil => exact absurd hdl (by simp only [List.length_nil]; omega)
    | cons c r =>
    simp only [List.length_cons] at hdl
    have g1 : (keys.map V.s)[((d.length : Nat) : Int).toNat]? = some (V.s c) := by rw [Int.toNat_natCast, hd]; exact map_get _ d c r
    refine ⟨V.s c, ⟨by show (0:Int) ≤ (d.length : Int); omega, g1⟩, ?_⟩
    have conv : ∀ {x : Bool}, decide ((300:Int) < (c.size : Int)) = x → p c = !x := by
      intro x hx
      rw [← hx, hp, dec_lt c.size 300 300 rfl, Bool.not_not]
    refine ⟨fun c8 => ?_, fun c8 => ?_⟩
    · have c9 : p c = false := conv c8
      rw [hal, List.all_cons, c9]
      exact ⟨congrArg (fun x => A.v (V.b x)) (by simp), rfl⟩
    · have c9 : p c = true := conv c8
      refine ⟨by show inI64 ((d.length : Int) + 1); unfold inI64; omega, ?_⟩
      exact ⟨r.length, by show r.length < r.length + 1; omega, d ++ [c], r, _, rfl, rfl, rfl, rfl, by rw [hd]; simp, by simp, by rw [List.all_append, hall, List.all_cons, c9]; rfl⟩
  · replace c6 : ¬ (d.length < keys.length ∧ d.length < 50) := fun hh => Bool.false_ne_true ((conv c6).2 hh)
    refine ⟨rfl, V.b (fewMuts muts 20 10), fun hg => c_fewMuts W0 muts 20 10 (by decide) (by decide) _, ?_⟩
    refine ⟨congrArg (fun x => A.v (V.b x)) ?_, rfl⟩
    show (bif decide (((keys.map V.s).length : Int) ≤ 50) then fewMuts muts 20 10 else false) = ((decide (keys.length ≤ 50) && keys.all p) && fewMuts muts 20 10)
    rw [e1]
    by_cases hm : keys.length ≤ 50
    · have : r = [] := by
        cases r with
        | nil => rfl
        | cons c r => exact absurd ⟨by simp only [List.length_cons] at hdl; omega, by simp only [List.length_cons] at hdl; omega⟩ c6
      have e2 : decide ((keys.length : Int) ≤ 50) = true := decide_eq_true (by omega)
      rw [hal, this, e2]; simp [hm]
    · have e2 : decide ((keys.length : Int) ≤ 50) = false := decide_eq_false (by omega)
      rw [e2]; simp [hm]

theorem few_sized {m : Msg} (h : fewMsg m = true) : m.sized ∧ m.muts.length ≤ 20 ∧ m.keys.length ≤ 50 := by
  simp only [fewMsg, fewMuts, Bool.and_eq_true, decide_eq_true_eq, List.all_eq_true] at h
  obtain ⟨⟨h1, h2⟩, h3, h4⟩ := h
  refine ⟨fun x hx => ?_, by omega, h1⟩
  obtain ⟨a1, a2⟩ := h4 x hx
  simp only [fewPart, Bool.and_eq_true, decide_eq_true_eq, List.all_eq_true] at a2
  obtain ⟨⟨b1, b2⟩, b3⟩ := a2
  refine ⟨by omega, by omega, fun r hr => ?_⟩
  have := b3 r hr
  simp only [fewRow, Bool.and_eq_true, decide_eq_true_eq, List.all_eq_true] at this
  obtain ⟨⟨⟨d1, d2⟩, d3⟩, d4⟩ := this
  exact ⟨by omega, fun c hc => by have := (d4 c hc).1; omega⟩
end Go.AI

namespace Go.AI
open Go.Proofs Go
variable (W0 : World)
set_option maxRecDepth 20000
set_option maxHeartbeats 2000000

theorem doneMsg_v : doneMsg.v = [V.i 2, V.i 0, V.i 0, V.i 0, .sl 4 [], .sl 1 [], V.i 0] := rfl
theorem c_awake (hD : DecC W0) (h : H) : ACalls Tryd.prog W0 9 [] h fun r h' => r = .v (V.b true) ∧ h' = h := by
  have c := c_Put W0 hD doneMsg (fun x hx => by cases hx)
  rw [awake_put, doneMsg_v] at c
  refine ACalls.of (C := CO [] fun _ => ([], [], 0)) (cOkO _ _) hP (fn := Tryd.f9) (by kernel_rfl) (by kernel_rfl) ?_
  refine (c _).mono ?_
  rintro _ _ ⟨rfl, rfl⟩
  refine ⟨congrArg (fun x => A.v (V.b x)) ?_, rfl⟩
  show (bif ((0:Int) == 0) then decide ((⟨#[1, 2, 0, 0, 0, 0, 0, 0]⟩ : ByteArray) = ⟨#[1, 2, 0, 0, 0, 0, 0, 0]⟩) else false) = true
  simp

theorem c_WireBack (hD : DecC W0) (m : Msg) (s : Str) (h : H) : ACalls Tryd.prog W0 4 [.v (.agg m.v), .v (V.s s)] h fun r h' => r = .v (V.b true) ∧ h' = h := by
  have cf := c_few W0 m
  have caw := c_awake W0 hD
  have hsz := @few_sized m
  have cput := c_Put W0 hD m
  have hgp := @get_put m
  have hgm := @get_put_more m
  have hpo := @putMsg_ok m
  obtain ⟨a, e, hp⟩ : ∃ a e, putMsg m = (a, e) := ⟨_, _, rfl⟩
  rw [hp] at cput hgp hgm hpo
  have cg := c_Get W0 hD s
  have hnn := @get_none s
  have hpg := @put_get s
  have hxs := getMsg_sized s
  obtain ⟨x, g, hg⟩ : ∃ x g, getMsg s = (x, g) := ⟨_, _, rfl⟩
  rw [hg] at cg hnn hpg hxs
  have cga := c_Get W0 hD a
  obtain ⟨y, g2, hy⟩ : ∃ y g2, getMsg (a ++ ⟨#[0]⟩) = (y, g2) := ⟨_, _, rfl⟩
  have cgb := c_Get W0 hD (a ++ ⟨#[0]⟩)
  rw [hy] at cgb
  refine ACalls.of (C := CO [] fun _ => ([], [], 0)) (cOkO _ _) hP (fn := Tryd.f4) (by kernel_rfl) (by kernel_rfl) ?_
  refine (cf _).mono ?_
  rintro _ _ ⟨rfl, rfl⟩
  refine ⟨fun c2 => ?_, fun c2 => ?_⟩
  · refine (caw _).mono ?_
    rintro _ _ ⟨rfl, rfl⟩
    exact ⟨rfl, rfl⟩
  have c3 : fewMsg m = true ∧ s.size ≤ 5000 := by
    have : (bif !fewMsg m then true else decide ((5000:Int) < (s.size : Int))) = false := c2
    cases hf : fewMsg m with
    | false => rw [hf] at this; cases this
    | true =>
      rw [hf] at this
      have : ¬ (5000:Int) < (s.size : Int) := of_decide_eq_false this
      exact ⟨rfl, by omega⟩
  obtain ⟨hms, hm1, hm2⟩ := hsz c3.1
  have hxs := hxs (by omega)
  replace hxs : x.sized ∧ x.muts.length ≤ 2 ^ 60 ∧ x.keys.length ≤ 2 ^ 60 := ⟨hxs.1, by have := hxs.2.1; simp only [] at this; omega, by have := hxs.2.2; simp only [] at this; omega⟩
  refine (cput hms _).mono ?_
  rintro _ _ ⟨rfl, rfl⟩
  refine ⟨fun c5 => ?_, fun c5 => ?_⟩
  · replace c5 : e = 0 := by simpa using (show ((e : Int) == 0) = true from c5)
    subst c5
    have k1 := hgp rfl
    have k2 := hgm rfl
    have k3 := hpo rfl
    have k4 : a.size ≤ 4096 := by rw [k3.2.1, mk_size]; exact k3.2.2
    rw [k1] at cga
    rw [hy] at k2
    refine (cga _).mono ?_
    rintro _ _ ⟨rfl, rfl⟩
    refine ⟨by show a.size + 1 ≤ 9223372036854775807; omega, ?_⟩
    refine (cgb _).mono ?_
    rintro _ _ ⟨rfl, rfl⟩
    refine ⟨rfl, V.b (sameMsg m m), fun hg => c_sameMsg W0 m m hms (by omega) (by omega) _, ?_⟩
    have hcond : ∀ z : Bool, z = (bif (bif ((0:Int) != 0) then true else !sameMsg m m) then true else (bif ((g2 : Int) != 6) then (bif ((g2 : Int) != 2) then true else decide ((a.size : Int) < 4096)) else false)) → z = false := by
      rintro z rfl
      rw [sameMsg_iff.2 rfl]
      rcases k2 with k2 | ⟨k2, k5⟩
      · simp only [] at k2; rw [k2]; rfl
      · simp only [] at k2; rw [k2]
        have : decide ((a.size : Int) < 4096) = false := decide_eq_false (by omega)
        rw [this]; rfl
    refine ⟨fun c9 => absurd (c9.symm.trans (hcond _ rfl)) (by decide), fun c9 => ?_⟩
    refine (cg _).mono ?_
    rintro _ _ ⟨rfl, rfl⟩
    refine ⟨fun c11 => ?_, fun c11 => ?_⟩
    · have hx := hnn (by simpa using (show ((g : Int) != 0) = true from c11))
      refine (c_sameMsg W0 x Msg.none hxs.1 hxs.2.1 hxs.2.2 _).mono ?_
      rintro _ _ ⟨rfl, rfl⟩
      refine ⟨rfl, V.b true, fun hg => caw _, ?_⟩
      refine ⟨congrArg (fun x => A.v (V.b x)) ?_, rfl⟩
      show (bif sameMsg x Msg.none then true else false) = true
      rw [sameMsg_iff.2 hx]; rfl
    · have hx := hpg (by simpa using (show ((g : Int) != 0) = false from c11))
      have cp2 := c_Put W0 hD x hxs.1
      rw [hx.1] at cp2
      refine (cp2 _).mono ?_
      rintro _ _ ⟨rfl, rfl⟩
      refine ⟨rfl, V.b (checkMsg x), fun hg => c_checkMsg W0 hD x hxs.1 _, ?_⟩
      refine ⟨rfl, V.b true, fun hg => caw _, ?_⟩
      refine ⟨congrArg (fun x => A.v (V.b x)) ?_, rfl⟩
      show (bif (bif (bif ((0:Int) == 0) then decide (s = s) else false) then checkMsg x else false) then true else false) = true
      rw [hx.2]; simp
  · skip
    refine (cg _).mono ?_
    rintro _ _ ⟨rfl, rfl⟩
    refine ⟨fun c11 => ?_, fun c11 => ?_⟩
    · have hx := hnn (by simpa using (show ((g : Int) != 0) = true from c11))
      refine (c_sameMsg W0 x Msg.none hxs.1 hxs.2.1 hxs.2.2 _).mono ?_
      rintro _ _ ⟨rfl, rfl⟩
      refine ⟨rfl, V.b true, fun hg => caw _, ?_⟩
      refine ⟨congrArg (fun x => A.v (V.b x)) ?_, rfl⟩
      show (bif sameMsg x Msg.none then true else false) = true
      rw [sameMsg_iff.2 hx]; rfl
    · have hx := hpg (by simpa using (show ((g : Int) != 0) = false from c11))
      have cp2 := c_Put W0 hD x hxs.1
      rw [hx.1] at cp2
      refine (cp2 _).mono ?_
      rintro _ _ ⟨rfl, rfl⟩
      refine ⟨rfl, V.b (checkMsg x), fun hg => c_checkMsg W0 hD x hxs.1 _, ?_⟩
      refine ⟨rfl, V.b true, fun hg => caw _, ?_⟩
      refine ⟨congrArg (fun x => A.v (V.b x)) ?_, rfl⟩
      show (bif (bif (bif ((0:Int) == 0) then decide (s = s) else false) then checkMsg x else false) then true else false) = true
      rw [hx.2]; simp
end Go.AI

/-
  DERIVED: THE SHELF's CONTRACTS AT THIS DUMP, IN PLAIN WORDS (tools/lay-plain.mjs out of 'YtldpjfopgbeiiaaDoorLay.lean', which tools/lay-shelf.mjs wrote): THE SAME DECLARATIONS UNDER THE SAME NAMES: 'import', 'namespace', 'open', 'def', 'theorem' AND NOTHING ELSE: no command of the shelf's: FOR A HAND-IN. Each laying: the table of numbers ('.._ren') and one theorem, a field a fact of the dump's own or the kernel's comparison; each contract: ONE APPLICATION.
-/
namespace Go.Proofs
open Go.Shelf
def Tryd.lays197_ren : Go.Shelf.Ren := ⟨fun | 197 => 37 | 260 => 44 | n => n, fun | 9 => 9 | 21 => 21 | 3 => 3 | 4 => 4 | 5 => 5 | 105 => 94 | 119 => 105 | 0 => 0 | 46 => 91 | 139 => 108 | 138 => 107 | n => n, fun | 3 => 0 | 4 => 1 | n => n⟩
theorem Tryd.lays197 : Go.Proofs.Lays.n197 Tryd.prog Tryd.lays197_ren := {
  mixed := by kernel_rfl
  f197 := Tryd.func37.trans (congrArg some (by kernel_rfl))
  f260 := Tryd.func44.trans (congrArg some (by kernel_rfl))
  t0 := Tryd.underlying0
  a0 := Tryd.isAgg0
  z0 := Tryd.sizeOf0
  v0 := Tryd.zeroValue0
  t3 := Tryd.underlying3
  a3 := Tryd.isAgg3
  z3 := Tryd.sizeOf3
  v3 := Tryd.zeroValue3
  t4 := Tryd.underlying4
  a4 := Tryd.isAgg4
  z4 := Tryd.sizeOf4
  v4 := Tryd.zeroValue4
  t5 := Tryd.underlying5
  a5 := Tryd.isAgg5
  z5 := Tryd.sizeOf5
  v5 := Tryd.zeroValue5
  t9 := Tryd.underlying9
  a9 := Tryd.isAgg9
  z9 := Tryd.sizeOf9
  v9 := Tryd.zeroValue9
  t21 := Tryd.underlying21
  a21 := Tryd.isAgg21
  z21 := Tryd.sizeOf21
  v21 := Tryd.zeroValue21
  t46 := Tryd.underlying91
  a46 := Tryd.isAgg91
  z46 := Tryd.sizeOf91
  v46 := Tryd.zeroValue91
  t105 := Tryd.underlying94
  a105 := Tryd.isAgg94
  z105 := Tryd.sizeOf94
  v105 := Tryd.zeroValue94
  t119 := Tryd.underlying105
  a119 := Tryd.isAgg105
  z119 := Tryd.sizeOf105
  t138 := Tryd.underlying107
  a138 := Tryd.isAgg107
  z138 := Tryd.sizeOf107
  v138 := Tryd.zeroValue107
  t139 := Tryd.underlying108
  a139 := Tryd.isAgg108
  z139 := Tryd.sizeOf108
  v139 := Tryd.zeroValue108
  g3 := by kernel_rfl
  g4 := by kernel_rfl }
end Go.Proofs

namespace Go.AI
open Go.Proofs Go Go.RowKit
variable (W0 : World)
set_option maxRecDepth 20000

theorem fin_pres {w w' : World} {G : Gh} (b : Nat) (h : (∃ x, G.ow b = .ho x) ∨ ∃ x j, G.ow b = .pl (.hc x j)) (hw : w'.heap[b]? = w.heap[b]?) : Pres w G w' (G.fin none) b := by
  refine ⟨?_, rfl, hw⟩
  rcases h with ⟨x, h⟩ | ⟨x, j, h⟩ <;> simp [Gh.fin, h]

theorem decC (hT : Lib.Utf8Tabs (Tryd.lays197_ren.g 3) (Tryd.lays197_ren.g 4) W0) : DecC W0 := by
  intro s h w G us hw hl ha hh ho
  obtain ⟨u, rfl⟩ : ∃ u, us = [u] := by
    cases us with
    | nil => simp at hl
    | cons u r => cases r with
      | nil => exact ⟨u, rfl⟩
      | cons => simp at hl
  have hu : u = .string s := (ha 0 u _ rfl rfl).v_inv.lit_inv
  subst hu
  have hT2 : Lib.Utf8Tabs (Tryd.lays197_ren.g 3) (Tryd.lays197_ren.g 4) w := Utf8Tabs_below hT hw.below
  have c := Any.utf8_DecodeRuneInString Tryd.lays197 s w hT2
  unfold Entered
  have he : (callFunc 37 [Value.string s].toArray).run Tryd.prog w = .ok (.enter 37 [Value.string s].toArray) w := by
    have h2 : ((Tryd.f37).name == "runtime.NumGoroutine") = false := by kernel_rfl
    have h1 : (Tryd.f37).name ≠ "runtime.NumGoroutine" := by simpa using h2
    obtain ⟨cb, hcb⟩ : ∃ cb, (Tryd.f37).body = some cb := ⟨_, rfl⟩
    simp [callFunc, Tryd.func37, h1, hcb, mark]
  rw [he]
  refine Calls.mono c fun e w' ⟨hret, hb⟩ => ?_
  have hbl : ∀ b, b < w.heap.size → w'.heap[b]? = w.heap[b]? := fun b hlt => hb.block b hlt
  have ext : Ext w G w' (G.fin none) := by
    refine ⟨hb.size, Nat.le_refl _, fun _ _ => rfl, fun _ => Nat.le_refl _, fun b o hlt => ?_⟩
    rcases Nat.lt_or_ge b w.heap.size with h1 | h1
    · exact cell_of_heap (hbl b h1)
    · have := (hw.past b h1).2
      rw [this] at hlt; exact absurd hlt (Nat.not_lt_zero _)
  refine ⟨_, .v (.tup [.lit (.int .i32 (decG s).1), V.i (decG s).2]), h, G.fin none, hret, ⟨rfl, rfl⟩, ⟨fun b hb' => ?_, fun x hx => Nat.lt_of_lt_of_le (hw.ph x hx) hb.size, fun b hb' => ?_, hw.below.trans (hb.mono hw.below.size)⟩, ?_, fun x cs hx => ?_, ext, fun b hlt hf => ⟨hbl b hlt, ?_, rfl⟩, fun b => ?_⟩
  · have := hw.past b (Nat.le_trans hb.size hb')
    exact ⟨by simp [Gh.fin, this.1], this.2⟩
  · simp [Gh.fin, hw.old b hb']
  · refine .v _ _ _ (.tup [_, _] _ rfl fun j u c hu hc => ?_)
    match j, hu, hc with
    | 0, hu, hc => cases hu; cases hc; exact .lit _
    | 1, hu, hc => cases hu; cases hc; exact .lit _
  · refine (hh x cs hx).pres ext fun b hb' => fin_pres b ?_ (hbl b ?_)
    · rcases hb' with h1 | ⟨j, h1⟩
      · exact .inl ⟨_, h1⟩
      · exact .inr ⟨_, _, h1⟩
    · rcases Nat.lt_or_ge b w.heap.size with h1 | h1
      · exact h1
      · have := (hw.past b h1).1
        rcases hb' with h2 | ⟨j, h2⟩ <;> rw [h2] at this <;> cases this
  · rcases hf with h1 | h1 <;> simp [Gh.fin, h1]
  · have hob := ho b
    have hx : ∀ o : Ow, G.ow b = o → (match (match o with | .pl (.slot j) => if (none : Option Nat) = some j then .pl .ret else .free | .lo _ => .free | .pl (.lc _ _) => .free | o => o : Ow) with
        | .free | .ho _ | .pl (.hc _ _) | .pl .ret => True | .out => b < w.heap.size ∧ G.ow b = .out | _ => False) := by
      intro o e
      rw [e] at hob
      cases o with
      | free => trivial
      | ho x => trivial
      | out =>
        refine ⟨?_, e⟩
        rcases Nat.lt_or_ge b w.heap.size with h1 | h1
        · exact h1
        · have := (hw.past b h1).1; rw [e] at this; cases this
      | lo k => exact hob.elim
      | pl p =>
        cases p with
        | slot k => simp
        | hc x j => trivial
        | lc k j => exact hob.elim
        | ret => exact hob.elim
    exact hx _ rfl
end Go.AI

namespace Go.AI
open Go.Proofs Go Go.RowKit
set_option maxRecDepth 20000
section
variable {H' : Type} {enc : TypeId × Value → H'} {W : World}

theorem Opn.mono {t : TypeId} {S S' : List V → Prop} {P : Program} (h : Opn enc P W t S) (hs : ∀ vs, S vs → S' vs) : Opn enc P W t S' := by
  intro fuel cs x hx
  obtain ⟨vs, h1, h2⟩ := h fuel cs x hx
  exact ⟨vs, hs vs h1, h2⟩
theorem list_of {α : Type} {f : α → List V} : ∀ {es : List (List V)}, (∀ x ∈ es, ∃ a, x = f a) → ∃ l : List α, es = l.map f := by
  intro es
  induction es with
  | nil => intro _; exact ⟨[], rfl⟩
  | cons x es ih =>
    intro h
    obtain ⟨a, rfl⟩ := h x (by simp)
    obtain ⟨l, rfl⟩ := ih fun y hy => h y (by simp [hy])
    exact ⟨a :: l, rfl⟩

theorem o_int : Opn enc Tryd.prog W 3 (fun vs => ∃ n, vs = [V.i n]) := opn_int Tryd.underlying3
theorem o_str : Opn enc Tryd.prog W 9 (fun vs => ∃ s, vs = [V.s s]) := opn_string Tryd.underlying9
theorem o_bool : Opn enc Tryd.prog W 4 (fun vs => ∃ s, vs = [V.b s]) := opn_bool Tryd.underlying4
theorem o_cell : Opn enc Tryd.prog W 83 (fun vs => ∃ c : Cell, vs = c.v) := by
  refine (opn_struct Tryd.underlying83 (by kernel_rfl) (show OpnAll enc Tryd.prog W _ [_, _, _, _] from ⟨o_str, o_bool, o_int, o_int, trivial⟩)).mono ?_
  rintro _ ⟨_, _, ⟨a, rfl⟩, ⟨_, _, ⟨b, rfl⟩, ⟨_, _, ⟨c, rfl⟩, ⟨_, _, ⟨d, rfl⟩, rfl, rfl⟩, rfl⟩, rfl⟩, rfl⟩
  exact ⟨⟨a, b, c, d⟩, rfl⟩
theorem o_col : Opn enc Tryd.prog W 99 (fun vs => ∃ c : Col, vs = c.v) := by
  refine (opn_struct Tryd.underlying99 (by kernel_rfl) (show OpnAll enc Tryd.prog W _ [_, _] from ⟨o_str, o_cell, trivial⟩)).mono ?_
  rintro _ ⟨_, _, ⟨a, rfl⟩, ⟨_, _, ⟨b, rfl⟩, rfl, rfl⟩, rfl⟩
  exact ⟨⟨a, b⟩, rfl⟩
theorem o_cols : Opn enc Tryd.prog W 84 (fun vs => ∃ l : List Col, vs = [.sl 5 (l.map fun c => .agg c.v)]) := by
  have e : Tryd.prog.cellsOf 99 = 5 := by kernel_rfl
  refine (opn_slice Tryd.underlying84 o_col (by rw [e]; decide) (by rintro _ ⟨c, rfl⟩ x hx; simp [Col.v] at hx; rcases hx with rfl | rfl | rfl | rfl | rfl <;> rfl) V.agg (fun _ _ => rfl)).mono ?_
  rintro _ ⟨es, h, rfl⟩
  obtain ⟨l, rfl⟩ := list_of h
  exact ⟨l, by rw [e, List.map_map]; rfl⟩
theorem o_row : Opn enc Tryd.prog W 86 (fun vs => ∃ c : Row, vs = c.v) := by
  refine (opn_struct Tryd.underlying86 (by kernel_rfl) (show OpnAll enc Tryd.prog W _ [_, _, _, _, _] from ⟨o_str, o_cell, o_int, o_int, o_cols, trivial⟩)).mono ?_
  rintro _ ⟨_, _, ⟨a, rfl⟩, ⟨_, _, ⟨b, rfl⟩, ⟨_, _, ⟨c, rfl⟩, ⟨_, _, ⟨d, rfl⟩, ⟨_, _, ⟨e, rfl⟩, rfl, rfl⟩, rfl⟩, rfl⟩, rfl⟩, rfl⟩
  exact ⟨⟨a, b, c, d, e⟩, rfl⟩
theorem o_rows : Opn enc Tryd.prog W 32 (fun vs => ∃ l : List Row, vs = [.sl 8 (l.map fun c => .agg c.v)]) := by
  have e : Tryd.prog.cellsOf 86 = 8 := by kernel_rfl
  refine (opn_slice Tryd.underlying32 o_row (by rw [e]; decide) (by rintro _ ⟨c, rfl⟩ x hx; simp [Row.v] at hx; rcases hx with rfl | rfl | rfl | rfl | rfl | rfl | rfl | rfl <;> rfl) V.agg (fun _ _ => rfl)).mono ?_
  rintro _ ⟨es, h, rfl⟩
  obtain ⟨l, rfl⟩ := list_of h
  exact ⟨l, by rw [e, List.map_map]; rfl⟩
theorem o_part : Opn enc Tryd.prog W 34 (fun vs => ∃ c : Part, vs = c.v) := by
  refine (opn_struct Tryd.underlying34 (by kernel_rfl) (show OpnAll enc Tryd.prog W _ [_, _, _] from ⟨o_str, o_int, o_rows, trivial⟩)).mono ?_
  rintro _ ⟨_, _, ⟨a, rfl⟩, ⟨_, _, ⟨b, rfl⟩, ⟨_, _, ⟨c, rfl⟩, rfl, rfl⟩, rfl⟩, rfl⟩
  exact ⟨⟨a, b, c⟩, rfl⟩
theorem o_mut : Opn enc Tryd.prog W 36 (fun vs => ∃ c : Mut, vs = c.v) := by
  refine (opn_struct Tryd.underlying36 (by kernel_rfl) (show OpnAll enc Tryd.prog W _ [_, _] from ⟨o_str, o_part, trivial⟩)).mono ?_
  rintro _ ⟨_, _, ⟨a, rfl⟩, ⟨_, _, ⟨b, rfl⟩, rfl, rfl⟩, rfl⟩
  exact ⟨⟨a, b⟩, rfl⟩
theorem o_muts : Opn enc Tryd.prog W 24 (fun vs => ∃ l : List Mut, vs = [.sl 4 (l.map fun c => .agg c.v)]) := by
  have e : Tryd.prog.cellsOf 36 = 4 := by kernel_rfl
  refine (opn_slice Tryd.underlying24 o_mut (by rw [e]; decide) (by rintro _ ⟨c, rfl⟩ x hx; simp [Mut.v] at hx; rcases hx with rfl | rfl | rfl | rfl <;> rfl) V.agg (fun _ _ => rfl)).mono ?_
  rintro _ ⟨es, h, rfl⟩
  obtain ⟨l, rfl⟩ := list_of h
  exact ⟨l, by rw [e, List.map_map]; rfl⟩
theorem o_strs : Opn enc Tryd.prog W 23 (fun vs => ∃ l : List Str, vs = [.sl 1 (l.map V.s)]) := by
  have e : Tryd.prog.cellsOf 9 = 1 := by kernel_rfl
  refine (opn_slice Tryd.underlying23 o_str (by rw [e]; decide) (by rintro _ ⟨c, rfl⟩ x hx; simp at hx; subst hx; rfl) (fun vs => vs.headD default) (by rintro _ ⟨c, rfl⟩; rfl)).mono ?_
  rintro _ ⟨es, h, rfl⟩
  obtain ⟨l, rfl⟩ := list_of (f := fun s : Str => [V.s s]) h
  exact ⟨l, by rw [e, List.map_map]; rfl⟩
theorem o_msg : Opn enc Tryd.prog W 26 (fun vs => ∃ m : Msg, vs = m.v) := by
  refine (opn_struct Tryd.underlying26 (by kernel_rfl) (show OpnAll enc Tryd.prog W _ [_, _, _, _, _, _, _] from ⟨o_int, o_int, o_int, o_int, o_muts, o_strs, o_int, trivial⟩)).mono ?_
  rintro _ ⟨_, _, ⟨a, rfl⟩, ⟨_, _, ⟨b, rfl⟩, ⟨_, _, ⟨c, rfl⟩, ⟨_, _, ⟨d, rfl⟩, ⟨_, _, ⟨e, rfl⟩, ⟨_, _, ⟨f, rfl⟩, ⟨_, _, ⟨g, rfl⟩, rfl, rfl⟩, rfl⟩, rfl⟩, rfl⟩, rfl⟩, rfl⟩, rfl⟩
  exact ⟨⟨a, b, c, d, e, f, g⟩, rfl⟩
end
end Go.AI

namespace Go.Proofs.YtldpjfopgbeiiaaDoor
open Go Go.ChangeShapes Go.WideShapes Go.ChangeAt Go.WideMaps Go.WideElems Go.RowKit Go.AI
set_option maxRecDepth 100000
set_option maxHeartbeats 2000000

theorem own : ownKnob Tryd.prog.godebug = none := by kernel_rfl
theorem laidOut : laidOutB Tryd.prog = true := by kernel_rfl

/-- THE WITNESS: the settled world, the two variables holding what their initialisers lay. -/
noncomputable def laidWorld (os : Os) : World :=
  let w0 := World.holding Tryd.prog os ⟨#[], #[], []⟩
  let put (h : Array Obj) (g : Nat) (cs : Array Value) : Array Obj := h.modify g fun
    | .cells _ t frozen => .cells cs t frozen
    | o => o
  let h1 := put w0.heap 0 (Lib.firstTab.map fun z => Value.int .u8 z).toArray
  let h2 := put h1 1 ((List.range 16).flatMap fun i => [Value.int .u8 (Lib.accLo i), Value.int .u8 (Lib.accHi i)]).toArray
  { w0 with heap := h2 }
def lay : List (String × DataW Unit) := [("unicode/utf8.acceptRanges", Rows.laid_unicode_utf8_acceptRanges), ("unicode/utf8.first", Rows.laid_unicode_utf8_first)]
theorem lay_eq : lay = [("unicode/utf8.acceptRanges", Lib.acceptData), ("unicode/utf8.first", Lib.firstData)] := by
  have h1 : (Rows.laid_unicode_utf8_acceptRanges : DataW Unit) = Lib.acceptData := by kernel_rfl
  unfold lay Rows.laid_unicode_utf8_first
  rw [h1, Pinned.utf8First_eq]
theorem lay_plain (w : World) : laidMetH Tryd.prog lay w = laidMet Tryd.prog lay w := MakeChecks.laidMetH_plain _ _ _ (by kernel_rfl)
theorem laid_met (os : Os) (args : Array Value) : laidMetH Tryd.prog lay ((laidWorld os).forCall (fun _ _ => 0) ⟨#[], args, []⟩).memory := by
  rw [lay_plain, lay_eq]
  exact (LaidIn.of_run (l := [("unicode/utf8.acceptRanges", Lib.acceptData), ("unicode/utf8.first", Lib.firstData)]) [0, 1] 8 (by kernel_rfl) (by kernel_rfl) (by kernel_rfl) (by kernel_rfl)).met
theorem tabs {W : World} (h : laidMetH Tryd.prog lay W) : Lib.Utf8Tabs (Tryd.lays197_ren.g 3) (Tryd.lays197_ren.g 4) W := by
  rw [lay_plain, lay_eq] at h
  exact utf8Tabs_of_readsT { t5 := Tryd.lays197.t5, t119 := Tryd.lays197.t119, t138 := Tryd.lays197.t138, t139 := Tryd.lays197.t139 }
    ⟨by kernel_rfl, by kernel_rfl, by kernel_rfl, by kernel_rfl, by kernel_rfl, by kernel_rfl, by kernel_rfl⟩ (Lib.laidMet.reads h (.tail _ (.head _))) (Lib.laidMet.reads h (.head _))

end Go.Proofs.YtldpjfopgbeiiaaDoor

namespace Go.AI
open Go.Proofs Go
variable (W0 : World)
set_option maxRecDepth 20000
set_option maxHeartbeats 2000000

theorem c_Place (v n : Int) (h0 : 0 < n) (h1 : n ≤ 2 ^ 40) (h : H) : ACalls Tryd.prog W0 6 [.v (V.i v), .v (V.i n)] h fun r h' => ∃ k : Int, r = .v (V.i k) ∧ 0 ≤ k ∧ k < n ∧ h' = h := by
  have hlo : -n < v.tmod n := Int.lt_tmod_of_pos v h0
  have hhi : v.tmod n < n := Int.tmod_lt_of_pos v h0
  refine ACalls.of (C := CO [] fun _ => ([], [], 0)) (cOkO _ _) hP (fn := Tryd.f6) (by kernel_rfl) (by kernel_rfl) ?_
  refine ⟨by show n ≠ 0; omega, ?_⟩
  refine ⟨fun c => ?_, fun c => ?_⟩
  · replace c : v.tmod n < 0 := of_decide_eq_true c
    refine ⟨by show inI64 (v.tmod n + n); unfold inI64; omega, ?_⟩
    exact ⟨v.tmod n + n, rfl, by omega, by omega, rfl⟩
  · replace c : ¬ v.tmod n < 0 := of_decide_eq_false c
    exact ⟨v.tmod n, rfl, by omega, hhi, rfl⟩

def askMsg : Msg := ⟨3, 1, 2, 5, [], [⟨#[116, 95, 49]⟩, ⟨#[109]⟩], 0⟩
theorem ask_put : putMsg askMsg = (⟨(encMsg askMsg).toArray⟩, 0) ∧ checkMsg askMsg = true ∧ 10 ≤ (encMsg askMsg).length := by decide +kernel
def zs (n : Nat) : Str := ⟨(List.replicate n (0 : UInt8)).toArray⟩
theorem zs_size (n : Nat) : (zs n).size = n := by rw [zs, mk_size, List.length_replicate]
def bigMsg : Msg := ⟨3, 1, 2, 5, [⟨⟨#[116]⟩, ⟨zs 100, 0, []⟩⟩], List.replicate 40 (zs 100), 0⟩
theorem big_put : checkMsg bigMsg = true ∧ 4096 < (encMsg bigMsg).length := by decide +kernel
theorem put_bad {m : Msg} (h : checkMsg m = false) : putMsg m = (⟨#[]⟩, 1) := by unfold putMsg; rw [if_neg (by rw [h]; exact Bool.false_ne_true)]
theorem put_big {m : Msg} (h : checkMsg m = true) (hl : 4096 < (encMsg m).length) : putMsg m = (⟨#[]⟩, 2) := by unfold putMsg; rw [if_pos h, if_pos hl]
theorem bytes_zero (n : Nat) : List.replicate n (V.u8 0) = V.bytes (List.replicate n 0) := by simp [V.bytes]

/-- What is put of a message that may not be, or is too much; and what Check says. -/
theorem c_bad (hD : DecC W0) {m : Msg} {l : List V} (hm : m.sized) (hl : m.v = l) (hc : checkMsg m = false) :
    (∀ h : H, ACalls Tryd.prog W0 7 [.v (.agg l)] h fun r h' => r = .v (.tup [V.s ⟨#[]⟩, V.i 1]) ∧ h' = h) ∧ ∀ h : H, ACalls Tryd.prog W0 8 [.v (.agg l)] h fun r h' => r = .v (V.b false) ∧ h' = h := by
  have cp := c_Put W0 hD m hm
  have ck := c_checkMsg W0 hD m hm
  rw [put_bad hc, hl] at cp
  rw [hc, hl] at ck
  exact ⟨cp, ck⟩
theorem c_big (hD : DecC W0) {m : Msg} {l : List V} (hm : m.sized) (hl : m.v = l) (hc : checkMsg m = true) (hb : 4096 < (encMsg m).length) :
    (∀ h : H, ACalls Tryd.prog W0 7 [.v (.agg l)] h fun r h' => r = .v (.tup [V.s ⟨#[]⟩, V.i 2]) ∧ h' = h) ∧ ∀ h : H, ACalls Tryd.prog W0 8 [.v (.agg l)] h fun r h' => r = .v (V.b true) ∧ h' = h := by
  have cp := c_Put W0 hD m hm
  have ck := c_checkMsg W0 hD m hm
  rw [put_big hc hb, hl] at cp
  rw [hc, hl] at ck
  exact ⟨cp, ck⟩

theorem c_WireRefuses (hD : DecC W0) (how v : Int) (h : H) : ACalls Tryd.prog W0 3 [.v (V.i how), .v (V.i v)] h fun r h' => r = .v (V.b true) ∧ h' = h := by
  have caw := c_awake W0 hD
  have nom : ∀ m : Msg, m.muts = [] → m.sized := fun m hm x hx => by rw [hm] at hx; cases hx
  have cask := c_Put W0 hD askMsg (nom _ rfl)
  have ckask := c_checkMsg W0 hD askMsg (nom _ rfl)
  rw [ask_put.1] at cask
  rw [ask_put.2.1] at ckask
  have hlen := ask_put.2.2
  refine ACalls.of (C := CO [43] fun i => match i with | 12 => ([0, 1, 2, 3, 4, 5, 6], [7], 0) | _ => ([], [], 0)) (cOkO _ _) hP (fn := Tryd.f3) (by kernel_rfl) (by kernel_rfl) ?_
  refine (c_Place W0 v 100 (by decide) (by decide) _).mono ?_
  rintro _ h ⟨k, rfl, hk0, hk1, rfl⟩
  refine ⟨by show inI64 (1 + k); unfold inI64; omega, ?_⟩
  refine (cask _).mono ?_
  rintro _ _ ⟨rfl, rfl⟩
  refine ⟨rfl, V.b true, fun hg => ckask _, ?_⟩
  refine ⟨fun c4 => ?_, fun _ => ?_⟩
  · exfalso
    have : (bif (bif ((0:Int) != 0) then true else !true) then true else decide (((⟨(encMsg askMsg).toArray⟩ : ByteArray).size : Int) < 10)) = true := c4
    have h2 : ((⟨(encMsg askMsg).toArray⟩ : ByteArray).size : Int) < 10 := of_decide_eq_true this
    rw [mk_size] at h2
    omega
  refine (c_Place W0 how 8 (by decide) (by decide) _).mono ?_
  rintro _ h ⟨w, rfl, hw0, hw1, rfl⟩
  refine ⟨fun _ => ?_, fun _ => ?_⟩
  · have cb := c_bad W0 hD (m := ⟨8 + (1 + k), 1, 2, 5, [], [⟨#[116, 95, 49]⟩, ⟨#[109]⟩], 0⟩) (nom _ rfl) (rfl) (by have : decide (8 + (1 + k) ≤ 8) = false := decide_eq_false (by omega); simp [checkMsg, this])
    refine ⟨by show inI64 (8 + (1 + k)); unfold inI64; omega, ?_⟩
    refine (cb.1 _).mono ?_
    rintro _ _ ⟨rfl, rfl⟩
    refine ⟨rfl, V.b false, fun hg => cb.2 _, ?_⟩
    refine ⟨rfl, V.b true, fun hg => caw _, ?_⟩
    exact ⟨rfl, rfl⟩
  refine ⟨fun _ => ?_, fun _ => ?_⟩
  · have cb := c_bad W0 hD (m := ⟨3, -(1 + k), 2, 5, [], [⟨#[116, 95, 49]⟩, ⟨#[109]⟩], 0⟩) (nom _ rfl) (rfl) (by have : inB (-(1 + k)) 4 = false := (by unfold inB; rw [decide_eq_false (by omega : ¬ 0 ≤ -(1 + k))]; rfl); simp [checkMsg, this])
    refine ⟨by show inI64 (-(1 + k)); unfold inI64; omega, ?_⟩
    refine (cb.1 _).mono ?_
    rintro _ _ ⟨rfl, rfl⟩
    refine ⟨rfl, V.b false, fun hg => cb.2 _, ?_⟩
    refine ⟨rfl, V.b true, fun hg => caw _, ?_⟩
    exact ⟨rfl, rfl⟩
  refine ⟨fun _ => ?_, fun _ => ?_⟩
  · have cb := c_bad W0 hD (m := ⟨3, 1, 4 + (1 + k), 5, [], [⟨#[116, 95, 49]⟩, ⟨#[109]⟩], 0⟩) (nom _ rfl) (rfl) (by have : inB (4 + (1 + k)) 4 = false := (by unfold inB; rw [decide_eq_false (by omega : ¬ 4 + (1 + k) ≤ 4)]; simp); simp [checkMsg, this])
    refine ⟨by show inI64 (4 + (1 + k)); unfold inI64; omega, ?_⟩
    refine (cb.1 _).mono ?_
    rintro _ _ ⟨rfl, rfl⟩
    refine ⟨rfl, V.b false, fun hg => cb.2 _, ?_⟩
    refine ⟨rfl, V.b true, fun hg => caw _, ?_⟩
    exact ⟨rfl, rfl⟩
  refine ⟨fun _ => ?_, fun _ => ?_⟩
  · have cb := c_bad W0 hD (m := ⟨3, 1, 2, 1099511627776 + (1 + k), [], [⟨#[116, 95, 49]⟩, ⟨#[109]⟩], 0⟩) (nom _ rfl) (rfl) (by have : inB (1099511627776 + (1 + k)) 1099511627776 = false := (by unfold inB; rw [decide_eq_false (by omega : ¬ 1099511627776 + (1 + k) ≤ 1099511627776)]; simp); simp [checkMsg, this])
    refine ⟨by show inI64 (1099511627776 + (1 + k)); unfold inI64; omega, ?_⟩
    refine (cb.1 _).mono ?_
    rintro _ _ ⟨rfl, rfl⟩
    refine ⟨rfl, V.b false, fun hg => cb.2 _, ?_⟩
    refine ⟨rfl, V.b true, fun hg => caw _, ?_⟩
    exact ⟨rfl, rfl⟩
  refine ⟨fun _ => ?_, fun _ => ?_⟩
  · have cb := c_bad W0 hD (m := ⟨3, 1, 2, 5, [], List.replicate (40 + (1 + k)).toNat ⟨#[]⟩, 0⟩) (nom _ rfl) (show _ = [V.i 3, V.i 1, V.i 2, V.i 5, .sl 4 [], .sl 1 (List.replicate (40 + (1 + k)).toNat (V.s ⟨#[]⟩)), V.i 0] by simp [Msg.v]) (by have : decide ((List.replicate (40 + (1 + k)).toNat (⟨#[]⟩ : Str)).length ≤ 40) = false := decide_eq_false (by rw [List.length_replicate]; omega); simp [checkMsg, this]; intros; omega)
    refine ⟨by show inI64 (40 + (1 + k)); unfold inI64; omega, ?_⟩
    refine ⟨by show (0:Int) ≤ 40 + (1 + k); omega, Int.le_refl _, by show (40 + (1 + k)) * 16 ≤ 70368744177664; omega, by show 40 + (1 + k) ≤ 70368744177664; omega, ?_⟩
    refine (cb.1 _).mono ?_
    rintro _ _ ⟨rfl, rfl⟩
    refine ⟨rfl, V.b false, fun hg => cb.2 _, ?_⟩
    refine ⟨rfl, V.b true, fun hg => caw _, ?_⟩
    exact ⟨rfl, rfl⟩
  refine ⟨fun _ => ?_, fun _ => ?_⟩
  · have cb := c_bad W0 hD (m := ⟨3, 1, 2, 5, [], [zs (100 + (1 + k)).toNat], 0⟩) (nom _ rfl) (rfl) (by have : decide ((zs (100 + (1 + k)).toNat).size ≤ 100) = false := decide_eq_false (by rw [zs_size]; omega); simp [checkMsg, this])
    refine ⟨by show inI64 (100 + (1 + k)); unfold inI64; omega, ?_⟩
    refine ⟨by show (0:Int) ≤ 100 + (1 + k); omega, Int.le_refl _, by show (100 + (1 + k)) * 1 ≤ 70368744177664; omega, by show 100 + (1 + k) ≤ 70368744177664; omega, ?_⟩
    refine ⟨List.replicate (100 + (1 + k)).toNat 0, bytes_zero _, ?_⟩
    refine (cb.1 _).mono ?_
    rintro _ _ ⟨rfl, rfl⟩
    refine ⟨rfl, V.b false, fun hg => cb.2 _, ?_⟩
    refine ⟨rfl, V.b true, fun hg => caw _, ?_⟩
    exact ⟨rfl, rfl⟩
  refine ⟨fun _ => ?_, fun _ => ?_⟩
  · have cb := c_bad W0 hD (m := ⟨3, 1, 2, 5, [⟨⟨#[84]⟩, ⟨⟨#[]⟩, 0, []⟩⟩], [⟨#[116, 95, 49]⟩, ⟨#[109]⟩], 0⟩) (by intro x hx; rw [List.mem_singleton.1 hx]; exact ⟨by decide, Nat.zero_le _, fun r hr => by cases hr⟩) (rfl) (by decide +kernel)
    refine (cb.1 _).mono ?_
    rintro _ _ ⟨rfl, rfl⟩
    refine ⟨rfl, V.b false, fun hg => cb.2 _, ?_⟩
    refine ⟨rfl, V.b true, fun hg => caw _, ?_⟩
    exact ⟨rfl, rfl⟩
  have cb := c_big W0 hD (m := bigMsg) (by intro x hx; rw [List.mem_singleton.1 hx]; exact ⟨by decide, Nat.zero_le _, fun r hr => by cases hr⟩) (show _ = [V.i 3, V.i 1, V.i 2, V.i 5, .sl 4 [.agg [V.s ⟨#[116]⟩, V.s (zs 100), V.i 0, .sl 8 []]], .sl 1 (List.replicate 40 (V.s (zs 100))), V.i 0] by simp [Msg.v, bigMsg, Mut.v]) big_put.1 big_put.2
  refine ⟨0, [6, 10], 1, fun mm xs l h2 => ∃ (j : Nat) (q : Int) (acc : List V), xs = [.lp 0 0, .v (V.i q)] ∧ l = [.cells [.v (V.i 3), .v (V.i 1), .v (V.i 2), .v (V.i 5), .own 4 [], .own 1 acc, .v (V.i 0)]] ∧ h2 = h ∧ mm + j = 40 ∧ q = j ∧ acc = List.replicate j (V.s (zs 100)),
    ⟨40, 0, _, _, rfl, rfl, rfl, rfl, rfl, rfl⟩, ?_⟩
  rintro mm xs l h2 ⟨j, q, acc, rfl, rfl, rfl, hj, rfl, rfl⟩
  replace hj : (mm : Nat) + j = 40 := hj
  refine ⟨fun c => ?_, fun c => ?_⟩
  · replace c : (j : Int) < 40 := of_decide_eq_true c
    refine ⟨by decide, by decide, by decide, by decide, ?_⟩
    refine ⟨List.replicate 100 0, bytes_zero 100, ?_⟩
    refine ⟨by show ((List.replicate j (V.s (zs 100))).length + 1) * 16 ≤ 70368744177664; rw [List.length_replicate]; omega, _, rfl, ?_⟩
    refine ⟨by show inI64 ((j : Int) + 1); unfold inI64; omega, ?_⟩
    exact ⟨mm - 1, by show mm - 1 < (mm : Nat); omega, j + 1, _, _, rfl, rfl, rfl, by show (mm : Nat) - 1 + (j + 1) = 40; omega, rfl, (List.replicate_succ' (n := j) (a := V.s (zs 100))).symm⟩
  · replace c : ¬ (j : Int) < 40 := of_decide_eq_false c
    obtain rfl : j = 40 := by omega
    refine ⟨by decide, by decide, by decide, by decide, ?_⟩
    refine ⟨List.replicate 100 0, bytes_zero 100, ?_⟩
    refine (cb.1 _).mono ?_
    rintro _ _ ⟨rfl, rfl⟩
    refine ⟨rfl, V.b true, fun hg => cb.2 _, ?_⟩
    refine ⟨rfl, V.b true, fun hg => caw _, ?_⟩
    exact ⟨rfl, rfl⟩
end Go.AI

namespace Go.AI
open Go.Proofs Go
variable (W0 : World)
set_option maxRecDepth 20000
set_option maxHeartbeats 4000000

/-- Numbers that are taken one by one. -/
def LC (l : List Int) : HO := .cells [.v (.sl 1 (l.map V.i))]

theorem tm {v : Int} (h : 0 ≤ v) (n : Int) : v.tmod n = v % n := Int.tmod_eq_emod_of_nonneg h
theorem td {v : Int} (h : 0 ≤ v) (n : Int) : v.tdiv n = v / n := Int.tdiv_eq_ediv_of_nonneg h
/-- A quotient of a small number. -/
theorem quo_ok {v n : Int} (h : 0 ≤ v) (h1 : v < 1048576) (hn : 0 < n) : n ≠ 0 ∧ IntKind.i64.wrap (v.tdiv n) = v.tdiv n := by
  refine ⟨by omega, wrapI64 ?_ ?_⟩
  · rw [td h]; have := Int.ediv_nonneg h (Int.le_of_lt hn); omega
  · rw [td h]; have := Int.ediv_le_self n h; omega
theorem quo_nn {v : Int} (h : 0 ≤ v) {n : Int} (hn : 0 < n) : 0 ≤ v.tdiv n := by rw [td h]; exact Int.ediv_nonneg h (Int.le_of_lt hn)
theorem rem_lt {v : Int} (h : 0 ≤ v) {n : Int} (hn : 0 < n) : 0 ≤ v.tmod n ∧ v.tmod n < n := by rw [tm h]; exact ⟨Int.emod_nonneg _ (by omega), Int.emod_lt_of_pos _ hn⟩

theorem c_Next (l : List Int) (x : Nat) {h : H} (hx : h x = some (LC l)) :
    ACalls Tryd.prog W0 34 [.v (.ptr x 0), .v (V.i 1048576)] h fun r h' => ∃ (k : Int) (l2 : List Int), r = .v (V.i k) ∧ 0 ≤ k ∧ k < 1048576 ∧ h' = h.upd x (LC l2) := by
  cases l with
  | nil =>
    refine ACalls.of (C := CO [] fun _ => ([], [], 0)) (cOkO _ _) hP (fn := Tryd.f34) (by kernel_rfl) (by kernel_rfl) ?_
    refine ⟨_, ⟨hx, trivial⟩, ?_⟩
    refine ⟨fun _ => ?_, fun c => (nomatch (show true = false from c))⟩
    exact ⟨0, [], rfl, by decide, by decide, (H.upd_self hx).symm⟩
  | cons a l =>
    have hl : (((a :: l).map V.i).length : Int) = (l.length : Int) + 1 := by simp
    have ht : (((a :: l).map V.i).take ((a :: l).map V.i).length).drop 1 = l.map V.i := by rw [List.take_of_length_le (Nat.le_refl _)]; rfl
    refine ACalls.of (C := CO [] fun _ => ([], [], 0)) (cOkO _ _) hP (fn := Tryd.f34) (by kernel_rfl) (by kernel_rfl) ?_
    refine ⟨_, ⟨hx, trivial⟩, ?_⟩
    refine ⟨fun c => ?_, fun _ => ?_⟩
    · exfalso
      have h1 : ((((a :: l).map V.i).length : Int) == 0) = true := c
      rw [hl] at h1
      have : (l.length : Int) + 1 = 0 := by simpa using h1
      omega
    refine ⟨_, ⟨hx, trivial⟩, ?_⟩
    refine ⟨V.i a, ⟨by decide, rfl⟩, ?_⟩
    refine (c_Place W0 a 1048576 (by decide) (by decide) _).mono ?_
    rintro _ _ ⟨k, rfl, hk0, hk1, rfl⟩
    refine ⟨_, ⟨hx, trivial⟩, ?_⟩
    refine ⟨⟨by decide, by show (1:Int) ≤ (((a :: l).map V.i).length : Int); rw [hl]; omega⟩, ?_⟩
    refine ⟨rfl, _, hx, ?_⟩
    refine ⟨k, l, rfl, hk0, hk1, ?_⟩
    unfold LC; rw [← ht]; rfl

theorem check_small {at_ end_ : Int} {val : Str} (h1 : 0 < at_) (h2 : at_ ≤ 8) (h3 : 0 ≤ end_) (h4 : end_ ≤ 10) (h5 : val.size ≤ 100) : checkCell ⟨val, false, at_, end_⟩ = true := by
  unfold checkCell
  have e1 : stampB at_ = true := stampB_iff.2 ⟨by omega, by omega⟩
  have e2 : stampB end_ = true := stampB_iff.2 ⟨by omega, by omega⟩
  rw [if_pos (by rw [e1, e2]; rfl), if_neg (by show ¬ at_ = 0; omega), if_neg (by exact Bool.false_ne_true)]
  exact decide_eq_true h5
theorem check_dead {at_ : Int} (h1 : 0 < at_) (h2 : at_ ≤ 8) : checkCell ⟨⟨#[]⟩, true, at_, 0⟩ = true := by
  unfold checkCell
  have e1 : stampB at_ = true := stampB_iff.2 ⟨by omega, by omega⟩
  rw [if_pos (by rw [e1]; rfl), if_neg (by show ¬ at_ = 0; omega), if_pos rfl]
  rfl

theorem c_Lcell (l : List Int) (x : Nat) {h : H} (hx : h x = some (LC l)) :
    ACalls Tryd.prog W0 43 [.v (.ptr x 0)] h fun r h' => ∃ (c : Cell) (l2 : List Int), r = .v (.agg c.v) ∧ checkCell c = true ∧ 0 < c.at_ ∧ h' = h.upd x (LC l2) := by
  refine ACalls.of (C := CO [] fun _ => ([], [], 0)) (cOkO _ _) hP (fn := Tryd.f43) (by kernel_rfl) (by kernel_rfl) ?_
  refine (c_Next W0 l x hx).mono ?_
  rintro _ _ ⟨k, l2, rfl, hk0, hk1, rfl⟩
  have r7 := rem_lt hk0 (n := 7) (by decide)
  refine ⟨by show (_ : Int) ≠ _; decide, ?_⟩
  refine ⟨by show inI64 (1 + k.tmod 7); unfold inI64; omega, ?_⟩
  refine ⟨quo_ok hk0 hk1 (by decide), ?_⟩
  refine ⟨by show (_ : Int) ≠ _; decide, ?_⟩
  refine ⟨fun _ => ?_, fun _ => ?_⟩
  · exact ⟨⟨⟨#[]⟩, true, 1 + k.tmod 7, 0⟩, l2, rfl, check_dead (by omega) (by omega), by show 0 < 1 + k.tmod 7; omega, rfl⟩
  have r3 := rem_lt (quo_nn hk0 (n := 28) (by decide)) (n := 3) (by decide)
  obtain ⟨s, hs⟩ : ∃ s : Str, s = (⟨#[120, 121, 122]⟩ : ByteArray).extract (((k.tdiv 28).tmod 3)).toNat (((k.tdiv 28).tmod 3) + 1).toNat := ⟨_, rfl⟩
  have hss : s.size ≤ 100 := by
    rw [hs, ByteArray.size_extract]
    have : (⟨#[120, 121, 122]⟩ : ByteArray).size = 3 := rfl
    omega
  refine ⟨quo_ok hk0 hk1 (by decide), ?_⟩
  refine ⟨by show (_ : Int) ≠ _; decide, ?_⟩
  refine ⟨quo_ok hk0 hk1 (by decide), ?_⟩
  refine ⟨by show (_ : Int) ≠ _; decide, ?_⟩
  refine ⟨by show inI64 ((k.tdiv 28).tmod 3 + 1); unfold inI64; omega, ?_⟩
  refine ⟨⟨by show (0:Int) ≤ (k.tdiv 28).tmod 3 + 1; omega, by show (k.tdiv 28).tmod 3 + 1 ≤ 3; omega⟩, ?_⟩
  refine ⟨⟨by show (0:Int) ≤ (k.tdiv 28).tmod 3; omega, by show (k.tdiv 28).tmod 3 ≤ ((((k.tdiv 28).tmod 3 + 1).toNat : Nat) : Int); omega⟩, ?_⟩
  refine ⟨quo_ok hk0 hk1 (by decide), ?_⟩
  refine ⟨by show (_ : Int) ≠ _; decide, ?_⟩
  refine ⟨fun _ => ?_, fun _ => ?_⟩
  · have r10 := rem_lt (quo_nn hk0 (n := 336) (by decide)) (n := 10) (by decide)
    refine ⟨quo_ok hk0 hk1 (by decide), ?_⟩
    refine ⟨by show (_ : Int) ≠ _; decide, ?_⟩
    refine ⟨by show inI64 (1 + (k.tdiv 336).tmod 10); unfold inI64; omega, ?_⟩
    refine ⟨⟨s, false, 1 + k.tmod 7, 1 + (k.tdiv 336).tmod 10⟩, l2, by rw [hs]; rfl, check_small (by omega) (by omega) (by omega) (by omega) hss, by show 0 < 1 + k.tmod 7; omega, rfl⟩
  · refine ⟨⟨s, false, 1 + k.tmod 7, 0⟩, l2, by rw [hs]; rfl, check_small (by omega) (by omega) (by omega) (by omega) hss, by show 0 < 1 + k.tmod 7; omega, rfl⟩

def nm (i : Nat) : Str := ⟨#[UInt8.ofNat (97 + i)]⟩
theorem nm_ok : ∀ j, j < 4 → isName (nm j) = true ∧ (∀ i, i < j → strLess (nm i) (nm j) = true) := by decide +kernel
theorem c_Names (h : H) : ACalls Tryd.prog W0 42 [] h fun r h' => r = .own 1 [V.s ⟨#[97]⟩, V.s ⟨#[98]⟩, V.s ⟨#[99]⟩, V.s ⟨#[100]⟩] ∧ h' = h := by
  refine ACalls.of (C := CO [] fun _ => ([], [], 0)) (cOkO _ _) hP (fn := Tryd.f42) (by kernel_rfl) (by kernel_rfl) ?_
  exact ⟨rfl, rfl⟩
theorem nm_get {j : Nat} (h : j < 4) : ([V.s ⟨#[97]⟩, V.s ⟨#[98]⟩, V.s ⟨#[99]⟩, V.s ⟨#[100]⟩] : List V)[j]? = some (V.s (nm j)) := by
  match j, h with
  | 0, _ => rfl
  | 1, _ => rfl
  | 2, _ => rfl
  | 3, _ => rfl

def lastOr : Option Str → List Col → Option Str
  | o, [] => o
  | _, c :: r => lastOr (some c.name) r
theorem lastOr_snoc : ∀ (l : List Col) (o : Option Str) (c : Col), lastOr o (l ++ [c]) = some c.name
  | [], _, _ => rfl
  | _ :: l, _, c => lastOr_snoc l _ c
theorem colsOK_add : ∀ {l : List Col} {o : Option Str} {c : Col}, colsOK o l = true → isName c.name = true → checkCell c.cell = true → 0 < c.cell.at_ → (∀ n, lastOr o l = some n → strLess n c.name = true) → colsOK o (l ++ [c]) = true := by
  intro l
  induction l with
  | nil =>
    intro o c _ h1 h2 h3 h4
    simp only [List.nil_append, colsOK, h1, h2, decide_eq_true h3, Bool.and_true, Bool.true_and]
    cases o with
    | none => rfl
    | some n => exact h4 n rfl
  | cons x l ih =>
    intro o c h h1 h2 h3 h4
    simp only [List.cons_append, colsOK, Bool.and_eq_true] at h ⊢
    exact ⟨h.1, ih h.2 h1 h2 h3 h4⟩
def lastOrR : Option Str → List Row → Option Str
  | o, [] => o
  | _, c :: r => lastOrR (some c.key) r
theorem lastOrR_snoc : ∀ (l : List Row) (o : Option Str) (c : Row), lastOrR o (l ++ [c]) = some c.key
  | [], _, _ => rfl
  | _ :: l, _, c => lastOrR_snoc l _ c
theorem rowsOK_add : ∀ {l : List Row} {o : Option Str} {c : Row}, rowsOK o l = true → checkRow c = true → (∀ n, lastOrR o l = some n → strLess n c.key = true) → rowsOK o (l ++ [c]) = true := by
  intro l
  induction l with
  | nil =>
    intro o c _ h1 h4
    simp only [List.nil_append, rowsOK, h1, Bool.and_true, Bool.true_and]
    cases o with
    | none => rfl
    | some n => exact h4 n rfl
  | cons x l ih =>
    intro o c h h1 h4
    simp only [List.cons_append, rowsOK, Bool.and_eq_true] at h ⊢
    exact ⟨h.1, ih h.2 h1 h4⟩
/-- Columns of the first names. -/
def GoodC (cs : List Col) (j : Nat) : Prop := colsOK none cs = true ∧ cs.length ≤ j ∧ ∀ n, lastOr none cs = some n → ∃ i, i < j ∧ n = nm i
theorem GoodC.skip {cs : List Col} {j : Nat} (h : GoodC cs j) : GoodC cs (j + 1) := ⟨h.1, by have := h.2.1; omega, fun n hn => by obtain ⟨i, hi, e⟩ := h.2.2 n hn; exact ⟨i, by omega, e⟩⟩
theorem GoodC.add {cs : List Col} {j : Nat} (h : GoodC cs j) (hj : j < 4) {c : Cell} (hc : checkCell c = true) (ha : 0 < c.at_) : GoodC (cs ++ [⟨nm j, c⟩]) (j + 1) := by
  refine ⟨colsOK_add h.1 (nm_ok j hj).1 hc ha fun n hn => ?_, by rw [List.length_append, List.length_singleton]; have := h.2.1; omega, fun n hn => ?_⟩
  · obtain ⟨i, hi, rfl⟩ := h.2.2 n hn
    exact (nm_ok j hj).2 i hi
  · rw [lastOr_snoc] at hn; cases hn; exact ⟨j, by omega, rfl⟩
theorem row_ok {key : Str} {a e g : Int} {cs : List Col} {j : Nat} (hk : key.size ≤ 400) (hl : checkCell ⟨⟨#[]⟩, false, a, e⟩ = true) (hg : natB g) (hc : GoodC cs j) (hj : j ≤ 4) : checkRow ⟨key, ⟨⟨#[]⟩, false, a, e⟩, g, 0, cs⟩ = true := by
  have h1 := hc.2.1
  simp only [checkRow, hl, stampB_iff.2 hg, hc.1, decide_eq_true hk, decide_eq_true (show cs.length ≤ 8 by omega), Bool.and_true, Bool.true_and]
  rfl

theorem c_Lrow (key : Str) (hk : key.size ≤ 400) (l : List Int) (x : Nat) {h : H} (hx : h x = some (LC l)) :
    ACalls Tryd.prog W0 35 [.v (.ptr x 0), .v (V.s key)] h fun r h' => ∃ (w : Row) (l2 : List Int), r = .v (.agg w.v) ∧ w.key = key ∧ checkRow w = true ∧ h' = h.upd x (LC l2) := by
  refine ACalls.of (C := CO [51] fun i => match i with | 13 => ([0, 1, 3, 6, 2, 4, 5, 7, 8, 9, 10, 11], [12], 1) | _ => ([], [], 0)) (cOkO _ _) hP (fn := Tryd.f35) (by kernel_rfl) (by kernel_rfl) ?_
  refine (c_Next W0 l x hx).mono ?_
  rintro _ _ ⟨k, l2, rfl, hk0, hk1, rfl⟩
  refine ⟨by show (_ : Int) ≠ _; decide, ?_⟩
  refine ⟨fun _ => ?_, fun _ => ?_⟩
  · have r7 := rem_lt (quo_nn hk0 (n := 3) (by decide)) (n := 7) (by decide)
    refine ⟨quo_ok hk0 hk1 (by decide), ?_⟩
    refine ⟨by show (_ : Int) ≠ _; decide, ?_⟩
    refine ⟨by show inI64 (1 + (k.tdiv 3).tmod 7); unfold inI64; omega, ?_⟩
    refine ⟨quo_ok hk0 hk1 (by decide), ?_⟩
    refine ⟨by show (_ : Int) ≠ _; decide, ?_⟩
    refine ⟨fun _ => ?_, fun _ => ?_⟩
    · have r10 := rem_lt (quo_nn hk0 (n := 84) (by decide)) (n := 10) (by decide)
      refine ⟨quo_ok hk0 hk1 (by decide), ?_⟩
      refine ⟨by show (_ : Int) ≠ _; decide, ?_⟩
      refine ⟨by show inI64 (1 + (k.tdiv 84).tmod 10); unfold inI64; omega, ?_⟩
      have hA : checkCell ⟨⟨#[]⟩, false, 1 + (k.tdiv 3).tmod 7, 1 + (k.tdiv 84).tmod 10⟩ = true := check_small (by omega) (by omega) (by omega) (by omega) (by decide)
      refine ⟨quo_ok hk0 hk1 (by decide), ?_⟩
      refine ⟨by show (_ : Int) ≠ _; decide, ?_⟩
      refine ⟨fun _ => ?_, fun _ => ?_⟩
      · have r8 := rem_lt (quo_nn hk0 (n := 3360) (by decide)) (n := 8) (by decide)
        have hG : natB ((k.tdiv 3360).tmod 8) := ⟨r8.1, by omega⟩
        refine ⟨quo_ok hk0 hk1 (by decide), ?_⟩
        refine ⟨by show (_ : Int) ≠ _; decide, ?_⟩
        refine ⟨0, [0, 4, 5, 6, 7], 2, fun mm xs lo h2 => ∃ (j : Nat) (q : Int) (cs : List Col) (acc : List V) (l3 : List Int), xs = [.v (.ptr x 0), .lp 0 0, .lp 1 0, .v (V.i k), .v (V.i q)] ∧
            lo = [.cells [.v (V.s ⟨#[]⟩), .v (V.s ⟨#[]⟩), .v (V.b false), .v (V.i 0), .v (V.i 0), .v (V.i 0), .v (V.i 0), .own 5 []], .cells [.v (V.s key), .v (V.s ⟨#[]⟩), .v (V.b false), .v (V.i (1 + (k.tdiv 3).tmod 7)), .v (V.i (1 + (k.tdiv 84).tmod 10)), .v (V.i ((k.tdiv 3360).tmod 8)), .v (V.i 0), .own 5 acc]] ∧
            h2 = h.upd x (LC l3) ∧ mm + j = 4 ∧ q = j ∧ acc = cs.map (fun c => .agg c.v) ∧ GoodC cs j,
          ⟨4, 0, _, [], _, l2, rfl, rfl, rfl, rfl, rfl, rfl, ⟨rfl, Nat.le_refl 0, fun n hn => by cases hn⟩⟩, ?_⟩
        rintro mm xs lo h2 ⟨j, q, cs, acc, l3, rfl, rfl, rfl, hj, rfl, rfl, hgc⟩
        replace hj : (mm : Nat) + j = 4 := hj
        refine ⟨fun c => ?_, fun c => ?_⟩
        · replace c : (j : Int) < 4 := of_decide_eq_true c
          have hgl := hgc.2.1
          refine ⟨by show inI64 (10 + (j : Int)); unfold inI64; omega, ?_⟩
          refine ⟨10 + (j : Int), wrapU64 (by omega) (by omega), ?_⟩
          refine ⟨by show (0:Int) ≤ 10 + (j : Int); omega, ?_⟩
          refine ⟨fun _ => ?_, fun _ => ?_⟩
          · refine ⟨[], fun _ => false, ?_⟩
            refine (c_Names W0 _).mono ?_
            rintro _ _ ⟨rfl, rfl⟩
            refine ⟨V.s (nm j), ⟨by show (0:Int) ≤ (j : Int); omega, nm_get (by show ((j : Nat) : Int).toNat < 4; omega)⟩, ?_⟩
            refine (c_Lcell W0 l3 x (H.upd_get _ _ _)).mono ?_
            rintro _ _ ⟨cl, l4, rfl, hcl, hca, rfl⟩
            refine ⟨by show ((cs.map fun c => V.agg c.v).length + 1) * 56 ≤ 70368744177664; rw [List.length_map]; omega, _, rfl, ?_⟩
            refine ⟨by show inI64 ((j : Int) + 1); unfold inI64; omega, ?_⟩
            exact ⟨mm - 1, by show mm - 1 < (mm : Nat); omega, j + 1, _, cs ++ [⟨nm j, cl⟩], _, l4, rfl, rfl, H.upd_upd _ _ _ _, by show (mm : Nat) - 1 + (j + 1) = 4; omega, rfl, by simp; rfl, hgc.add (by omega) hcl hca⟩
          · refine ⟨by show inI64 ((j : Int) + 1); unfold inI64; omega, ?_⟩
            exact ⟨mm - 1, by show mm - 1 < (mm : Nat); omega, j + 1, _, cs, _, l3, rfl, rfl, rfl, by show (mm : Nat) - 1 + (j + 1) = 4; omega, rfl, rfl, hgc.skip⟩
        · exact ⟨⟨key, ⟨⟨#[]⟩, false, 1 + (k.tdiv 3).tmod 7, 1 + (k.tdiv 84).tmod 10⟩, (k.tdiv 3360).tmod 8, 0, cs⟩, l3, rfl, rfl, row_ok hk hA hG hgc (by omega), rfl⟩
      · have hG : natB 0 := ⟨by decide, by decide⟩
        refine ⟨0, [0, 4, 5, 6, 7], 2, fun mm xs lo h2 => ∃ (j : Nat) (q : Int) (cs : List Col) (acc : List V) (l3 : List Int), xs = [.v (.ptr x 0), .lp 0 0, .lp 1 0, .v (V.i k), .v (V.i q)] ∧
            lo = [.cells [.v (V.s ⟨#[]⟩), .v (V.s ⟨#[]⟩), .v (V.b false), .v (V.i 0), .v (V.i 0), .v (V.i 0), .v (V.i 0), .own 5 []], .cells [.v (V.s key), .v (V.s ⟨#[]⟩), .v (V.b false), .v (V.i (1 + (k.tdiv 3).tmod 7)), .v (V.i (1 + (k.tdiv 84).tmod 10)), .v (V.i (0)), .v (V.i 0), .own 5 acc]] ∧
            h2 = h.upd x (LC l3) ∧ mm + j = 4 ∧ q = j ∧ acc = cs.map (fun c => .agg c.v) ∧ GoodC cs j,
          ⟨4, 0, _, [], _, l2, rfl, rfl, rfl, rfl, rfl, rfl, ⟨rfl, Nat.le_refl 0, fun n hn => by cases hn⟩⟩, ?_⟩
        rintro mm xs lo h2 ⟨j, q, cs, acc, l3, rfl, rfl, rfl, hj, rfl, rfl, hgc⟩
        replace hj : (mm : Nat) + j = 4 := hj
        refine ⟨fun c => ?_, fun c => ?_⟩
        · replace c : (j : Int) < 4 := of_decide_eq_true c
          have hgl := hgc.2.1
          refine ⟨by show inI64 (10 + (j : Int)); unfold inI64; omega, ?_⟩
          refine ⟨10 + (j : Int), wrapU64 (by omega) (by omega), ?_⟩
          refine ⟨by show (0:Int) ≤ 10 + (j : Int); omega, ?_⟩
          refine ⟨fun _ => ?_, fun _ => ?_⟩
          · refine ⟨[], fun _ => false, ?_⟩
            refine (c_Names W0 _).mono ?_
            rintro _ _ ⟨rfl, rfl⟩
            refine ⟨V.s (nm j), ⟨by show (0:Int) ≤ (j : Int); omega, nm_get (by show ((j : Nat) : Int).toNat < 4; omega)⟩, ?_⟩
            refine (c_Lcell W0 l3 x (H.upd_get _ _ _)).mono ?_
            rintro _ _ ⟨cl, l4, rfl, hcl, hca, rfl⟩
            refine ⟨by show ((cs.map fun c => V.agg c.v).length + 1) * 56 ≤ 70368744177664; rw [List.length_map]; omega, _, rfl, ?_⟩
            refine ⟨by show inI64 ((j : Int) + 1); unfold inI64; omega, ?_⟩
            exact ⟨mm - 1, by show mm - 1 < (mm : Nat); omega, j + 1, _, cs ++ [⟨nm j, cl⟩], _, l4, rfl, rfl, H.upd_upd _ _ _ _, by show (mm : Nat) - 1 + (j + 1) = 4; omega, rfl, by simp; rfl, hgc.add (by omega) hcl hca⟩
          · refine ⟨by show inI64 ((j : Int) + 1); unfold inI64; omega, ?_⟩
            exact ⟨mm - 1, by show mm - 1 < (mm : Nat); omega, j + 1, _, cs, _, l3, rfl, rfl, rfl, by show (mm : Nat) - 1 + (j + 1) = 4; omega, rfl, rfl, hgc.skip⟩
        · exact ⟨⟨key, ⟨⟨#[]⟩, false, 1 + (k.tdiv 3).tmod 7, 1 + (k.tdiv 84).tmod 10⟩, 0, 0, cs⟩, l3, rfl, rfl, row_ok hk hA hG hgc (by omega), rfl⟩
    · have hA : checkCell ⟨⟨#[]⟩, false, 1 + (k.tdiv 3).tmod 7, 0⟩ = true := check_small (by omega) (by omega) (by omega) (by omega) (by decide)
      refine ⟨quo_ok hk0 hk1 (by decide), ?_⟩
      refine ⟨by show (_ : Int) ≠ _; decide, ?_⟩
      refine ⟨fun _ => ?_, fun _ => ?_⟩
      · have r8 := rem_lt (quo_nn hk0 (n := 3360) (by decide)) (n := 8) (by decide)
        have hG : natB ((k.tdiv 3360).tmod 8) := ⟨r8.1, by omega⟩
        refine ⟨quo_ok hk0 hk1 (by decide), ?_⟩
        refine ⟨by show (_ : Int) ≠ _; decide, ?_⟩
        refine ⟨0, [0, 4, 5, 6, 7], 2, fun mm xs lo h2 => ∃ (j : Nat) (q : Int) (cs : List Col) (acc : List V) (l3 : List Int), xs = [.v (.ptr x 0), .lp 0 0, .lp 1 0, .v (V.i k), .v (V.i q)] ∧
            lo = [.cells [.v (V.s ⟨#[]⟩), .v (V.s ⟨#[]⟩), .v (V.b false), .v (V.i 0), .v (V.i 0), .v (V.i 0), .v (V.i 0), .own 5 []], .cells [.v (V.s key), .v (V.s ⟨#[]⟩), .v (V.b false), .v (V.i (1 + (k.tdiv 3).tmod 7)), .v (V.i (0)), .v (V.i ((k.tdiv 3360).tmod 8)), .v (V.i 0), .own 5 acc]] ∧
            h2 = h.upd x (LC l3) ∧ mm + j = 4 ∧ q = j ∧ acc = cs.map (fun c => .agg c.v) ∧ GoodC cs j,
          ⟨4, 0, _, [], _, l2, rfl, rfl, rfl, rfl, rfl, rfl, ⟨rfl, Nat.le_refl 0, fun n hn => by cases hn⟩⟩, ?_⟩
        rintro mm xs lo h2 ⟨j, q, cs, acc, l3, rfl, rfl, rfl, hj, rfl, rfl, hgc⟩
        replace hj : (mm : Nat) + j = 4 := hj
        refine ⟨fun c => ?_, fun c => ?_⟩
        · replace c : (j : Int) < 4 := of_decide_eq_true c
          have hgl := hgc.2.1
          refine ⟨by show inI64 (10 + (j : Int)); unfold inI64; omega, ?_⟩
          refine ⟨10 + (j : Int), wrapU64 (by omega) (by omega), ?_⟩
          refine ⟨by show (0:Int) ≤ 10 + (j : Int); omega, ?_⟩
          refine ⟨fun _ => ?_, fun _ => ?_⟩
          · refine ⟨[], fun _ => false, ?_⟩
            refine (c_Names W0 _).mono ?_
            rintro _ _ ⟨rfl, rfl⟩
            refine ⟨V.s (nm j), ⟨by show (0:Int) ≤ (j : Int); omega, nm_get (by show ((j : Nat) : Int).toNat < 4; omega)⟩, ?_⟩
            refine (c_Lcell W0 l3 x (H.upd_get _ _ _)).mono ?_
            rintro _ _ ⟨cl, l4, rfl, hcl, hca, rfl⟩
            refine ⟨by show ((cs.map fun c => V.agg c.v).length + 1) * 56 ≤ 70368744177664; rw [List.length_map]; omega, _, rfl, ?_⟩
            refine ⟨by show inI64 ((j : Int) + 1); unfold inI64; omega, ?_⟩
            exact ⟨mm - 1, by show mm - 1 < (mm : Nat); omega, j + 1, _, cs ++ [⟨nm j, cl⟩], _, l4, rfl, rfl, H.upd_upd _ _ _ _, by show (mm : Nat) - 1 + (j + 1) = 4; omega, rfl, by simp; rfl, hgc.add (by omega) hcl hca⟩
          · refine ⟨by show inI64 ((j : Int) + 1); unfold inI64; omega, ?_⟩
            exact ⟨mm - 1, by show mm - 1 < (mm : Nat); omega, j + 1, _, cs, _, l3, rfl, rfl, rfl, by show (mm : Nat) - 1 + (j + 1) = 4; omega, rfl, rfl, hgc.skip⟩
        · exact ⟨⟨key, ⟨⟨#[]⟩, false, 1 + (k.tdiv 3).tmod 7, 0⟩, (k.tdiv 3360).tmod 8, 0, cs⟩, l3, rfl, rfl, row_ok hk hA hG hgc (by omega), rfl⟩
      · have hG : natB 0 := ⟨by decide, by decide⟩
        refine ⟨0, [0, 4, 5, 6, 7], 2, fun mm xs lo h2 => ∃ (j : Nat) (q : Int) (cs : List Col) (acc : List V) (l3 : List Int), xs = [.v (.ptr x 0), .lp 0 0, .lp 1 0, .v (V.i k), .v (V.i q)] ∧
            lo = [.cells [.v (V.s ⟨#[]⟩), .v (V.s ⟨#[]⟩), .v (V.b false), .v (V.i 0), .v (V.i 0), .v (V.i 0), .v (V.i 0), .own 5 []], .cells [.v (V.s key), .v (V.s ⟨#[]⟩), .v (V.b false), .v (V.i (1 + (k.tdiv 3).tmod 7)), .v (V.i (0)), .v (V.i (0)), .v (V.i 0), .own 5 acc]] ∧
            h2 = h.upd x (LC l3) ∧ mm + j = 4 ∧ q = j ∧ acc = cs.map (fun c => .agg c.v) ∧ GoodC cs j,
          ⟨4, 0, _, [], _, l2, rfl, rfl, rfl, rfl, rfl, rfl, ⟨rfl, Nat.le_refl 0, fun n hn => by cases hn⟩⟩, ?_⟩
        rintro mm xs lo h2 ⟨j, q, cs, acc, l3, rfl, rfl, rfl, hj, rfl, rfl, hgc⟩
        replace hj : (mm : Nat) + j = 4 := hj
        refine ⟨fun c => ?_, fun c => ?_⟩
        · replace c : (j : Int) < 4 := of_decide_eq_true c
          have hgl := hgc.2.1
          refine ⟨by show inI64 (10 + (j : Int)); unfold inI64; omega, ?_⟩
          refine ⟨10 + (j : Int), wrapU64 (by omega) (by omega), ?_⟩
          refine ⟨by show (0:Int) ≤ 10 + (j : Int); omega, ?_⟩
          refine ⟨fun _ => ?_, fun _ => ?_⟩
          · refine ⟨[], fun _ => false, ?_⟩
            refine (c_Names W0 _).mono ?_
            rintro _ _ ⟨rfl, rfl⟩
            refine ⟨V.s (nm j), ⟨by show (0:Int) ≤ (j : Int); omega, nm_get (by show ((j : Nat) : Int).toNat < 4; omega)⟩, ?_⟩
            refine (c_Lcell W0 l3 x (H.upd_get _ _ _)).mono ?_
            rintro _ _ ⟨cl, l4, rfl, hcl, hca, rfl⟩
            refine ⟨by show ((cs.map fun c => V.agg c.v).length + 1) * 56 ≤ 70368744177664; rw [List.length_map]; omega, _, rfl, ?_⟩
            refine ⟨by show inI64 ((j : Int) + 1); unfold inI64; omega, ?_⟩
            exact ⟨mm - 1, by show mm - 1 < (mm : Nat); omega, j + 1, _, cs ++ [⟨nm j, cl⟩], _, l4, rfl, rfl, H.upd_upd _ _ _ _, by show (mm : Nat) - 1 + (j + 1) = 4; omega, rfl, by simp; rfl, hgc.add (by omega) hcl hca⟩
          · refine ⟨by show inI64 ((j : Int) + 1); unfold inI64; omega, ?_⟩
            exact ⟨mm - 1, by show mm - 1 < (mm : Nat); omega, j + 1, _, cs, _, l3, rfl, rfl, rfl, by show (mm : Nat) - 1 + (j + 1) = 4; omega, rfl, rfl, hgc.skip⟩
        · exact ⟨⟨key, ⟨⟨#[]⟩, false, 1 + (k.tdiv 3).tmod 7, 0⟩, 0, 0, cs⟩, l3, rfl, rfl, row_ok hk hA hG hgc (by omega), rfl⟩
  · have hA : checkCell ⟨⟨#[]⟩, false, 0, 0⟩ = true := by decide +kernel
    refine ⟨quo_ok hk0 hk1 (by decide), ?_⟩
    refine ⟨by show (_ : Int) ≠ _; decide, ?_⟩
    refine ⟨fun _ => ?_, fun _ => ?_⟩
    · have r8 := rem_lt (quo_nn hk0 (n := 3360) (by decide)) (n := 8) (by decide)
      have hG : natB ((k.tdiv 3360).tmod 8) := ⟨r8.1, by omega⟩
      refine ⟨quo_ok hk0 hk1 (by decide), ?_⟩
      refine ⟨by show (_ : Int) ≠ _; decide, ?_⟩
      refine ⟨0, [0, 4, 5, 6, 7], 2, fun mm xs lo h2 => ∃ (j : Nat) (q : Int) (cs : List Col) (acc : List V) (l3 : List Int), xs = [.v (.ptr x 0), .lp 0 0, .lp 1 0, .v (V.i k), .v (V.i q)] ∧
          lo = [.cells [.v (V.s ⟨#[]⟩), .v (V.s ⟨#[]⟩), .v (V.b false), .v (V.i 0), .v (V.i 0), .v (V.i 0), .v (V.i 0), .own 5 []], .cells [.v (V.s key), .v (V.s ⟨#[]⟩), .v (V.b false), .v (V.i (0)), .v (V.i (0)), .v (V.i ((k.tdiv 3360).tmod 8)), .v (V.i 0), .own 5 acc]] ∧
          h2 = h.upd x (LC l3) ∧ mm + j = 4 ∧ q = j ∧ acc = cs.map (fun c => .agg c.v) ∧ GoodC cs j,
        ⟨4, 0, _, [], _, l2, rfl, rfl, rfl, rfl, rfl, rfl, ⟨rfl, Nat.le_refl 0, fun n hn => by cases hn⟩⟩, ?_⟩
      rintro mm xs lo h2 ⟨j, q, cs, acc, l3, rfl, rfl, rfl, hj, rfl, rfl, hgc⟩
      replace hj : (mm : Nat) + j = 4 := hj
      refine ⟨fun c => ?_, fun c => ?_⟩
      · replace c : (j : Int) < 4 := of_decide_eq_true c
        have hgl := hgc.2.1
        refine ⟨by show inI64 (10 + (j : Int)); unfold inI64; omega, ?_⟩
        refine ⟨10 + (j : Int), wrapU64 (by omega) (by omega), ?_⟩
        refine ⟨by show (0:Int) ≤ 10 + (j : Int); omega, ?_⟩
        refine ⟨fun _ => ?_, fun _ => ?_⟩
        · refine ⟨[], fun _ => false, ?_⟩
          refine (c_Names W0 _).mono ?_
          rintro _ _ ⟨rfl, rfl⟩
          refine ⟨V.s (nm j), ⟨by show (0:Int) ≤ (j : Int); omega, nm_get (by show ((j : Nat) : Int).toNat < 4; omega)⟩, ?_⟩
          refine (c_Lcell W0 l3 x (H.upd_get _ _ _)).mono ?_
          rintro _ _ ⟨cl, l4, rfl, hcl, hca, rfl⟩
          refine ⟨by show ((cs.map fun c => V.agg c.v).length + 1) * 56 ≤ 70368744177664; rw [List.length_map]; omega, _, rfl, ?_⟩
          refine ⟨by show inI64 ((j : Int) + 1); unfold inI64; omega, ?_⟩
          exact ⟨mm - 1, by show mm - 1 < (mm : Nat); omega, j + 1, _, cs ++ [⟨nm j, cl⟩], _, l4, rfl, rfl, H.upd_upd _ _ _ _, by show (mm : Nat) - 1 + (j + 1) = 4; omega, rfl, by simp; rfl, hgc.add (by omega) hcl hca⟩
        · refine ⟨by show inI64 ((j : Int) + 1); unfold inI64; omega, ?_⟩
          exact ⟨mm - 1, by show mm - 1 < (mm : Nat); omega, j + 1, _, cs, _, l3, rfl, rfl, rfl, by show (mm : Nat) - 1 + (j + 1) = 4; omega, rfl, rfl, hgc.skip⟩
      · exact ⟨⟨key, ⟨⟨#[]⟩, false, 0, 0⟩, (k.tdiv 3360).tmod 8, 0, cs⟩, l3, rfl, rfl, row_ok hk hA hG hgc (by omega), rfl⟩
    · have hG : natB 0 := ⟨by decide, by decide⟩
      refine ⟨0, [0, 4, 5, 6, 7], 2, fun mm xs lo h2 => ∃ (j : Nat) (q : Int) (cs : List Col) (acc : List V) (l3 : List Int), xs = [.v (.ptr x 0), .lp 0 0, .lp 1 0, .v (V.i k), .v (V.i q)] ∧
          lo = [.cells [.v (V.s ⟨#[]⟩), .v (V.s ⟨#[]⟩), .v (V.b false), .v (V.i 0), .v (V.i 0), .v (V.i 0), .v (V.i 0), .own 5 []], .cells [.v (V.s key), .v (V.s ⟨#[]⟩), .v (V.b false), .v (V.i (0)), .v (V.i (0)), .v (V.i (0)), .v (V.i 0), .own 5 acc]] ∧
          h2 = h.upd x (LC l3) ∧ mm + j = 4 ∧ q = j ∧ acc = cs.map (fun c => .agg c.v) ∧ GoodC cs j,
        ⟨4, 0, _, [], _, l2, rfl, rfl, rfl, rfl, rfl, rfl, ⟨rfl, Nat.le_refl 0, fun n hn => by cases hn⟩⟩, ?_⟩
      rintro mm xs lo h2 ⟨j, q, cs, acc, l3, rfl, rfl, rfl, hj, rfl, rfl, hgc⟩
      replace hj : (mm : Nat) + j = 4 := hj
      refine ⟨fun c => ?_, fun c => ?_⟩
      · replace c : (j : Int) < 4 := of_decide_eq_true c
        have hgl := hgc.2.1
        refine ⟨by show inI64 (10 + (j : Int)); unfold inI64; omega, ?_⟩
        refine ⟨10 + (j : Int), wrapU64 (by omega) (by omega), ?_⟩
        refine ⟨by show (0:Int) ≤ 10 + (j : Int); omega, ?_⟩
        refine ⟨fun _ => ?_, fun _ => ?_⟩
        · refine ⟨[], fun _ => false, ?_⟩
          refine (c_Names W0 _).mono ?_
          rintro _ _ ⟨rfl, rfl⟩
          refine ⟨V.s (nm j), ⟨by show (0:Int) ≤ (j : Int); omega, nm_get (by show ((j : Nat) : Int).toNat < 4; omega)⟩, ?_⟩
          refine (c_Lcell W0 l3 x (H.upd_get _ _ _)).mono ?_
          rintro _ _ ⟨cl, l4, rfl, hcl, hca, rfl⟩
          refine ⟨by show ((cs.map fun c => V.agg c.v).length + 1) * 56 ≤ 70368744177664; rw [List.length_map]; omega, _, rfl, ?_⟩
          refine ⟨by show inI64 ((j : Int) + 1); unfold inI64; omega, ?_⟩
          exact ⟨mm - 1, by show mm - 1 < (mm : Nat); omega, j + 1, _, cs ++ [⟨nm j, cl⟩], _, l4, rfl, rfl, H.upd_upd _ _ _ _, by show (mm : Nat) - 1 + (j + 1) = 4; omega, rfl, by simp; rfl, hgc.add (by omega) hcl hca⟩
        · refine ⟨by show inI64 ((j : Int) + 1); unfold inI64; omega, ?_⟩
          exact ⟨mm - 1, by show mm - 1 < (mm : Nat); omega, j + 1, _, cs, _, l3, rfl, rfl, rfl, by show (mm : Nat) - 1 + (j + 1) = 4; omega, rfl, rfl, hgc.skip⟩
      · exact ⟨⟨key, ⟨⟨#[]⟩, false, 0, 0⟩, 0, 0, cs⟩, l3, rfl, rfl, row_ok hk hA hG hgc (by omega), rfl⟩

/-- A whole number as eight bytes. -/
def intS (v : Nat) : Str := ⟨(beB (9223372036854775808 + v) 8).toArray⟩
theorem intS_ok : ∀ j, j < 4 → (intS j).size = 8 ∧ ∀ i, i < j → strLess (intS i) (intS j) = true := by decide +kernel
theorem c_Int (v : Nat) (hv : v < 4) (h : H) : ACalls Tryd.prog W0 36 [.v (V.i v)] h fun r h' => r = .v (V.s (intS v)) ∧ h' = h := by
  have hxor : IntKind.u64.wrap ((BitVec.ofInt IntKind.u64.bits (v : Int)) ^^^ (BitVec.ofInt IntKind.u64.bits 9223372036854775808)).toNat = ((9223372036854775808 + v : Nat) : Int) := by
    match v, hv with
    | 0, _ => decide
    | 1, _ => decide
    | 2, _ => decide
    | 3, _ => decide
  refine ACalls.of (C := CO [] fun _ => ([], [], 0)) (cOkO _ _) hP (fn := Tryd.f36) (by kernel_rfl) (by kernel_rfl) ?_
  refine ⟨(v : Int), wrapU64 (by omega) (by omega), ?_⟩
  refine ⟨0, [3, 4, 5], 0, fun mm xs lo h2 => lo = [] ∧ ∃ (j : Nat) (q u : Int) (s : Str), xs = [.v (.lit (.int .u64 u)), .v (V.s s), .v (V.i q)] ∧ h2 = h ∧ mm + j = 8 ∧ q = j ∧ u = ((9223372036854775808 + v : Nat) : Int) ∧ s = ⟨(beB (9223372036854775808 + v) j).toArray⟩,
    ⟨8, rfl, 0, _, _, _, rfl, rfl, rfl, rfl, hxor, rfl⟩, ?_⟩
  rintro mm xs lo h2 ⟨rfl, j, q, u, s, rfl, rfl, hj, rfl, rfl, rfl⟩
  replace hj : (mm : Nat) + j = 8 := hj
  refine ⟨fun c => ?_, fun c => ?_⟩
  · replace c : (j : Int) < 8 := of_decide_eq_true c
    refine ⟨by show inI64 (8 * (j : Int)); unfold inI64; omega, ?_⟩
    refine ⟨8 * (j : Int), wrapU64 (by omega) (by omega), ?_⟩
    refine ⟨by show (0:Int) ≤ 8 * (j : Int); omega, ?_⟩
    refine ⟨((UInt8.ofNat ((9223372036854775808 + v) / 256 ^ j)).toNat : Int), ?_, ?_⟩
    · show IntKind.u8.wrap (((9223372036854775808 + v : Nat) : Int).fdiv (2 ^ (min (8 * (j : Int)).toNat 64))) = _
      have : min (8 * (j : Int)).toNat 64 = 8 * j := by omega
      rw [this, fdiv_shr, wrapU8_mod, Nat.pow_mul]
      simp
    refine ⟨[UInt8.ofNat ((9223372036854775808 + v) / 256 ^ j)], rfl, ?_⟩
    refine ⟨by show 1 + (beB (9223372036854775808 + v) j).length ≤ 9223372036854775807; rw [beB_length]; omega, ?_⟩
    refine ⟨by show inI64 ((j : Int) + 1); unfold inI64; omega, ?_⟩
    refine ⟨mm - 1, by show mm - 1 < (mm : Nat); omega, rfl, j + 1, _, _, _, rfl, rfl, by show (mm : Nat) - 1 + (j + 1) = 8; omega, rfl, rfl, ?_⟩
    simp [beB, ByteArray.append_eq, ByteArray.ext_iff]
  · replace c : ¬ (j : Int) < 8 := of_decide_eq_false c
    obtain rfl : j = 8 := by omega
    exact ⟨rfl, rfl⟩

def GoodR (rs : List Row) (j : Nat) : Prop := rowsOK none rs = true ∧ rs.length ≤ j ∧ ∀ n, lastOrR none rs = some n → ∃ i, i < j ∧ n = intS i
theorem GoodR.skip {cs : List Row} {j : Nat} (h : GoodR cs j) : GoodR cs (j + 1) := ⟨h.1, by have := h.2.1; omega, fun n hn => by obtain ⟨i, hi, e⟩ := h.2.2 n hn; exact ⟨i, by omega, e⟩⟩
theorem GoodR.add {cs : List Row} {j : Nat} (h : GoodR cs j) (hj : j < 4) {w : Row} (hw : w.key = intS j) (hc : checkRow w = true) : GoodR (cs ++ [w]) (j + 1) := by
  refine ⟨rowsOK_add h.1 hc fun n hn => ?_, by rw [List.length_append, List.length_singleton]; have := h.2.1; omega, fun n hn => ?_⟩
  · obtain ⟨i, hi, rfl⟩ := h.2.2 n hn
    rw [hw]; exact (intS_ok j hj).2 i hi
  · rw [lastOrR_snoc] at hn; cases hn; exact ⟨j, by omega, hw⟩
theorem part_ok {key : Str} {g : Int} {rs : List Row} {j : Nat} (hk : key.size ≤ 100) (hg : natB g) (hr : GoodR rs j) (hj : j ≤ 4) : checkPart ⟨key, g, rs⟩ = true := by
  have h1 := hr.2.1
  simp only [checkPart, hr.1, decide_eq_true hk, decide_eq_true hg.1, decide_eq_true hg.2, decide_eq_true (show rs.length ≤ 100 by omega), Bool.and_true, Bool.true_and]

theorem c_Lpart (key : Str) (hk : key.size ≤ 100) (l : List Int) (x : Nat) {h : H} (hx : h x = some (LC l)) :
    ACalls Tryd.prog W0 26 [.v (.ptr x 0), .v (V.s key)] h fun r h' => ∃ (p : Part) (l2 : List Int), r = .v (.agg p.v) ∧ checkPart p = true ∧ h' = h.upd x (LC l2) := by
  refine ACalls.of (C := CO [31] fun i => match i with | 9 => ([0, 1, 2, 3, 4, 5, 6, 7, 8], [9], 1) | _ => ([], [], 0)) (cOkO _ _) hP (fn := Tryd.f26) (by kernel_rfl) (by kernel_rfl) ?_
  refine (c_Next W0 l x hx).mono ?_
  rintro _ _ ⟨k, l2, rfl, hk0, hk1, rfl⟩
  refine ⟨by show (_ : Int) ≠ _; decide, ?_⟩
  refine ⟨fun _ => ?_, fun _ => ?_⟩
  · have r8 := rem_lt (quo_nn hk0 (n := 5) (by decide)) (n := 8) (by decide)
    have hG : natB ((k.tdiv 5).tmod 8) := ⟨r8.1, by omega⟩
    refine ⟨quo_ok hk0 hk1 (by decide), ?_⟩
    refine ⟨by show (_ : Int) ≠ _; decide, ?_⟩
    refine ⟨0, [0, 4, 5, 6, 7], 2, fun mm xs lo h2 => ∃ (j : Nat) (q : Int) (rs : List Row) (acc : List V) (l3 : List Int), xs = [.v (.ptr x 0), .lp 0 0, .lp 1 0, .v (V.i k), .v (V.i q)] ∧
        lo = [.cells [.v (V.s ⟨#[]⟩), .v (V.i 0), .own 8 []], .cells [.v (V.s key), .v (V.i ((k.tdiv 5).tmod 8)), .own 8 acc]] ∧
        h2 = h.upd x (LC l3) ∧ mm + j = 4 ∧ q = j ∧ acc = rs.map (fun c => .agg c.v) ∧ GoodR rs j,
      ⟨4, 0, _, [], _, l2, rfl, rfl, rfl, rfl, rfl, rfl, ⟨rfl, Nat.le_refl 0, fun n hn => by cases hn⟩⟩, ?_⟩
    rintro mm xs lo h2 ⟨j, q, rs, acc, l3, rfl, rfl, rfl, hj, rfl, rfl, hgc⟩
    replace hj : (mm : Nat) + j = 4 := hj
    refine ⟨fun c => ?_, fun c => ?_⟩
    · replace c : (j : Int) < 4 := of_decide_eq_true c
      have hgl := hgc.2.1
      have hsz := (intS_ok j (by omega)).1
      refine ⟨by show inI64 (8 + (j : Int)); unfold inI64; omega, ?_⟩
      refine ⟨8 + (j : Int), wrapU64 (by omega) (by omega), ?_⟩
      refine ⟨by show (0:Int) ≤ 8 + (j : Int); omega, ?_⟩
      refine ⟨fun _ => ?_, fun _ => ?_⟩
      · refine ⟨[], fun _ => false, ?_⟩
        refine (c_Int W0 j (by omega) _).mono ?_
        rintro _ _ ⟨rfl, rfl⟩
        refine (c_Lrow W0 (intS j) (by omega) l3 x (H.upd_get _ _ _)).mono ?_
        rintro _ _ ⟨w, l4, rfl, hwk, hwc, rfl⟩
        refine ⟨by show ((rs.map fun c => V.agg c.v).length + 1) * 96 ≤ 70368744177664; rw [List.length_map]; omega, _, rfl, ?_⟩
        refine ⟨by show inI64 ((j : Int) + 1); unfold inI64; omega, ?_⟩
        exact ⟨mm - 1, by show mm - 1 < (mm : Nat); omega, j + 1, _, rs ++ [w], _, l4, rfl, rfl, H.upd_upd _ _ _ _, by show (mm : Nat) - 1 + (j + 1) = 4; omega, rfl, by simp; rfl, hgc.add (by omega) hwk hwc⟩
      · refine ⟨by show inI64 ((j : Int) + 1); unfold inI64; omega, ?_⟩
        exact ⟨mm - 1, by show mm - 1 < (mm : Nat); omega, j + 1, _, rs, _, l3, rfl, rfl, rfl, by show (mm : Nat) - 1 + (j + 1) = 4; omega, rfl, rfl, hgc.skip⟩
    · exact ⟨⟨key, (k.tdiv 5).tmod 8, rs⟩, l3, rfl, part_ok hk hG hgc (by omega), rfl⟩
  · have hG : natB 0 := ⟨by decide, by decide⟩
    refine ⟨0, [0, 4, 5, 6, 7], 2, fun mm xs lo h2 => ∃ (j : Nat) (q : Int) (rs : List Row) (acc : List V) (l3 : List Int), xs = [.v (.ptr x 0), .lp 0 0, .lp 1 0, .v (V.i k), .v (V.i q)] ∧
        lo = [.cells [.v (V.s ⟨#[]⟩), .v (V.i 0), .own 8 []], .cells [.v (V.s key), .v (V.i (0)), .own 8 acc]] ∧
        h2 = h.upd x (LC l3) ∧ mm + j = 4 ∧ q = j ∧ acc = rs.map (fun c => .agg c.v) ∧ GoodR rs j,
      ⟨4, 0, _, [], _, l2, rfl, rfl, rfl, rfl, rfl, rfl, ⟨rfl, Nat.le_refl 0, fun n hn => by cases hn⟩⟩, ?_⟩
    rintro mm xs lo h2 ⟨j, q, rs, acc, l3, rfl, rfl, rfl, hj, rfl, rfl, hgc⟩
    replace hj : (mm : Nat) + j = 4 := hj
    refine ⟨fun c => ?_, fun c => ?_⟩
    · replace c : (j : Int) < 4 := of_decide_eq_true c
      have hgl := hgc.2.1
      have hsz := (intS_ok j (by omega)).1
      refine ⟨by show inI64 (8 + (j : Int)); unfold inI64; omega, ?_⟩
      refine ⟨8 + (j : Int), wrapU64 (by omega) (by omega), ?_⟩
      refine ⟨by show (0:Int) ≤ 8 + (j : Int); omega, ?_⟩
      refine ⟨fun _ => ?_, fun _ => ?_⟩
      · refine ⟨[], fun _ => false, ?_⟩
        refine (c_Int W0 j (by omega) _).mono ?_
        rintro _ _ ⟨rfl, rfl⟩
        refine (c_Lrow W0 (intS j) (by omega) l3 x (H.upd_get _ _ _)).mono ?_
        rintro _ _ ⟨w, l4, rfl, hwk, hwc, rfl⟩
        refine ⟨by show ((rs.map fun c => V.agg c.v).length + 1) * 96 ≤ 70368744177664; rw [List.length_map]; omega, _, rfl, ?_⟩
        refine ⟨by show inI64 ((j : Int) + 1); unfold inI64; omega, ?_⟩
        exact ⟨mm - 1, by show mm - 1 < (mm : Nat); omega, j + 1, _, rs ++ [w], _, l4, rfl, rfl, H.upd_upd _ _ _ _, by show (mm : Nat) - 1 + (j + 1) = 4; omega, rfl, by simp; rfl, hgc.add (by omega) hwk hwc⟩
      · refine ⟨by show inI64 ((j : Int) + 1); unfold inI64; omega, ?_⟩
        exact ⟨mm - 1, by show mm - 1 < (mm : Nat); omega, j + 1, _, rs, _, l3, rfl, rfl, rfl, by show (mm : Nat) - 1 + (j + 1) = 4; omega, rfl, rfl, hgc.skip⟩
    · exact ⟨⟨key, 0, rs⟩, l3, rfl, part_ok hk hG hgc (by omega), rfl⟩

theorem c_Made (l : List Int) (key : Str) (hk : key.size ≤ 100) (h : H) : ACalls Tryd.prog W0 13 [.v (.sl 1 (l.map V.i)), .v (V.s key)] h fun r h' => ∃ p : Part, r = .v (.agg p.v) ∧ checkPart p = true ∧ h' = h := by
  refine ACalls.forget (Q := fun r h' => ∃ p : Part, r = .v (.agg p.v) ∧ checkPart p = true ∧ H.le h h') ?_ (by rintro a h' ⟨p, rfl, hp, hle⟩; exact ⟨h, hle, p, rfl, hp, rfl⟩)
  refine ACalls.of (C := CO [] fun _ => ([], [], 0)) (cOkO _ _) hP (fn := Tryd.f13) (by kernel_rfl) (by kernel_rfl) ?_
  intro x hx
  refine (c_Lpart W0 key hk l x (H.upd_get _ _ _)).mono ?_
  rintro _ _ ⟨p, l2, rfl, hp, rfl⟩
  refine ⟨p, rfl, hp, ?_⟩
  show H.le h ((h.upd x (LC l)).upd x (LC l2))
  rw [H.upd_upd]
  exact H.le_upd hx
end Go.AI

namespace Go.AI
open Go.Proofs Go
variable (W0 : World)
set_option maxRecDepth 20000
set_option maxHeartbeats 2000000

theorem colsOK_sized : ∀ {l : List Col} {o : Option Str}, colsOK o l = true → ∀ c ∈ l, c.name.size ≤ 100
  | [], _, _, c, hc => by cases hc
  | a :: r, o, h, c, hc => by
    simp only [colsOK, Bool.and_eq_true] at h
    rcases List.mem_cons.1 hc with rfl | hc
    · exact isName_size h.1.1.1.1
    · exact colsOK_sized h.2 c hc
theorem checkRow_sized {r : Row} (h : checkRow r = true) : r.sized := by
  simp only [checkRow, Bool.and_eq_true, decide_eq_true_eq] at h
  exact ⟨by omega, fun c hc => by have := colsOK_sized h.2 c hc; omega⟩
theorem rowsOK_sized : ∀ {l : List Row} {o : Option Str}, rowsOK o l = true → ∀ c ∈ l, c.sized
  | [], _, _, c, hc => by cases hc
  | a :: r, o, h, c, hc => by
    simp only [rowsOK, Bool.and_eq_true] at h
    rcases List.mem_cons.1 hc with rfl | hc
    · exact checkRow_sized h.1.1
    · exact rowsOK_sized h.2 c hc
theorem checkPart_sized {p : Part} (h : checkPart p = true) : p.sized := by
  simp only [checkPart, Bool.and_eq_true, decide_eq_true_eq] at h
  exact ⟨by omega, fun r hr => rowsOK_sized h.2 r hr⟩
theorem extract_take (s : Str) (k : Nat) : s.extract 0 k = ⟨(s.data.toList.take k).toArray⟩ := by
  apply ByteArray.ext
  rw [ByteArray.data_extract]
  apply Array.ext'
  simp
def cutMsg (k : Int) (p : Part) : Msg := ⟨1 + k, 0, 1, 1048576, [⟨⟨#[116, 95, 49]⟩, p⟩], [⟨#[97]⟩, ⟨#[]⟩], 0⟩
theorem t1_name : isName ⟨#[116, 95, 49]⟩ = true := by decide +kernel
theorem cut_check {k : Int} {p : Part} (h0 : 0 ≤ k) (h1 : k < 8) (hp : checkPart p = true) : checkMsg (cutMsg k p) = true := by
  have a : decide (1 ≤ 1 + k) = true := decide_eq_true (by omega)
  have b : decide (1 + k ≤ 8) = true := decide_eq_true (by omega)
  show (decide (1 ≤ 1 + k) && decide (1 + k ≤ 8) && true && true && true && true && true && true && true && ((isName ⟨#[116, 95, 49]⟩ && checkPart p) && true)) = true
  rw [a, b, hp, t1_name]
  rfl
theorem cut_put {k : Int} {p : Part} (h0 : 0 ≤ k) (h1 : k < 8) (hp : checkPart p = true) :
    putMsg (cutMsg k p) = (⟨#[]⟩, 2) ∨ ∃ a, putMsg (cutMsg k p) = (a, 0) ∧ 2 ≤ a.size ∧ a.size ≤ 4096 := by
  unfold putMsg
  rw [if_pos (cut_check h0 h1 hp)]
  by_cases hc : 4096 < (encMsg (cutMsg k p)).length
  · rw [if_pos hc]; exact .inl rfl
  · rw [if_neg hc]
    refine .inr ⟨_, rfl, ?_, by rw [mk_size]; omega⟩
    rw [mk_size]
    simp only [encMsg, List.length_append]
    have g1 := numB_pos (cutMsg k p).kind.toNat
    have g2 := numB_pos (cutMsg k p).frm.toNat
    omega

theorem c_WireCut (hD : DecC W0) (l : List Int) (kind at_ : Int) (h : H) : ACalls Tryd.prog W0 5 [.v (.sl 1 (l.map V.i)), .v (V.i kind), .v (V.i at_)] h fun r h' => r = .v (V.b true) ∧ h' = h := by
  have caw := c_awake W0 hD
  have cmade := c_Made W0 l ⟨#[109]⟩ (by decide)
  refine ACalls.of (C := CO [] fun _ => ([], [], 0)) (cOkO _ _) hP (fn := Tryd.f5) (by kernel_rfl) (by kernel_rfl) ?_
  refine ⟨fun c => ?_, fun c => ?_⟩
  · refine (caw _).mono ?_
    rintro _ _ ⟨rfl, rfl⟩
    exact ⟨rfl, rfl⟩
  refine (c_Place W0 kind 8 (by decide) (by decide) _).mono ?_
  rintro _ h ⟨k, rfl, hk0, hk1, rfl⟩
  refine ⟨by show inI64 (1 + k); unfold inI64; omega, ?_⟩
  refine (cmade _).mono ?_
  rintro _ _ ⟨p, rfl, hp, rfl⟩
  have hms : (cutMsg k p).sized := fun x hx => by
    rw [List.mem_singleton.1 hx]
    exact ⟨Nat.le_of_ble_eq_true rfl, checkPart_sized hp⟩
  have cput := c_Put W0 hD (cutMsg k p) hms
  have hpt := cut_put hk0 hk1 hp
  rcases hpt with hpt | ⟨a, hpt, ha2, ha4⟩
  · rw [hpt] at cput
    refine (cput _).mono ?_
    rintro _ _ ⟨rfl, rfl⟩
    refine ⟨fun c => ?_, fun c => ?_⟩
    · refine ⟨rfl, V.b true, fun hg => caw _, ?_⟩
      exact ⟨rfl, rfl⟩
    · exact nomatch (show true = false from c)
  · have hgp := get_put hpt
    have hgc := fun k hk => get_cut hpt (k := k) hk
    rw [hpt] at cput
    refine (cput _).mono ?_
    rintro _ _ ⟨rfl, rfl⟩
    refine ⟨fun c => ?_, fun c => ?_⟩
    · exfalso
      have : decide ((a.size : Int) < 2) = true := c
      have := of_decide_eq_true this
      omega
    have cg := c_Get W0 hD a
    rw [hgp] at cg
    refine (cg _).mono ?_
    rintro _ _ ⟨rfl, rfl⟩
    refine (c_Place W0 at_ a.size (by omega) (by omega) _).mono ?_
    rintro _ h ⟨j, rfl, hj0, hj1, rfl⟩
    have cg2 := c_Get W0 hD (a.extract 0 j.toNat)
    rw [extract_take, hgc j.toNat (by omega), ← extract_take] at cg2
    refine ⟨by show 0 ≤ j ∧ j ≤ (a.size : Int); omega, ?_⟩
    refine (cg2 _).mono ?_
    rintro _ _ ⟨rfl, rfl⟩
    refine ⟨rfl, V.b (sameMsg (cutMsg k p) (cutMsg k p)), fun hg => c_sameMsg W0 (cutMsg k p) (cutMsg k p) hms (by show 1 ≤ 2 ^ 60; decide) (by show 2 ≤ 2 ^ 60; decide) _, ?_⟩
    refine ⟨rfl, V.b true, fun hg => caw _, ?_⟩
    refine ⟨congrArg (fun x => A.v (V.b x)) ?_, rfl⟩
    rw [sameMsg_iff.2 rfl]
    rfl
end Go.AI

namespace Go.Proofs.YtldpjfopgbeiiaaDoor
open Go Go.ChangeShapes Go.WideShapes Go.ChangeAt Go.WideMaps Go.WideElems Go.RowKit Go.AI
set_option maxRecDepth 100000
set_option maxHeartbeats 2000000

section
variable {H' : Type} {enc : TypeId × Value → H'} {W : World}
theorem o_ints : Opn enc Tryd.prog W 43 (fun vs => ∃ l : List Int, vs = [.sl 1 (l.map V.i)]) := by
  have e : Tryd.prog.cellsOf 3 = 1 := by kernel_rfl
  refine (opn_slice Tryd.underlying43 o_int (by rw [e]; decide) (by rintro _ ⟨c, rfl⟩ x hx; simp at hx; subst hx; rfl) (fun vs => vs.headD default) (by rintro _ ⟨c, rfl⟩; rfl)).mono ?_
  rintro _ ⟨es, h, rfl⟩
  obtain ⟨l, rfl⟩ := list_of (f := fun s : Int => [V.i s]) h
  exact ⟨l, by rw [e, List.map_map]; rfl⟩
end

theorem cut_lifted (os : Os) (started : os.Started) (H' : Type) (enc : TypeId × Value → H') :
    ReturnsInHanded {} Tryd.checked os 5 .any (fun w args => (Rows.wireCutSpec.pre enc Tryd.prog Tryd.f5 [] false w args ∧ laidMetH Tryd.prog lay w) ∧ sizedMet enc Tryd.prog Tryd.f5 (OpenSpec.ofChange Rows.wireCutSpec) false w args)
      (Rows.wireCutSpec.post enc Tryd.prog Tryd.f5 false true false false) := by
  refine returnsInHanded_of_change_and (C := Tryd.checked) (X := fun w _ => laidMetH Tryd.prog lay w) (fun _ _ _ hh h => h.of_heap hh) own started (by kernel_rfl) Tryd.func5
    (ChangeSpec.witness_shaped (enc := enc) (C := Tryd.checked) (os := os) (X := fun w _ => laidMetH Tryd.prog lay w) false (laidWorld os) #[.slice none 0 0, .int .i64 0, .int .i64 0] 8 rfl (World.shaped_of_RefB (by kernel_rfl) (by kernel_rfl)) (by kernel_rfl) (by kernel_rfl) (by kernel_rfl) (laid_met os _)) ?_
  intro W base args ds gs before hval0 hW _ _ hL _
  have hval : ∀ (j : Nat) t v, Tryd.f5.params[j]? = some t → args[j]? = some v → Value.okWide Tryd.prog W .any base t v := hval0
  have hW' := hW
  obtain ⟨p, q, hA0, hV, rfl, hfz, hnd⟩ := hW
  have hA : DataW.TrodAll enc Tryd.prog W 0 (fun _ => true) true Tryd.f5.params.toList args.toList ds p := hA0
  rw [Tryd.params5] at hA hval
  obtain ⟨v0, v1, v2, d0, d1, d2, p0, p1, p2, rfl, rfl, rfl, h0, h1, h2⟩ := trodAll_three hA
  obtain ⟨rfl, rfl⟩ := trodVars_none hV
  obtain ⟨a, rfl, rfl, rfl, wa⟩ := open_int Tryd.underlying3 (hval 1 3 v1 rfl rfl) h1
  obtain ⟨b, rfl, rfl, rfl, wb⟩ := open_int Tryd.underlying3 (hval 2 3 v2 rfl rfl) h2
  obtain ⟨fuel, hf⟩ := h0
  obtain ⟨_, ⟨l, rfl⟩, rc⟩ := o_ints fuel _ _ hf
  have hDc := decC W (tabs hL)
  have hc := (c_WireCut W hDc l a b H.empty).start (us := [v0, .int .i64 a, .int .i64 b]) rfl (fun j u x hu ha => by
    match j, hu, ha with
    | 0, hu, ha =>
      cases hu; cases ha
      have e0 := okWide_slice Tryd.underlying43 (hval 0 43 v0 rfl rfl)
      obtain ⟨u1, u2, u3, rfl⟩ := e0
      exact .v _ _ _ (rc.2 0 _ _ rfl rfl)
    | 1, hu, ha => cases hu; cases ha; exact .v _ _ _ (.lit _)
    | 2, hu, ha => cases hu; cases ha; exact .v _ _ _ (.lit _)) Tryd.func5 (by kernel_rfl) rfl
  refine Calls.mono hc fun e W' ⟨u, x, h', G', he, hq, hra, hb⟩ => ?_
  obtain ⟨rfl, rfl⟩ := hq
  have hu : u = .bool true := hra.v_inv.lit_inv
  subst hu; subst he
  have hlt : ∀ x ∈ p0, x.block < W.heap.size := fun x hx => by simpa using hW'.lt x (by simp [hx])
  refine ⟨_, rfl, _, _, _, [], p0 ++ [], [], hW', ?_, ?_, rfl, hb.frame _, fun h => by cases h⟩
  · exact trodAll_mk1 (shut_bool Tryd.underlying4 _)
  · exact trodAll_mk3 (Below.trod laidOut (by kernel_rfl) (of_decide_eq_true (by kernel_rfl)) ⟨fuel, hf⟩ hb hlt) (shut_int Tryd.underlying3 wa) (shut_int Tryd.underlying3 wb)

theorem wireCut_holds : Rows.WireCutSaid :=
  OpenClaim.holds_of_wide 5 Tryd.f5 rfl rfl rfl rfl rfl rfl rfl ⟨rfl, rfl, rfl, rfl, rfl⟩ rfl rfl rfl rfl rfl (by kernel_rfl) Tryd.func5 (by kernel_rfl)
    (of_decide_eq_true (by kernel_rfl)) (by unfold Func.isWrapper; rw [if_neg (by decide +kernel)]; exact ⟨rfl, rfl⟩)
    (fun os started H enc _ => cut_lifted os started H enc)

theorem wireCutCard_holds : Rows.WireCutCardSaid :=
  Claim7.holds_tied_plain_at .later [] [.data, .pinned] true (true, "a0540003943e4ce48dc1b73b1dcac638270a83da4a8202913963631da2a1b155") false
    wireCut_holds (fun _ h => by cases h) (by kernel_rfl) (fun _ h => by cases h) wireCut_row_tie rfl ⟨rfl, rfl⟩ (by kernel_rfl) rfl
    (fun f fn hf hfn => by
      obtain rfl : f = 5 := Option.some.inj ((show Tryd.prog.funcNamed "clerestory/clerestorylaw21.WireCut" = some 5 by kernel_rfl).symm.trans hf) |>.symm
      obtain rfl : fn = Tryd.f5 := (Option.some.inj (Tryd.func5.symm.trans hfn)).symm
      exact ⟨by kernel_rfl, fun j t ht => by
        rw [Tryd.params5] at ht
        have hm : t ∈ [43, 3, 3] := by simpa using Array.mem_of_getElem? ht
        have hall : ([43, 3, 3].all fun u => !Tryd.prog.wantsStandIn u) = true := by kernel_rfl
        exact (show Tryd.prog.wantsStandIn t = false by simpa using List.all_eq_true.1 hall t hm)⟩)
    (by kernel_rfl)
end Go.Proofs.YtldpjfopgbeiiaaDoor
