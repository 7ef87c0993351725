/- The law WireRefuses of the wire (clerestorylaw21.WireRefuses) returns true for every two integers, and its arguments read behind the call as they did. Conditions: those of the given row alone: the library's two tables of utf8 lie as the program's text lays them. -/
import Derived.Test.YtldpjfopgbeiiaaDoorPC
import Derived.Shelf.Unicode.DecodeAny
import Derived.Test.YtldpjfopgbeiiaaDoorProg
import Derived.Lib.LaidU8T
import Derived.PinnedBridge
import Derived.Test.YtldpjfopgbeiiaaDoorRows
import Derived.Test.YtldpjfopgbeiiaaDoorTie
import Derived.Test.YtldpjfopgbeiiaaDoorCards
import Derived.Lib.LaidIn
import Derived.LaidMore
import Derived.ProofKit
import Derived.OpenShut
import Derived.Stop.Joined
import Derived.SevenTiedAt

namespace Go.AI
open Go.Proofs Go
variable (W0 : World)
set_option maxRecDepth 20000
set_option maxHeartbeats 2000000

theorem all_split {α : Type} {p : α → Bool} {l d r : List α} (hd : l = d ++ r) (h : d.all p = true) : l.all p = r.all p := by rw [hd, List.all_append, h, Bool.true_and]

theorem c_fewRow (r : Row) (h : H) : ACalls Tryd.prog W0 40 [.v (.agg r.v)] h fun x h' => x = .v (V.b (fewRow r)) ∧ h' = h := by
  obtain ⟨key, ⟨val, dead, at_, end_⟩, gone, shade, cols⟩ := r
  have h1 : (cols.map fun c => V.agg c.v).length = cols.length := List.length_map ..
  obtain ⟨p, hp⟩ : ∃ p : Col → Bool, p = fun c => decide (c.name.size ≤ 300) && decide (c.cell.val.size ≤ 300) := ⟨_, rfl⟩
  have hsp : fewRow ⟨key, ⟨val, dead, at_, end_⟩, gone, shade, cols⟩ = ((decide (key.size ≤ 1000) && decide (cols.length ≤ 20) && decide (val.size ≤ 1000)) && cols.all p) := by rw [hp]; rfl
  rw [hsp]
  refine ACalls.of (C := CO [] fun _ => ([], [], 0)) (cOkO _ _) hP (fn := Tryd.f40) (by kernel_rfl) (by kernel_rfl) ?_
  have conv : ∀ x : Bool, x = (bif (bif decide ((1000:Int) < (key.size : Int)) then true else decide ((20:Int) < ((cols.map fun c => V.agg c.v).length : Int))) then true else decide ((1000:Int) < (val.size : Int))) →
      x = !(decide (key.size ≤ 1000) && decide (cols.length ≤ 20) && decide (val.size ≤ 1000)) := by
    rintro x rfl
    rw [h1, dec_lt key.size 1000 1000 rfl, dec_lt cols.length 20 20 rfl, dec_lt val.size 1000 1000 rfl]
    cases decide (key.size ≤ 1000) <;> cases decide (cols.length ≤ 20) <;> cases decide (val.size ≤ 1000) <;> rfl
  refine ⟨fun c4 => ?_, fun c4 => ?_⟩
  · replace c4 := not_t ((conv _ rfl).symm.trans c4)
    rw [c4]
    exact ⟨rfl, rfl⟩
  replace c4 := not_f ((conv _ rfl).symm.trans c4)
  have hl : cols.length ≤ 20 := by
    have := c4
    simp only [Bool.and_eq_true, decide_eq_true_eq] at this
    exact this.1.2
  rw [c4]
  refine ⟨0, [1, 3], 1, fun m xs l h2 => ∃ (d r : List Col) (k : Int), xs = [.lp 0 0, .v (V.i k)] ∧ l = [.cells [.v (V.s key), .v (V.s val), .v (V.b dead), .v (V.i at_), .v (V.i end_), .v (V.i gone), .v (V.i shade), .v (.sl 5 (cols.map fun c => .agg c.v))]] ∧ h2 = h ∧ m = r.length ∧ cols = d ++ r ∧ k = d.length ∧ d.all p = true,
    ⟨cols.length, [], cols, _, rfl, rfl, rfl, rfl, rfl, rfl, rfl⟩, ?_⟩
  rintro m xs l h2 ⟨d, r, k, rfl, rfl, rfl, rfl, hd, rfl, hall⟩
  have hdl : cols.length = d.length + r.length := by rw [hd, List.length_append]
  have hal := all_split hd hall
  refine ⟨fun c6 => ?_, fun c6 => ?_⟩
  · replace c6 : (d.length : Int) < ((cols.map fun c => V.agg c.v).length : Int) := of_decide_eq_true c6
    cases r with
    | nil => exact absurd hdl (by simp only [List.length_nil]; omega)
    | cons c r =>
    simp only [List.length_cons] at hdl
    have g1 : (cols.map fun c => V.agg c.v)[((d.length : Nat) : Int).toNat]? = some (.agg c.v) := by rw [Int.toNat_natCast, hd]; exact map_get _ d c r
    refine ⟨.agg c.v, ⟨by show (0:Int) ≤ (d.length : Int); omega, g1⟩, ?_⟩
    refine ⟨Nat.zero_le _, ?_⟩
    refine ⟨.agg c.v, fun hg => ⟨by show (0:Int) ≤ (d.length : Int); omega, g1⟩, ?_⟩
    refine ⟨Nat.le_of_ble_eq_true rfl, ?_⟩
    refine ⟨Nat.zero_le _, ?_⟩
    have conv : ∀ {x : Bool}, (bif decide ((300:Int) < (c.name.size : Int)) then true else decide ((300:Int) < (c.cell.val.size : Int))) = x → p c = !x := by
      intro x hx
      rw [← hx, hp, dec_lt c.name.size 300 300 rfl, dec_lt c.cell.val.size 300 300 rfl]
      show (decide (c.name.size ≤ 300) && decide (c.cell.val.size ≤ 300)) = _
      cases decide (c.name.size ≤ 300) <;> cases decide (c.cell.val.size ≤ 300) <;> rfl
    refine ⟨fun c8 => ?_, fun c8 => ?_⟩
    · have c9 : p c = false := conv c8
      rw [hal, List.all_cons, c9]
      exact ⟨rfl, rfl⟩
    · have c9 : p c = true := conv c8
      refine ⟨by show inI64 ((d.length : Int) + 1); unfold inI64; omega, ?_⟩
      exact ⟨r.length, by show r.length < r.length + 1; omega, d ++ [c], r, _, rfl, rfl, rfl, rfl, by rw [hd]; simp, by simp, by rw [List.all_append, hall, List.all_cons, c9]; rfl⟩
  · replace c6 : ¬ (d.length : Int) < ((cols.map fun c => V.agg c.v).length : Int) := of_decide_eq_false c6
    cases r with
    | cons c r => exact absurd hdl (by simp only [List.length_cons]; omega)
    | nil =>
    rw [hal]
    exact ⟨rfl, rfl⟩

theorem c_fewPart (p : Part) (most : Int) (hmost : most ≤ 2 ^ 60) (h : H) : ACalls Tryd.prog W0 32 [.v (.agg p.v), .v (V.i most)] h fun x h' => x = .v (V.b (fewPart p most)) ∧ h' = h := by
  obtain ⟨key, gone, rows⟩ := p
  have h1 : (rows.map fun c => V.agg c.v).length = rows.length := List.length_map ..
  have hsp : fewPart ⟨key, gone, rows⟩ most = ((decide (key.size ≤ 300) && decide ((rows.length : Int) ≤ most)) && rows.all fewRow) := rfl
  rw [hsp]
  refine ACalls.of (C := CO [] fun _ => ([], [], 0)) (cOkO _ _) hP (fn := Tryd.f32) (by kernel_rfl) (by kernel_rfl) ?_
  have conv : ∀ x : Bool, x = (bif decide ((300:Int) < (key.size : Int)) then true else decide (most < ((rows.map fun c => V.agg c.v).length : Int))) →
      x = !(decide (key.size ≤ 300) && decide ((rows.length : Int) ≤ most)) := by
    rintro x rfl
    have e : decide (most < (rows.length : Int)) = !decide ((rows.length : Int) ≤ most) := by
      by_cases hh : (rows.length : Int) ≤ most
      · rw [decide_eq_true hh, decide_eq_false (by omega)]; rfl
      · rw [decide_eq_false hh, decide_eq_true (by omega)]; rfl
    rw [h1, dec_lt key.size 300 300 rfl, e]
    cases decide (key.size ≤ 300) <;> cases decide ((rows.length : Int) ≤ most) <;> rfl
  refine ⟨fun c4 => ?_, fun c4 => ?_⟩
  · replace c4 := not_t ((conv _ rfl).symm.trans c4)
    rw [c4]
    exact ⟨rfl, rfl⟩
  replace c4 := not_f ((conv _ rfl).symm.trans c4)
  have hl1 : (rows.length : Int) ≤ most := by
    have := c4
    simp only [Bool.and_eq_true, decide_eq_true_eq] at this
    exact this.2
  rw [c4]
  refine ⟨0, [2, 5], 1, fun m xs l h2 => ∃ (d r : List Row) (k : Int), xs = [.lp 0 0, .v (V.i k)] ∧ l = [.cells [.v (V.s key), .v (V.i gone), .v (.sl 8 (rows.map fun c => .agg c.v))]] ∧ h2 = h ∧ m = r.length ∧ rows = d ++ r ∧ k = d.length ∧ d.all fewRow = true,
    ⟨rows.length, [], rows, _, rfl, rfl, rfl, rfl, rfl, rfl, rfl⟩, ?_⟩
  rintro m xs l h2 ⟨d, r, k, rfl, rfl, rfl, rfl, hd, rfl, hall⟩
  have hdl : rows.length = d.length + r.length := by rw [hd, List.length_append]
  have hal := all_split hd hall
  refine ⟨fun c6 => ?_, fun c6 => ?_⟩
  · replace c6 : (d.length : Int) < ((rows.map fun c => V.agg c.v).length : Int) := of_decide_eq_true c6
    cases r with
    | nil => exact absurd hdl (by simp only [List.length_nil]; omega)
    | cons c r =>
    simp only [List.length_cons] at hdl
    have g1 : (rows.map fun c => V.agg c.v)[((d.length : Nat) : Int).toNat]? = some (.agg c.v) := by rw [Int.toNat_natCast, hd]; exact map_get _ d c r
    refine ⟨.agg c.v, ⟨by show (0:Int) ≤ (d.length : Int); omega, g1⟩, ?_⟩
    refine (c_fewRow W0 c _).mono ?_
    rintro _ _ ⟨rfl, rfl⟩
    refine ⟨fun c8 => ?_, fun c8 => ?_⟩
    · have c9 : fewRow c = false := not_t c8
      rw [hal, List.all_cons, c9]
      exact ⟨rfl, rfl⟩
    · have c9 : fewRow c = true := not_f c8
      refine ⟨by show inI64 ((d.length : Int) + 1); unfold inI64; omega, ?_⟩
      exact ⟨r.length, by show r.length < r.length + 1; omega, d ++ [c], r, _, rfl, rfl, rfl, rfl, by rw [hd]; simp, by simp, by rw [List.all_append, hall, List.all_cons, c9]; rfl⟩
  · replace c6 : ¬ (d.length : Int) < ((rows.map fun c => V.agg c.v).length : Int) := of_decide_eq_false c6
    cases r with
    | cons c r => exact absurd hdl (by simp only [List.length_cons]; omega)
    | nil =>
    rw [hal]
    exact ⟨rfl, rfl⟩

theorem c_fewMuts (l : List Mut) (most rows : Int) (hmost : most ≤ 2 ^ 60) (hrows : rows ≤ 2 ^ 60) (h : H) : ACalls Tryd.prog W0 22 [.v (.sl 4 (l.map fun m => .agg m.v)), .v (V.i most), .v (V.i rows)] h fun x h' => x = .v (V.b (fewMuts l most rows)) ∧ h' = h := by
  have h1 : (l.map fun c => V.agg c.v).length = l.length := List.length_map ..
  obtain ⟨p, hp⟩ : ∃ p : Mut → Bool, p = fun m => decide (m.table.size ≤ 300) && fewPart m.part rows := ⟨_, rfl⟩
  have hsp : fewMuts l most rows = (decide ((l.length : Int) ≤ most) && l.all p) := by rw [hp]; rfl
  rw [hsp]
  refine ACalls.of (C := CO [] fun _ => ([], [], 0)) (cOkO _ _) hP (fn := Tryd.f22) (by kernel_rfl) (by kernel_rfl) ?_
  refine ⟨0, [0, 1, 2, 7], 0, fun m xs lo h2 => lo = [] ∧ ∃ (d r : List Mut) (k : Int), xs = [.v (.sl 4 (l.map fun m => .agg m.v)), .v (V.i most), .v (V.i rows), .v (V.i k)] ∧ h2 = h ∧ m = r.length ∧ l = d ++ r ∧ k = d.length ∧ d.all p = true,
    ⟨l.length, rfl, [], l, _, rfl, rfl, rfl, rfl, rfl, rfl⟩, ?_⟩
  rintro m xs lo h2 ⟨rfl, d, r, k, rfl, rfl, rfl, hd, rfl, hall⟩
  have hdl : l.length = d.length + r.length := by rw [hd, List.length_append]
  have hal := all_split hd hall
  have conv : ∀ {x : Bool}, (bif decide ((d.length : Int) < ((l.map fun c => V.agg c.v).length : Int)) then decide ((d.length : Int) < most) else false) = x → (x = true ↔ (d.length < l.length ∧ (d.length : Int) < most)) := by
    intro x hx
    rw [← hx, h1]
    simp only [Bool.cond_false_right, Bool.and_eq_true, decide_eq_true_eq]
    omega
  refine ⟨fun c6 => ?_, fun c6 => ?_⟩
  · obtain ⟨c6, c7⟩ := (conv c6).1 rfl
    cases r with
    | nil => exact absurd hdl (by simp only [List.length_nil]; omega)
    | cons c r =>
    simp only [List.length_cons] at hdl
    have g1 : (l.map fun c => V.agg c.v)[((d.length : Nat) : Int).toNat]? = some (.agg c.v) := by rw [Int.toNat_natCast, hd]; exact map_get _ d c r
    refine ⟨.agg c.v, ⟨by show (0:Int) ≤ (d.length : Int); omega, g1⟩, ?_⟩
    refine ⟨Nat.zero_le _, ?_⟩
    refine ⟨.agg c.v, fun hg => ⟨by show (0:Int) ≤ (d.length : Int); omega, g1⟩, ?_⟩
    refine ⟨Nat.le_of_ble_eq_true rfl, ?_⟩
    refine ⟨rfl, V.b (fewPart c.part rows), fun hg => c_fewPart W0 c.part rows hrows _, ?_⟩
    have conv : ∀ {x : Bool}, (bif decide ((300:Int) < (c.table.size : Int)) then true else !fewPart c.part rows) = x → p c = !x := by
      intro x hx
      rw [← hx, hp, dec_lt c.table.size 300 300 rfl]
      show (decide (c.table.size ≤ 300) && fewPart c.part rows) = _
      cases decide (c.table.size ≤ 300) <;> cases fewPart c.part rows <;> rfl
    refine ⟨fun c8 => ?_, fun c8 => ?_⟩
    · have c9 : p c = false := conv c8
      rw [hal, List.all_cons, c9]
      exact ⟨congrArg (fun x => A.v (V.b x)) (by simp), rfl⟩
    · have c9 : p c = true := conv c8
      refine ⟨by show inI64 ((d.length : Int) + 1); unfold inI64; omega, ?_⟩
      exact ⟨r.length, by show r.length < r.length + 1; omega, rfl, d ++ [c], r, _, rfl, rfl, rfl, by rw [hd]; simp, by simp, by rw [List.all_append, hall, List.all_cons, c9]; rfl⟩
  · replace c6 : ¬ (d.length < l.length ∧ (d.length : Int) < most) := fun hh => Bool.false_ne_true ((conv c6).2 hh)
    refine ⟨congrArg (fun x => A.v (V.b x)) ?_, rfl⟩
    show decide (((l.map fun c => V.agg c.v).length : Int) ≤ most) = (decide ((l.length : Int) ≤ most) && l.all p)
    rw [h1]
    by_cases hm : (l.length : Int) ≤ most
    · have : r = [] := by
        cases r with
        | nil => rfl
        | cons c r => exact absurd ⟨by simp only [List.length_cons] at hdl; omega, by simp only [List.length_cons] at hdl; omega⟩ c6
      rw [hal, this]; simp
    · simp [hm]

theorem c_few (m : Msg) (h : H) : ACalls Tryd.prog W0 10 [.v (.agg m.v)] h fun x h' => x = .v (V.b (fewMsg m)) ∧ h' = h := by
  obtain ⟨kind, frm, to, id, muts, keys, num⟩ := m
  have e1 : (keys.map V.s).length = keys.length := List.length_map ..
  obtain ⟨p, hp⟩ : ∃ p : Str → Bool, p = fun s => decide (s.size ≤ 300) := ⟨_, rfl⟩
  have hsp : fewMsg ⟨kind, frm, to, id, muts, keys, num⟩ = ((decide (keys.length ≤ 50) && keys.all p) && fewMuts muts 20 10) := by rw [hp]; rfl
  rw [hsp]
  refine ACalls.of (C := CO [] fun _ => ([], [], 0)) (cOkO _ _) hP (fn := Tryd.f10) (by kernel_rfl) (by kernel_rfl) ?_
  refine ⟨0, [1, 3], 1, fun m xs l h2 => ∃ (d r : List Str) (k : Int), xs = [.lp 0 0, .v (V.i k)] ∧ l = [.cells [.v (V.i kind), .v (V.i frm), .v (V.i to), .v (V.i id), .v (.sl 4 (muts.map fun x => .agg x.v)), .v (.sl 1 (keys.map V.s)), .v (V.i num)]] ∧ h2 = h ∧ m = r.length ∧ keys = d ++ r ∧ k = d.length ∧ d.all p = true,
    ⟨keys.length, [], keys, _, rfl, rfl, rfl, rfl, rfl, rfl, rfl⟩, ?_⟩
  rintro m xs lo h2 ⟨d, r, k, rfl, rfl, rfl, rfl, hd, rfl, hall⟩
  have hdl : keys.length = d.length + r.length := by rw [hd, List.length_append]
  have hal := all_split hd hall
  have conv : ∀ {x : Bool}, (bif decide ((d.length : Int) < ((keys.map V.s).length : Int)) then decide ((d.length : Int) < 50) else false) = x → (x = true ↔ (d.length < keys.length ∧ d.length < 50)) := by
    intro x hx
    rw [← hx, e1]
    simp only [Bool.cond_false_right, Bool.and_eq_true, decide_eq_true_eq]
    omega
  refine ⟨fun c6 => ?_, fun c6 => ?_⟩
  · obtain ⟨c6, c7⟩ := (conv c6).1 rfl
    cases r with
    | nil => exact absurd hdl (by simp only [List.length_nil]; omega)
    | cons c r =>
    simp only [List.length_cons] at hdl
    have g1 : (keys.map V.s)[((d.length : Nat) : Int).toNat]? = some (V.s c) := by rw [Int.toNat_natCast, hd]; exact map_get _ d c r
    refine ⟨V.s c, ⟨by show (0:Int) ≤ (d.length : Int); omega, g1⟩, ?_⟩
    have conv : ∀ {x : Bool}, decide ((300:Int) < (c.size : Int)) = x → p c = !x := by
      intro x hx
      rw [← hx, hp, dec_lt c.size 300 300 rfl, Bool.not_not]
    refine ⟨fun c8 => ?_, fun c8 => ?_⟩
    · have c9 : p c = false := conv c8
      rw [hal, List.all_cons, c9]
      exact ⟨congrArg (fun x => A.v (V.b x)) (by simp), rfl⟩
    · have c9 : p c = true := conv c8
      refine ⟨by show inI64 ((d.length : Int) + 1); unfold inI64; omega, ?_⟩
      exact ⟨r.length, by show r.length < r.length + 1; omega, d ++ [c], r, _, rfl, rfl, rfl, rfl, by rw [hd]; simp, by simp, by rw [List.all_append, hall, List.all_cons, c9]; rfl⟩
  · replace c6 : ¬ (d.length < keys.length ∧ d.length < 50) := fun hh => Bool.false_ne_true ((conv c6).2 hh)
    refine ⟨rfl, V.b (fewMuts muts 20 10), fun hg => c_fewMuts W0 muts 20 10 (by decide) (by decide) _, ?_⟩
    refine ⟨congrArg (fun x => A.v (V.b x)) ?_, rfl⟩
    show (bif decide (((keys.map V.s).length : Int) ≤ 50) then fewMuts muts 20 10 else false) = ((decide (keys.length ≤ 50) && keys.all p) && fewMuts muts 20 10)
    rw [e1]
    by_cases hm : keys.length ≤ 50
    · have : r = [] := by
        cases r with
        | nil => rfl
        | cons c r => exact absurd ⟨by simp only [List.length_cons] at hdl; omega, by simp only [List.length_cons] at hdl; omega⟩ c6
      have e2 : decide ((keys.length : Int) ≤ 50) = true := decide_eq_true (by omega)
      rw [hal, this, e2]; simp [hm]
    · have e2 : decide ((keys.length : Int) ≤ 50) = false := decide_eq_false (by omega)
      rw [e2]; simp [hm]

theorem few_sized {m : Msg} (h : fewMsg m = true) : m.sized ∧ m.muts.length ≤ 20 ∧ m.keys.length ≤ 50 := by
  simp only [fewMsg, fewMuts, Bool.and_eq_true, decide_eq_true_eq, List.all_eq_true] at h
  obtain ⟨⟨h1, h2⟩, h3, h4⟩ := h
  refine ⟨fun x hx => ?_, by omega, h1⟩
  obtain ⟨a1, a2⟩ := h4 x hx
  simp only [fewPart, Bool.and_eq_true, decide_eq_true_eq, List.all_eq_true] at a2
  obtain ⟨⟨b1, b2⟩, b3⟩ := a2
  refine ⟨by omega, by omega, fun r hr => ?_⟩
  have := b3 r hr
  simp only [fewRow, Bool.and_eq_true, decide_eq_true_eq, List.all_eq_true] at this
  obtain ⟨⟨⟨d1, d2⟩, d3⟩, d4⟩ := this
  exact ⟨by omega, fun c hc => by have := (d4 c hc).1; omega⟩
end Go.AI

namespace Go.AI
open Go.Proofs Go
variable (W0 : World)
set_option maxRecDepth 20000
set_option maxHeartbeats 2000000

theorem doneMsg_v : doneMsg.v = [V.i 2, V.i 0, V.i 0, V.i 0, .sl 4 [], .sl 1 [], V.i 0] := rfl
theorem c_awake (hD : DecC W0) (h : H) : ACalls Tryd.prog W0 9 [] h fun r h' => r = .v (V.b true) ∧ h' = h := by
  have c := c_Put W0 hD doneMsg (fun x hx => by cases hx)
  rw [awake_put, doneMsg_v] at c
  refine ACalls.of (C := CO [] fun _ => ([], [], 0)) (cOkO _ _) hP (fn := Tryd.f9) (by kernel_rfl) (by kernel_rfl) ?_
  refine (c _).mono ?_
  rintro _ _ ⟨rfl, rfl⟩
  refine ⟨congrArg (fun x => A.v (V.b x)) ?_, rfl⟩
  show (bif ((0:Int) == 0) then decide ((⟨#[1, 2, 0, 0, 0, 0, 0, 0]⟩ : ByteArray) = ⟨#[1, 2, 0, 0, 0, 0, 0, 0]⟩) else false) = true
  simp

theorem c_WireBack (hD : DecC W0) (m : Msg) (s : Str) (h : H) : ACalls Tryd.prog W0 4 [.v (.agg m.v), .v (V.s s)] h fun r h' => r = .v (V.b true) ∧ h' = h := by
  have cf := c_few W0 m
  have caw := c_awake W0 hD
  have hsz := @few_sized m
  have cput := c_Put W0 hD m
  have hgp := @get_put m
  have hgm := @get_put_more m
  have hpo := @putMsg_ok m
  obtain ⟨a, e, hp⟩ : ∃ a e, putMsg m = (a, e) := ⟨_, _, rfl⟩
  rw [hp] at cput hgp hgm hpo
  have cg := c_Get W0 hD s
  have hnn := @get_none s
  have hpg := @put_get s
  have hxs := getMsg_sized s
  obtain ⟨x, g, hg⟩ : ∃ x g, getMsg s = (x, g) := ⟨_, _, rfl⟩
  rw [hg] at cg hnn hpg hxs
  have cga := c_Get W0 hD a
  obtain ⟨y, g2, hy⟩ : ∃ y g2, getMsg (a ++ ⟨#[0]⟩) = (y, g2) := ⟨_, _, rfl⟩
  have cgb := c_Get W0 hD (a ++ ⟨#[0]⟩)
  rw [hy] at cgb
  refine ACalls.of (C := CO [] fun _ => ([], [], 0)) (cOkO _ _) hP (fn := Tryd.f4) (by kernel_rfl) (by kernel_rfl) ?_
  refine (cf _).mono ?_
  rintro _ _ ⟨rfl, rfl⟩
  refine ⟨fun c2 => ?_, fun c2 => ?_⟩
  · refine (caw _).mono ?_
    rintro _ _ ⟨rfl, rfl⟩
    exact ⟨rfl, rfl⟩
  have c3 : fewMsg m = true ∧ s.size ≤ 5000 := by
    have : (bif !fewMsg m then true else decide ((5000:Int) < (s.size : Int))) = false := c2
    cases hf : fewMsg m with
    | false => rw [hf] at this; cases this
    | true =>
      rw [hf] at this
      have : ¬ (5000:Int) < (s.size : Int) := of_decide_eq_false this
      exact ⟨rfl, by omega⟩
  obtain ⟨hms, hm1, hm2⟩ := hsz c3.1
  have hxs := hxs (by omega)
  replace hxs : x.sized ∧ x.muts.length ≤ 2 ^ 60 ∧ x.keys.length ≤ 2 ^ 60 := ⟨hxs.1, by have := hxs.2.1; simp only [] at this; omega, by have := hxs.2.2; simp only [] at this; omega⟩
  refine (cput hms _).mono ?_
  rintro _ _ ⟨rfl, rfl⟩
  refine ⟨fun c5 => ?_, fun c5 => ?_⟩
  · replace c5 : e = 0 := by simpa using (show ((e : Int) == 0) = true from c5)
    subst c5
    have k1 := hgp rfl
    have k2 := hgm rfl
    have k3 := hpo rfl
    have k4 : a.size ≤ 4096 := by rw [k3.2.1, mk_size]; exact k3.2.2
    rw [k1] at cga
    rw [hy] at k2
    refine (cga _).mono ?_
    rintro _ _ ⟨rfl, rfl⟩
    refine ⟨by show a.size + 1 ≤ 9223372036854775807; omega, ?_⟩
    refine (cgb _).mono ?_
    rintro _ _ ⟨rfl, rfl⟩
    refine ⟨rfl, V.b (sameMsg m m), fun hg => c_sameMsg W0 m m hms (by omega) (by omega) _, ?_⟩
    have hcond : ∀ z : Bool, z = (bif (bif ((0:Int) != 0) then true else !sameMsg m m) then true else (bif ((g2 : Int) != 6) then (bif ((g2 : Int) != 2) then true else decide ((a.size : Int) < 4096)) else false)) → z = false := by
      rintro z rfl
      rw [sameMsg_iff.2 rfl]
      rcases k2 with k2 | ⟨k2, k5⟩
      · simp only [] at k2; rw [k2]; rfl
      · simp only [] at k2; rw [k2]
        have : decide ((a.size : Int) < 4096) = false := decide_eq_false (by omega)
        rw [this]; rfl
    refine ⟨fun c9 => absurd (c9.symm.trans (hcond _ rfl)) (by decide), fun c9 => ?_⟩
    refine (cg _).mono ?_
    rintro _ _ ⟨rfl, rfl⟩
    refine ⟨fun c11 => ?_, fun c11 => ?_⟩
    · have hx := hnn (by simpa using (show ((g : Int) != 0) = true from c11))
      refine (c_sameMsg W0 x Msg.none hxs.1 hxs.2.1 hxs.2.2 _).mono ?_
      rintro _ _ ⟨rfl, rfl⟩
      refine ⟨rfl, V.b true, fun hg => caw _, ?_⟩
      refine ⟨congrArg (fun x => A.v (V.b x)) ?_, rfl⟩
      show (bif sameMsg x Msg.none then true else false) = true
      rw [sameMsg_iff.2 hx]; rfl
    · have hx := hpg (by simpa using (show ((g : Int) != 0) = false from c11))
      have cp2 := c_Put W0 hD x hxs.1
      rw [hx.1] at cp2
      refine (cp2 _).mono ?_
      rintro _ _ ⟨rfl, rfl⟩
      refine ⟨rfl, V.b (checkMsg x), fun hg => c_checkMsg W0 hD x hxs.1 _, ?_⟩
      refine ⟨rfl, V.b true, fun hg => caw _, ?_⟩
      refine ⟨congrArg (fun x => A.v (V.b x)) ?_, rfl⟩
      show (bif (bif (bif ((0:Int) == 0) then decide (s = s) else false) then checkMsg x else false) then true else false) = true
      rw [hx.2]; simp
  · skip
    refine (cg _).mono ?_
    rintro _ _ ⟨rfl, rfl⟩
    refine ⟨fun c11 => ?_, fun c11 => ?_⟩
    · have hx := hnn (by simpa using (show ((g : Int) != 0) = true from c11))
      refine (c_sameMsg W0 x Msg.none hxs.1 hxs.2.1 hxs.2.2 _).mono ?_
      rintro _ _ ⟨rfl, rfl⟩
      refine ⟨rfl, V.b true, fun hg => caw _, ?_⟩
      refine ⟨congrArg (fun x => A.v (V.b x)) ?_, rfl⟩
      show (bif sameMsg x Msg.none then true else false) = true
      rw [sameMsg_iff.2 hx]; rfl
    · have hx := hpg (by simpa using (show ((g : Int) != 0) = false from c11))
      have cp2 := c_Put W0 hD x hxs.1
      rw [hx.1] at cp2
      refine (cp2 _).mono ?_
      rintro _ _ ⟨rfl, rfl⟩
      refine ⟨rfl, V.b (checkMsg x), fun hg => c_checkMsg W0 hD x hxs.1 _, ?_⟩
      refine ⟨rfl, V.b true, fun hg => caw _, ?_⟩
      refine ⟨congrArg (fun x => A.v (V.b x)) ?_, rfl⟩
      show (bif (bif (bif ((0:Int) == 0) then decide (s = s) else false) then checkMsg x else false) then true else false) = true
      rw [hx.2]; simp
end Go.AI

/-
  DERIVED: THE SHELF's CONTRACTS AT THIS DUMP, IN PLAIN WORDS (tools/lay-plain.mjs out of 'YtldpjfopgbeiiaaDoorLay.lean', which tools/lay-shelf.mjs wrote): THE SAME DECLARATIONS UNDER THE SAME NAMES: 'import', 'namespace', 'open', 'def', 'theorem' AND NOTHING ELSE: no command of the shelf's: FOR A HAND-IN. Each laying: the table of numbers ('.._ren') and one theorem, a field a fact of the dump's own or the kernel's comparison; each contract: ONE APPLICATION.
-/
namespace Go.Proofs
open Go.Shelf
def Tryd.lays197_ren : Go.Shelf.Ren := ⟨fun | 197 => 37 | 260 => 44 | n => n, fun | 9 => 9 | 21 => 21 | 3 => 3 | 4 => 4 | 5 => 5 | 105 => 94 | 119 => 105 | 0 => 0 | 46 => 91 | 139 => 108 | 138 => 107 | n => n, fun | 3 => 0 | 4 => 1 | n => n⟩
theorem Tryd.lays197 : Go.Proofs.Lays.n197 Tryd.prog Tryd.lays197_ren := {
  mixed := by kernel_rfl
  f197 := Tryd.func37.trans (congrArg some (by kernel_rfl))
  f260 := Tryd.func44.trans (congrArg some (by kernel_rfl))
  t0 := Tryd.underlying0
  a0 := Tryd.isAgg0
  z0 := Tryd.sizeOf0
  v0 := Tryd.zeroValue0
  t3 := Tryd.underlying3
  a3 := Tryd.isAgg3
  z3 := Tryd.sizeOf3
  v3 := Tryd.zeroValue3
  t4 := Tryd.underlying4
  a4 := Tryd.isAgg4
  z4 := Tryd.sizeOf4
  v4 := Tryd.zeroValue4
  t5 := Tryd.underlying5
  a5 := Tryd.isAgg5
  z5 := Tryd.sizeOf5
  v5 := Tryd.zeroValue5
  t9 := Tryd.underlying9
  a9 := Tryd.isAgg9
  z9 := Tryd.sizeOf9
  v9 := Tryd.zeroValue9
  t21 := Tryd.underlying21
  a21 := Tryd.isAgg21
  z21 := Tryd.sizeOf21
  v21 := Tryd.zeroValue21
  t46 := Tryd.underlying91
  a46 := Tryd.isAgg91
  z46 := Tryd.sizeOf91
  v46 := Tryd.zeroValue91
  t105 := Tryd.underlying94
  a105 := Tryd.isAgg94
  z105 := Tryd.sizeOf94
  v105 := Tryd.zeroValue94
  t119 := Tryd.underlying105
  a119 := Tryd.isAgg105
  z119 := Tryd.sizeOf105
  t138 := Tryd.underlying107
  a138 := Tryd.isAgg107
  z138 := Tryd.sizeOf107
  v138 := Tryd.zeroValue107
  t139 := Tryd.underlying108
  a139 := Tryd.isAgg108
  z139 := Tryd.sizeOf108
  v139 := Tryd.zeroValue108
  g3 := by kernel_rfl
  g4 := by kernel_rfl }
end Go.Proofs

namespace Go.AI
open Go.Proofs Go Go.RowKit
variable (W0 : World)
set_option maxRecDepth 20000

theorem fin_pres {w w' : World} {G : Gh} (b : Nat) (h : (∃ x, G.ow b = .ho x) ∨ ∃ x j, G.ow b = .pl (.hc x j)) (hw : w'.heap[b]? = w.heap[b]?) : Pres w G w' (G.fin none) b := by
  refine ⟨?_, rfl, hw⟩
  rcases h with ⟨x, h⟩ | ⟨x, j, h⟩ <;> simp [Gh.fin, h]

theorem decC (hT : Lib.Utf8Tabs (Tryd.lays197_ren.g 3) (Tryd.lays197_ren.g 4) W0) : DecC W0 := by
  intro s h w G us hw hl ha hh ho
  obtain ⟨u, rfl⟩ : ∃ u, us = [u] := by
    cases us with
    | nil => simp at hl
    | cons u r => cases r with
      | nil => exact ⟨u, rfl⟩
      | cons => simp at hl
  have hu : u = .string s := (ha 0 u _ rfl rfl).v_inv.lit_inv
  subst hu
  have hT2 : Lib.Utf8Tabs (Tryd.lays197_ren.g 3) (Tryd.lays197_ren.g 4) w := Utf8Tabs_below hT hw.below
  have c := Any.utf8_DecodeRuneInString Tryd.lays197 s w hT2
  unfold Entered
  have he : (callFunc 37 [Value.string s].toArray).run Tryd.prog w = .ok (.enter 37 [Value.string s].toArray) w := by
    have h2 : ((Tryd.f37).name == "runtime.NumGoroutine") = false := by kernel_rfl
    have h1 : (Tryd.f37).name ≠ "runtime.NumGoroutine" := by simpa using h2
    obtain ⟨cb, hcb⟩ : ∃ cb, (Tryd.f37).body = some cb := ⟨_, rfl⟩
    simp [callFunc, Tryd.func37, h1, hcb, mark]
  rw [he]
  refine Calls.mono c fun e w' ⟨hret, hb⟩ => ?_
  have hbl : ∀ b, b < w.heap.size → w'.heap[b]? = w.heap[b]? := fun b hlt => hb.block b hlt
  have ext : Ext w G w' (G.fin none) := by
    refine ⟨hb.size, Nat.le_refl _, fun _ _ => rfl, fun _ => Nat.le_refl _, fun b o hlt => ?_⟩
    rcases Nat.lt_or_ge b w.heap.size with h1 | h1
    · exact cell_of_heap (hbl b h1)
    · have := (hw.past b h1).2
      rw [this] at hlt; exact absurd hlt (Nat.not_lt_zero _)
  refine ⟨_, .v (.tup [.lit (.int .i32 (decG s).1), V.i (decG s).2]), h, G.fin none, hret, ⟨rfl, rfl⟩, ⟨fun b hb' => ?_, fun x hx => Nat.lt_of_lt_of_le (hw.ph x hx) hb.size, fun b hb' => ?_, hw.below.trans (hb.mono hw.below.size)⟩, ?_, fun x cs hx => ?_, ext, fun b hlt hf => ⟨hbl b hlt, ?_, rfl⟩, fun b => ?_⟩
  · have := hw.past b (Nat.le_trans hb.size hb')
    exact ⟨by simp [Gh.fin, this.1], this.2⟩
  · simp [Gh.fin, hw.old b hb']
  · refine .v _ _ _ (.tup [_, _] _ rfl fun j u c hu hc => ?_)
    match j, hu, hc with
    | 0, hu, hc => cases hu; cases hc; exact .lit _
    | 1, hu, hc => cases hu; cases hc; exact .lit _
  · refine (hh x cs hx).pres ext fun b hb' => fin_pres b ?_ (hbl b ?_)
    · rcases hb' with h1 | ⟨j, h1⟩
      · exact .inl ⟨_, h1⟩
      · exact .inr ⟨_, _, h1⟩
    · rcases Nat.lt_or_ge b w.heap.size with h1 | h1
      · exact h1
      · have := (hw.past b h1).1
        rcases hb' with h2 | ⟨j, h2⟩ <;> rw [h2] at this <;> cases this
  · rcases hf with h1 | h1 <;> simp [Gh.fin, h1]
  · have hob := ho b
    have hx : ∀ o : Ow, G.ow b = o → (match (match o with | .pl (.slot j) => if (none : Option Nat) = some j then .pl .ret else .free | .lo _ => .free | .pl (.lc _ _) => .free | o => o : Ow) with
        | .free | .ho _ | .pl (.hc _ _) | .pl .ret => True | .out => b < w.heap.size ∧ G.ow b = .out | _ => False) := by
      intro o e
      rw [e] at hob
      cases o with
      | free => trivial
      | ho x => trivial
      | out =>
        refine ⟨?_, e⟩
        rcases Nat.lt_or_ge b w.heap.size with h1 | h1
        · exact h1
        · have := (hw.past b h1).1; rw [e] at this; cases this
      | lo k => exact hob.elim
      | pl p =>
        cases p with
        | slot k => simp
        | hc x j => trivial
        | lc k j => exact hob.elim
        | ret => exact hob.elim
    exact hx _ rfl
end Go.AI

namespace Go.AI
open Go.Proofs Go Go.RowKit
set_option maxRecDepth 20000
section
variable {H' : Type} {enc : TypeId × Value → H'} {W : World}

theorem Opn.mono {t : TypeId} {S S' : List V → Prop} {P : Program} (h : Opn enc P W t S) (hs : ∀ vs, S vs → S' vs) : Opn enc P W t S' := by
  intro fuel cs x hx
  obtain ⟨vs, h1, h2⟩ := h fuel cs x hx
  exact ⟨vs, hs vs h1, h2⟩
theorem list_of {α : Type} {f : α → List V} : ∀ {es : List (List V)}, (∀ x ∈ es, ∃ a, x = f a) → ∃ l : List α, es = l.map f := by
  intro es
  induction es with
  | nil => intro _; exact ⟨[], rfl⟩
  | cons x es ih =>
    intro h
    obtain ⟨a, rfl⟩ := h x (by simp)
    obtain ⟨l, rfl⟩ := ih fun y hy => h y (by simp [hy])
    exact ⟨a :: l, rfl⟩

theorem o_int : Opn enc Tryd.prog W 3 (fun vs => ∃ n, vs = [V.i n]) := opn_int Tryd.underlying3
theorem o_str : Opn enc Tryd.prog W 9 (fun vs => ∃ s, vs = [V.s s]) := opn_string Tryd.underlying9
theorem o_bool : Opn enc Tryd.prog W 4 (fun vs => ∃ s, vs = [V.b s]) := opn_bool Tryd.underlying4
theorem o_cell : Opn enc Tryd.prog W 83 (fun vs => ∃ c : Cell, vs = c.v) := by
  refine (opn_struct Tryd.underlying83 (by kernel_rfl) (show OpnAll enc Tryd.prog W _ [_, _, _, _] from ⟨o_str, o_bool, o_int, o_int, trivial⟩)).mono ?_
  rintro _ ⟨_, _, ⟨a, rfl⟩, ⟨_, _, ⟨b, rfl⟩, ⟨_, _, ⟨c, rfl⟩, ⟨_, _, ⟨d, rfl⟩, rfl, rfl⟩, rfl⟩, rfl⟩, rfl⟩
  exact ⟨⟨a, b, c, d⟩, rfl⟩
theorem o_col : Opn enc Tryd.prog W 99 (fun vs => ∃ c : Col, vs = c.v) := by
  refine (opn_struct Tryd.underlying99 (by kernel_rfl) (show OpnAll enc Tryd.prog W _ [_, _] from ⟨o_str, o_cell, trivial⟩)).mono ?_
  rintro _ ⟨_, _, ⟨a, rfl⟩, ⟨_, _, ⟨b, rfl⟩, rfl, rfl⟩, rfl⟩
  exact ⟨⟨a, b⟩, rfl⟩
theorem o_cols : Opn enc Tryd.prog W 84 (fun vs => ∃ l : List Col, vs = [.sl 5 (l.map fun c => .agg c.v)]) := by
  have e : Tryd.prog.cellsOf 99 = 5 := by kernel_rfl
  refine (opn_slice Tryd.underlying84 o_col (by rw [e]; decide) (by rintro _ ⟨c, rfl⟩ x hx; simp [Col.v] at hx; rcases hx with rfl | rfl | rfl | rfl | rfl <;> rfl) V.agg (fun _ _ => rfl)).mono ?_
  rintro _ ⟨es, h, rfl⟩
  obtain ⟨l, rfl⟩ := list_of h
  exact ⟨l, by rw [e, List.map_map]; rfl⟩
theorem o_row : Opn enc Tryd.prog W 86 (fun vs => ∃ c : Row, vs = c.v) := by
  refine (opn_struct Tryd.underlying86 (by kernel_rfl) (show OpnAll enc Tryd.prog W _ [_, _, _, _, _] from ⟨o_str, o_cell, o_int, o_int, o_cols, trivial⟩)).mono ?_
  rintro _ ⟨_, _, ⟨a, rfl⟩, ⟨_, _, ⟨b, rfl⟩, ⟨_, _, ⟨c, rfl⟩, ⟨_, _, ⟨d, rfl⟩, ⟨_, _, ⟨e, rfl⟩, rfl, rfl⟩, rfl⟩, rfl⟩, rfl⟩, rfl⟩
  exact ⟨⟨a, b, c, d, e⟩, rfl⟩
theorem o_rows : Opn enc Tryd.prog W 32 (fun vs => ∃ l : List Row, vs = [.sl 8 (l.map fun c => .agg c.v)]) := by
  have e : Tryd.prog.cellsOf 86 = 8 := by kernel_rfl
  refine (opn_slice Tryd.underlying32 o_row (by rw [e]; decide) (by rintro _ ⟨c, rfl⟩ x hx; simp [Row.v] at hx; rcases hx with rfl | rfl | rfl | rfl | rfl | rfl | rfl | rfl <;> rfl) V.agg (fun _ _ => rfl)).mono ?_
  rintro _ ⟨es, h, rfl⟩
  obtain ⟨l, rfl⟩ := list_of h
  exact ⟨l, by rw [e, List.map_map]; rfl⟩
theorem o_part : Opn enc Tryd.prog W 34 (fun vs => ∃ c : Part, vs = c.v) := by
  refine (opn_struct Tryd.underlying34 (by kernel_rfl) (show OpnAll enc Tryd.prog W _ [_, _, _] from ⟨o_str, o_int, o_rows, trivial⟩)).mono ?_
  rintro _ ⟨_, _, ⟨a, rfl⟩, ⟨_, _, ⟨b, rfl⟩, ⟨_, _, ⟨c, rfl⟩, rfl, rfl⟩, rfl⟩, rfl⟩
  exact ⟨⟨a, b, c⟩, rfl⟩
theorem o_mut : Opn enc Tryd.prog W 36 (fun vs => ∃ c : Mut, vs = c.v) := by
  refine (opn_struct Tryd.underlying36 (by kernel_rfl) (show OpnAll enc Tryd.prog W _ [_, _] from ⟨o_str, o_part, trivial⟩)).mono ?_
  rintro _ ⟨_, _, ⟨a, rfl⟩, ⟨_, _, ⟨b, rfl⟩, rfl, rfl⟩, rfl⟩
  exact ⟨⟨a, b⟩, rfl⟩
theorem o_muts : Opn enc Tryd.prog W 24 (fun vs => ∃ l : List Mut, vs = [.sl 4 (l.map fun c => .agg c.v)]) := by
  have e : Tryd.prog.cellsOf 36 = 4 := by kernel_rfl
  refine (opn_slice Tryd.underlying24 o_mut (by rw [e]; decide) (by rintro _ ⟨c, rfl⟩ x hx; simp [Mut.v] at hx; rcases hx with rfl | rfl | rfl | rfl <;> rfl) V.agg (fun _ _ => rfl)).mono ?_
  rintro _ ⟨es, h, rfl⟩
  obtain ⟨l, rfl⟩ := list_of h
  exact ⟨l, by rw [e, List.map_map]; rfl⟩
theorem o_strs : Opn enc Tryd.prog W 23 (fun vs => ∃ l : List Str, vs = [.sl 1 (l.map V.s)]) := by
  have e : Tryd.prog.cellsOf 9 = 1 := by kernel_rfl
  refine (opn_slice Tryd.underlying23 o_str (by rw [e]; decide) (by rintro _ ⟨c, rfl⟩ x hx; simp at hx; subst hx; rfl) (fun vs => vs.headD default) (by rintro _ ⟨c, rfl⟩; rfl)).mono ?_
  rintro _ ⟨es, h, rfl⟩
  obtain ⟨l, rfl⟩ := list_of (f := fun s : Str => [V.s s]) h
  exact ⟨l, by rw [e, List.map_map]; rfl⟩
theorem o_msg : Opn enc Tryd.prog W 26 (fun vs => ∃ m : Msg, vs = m.v) := by
  refine (opn_struct Tryd.underlying26 (by kernel_rfl) (show OpnAll enc Tryd.prog W _ [_, _, _, _, _, _, _] from ⟨o_int, o_int, o_int, o_int, o_muts, o_strs, o_int, trivial⟩)).mono ?_
  rintro _ ⟨_, _, ⟨a, rfl⟩, ⟨_, _, ⟨b, rfl⟩, ⟨_, _, ⟨c, rfl⟩, ⟨_, _, ⟨d, rfl⟩, ⟨_, _, ⟨e, rfl⟩, ⟨_, _, ⟨f, rfl⟩, ⟨_, _, ⟨g, rfl⟩, rfl, rfl⟩, rfl⟩, rfl⟩, rfl⟩, rfl⟩, rfl⟩, rfl⟩
  exact ⟨⟨a, b, c, d, e, f, g⟩, rfl⟩
end
end Go.AI

namespace Go.Proofs.YtldpjfopgbeiiaaDoor
open Go Go.ChangeShapes Go.WideShapes Go.ChangeAt Go.WideMaps Go.WideElems Go.RowKit Go.AI
set_option maxRecDepth 100000
set_option maxHeartbeats 2000000

theorem own : ownKnob Tryd.prog.godebug = none := by kernel_rfl
theorem laidOut : laidOutB Tryd.prog = true := by kernel_rfl

/-- THE WITNESS: the settled world, the two variables holding what their initialisers lay. -/
noncomputable def laidWorld (os : Os) : World :=
  let w0 := World.holding Tryd.prog os ⟨#[], #[], []⟩
  let put (h : Array Obj) (g : Nat) (cs : Array Value) : Array Obj := h.modify g fun
    | .cells _ t frozen => .cells cs t frozen
    | o => o
  let h1 := put w0.heap 0 (Lib.firstTab.map fun z => Value.int .u8 z).toArray
  let h2 := put h1 1 ((List.range 16).flatMap fun i => [Value.int .u8 (Lib.accLo i), Value.int .u8 (Lib.accHi i)]).toArray
  { w0 with heap := h2 }
def lay : List (String × DataW Unit) := [("unicode/utf8.acceptRanges", Rows.laid_unicode_utf8_acceptRanges), ("unicode/utf8.first", Rows.laid_unicode_utf8_first)]
theorem lay_eq : lay = [("unicode/utf8.acceptRanges", Lib.acceptData), ("unicode/utf8.first", Lib.firstData)] := by
  have h1 : (Rows.laid_unicode_utf8_acceptRanges : DataW Unit) = Lib.acceptData := by kernel_rfl
  unfold lay Rows.laid_unicode_utf8_first
  rw [h1, Pinned.utf8First_eq]
theorem lay_plain (w : World) : laidMetH Tryd.prog lay w = laidMet Tryd.prog lay w := MakeChecks.laidMetH_plain _ _ _ (by kernel_rfl)
theorem laid_met (os : Os) (args : Array Value) : laidMetH Tryd.prog lay ((laidWorld os).forCall (fun _ _ => 0) ⟨#[], args, []⟩).memory := by
  rw [lay_plain, lay_eq]
  exact (LaidIn.of_run (l := [("unicode/utf8.acceptRanges", Lib.acceptData), ("unicode/utf8.first", Lib.firstData)]) [0, 1] 8 (by kernel_rfl) (by kernel_rfl) (by kernel_rfl) (by kernel_rfl)).met
theorem tabs {W : World} (h : laidMetH Tryd.prog lay W) : Lib.Utf8Tabs (Tryd.lays197_ren.g 3) (Tryd.lays197_ren.g 4) W := by
  rw [lay_plain, lay_eq] at h
  exact utf8Tabs_of_readsT { t5 := Tryd.lays197.t5, t119 := Tryd.lays197.t119, t138 := Tryd.lays197.t138, t139 := Tryd.lays197.t139 }
    ⟨by kernel_rfl, by kernel_rfl, by kernel_rfl, by kernel_rfl, by kernel_rfl, by kernel_rfl, by kernel_rfl⟩ (Lib.laidMet.reads h (.tail _ (.head _))) (Lib.laidMet.reads h (.head _))

end Go.Proofs.YtldpjfopgbeiiaaDoor

namespace Go.AI
open Go.Proofs Go
variable (W0 : World)
set_option maxRecDepth 20000
set_option maxHeartbeats 2000000

theorem c_Place (v n : Int) (h0 : 0 < n) (h1 : n ≤ 2 ^ 40) (h : H) : ACalls Tryd.prog W0 6 [.v (V.i v), .v (V.i n)] h fun r h' => ∃ k : Int, r = .v (V.i k) ∧ 0 ≤ k ∧ k < n ∧ h' = h := by
  have hlo : -n < v.tmod n := Int.lt_tmod_of_pos v h0
  have hhi : v.tmod n < n := Int.tmod_lt_of_pos v h0
  refine ACalls.of (C := CO [] fun _ => ([], [], 0)) (cOkO _ _) hP (fn := Tryd.f6) (by kernel_rfl) (by kernel_rfl) ?_
  refine ⟨by show n ≠ 0; omega, ?_⟩
  refine ⟨fun c => ?_, fun c => ?_⟩
  · replace c : v.tmod n < 0 := of_decide_eq_true c
    refine ⟨by show inI64 (v.tmod n + n); unfold inI64; omega, ?_⟩
    exact ⟨v.tmod n + n, rfl, by omega, by omega, rfl⟩
  · replace c : ¬ v.tmod n < 0 := of_decide_eq_false c
    exact ⟨v.tmod n, rfl, by omega, hhi, rfl⟩

def askMsg : Msg := ⟨3, 1, 2, 5, [], [⟨#[116, 95, 49]⟩, ⟨#[109]⟩], 0⟩
theorem ask_put : putMsg askMsg = (⟨(encMsg askMsg).toArray⟩, 0) ∧ checkMsg askMsg = true ∧ 10 ≤ (encMsg askMsg).length := by decide +kernel
def zs (n : Nat) : Str := ⟨(List.replicate n (0 : UInt8)).toArray⟩
theorem zs_size (n : Nat) : (zs n).size = n := by rw [zs, mk_size, List.length_replicate]
def bigMsg : Msg := ⟨3, 1, 2, 5, [⟨⟨#[116]⟩, ⟨zs 100, 0, []⟩⟩], List.replicate 40 (zs 100), 0⟩
theorem big_put : checkMsg bigMsg = true ∧ 4096 < (encMsg bigMsg).length := by decide +kernel
theorem put_bad {m : Msg} (h : checkMsg m = false) : putMsg m = (⟨#[]⟩, 1) := by unfold putMsg; rw [if_neg (by rw [h]; exact Bool.false_ne_true)]
theorem put_big {m : Msg} (h : checkMsg m = true) (hl : 4096 < (encMsg m).length) : putMsg m = (⟨#[]⟩, 2) := by unfold putMsg; rw [if_pos h, if_pos hl]
theorem bytes_zero (n : Nat) : List.replicate n (V.u8 0) = V.bytes (List.replicate n 0) := by simp [V.bytes]

/-- What is put of a message that may not be, or is too much; and what Check says. -/
theorem c_bad (hD : DecC W0) {m : Msg} {l : List V} (hm : m.sized) (hl : m.v = l) (hc : checkMsg m = false) :
    (∀ h : H, ACalls Tryd.prog W0 7 [.v (.agg l)] h fun r h' => r = .v (.tup [V.s ⟨#[]⟩, V.i 1]) ∧ h' = h) ∧ ∀ h : H, ACalls Tryd.prog W0 8 [.v (.agg l)] h fun r h' => r = .v (V.b false) ∧ h' = h := by
  have cp := c_Put W0 hD m hm
  have ck := c_checkMsg W0 hD m hm
  rw [put_bad hc, hl] at cp
  rw [hc, hl] at ck
  exact ⟨cp, ck⟩
theorem c_big (hD : DecC W0) {m : Msg} {l : List V} (hm : m.sized) (hl : m.v = l) (hc : checkMsg m = true) (hb : 4096 < (encMsg m).length) :
    (∀ h : H, ACalls Tryd.prog W0 7 [.v (.agg l)] h fun r h' => r = .v (.tup [V.s ⟨#[]⟩, V.i 2]) ∧ h' = h) ∧ ∀ h : H, ACalls Tryd.prog W0 8 [.v (.agg l)] h fun r h' => r = .v (V.b true) ∧ h' = h := by
  have cp := c_Put W0 hD m hm
  have ck := c_checkMsg W0 hD m hm
  rw [put_big hc hb, hl] at cp
  rw [hc, hl] at ck
  exact ⟨cp, ck⟩

theorem c_WireRefuses (hD : DecC W0) (how v : Int) (h : H) : ACalls Tryd.prog W0 3 [.v (V.i how), .v (V.i v)] h fun r h' => r = .v (V.b true) ∧ h' = h := by
  have caw := c_awake W0 hD
  have nom : ∀ m : Msg, m.muts = [] → m.sized := fun m hm x hx => by rw [hm] at hx; cases hx
  have cask := c_Put W0 hD askMsg (nom _ rfl)
  have ckask := c_checkMsg W0 hD askMsg (nom _ rfl)
  rw [ask_put.1] at cask
  rw [ask_put.2.1] at ckask
  have hlen := ask_put.2.2
  refine ACalls.of (C := CO [43] fun i => match i with | 12 => ([0, 1, 2, 3, 4, 5, 6], [7], 0) | _ => ([], [], 0)) (cOkO _ _) hP (fn := Tryd.f3) (by kernel_rfl) (by kernel_rfl) ?_
  refine (c_Place W0 v 100 (by decide) (by decide) _).mono ?_
  rintro _ h ⟨k, rfl, hk0, hk1, rfl⟩
  refine ⟨by show inI64 (1 + k); unfold inI64; omega, ?_⟩
  refine (cask _).mono ?_
  rintro _ _ ⟨rfl, rfl⟩
  refine ⟨rfl, V.b true, fun hg => ckask _, ?_⟩
  refine ⟨fun c4 => ?_, fun _ => ?_⟩
  · exfalso
    have : (bif (bif ((0:Int) != 0) then true else !true) then true else decide (((⟨(encMsg askMsg).toArray⟩ : ByteArray).size : Int) < 10)) = true := c4
    have h2 : ((⟨(encMsg askMsg).toArray⟩ : ByteArray).size : Int) < 10 := of_decide_eq_true this
    rw [mk_size] at h2
    omega
  refine (c_Place W0 how 8 (by decide) (by decide) _).mono ?_
  rintro _ h ⟨w, rfl, hw0, hw1, rfl⟩
  refine ⟨fun _ => ?_, fun _ => ?_⟩
  · have cb := c_bad W0 hD (m := ⟨8 + (1 + k), 1, 2, 5, [], [⟨#[116, 95, 49]⟩, ⟨#[109]⟩], 0⟩) (nom _ rfl) (rfl) (by have : decide (8 + (1 + k) ≤ 8) = false := decide_eq_false (by omega); simp [checkMsg, this])
    refine ⟨by show inI64 (8 + (1 + k)); unfold inI64; omega, ?_⟩
    refine (cb.1 _).mono ?_
    rintro _ _ ⟨rfl, rfl⟩
    refine ⟨rfl, V.b false, fun hg => cb.2 _, ?_⟩
    refine ⟨rfl, V.b true, fun hg => caw _, ?_⟩
    exact ⟨rfl, rfl⟩
  refine ⟨fun _ => ?_, fun _ => ?_⟩
  · have cb := c_bad W0 hD (m := ⟨3, -(1 + k), 2, 5, [], [⟨#[116, 95, 49]⟩, ⟨#[109]⟩], 0⟩) (nom _ rfl) (rfl) (by have : inB (-(1 + k)) 4 = false := (by unfold inB; rw [decide_eq_false (by omega : ¬ 0 ≤ -(1 + k))]; rfl); simp [checkMsg, this])
    refine ⟨by show inI64 (-(1 + k)); unfold inI64; omega, ?_⟩
    refine (cb.1 _).mono ?_
    rintro _ _ ⟨rfl, rfl⟩
    refine ⟨rfl, V.b false, fun hg => cb.2 _, ?_⟩
    refine ⟨rfl, V.b true, fun hg => caw _, ?_⟩
    exact ⟨rfl, rfl⟩
  refine ⟨fun _ => ?_, fun _ => ?_⟩
  · have cb := c_bad W0 hD (m := ⟨3, 1, 4 + (1 + k), 5, [], [⟨#[116, 95, 49]⟩, ⟨#[109]⟩], 0⟩) (nom _ rfl) (rfl) (by have : inB (4 + (1 + k)) 4 = false := (by unfold inB; rw [decide_eq_false (by omega : ¬ 4 + (1 + k) ≤ 4)]; simp); simp [checkMsg, this])
    refine ⟨by show inI64 (4 + (1 + k)); unfold inI64; omega, ?_⟩
    refine (cb.1 _).mono ?_
    rintro _ _ ⟨rfl, rfl⟩
    refine ⟨rfl, V.b false, fun hg => cb.2 _, ?_⟩
    refine ⟨rfl, V.b true, fun hg => caw _, ?_⟩
    exact ⟨rfl, rfl⟩
  refine ⟨fun _ => ?_, fun _ => ?_⟩
  · have cb := c_bad W0 hD (m := ⟨3, 1, 2, 1099511627776 + (1 + k), [], [⟨#[116, 95, 49]⟩, ⟨#[109]⟩], 0⟩) (nom _ rfl) (rfl) (by have : inB (1099511627776 + (1 + k)) 1099511627776 = false := (by unfold inB; rw [decide_eq_false (by omega : ¬ 1099511627776 + (1 + k) ≤ 1099511627776)]; simp); simp [checkMsg, this])
    refine ⟨by show inI64 (1099511627776 + (1 + k)); unfold inI64; omega, ?_⟩
    refine (cb.1 _).mono ?_
    rintro _ _ ⟨rfl, rfl⟩
    refine ⟨rfl, V.b false, fun hg => cb.2 _, ?_⟩
    refine ⟨rfl, V.b true, fun hg => caw _, ?_⟩
    exact ⟨rfl, rfl⟩
  refine ⟨fun _ => ?_, fun _ => ?_⟩
  · have cb := c_bad W0 hD (m := ⟨3, 1, 2, 5, [], List.replicate (40 + (1 + k)).toNat ⟨#[]⟩, 0⟩) (nom _ rfl) (show _ = [V.i 3, V.i 1, V.i 2, V.i 5, .sl 4 [], .sl 1 (List.replicate (40 + (1 + k)).toNat (V.s ⟨#[]⟩)), V.i 0] by simp [Msg.v]) (by have : decide ((List.replicate (40 + (1 + k)).toNat (⟨#[]⟩ : Str)).length ≤ 40) = false := decide_eq_false (by rw [List.length_replicate]; omega); simp [checkMsg, this]; intros; omega)
    refine ⟨by show inI64 (40 + (1 + k)); unfold inI64; omega, ?_⟩
    refine ⟨by show (0:Int) ≤ 40 + (1 + k); omega, Int.le_refl _, by show (40 + (1 + k)) * 16 ≤ 70368744177664; omega, by show 40 + (1 + k) ≤ 70368744177664; omega, ?_⟩
    refine (cb.1 _).mono ?_
    rintro _ _ ⟨rfl, rfl⟩
    refine ⟨rfl, V.b false, fun hg => cb.2 _, ?_⟩
    refine ⟨rfl, V.b true, fun hg => caw _, ?_⟩
    exact ⟨rfl, rfl⟩
  refine ⟨fun _ => ?_, fun _ => ?_⟩
  · have cb := c_bad W0 hD (m := ⟨3, 1, 2, 5, [], [zs (100 + (1 + k)).toNat], 0⟩) (nom _ rfl) (rfl) (by have : decide ((zs (100 + (1 + k)).toNat).size ≤ 100) = false := decide_eq_false (by rw [zs_size]; omega); simp [checkMsg, this])
    refine ⟨by show inI64 (100 + (1 + k)); unfold inI64; omega, ?_⟩
    refine ⟨by show (0:Int) ≤ 100 + (1 + k); omega, Int.le_refl _, by show (100 + (1 + k)) * 1 ≤ 70368744177664; omega, by show 100 + (1 + k) ≤ 70368744177664; omega, ?_⟩
    refine ⟨List.replicate (100 + (1 + k)).toNat 0, bytes_zero _, ?_⟩
    refine (cb.1 _).mono ?_
    rintro _ _ ⟨rfl, rfl⟩
    refine ⟨rfl, V.b false, fun hg => cb.2 _, ?_⟩
    refine ⟨rfl, V.b true, fun hg => caw _, ?_⟩
    exact ⟨rfl, rfl⟩
  refine ⟨fun _ => ?_, fun _ => ?_⟩
  · have cb := c_bad W0 hD (m := ⟨3, 1, 2, 5, [⟨⟨#[84]⟩, ⟨⟨#[]⟩, 0, []⟩⟩], [⟨#[116, 95, 49]⟩, ⟨#[109]⟩], 0⟩) (by intro x hx; rw [List.mem_singleton.1 hx]; exact ⟨by decide, Nat.zero_le _, fun r hr => by cases hr⟩) (rfl) (by decide +kernel)
    refine (cb.1 _).mono ?_
    rintro _ _ ⟨rfl, rfl⟩
    refine ⟨rfl, V.b false, fun hg => cb.2 _, ?_⟩
    refine ⟨rfl, V.b true, fun hg => caw _, ?_⟩
    exact ⟨rfl, rfl⟩
  have cb := c_big W0 hD (m := bigMsg) (by intro x hx; rw [List.mem_singleton.1 hx]; exact ⟨by decide, Nat.zero_le _, fun r hr => by cases hr⟩) (show _ = [V.i 3, V.i 1, V.i 2, V.i 5, .sl 4 [.agg [V.s ⟨#[116]⟩, V.s (zs 100), V.i 0, .sl 8 []]], .sl 1 (List.replicate 40 (V.s (zs 100))), V.i 0] by simp [Msg.v, bigMsg, Mut.v]) big_put.1 big_put.2
  refine ⟨0, [6, 10], 1, fun mm xs l h2 => ∃ (j : Nat) (q : Int) (acc : List V), xs = [.lp 0 0, .v (V.i q)] ∧ l = [.cells [.v (V.i 3), .v (V.i 1), .v (V.i 2), .v (V.i 5), .v (.sl 4 []), .own 1 acc, .v (V.i 0)]] ∧ h2 = h ∧ mm + j = 40 ∧ q = j ∧ acc = List.replicate j (V.s (zs 100)),
    ⟨40, 0, _, _, rfl, rfl, rfl, rfl, rfl, rfl⟩, ?_⟩
  rintro mm xs l h2 ⟨j, q, acc, rfl, rfl, rfl, hj, rfl, rfl⟩
  replace hj : (mm : Nat) + j = 40 := hj
  refine ⟨fun c => ?_, fun c => ?_⟩
  · replace c : (j : Int) < 40 := of_decide_eq_true c
    refine ⟨by decide, by decide, by decide, by decide, ?_⟩
    refine ⟨List.replicate 100 0, bytes_zero 100, ?_⟩
    refine ⟨by show ((List.replicate j (V.s (zs 100))).length + 1) * 16 ≤ 70368744177664; rw [List.length_replicate]; omega, _, rfl, ?_⟩
    refine ⟨by show inI64 ((j : Int) + 1); unfold inI64; omega, ?_⟩
    exact ⟨mm - 1, by show mm - 1 < (mm : Nat); omega, j + 1, _, _, rfl, rfl, rfl, by show (mm : Nat) - 1 + (j + 1) = 40; omega, rfl, (List.replicate_succ' (n := j) (a := V.s (zs 100))).symm⟩
  · replace c : ¬ (j : Int) < 40 := of_decide_eq_false c
    obtain rfl : j = 40 := by omega
    refine ⟨by decide, by decide, by decide, by decide, ?_⟩
    refine ⟨List.replicate 100 0, bytes_zero 100, ?_⟩
    refine (cb.1 _).mono ?_
    rintro _ _ ⟨rfl, rfl⟩
    refine ⟨rfl, V.b true, fun hg => cb.2 _, ?_⟩
    refine ⟨rfl, V.b true, fun hg => caw _, ?_⟩
    exact ⟨rfl, rfl⟩
end Go.AI

namespace Go.Proofs.YtldpjfopgbeiiaaDoor
open Go Go.ChangeShapes Go.WideShapes Go.ChangeAt Go.WideMaps Go.WideElems Go.RowKit Go.AI
set_option maxRecDepth 100000
set_option maxHeartbeats 2000000

theorem refuses_lifted (os : Os) (started : os.Started) (H' : Type) (enc : TypeId × Value → H') :
    ReturnsInHanded {} Tryd.checked os 3 .any (fun w args => (Rows.wireRefusesSpec.pre enc Tryd.prog Tryd.f3 [] false w args ∧ laidMetH Tryd.prog lay w) ∧ sizedMet enc Tryd.prog Tryd.f3 (OpenSpec.ofChange Rows.wireRefusesSpec) false w args)
      (Rows.wireRefusesSpec.post enc Tryd.prog Tryd.f3 false true false false) := by
  refine returnsInHanded_of_change_and (C := Tryd.checked) (X := fun w _ => laidMetH Tryd.prog lay w) (fun _ _ _ hh h => h.of_heap hh) own started (by kernel_rfl) Tryd.func3
    (ChangeSpec.witness_shaped (enc := enc) (C := Tryd.checked) (os := os) (X := fun w _ => laidMetH Tryd.prog lay w) false (laidWorld os) #[.int .i64 0, .int .i64 0] 8 rfl (World.shaped_of_RefB (by kernel_rfl) (by kernel_rfl)) (by kernel_rfl) (by kernel_rfl) (by kernel_rfl) (laid_met os _)) ?_
  intro W base args ds gs before hval0 hW _ _ hL _
  have hval : ∀ (j : Nat) t v, Tryd.f3.params[j]? = some t → args[j]? = some v → Value.okWide Tryd.prog W .any base t v := hval0
  have hW' := hW
  obtain ⟨p, q, hA0, hV, rfl, hfz, hnd⟩ := hW
  have hA : DataW.TrodAll enc Tryd.prog W 0 (fun _ => true) true Tryd.f3.params.toList args.toList ds p := hA0
  rw [Tryd.params3] at hA hval
  obtain ⟨v0, v1, d0, d1, p0, p1, rfl, rfl, rfl, h0, h1⟩ := trodAll_two hA
  obtain ⟨rfl, rfl⟩ := trodVars_none hV
  obtain ⟨a, rfl, rfl, rfl, wa⟩ := open_int Tryd.underlying3 (hval 0 3 v0 rfl rfl) h0
  obtain ⟨b, rfl, rfl, rfl, wb⟩ := open_int Tryd.underlying3 (hval 1 3 v1 rfl rfl) h1
  have hDc := decC W (tabs hL)
  have hc := (c_WireRefuses W hDc a b H.empty).start (us := [.int .i64 a, .int .i64 b]) rfl (fun j u x hu ha => by
    match j, hu, ha with
    | 0, hu, ha => cases hu; cases ha; exact .v _ _ _ (.lit _)
    | 1, hu, ha => cases hu; cases ha; exact .v _ _ _ (.lit _)) Tryd.func3 (by kernel_rfl) rfl
  refine Calls.mono hc fun e W' ⟨u, x, h', G', he, hq, hra, hb⟩ => ?_
  obtain ⟨rfl, rfl⟩ := hq
  have hu : u = .bool true := hra.v_inv.lit_inv
  subst hu; subst he
  refine ⟨_, rfl, _, _, _, [], [] ++ [], [], hW', ?_, ?_, rfl, hb.frame _, fun h => by cases h⟩
  · exact trodAll_mk1 (shut_bool Tryd.underlying4 _)
  · exact trodAll_mk2 (shut_int Tryd.underlying3 wa) (shut_int Tryd.underlying3 wb)

theorem wireRefuses_holds : Rows.WireRefusesSaid :=
  OpenClaim.holds_of_wide 3 Tryd.f3 rfl rfl rfl rfl rfl rfl rfl ⟨rfl, rfl, rfl, rfl, rfl⟩ rfl rfl rfl rfl rfl (by kernel_rfl) Tryd.func3 (by kernel_rfl)
    (of_decide_eq_true (by kernel_rfl)) (by unfold Func.isWrapper; rw [if_neg (by decide +kernel)]; exact ⟨rfl, rfl⟩)
    (fun os started H enc _ => refuses_lifted os started H enc)

theorem wireRefusesCard_holds : Rows.WireRefusesCardSaid :=
  Claim7.holds_tied_plain_at .later [] [.data, .pinned] true (true, "a0540003943e4ce48dc1b73b1dcac638270a83da4a8202913963631da2a1b155") false
    wireRefuses_holds (fun _ h => by cases h) (by kernel_rfl) (fun _ h => by cases h) wireRefuses_row_tie rfl ⟨rfl, rfl⟩ (by kernel_rfl) rfl
    (fun f fn hf hfn => by
      obtain rfl : f = 3 := Option.some.inj ((show Tryd.prog.funcNamed "clerestory/clerestorylaw21.WireRefuses" = some 3 by kernel_rfl).symm.trans hf) |>.symm
      obtain rfl : fn = Tryd.f3 := (Option.some.inj (Tryd.func3.symm.trans hfn)).symm
      exact ⟨by kernel_rfl, fun j t ht => by
        rw [Tryd.params3] at ht
        have hm : t ∈ [3, 3] := by simpa using Array.mem_of_getElem? ht
        have hall : ([3, 3].all fun u => !Tryd.prog.wantsStandIn u) = true := by kernel_rfl
        exact (show Tryd.prog.wantsStandIn t = false by simpa using List.all_eq_true.1 hall t hm)⟩)
    (by kernel_rfl)
end Go.Proofs.YtldpjfopgbeiiaaDoor
